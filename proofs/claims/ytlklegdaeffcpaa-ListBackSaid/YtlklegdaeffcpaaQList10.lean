/- Contracts of plain functions, written by the kit's print for this claim (law List), with lemmas of this session's own laid in. -/
import Derived.Test.YtlklegdaeffcpaaQList0
namespace Go.Proofs.Ytlklegdaeffcpaa.PList
open Go.RowKit Go.Proofs.YtlklegdaeffcpaaW.PrintWords Go.Proofs.YtlklegdaeffcpaaW.PrintLast Go.Proofs.YtlklegdaeffcpaaW.PrintMore
attribute [local go_sem] max2_int min2_int max_two min_two max_three min_three max_four min_four   -- for this text's walks alone
set_option linter.unusedVariables false
set_option linter.unusedSimpArgs false

/-! ### postchaiseref11_Play: function 16 -/
mutual
def postchaiseref11_Play.l0 : Nat → List (S42) → List (S40) → Int → Option ((List (S40)) × Int)
  | 0, _, _, _ => none
  | k + 1, x1, x6, x7 => if x7 < (x1.length : Int) then (if 0 ≤ x7 then (if ((rd_T42 x1 x7).f0) = 1 then (if ((rd_T42 x1 x7).f1) < (x6.length : Int) then (postchaiseref11_Play.j1 k x1 x6 x7 true ((rd_T42 x1 x7).f0) ((rd_T42 x1 x7).f1) ((rd_T42 x1 x7).f2.f0) ((rd_T42 x1 x7).f2.f1)) else (postchaiseref11_Play.j1 k x1 x6 x7 (decide ((wrap64 (((rd_T42 x1 x7).f1) - (x6.length : Int))) > 65536)) ((rd_T42 x1 x7).f0) ((rd_T42 x1 x7).f1) ((rd_T42 x1 x7).f2.f0) ((rd_T42 x1 x7).f2.f1))) else (if ((rd_T42 x1 x7).f0) = 0 then (if ((rd_T42 x1 x7).f1) < 1 then (postchaiseref11_Play.j3 k x1 x6 x7 true ((rd_T42 x1 x7).f0) ((rd_T42 x1 x7).f1) ((rd_T42 x1 x7).f2.f0) ((rd_T42 x1 x7).f2.f1)) else (postchaiseref11_Play.j3 k x1 x6 x7 (decide (((rd_T42 x1 x7).f1) > (x6.length : Int))) ((rd_T42 x1 x7).f0) ((rd_T42 x1 x7).f1) ((rd_T42 x1 x7).f2.f0) ((rd_T42 x1 x7).f2.f1))) else (if ((rd_T42 x1 x7).f0) = 2 then (if ((rd_T42 x1 x7).f1) < 1 then (postchaiseref11_Play.j3 k x1 x6 x7 true ((rd_T42 x1 x7).f0) ((rd_T42 x1 x7).f1) ((rd_T42 x1 x7).f2.f0) ((rd_T42 x1 x7).f2.f1)) else (postchaiseref11_Play.j3 k x1 x6 x7 (decide (((rd_T42 x1 x7).f1) > (x6.length : Int))) ((rd_T42 x1 x7).f0) ((rd_T42 x1 x7).f1) ((rd_T42 x1 x7).f2.f0) ((rd_T42 x1 x7).f2.f1))) else (postchaiseref11_Play.j3 k x1 x6 x7 true ((rd_T42 x1 x7).f0) ((rd_T42 x1 x7).f1) ((rd_T42 x1 x7).f2.f0) ((rd_T42 x1 x7).f2.f1))))) else (none)) else (some (x6, 0))
def postchaiseref11_Play.j1 : Nat → List (S42) → List (S40) → Int → Bool → Int → Int → Int → Int → Option ((List (S40)) × Int)
  | 0, _, _, _, _, _, _, _, _ => none
  | k + 1, x1, x6, x7, x39, x240000, x240001, x240002, x240003 => if x39 = true then (some (([] : List (S40)), 3)) else (postchaiseref11_Play.l1 k x1 x6 x7 x240000 x240001 x240002 x240003)
def postchaiseref11_Play.l1 : Nat → List (S42) → List (S40) → Int → Int → Int → Int → Int → Option ((List (S40)) × Int)
  | 0, _, _, _, _, _, _, _ => none
  | k + 1, x1, x6, x7, x240000, x240001, x240002, x240003 => if (x6.length : Int) < x240001 then (if x6.length < 17592186044416 then (postchaiseref11_Play.l1 k x1 (x6 ++ [(⟨0, 0⟩ : S40)]) x7 x240000 x240001 x240002 x240003) else (none)) else (postchaiseref11_Play.l0 k x1 x6 (wrap64 (x7 + 1)))
def postchaiseref11_Play.j3 : Nat → List (S42) → List (S40) → Int → Bool → Int → Int → Int → Int → Option ((List (S40)) × Int)
  | 0, _, _, _, _, _, _, _, _ => none
  | k + 1, x1, x6, x7, x68, x240000, x240001, x240002, x240003 => if x68 = true then (some (([] : List (S40)), 3)) else (if x240000 = 2 then (if 0 ≤ (wrap64 (x240001 - 1)) then (if (wrap64 (x240001 - 1)) < (x6.length : Int) then (postchaiseref11_Play.l0 k x1 (x6.set ((wrap64 (x240001 - 1)) : Int).toNat (⟨x240002, x240003⟩ : S40)) (wrap64 (x7 + 1))) else (none)) else (none)) else (postchaiseref11_Play.l2 k x1 x6 x7 ([] : List (S40)) 0 x240000 x240001 x240002 x240003))
def postchaiseref11_Play.l2 : Nat → List (S42) → List (S40) → Int → List (S40) → Int → Int → Int → Int → Int → Option ((List (S40)) × Int)
  | 0, _, _, _, _, _, _, _, _, _ => none
  | k + 1, x1, x6, x7, x9, x10, x240000, x240001, x240002, x240003 => if x10 < (x6.length : Int) then (if x10 = (wrap64 (x240001 - 1)) then (postchaiseref11_Play.l2 k x1 x6 x7 x9 (wrap64 (x10 + 1)) x240000 x240001 x240002 x240003) else (if 0 ≤ x10 then (if x9.length < 17592186044416 then (postchaiseref11_Play.l2 k x1 x6 x7 (x9 ++ [(⟨(rd_T40 x6 x10).f0, (rd_T40 x6 x10).f1⟩ : S40)]) (wrap64 (x10 + 1)) x240000 x240001 x240002 x240003) else (none)) else (none))) else (postchaiseref11_Play.l0 k x1 x9 (wrap64 (x7 + 1)))
end
def postchaiseref11_Play.f (k : Nat) (l0 : List (S40)) (l1 : List (S42)) : Option ((List (S40)) × Int) := (some (([] : List (S40)) : List (S40))).bind fun y232 => (if y232.length + l0.length < 17592186044416 then (postchaiseref11_Play.l0 k l1 (y232 ++ l0) 0) else (none))
theorem postchaiseref11_Play.mono_l : ∀ k, (∀ y0 y1 y2, LeO (postchaiseref11_Play.l0 k y0 y1 y2) (postchaiseref11_Play.l0 (k + 1) y0 y1 y2)) ∧ (∀ y0 y1 y2 y3 y4 y5 y6 y7, LeO (postchaiseref11_Play.j1 k y0 y1 y2 y3 y4 y5 y6 y7) (postchaiseref11_Play.j1 (k + 1) y0 y1 y2 y3 y4 y5 y6 y7)) ∧ (∀ y0 y1 y2 y3 y4 y5 y6, LeO (postchaiseref11_Play.l1 k y0 y1 y2 y3 y4 y5 y6) (postchaiseref11_Play.l1 (k + 1) y0 y1 y2 y3 y4 y5 y6)) ∧ (∀ y0 y1 y2 y3 y4 y5 y6 y7, LeO (postchaiseref11_Play.j3 k y0 y1 y2 y3 y4 y5 y6 y7) (postchaiseref11_Play.j3 (k + 1) y0 y1 y2 y3 y4 y5 y6 y7)) ∧ (∀ y0 y1 y2 y3 y4 y5 y6 y7 y8, LeO (postchaiseref11_Play.l2 k y0 y1 y2 y3 y4 y5 y6 y7 y8) (postchaiseref11_Play.l2 (k + 1) y0 y1 y2 y3 y4 y5 y6 y7 y8))
  | 0 => ⟨fun _ _ _ r h => by simp [postchaiseref11_Play.l0] at h, fun _ _ _ _ _ _ _ _ r h => by simp [postchaiseref11_Play.j1] at h, fun _ _ _ _ _ _ _ r h => by simp [postchaiseref11_Play.l1] at h, fun _ _ _ _ _ _ _ _ r h => by simp [postchaiseref11_Play.j3] at h, fun _ _ _ _ _ _ _ _ _ r h => by simp [postchaiseref11_Play.l2] at h⟩
  | k + 1 => by
    obtain ⟨ih0, ih1, ih2, ih3, ih4⟩ := postchaiseref11_Play.mono_l k
    refine ⟨?_, ?_, ?_, ?_, ?_⟩
    · intro y0 y1 y2
      unfold postchaiseref11_Play.l0
      repeat' first
      | (with_reducible exact ih0 _ _ _)
      | (with_reducible exact ih1 _ _ _ _ _ _ _ _)
      | (with_reducible exact ih2 _ _ _ _ _ _ _)
      | (with_reducible exact ih3 _ _ _ _ _ _ _ _)
      | (with_reducible exact ih4 _ _ _ _ _ _ _ _ _)
      | (with_reducible exact LeO.refl _)
      | (with_reducible exact LeO.none _)
      | (with_reducible refine LeO.ite ?_ ?_)
      | (with_reducible refine LeO.bind ?_ (fun _ => ?_))
      | exact ih0 _ _ _
      | exact ih1 _ _ _ _ _ _ _ _
      | exact ih2 _ _ _ _ _ _ _
      | exact ih3 _ _ _ _ _ _ _ _
      | exact ih4 _ _ _ _ _ _ _ _ _
      | exact LeO.none _
      | refine LeO.ite ?_ ?_
      | refine LeO.bind ?_ (fun _ => ?_)
    · intro y0 y1 y2 y3 y4 y5 y6 y7
      unfold postchaiseref11_Play.j1
      repeat' first
      | (with_reducible exact ih0 _ _ _)
      | (with_reducible exact ih1 _ _ _ _ _ _ _ _)
      | (with_reducible exact ih2 _ _ _ _ _ _ _)
      | (with_reducible exact ih3 _ _ _ _ _ _ _ _)
      | (with_reducible exact ih4 _ _ _ _ _ _ _ _ _)
      | (with_reducible exact LeO.refl _)
      | (with_reducible exact LeO.none _)
      | (with_reducible refine LeO.ite ?_ ?_)
      | (with_reducible refine LeO.bind ?_ (fun _ => ?_))
      | exact ih0 _ _ _
      | exact ih1 _ _ _ _ _ _ _ _
      | exact ih2 _ _ _ _ _ _ _
      | exact ih3 _ _ _ _ _ _ _ _
      | exact ih4 _ _ _ _ _ _ _ _ _
      | exact LeO.none _
      | refine LeO.ite ?_ ?_
      | refine LeO.bind ?_ (fun _ => ?_)
    · intro y0 y1 y2 y3 y4 y5 y6
      unfold postchaiseref11_Play.l1
      repeat' first
      | (with_reducible exact ih0 _ _ _)
      | (with_reducible exact ih1 _ _ _ _ _ _ _ _)
      | (with_reducible exact ih2 _ _ _ _ _ _ _)
      | (with_reducible exact ih3 _ _ _ _ _ _ _ _)
      | (with_reducible exact ih4 _ _ _ _ _ _ _ _ _)
      | (with_reducible exact LeO.refl _)
      | (with_reducible exact LeO.none _)
      | (with_reducible refine LeO.ite ?_ ?_)
      | (with_reducible refine LeO.bind ?_ (fun _ => ?_))
      | exact ih0 _ _ _
      | exact ih1 _ _ _ _ _ _ _ _
      | exact ih2 _ _ _ _ _ _ _
      | exact ih3 _ _ _ _ _ _ _ _
      | exact ih4 _ _ _ _ _ _ _ _ _
      | exact LeO.none _
      | refine LeO.ite ?_ ?_
      | refine LeO.bind ?_ (fun _ => ?_)
    · intro y0 y1 y2 y3 y4 y5 y6 y7
      unfold postchaiseref11_Play.j3
      repeat' first
      | (with_reducible exact ih0 _ _ _)
      | (with_reducible exact ih1 _ _ _ _ _ _ _ _)
      | (with_reducible exact ih2 _ _ _ _ _ _ _)
      | (with_reducible exact ih3 _ _ _ _ _ _ _ _)
      | (with_reducible exact ih4 _ _ _ _ _ _ _ _ _)
      | (with_reducible exact LeO.refl _)
      | (with_reducible exact LeO.none _)
      | (with_reducible refine LeO.ite ?_ ?_)
      | (with_reducible refine LeO.bind ?_ (fun _ => ?_))
      | exact ih0 _ _ _
      | exact ih1 _ _ _ _ _ _ _ _
      | exact ih2 _ _ _ _ _ _ _
      | exact ih3 _ _ _ _ _ _ _ _
      | exact ih4 _ _ _ _ _ _ _ _ _
      | exact LeO.none _
      | refine LeO.ite ?_ ?_
      | refine LeO.bind ?_ (fun _ => ?_)
    · intro y0 y1 y2 y3 y4 y5 y6 y7 y8
      unfold postchaiseref11_Play.l2
      repeat' first
      | (with_reducible exact ih0 _ _ _)
      | (with_reducible exact ih1 _ _ _ _ _ _ _ _)
      | (with_reducible exact ih2 _ _ _ _ _ _ _)
      | (with_reducible exact ih3 _ _ _ _ _ _ _ _)
      | (with_reducible exact ih4 _ _ _ _ _ _ _ _ _)
      | (with_reducible exact LeO.refl _)
      | (with_reducible exact LeO.none _)
      | (with_reducible refine LeO.ite ?_ ?_)
      | (with_reducible refine LeO.bind ?_ (fun _ => ?_))
      | exact ih0 _ _ _
      | exact ih1 _ _ _ _ _ _ _ _
      | exact ih2 _ _ _ _ _ _ _
      | exact ih3 _ _ _ _ _ _ _ _
      | exact ih4 _ _ _ _ _ _ _ _ _
      | exact LeO.none _
      | refine LeO.ite ?_ ?_
      | refine LeO.bind ?_ (fun _ => ?_)
theorem postchaiseref11_Play.mono : ∀ a0 a1 k, LeO (postchaiseref11_Play.f k a0 a1) (postchaiseref11_Play.f (k + 1) a0 a1) := by
  intro a0 a1 k
  obtain ⟨ih0, ih1, ih2, ih3, ih4⟩ := postchaiseref11_Play.mono_l k
  unfold postchaiseref11_Play.f
  repeat' first
      | (with_reducible exact ih0 _ _ _)
      | (with_reducible exact ih1 _ _ _ _ _ _ _ _)
      | (with_reducible exact ih2 _ _ _ _ _ _ _)
      | (with_reducible exact ih3 _ _ _ _ _ _ _ _)
      | (with_reducible exact ih4 _ _ _ _ _ _ _ _ _)
      | (with_reducible exact LeO.refl _)
      | (with_reducible exact LeO.none _)
      | (with_reducible refine LeO.ite ?_ ?_)
      | (with_reducible refine LeO.bind ?_ (fun _ => ?_))
      | exact ih0 _ _ _
      | exact ih1 _ _ _ _ _ _ _ _
      | exact ih2 _ _ _ _ _ _ _
      | exact ih3 _ _ _ _ _ _ _ _
      | exact ih4 _ _ _ _ _ _ _ _ _
      | exact LeO.none _
      | refine LeO.ite ?_ ?_
      | refine LeO.bind ?_ (fun _ => ?_)
set_option maxHeartbeats 8000000 in
set_option maxRecDepth 100000 in
theorem postchaiseref11_Play.calls (k : Nat) (A0 : Option Addr) (c0 : Nat) (l0 : List (S40)) (A1 : Option Addr) (c1 : Nat) (l1 : List (S42)) (r1 : List (S40)) (r2 : Int) (w : World) (hr0 : Kd.C k40 w A0 l0.length l0) (hc0 : l0.length ≤ c0) (hr1 : Kd.C k42 w A1 l1.length l1) (hc1 : l1.length ≤ c1) (h : postchaiseref11_Play.f k l0 l1 = some (r1, r2)) :
    Calls Try.prog 16 #[.slice A0 l0.length c0, .slice A1 l1.length c1] w fun e w' => ∃ v0_ : Value, e = .returned (.tuple #[v0_, .int .i64 r2]) ∧ Kd.R k40 40 w' w.heap.size (fun _ => True) v0_ r1 ∧ Below w.heap.size w w' := by
  have hu42 := Try.underlying42
  have hu40 := Try.underlying40
  have HR0 := Aside0.mk hr0
  have HC0 := Aside0.mk hc0
  clear hr0 hc0
  have HR1 := Aside0.mk hr1
  have HC1 := Aside0.mk hc1
  clear hr1 hc1
  have HB := Aside0.mk (Below.refl w.heap.size w)
  have H : ((some (([] : List (S40)) : List (S40))).bind fun y232 => (if y232.length + l0.length < 17592186044416 then (postchaiseref11_Play.l0 k l1 (y232 ++ l0) 0) else (none))) = some (r1, r2) := h
  clear h
  obtain ⟨y232, hy232⟩ : ∃ y_ : List (S40), y_ = (([] : List (S40))) := ⟨_, rfl⟩
  replace H : (if y232.length + l0.length < 17592186044416 then (postchaiseref11_Play.l0 k l1 (y232 ++ l0) 0) else (none)) = some (r1, r2) := by first | (rw [hy232]; with_reducible exact H) | (have H2_ := (Option.bind_some _ _).symm.trans H; rw [hy232]; with_reducible exact H2_) | (have H2_ := (Option.bind_some _ _).symm.trans H; with_reducible exact H2_) | with_reducible exact H | (rw [hy232]; exact H) | exact H
  have Ny232 := Aside0.mk hy232
  clear hy232
  by_cases c3 : y232.length + l0.length < 17592186044416
  · rw [if_pos c3] at H
    have LMc3 := Aside0.mk c3
    clear c3
    obtain ⟨y235, hy235⟩ : ∃ y_ : List (S40), y_ = (y232 ++ l0) := ⟨_, rfl⟩
    replace H : (postchaiseref11_Play.l0 k l1 y235 0) = some (r1, r2) := by first | (rw [hy235]; with_reducible exact H) | (have H2_ := (Option.bind_some _ _).symm.trans H; rw [hy235]; with_reducible exact H2_) | (have H2_ := (Option.bind_some _ _).symm.trans H; with_reducible exact H2_) | with_reducible exact H | (rw [hy235]; exact H) | exact H
    have Ny235 := Aside0.mk hy235
    clear hy235
    have H' := Aside0.mk H
    clear H
    go_enter Try.func16, Try.ntmps16
    go_wp2_with (first | ((with_reducible refine gate_dst (N := 11) rfl ?_); (try (refine gate_guard (by rfl) ?_; dsimp only)); refine Kd.R_lit k40 _ 40 ?hg (N := 11) ?hd (xs := ([] : List (S40))) (inner := []) (ok := fun _ => True) (okp := fun _ => True) ?hr ?hp (fun _ hk => hk) trivial (Below.refl _ _) (Nat.le_refl _) (by simp) ?_; (case hd => rfl); (case hg => rfl); (case hr => first | (go_simp; done) | (go_simp; rfl)); (case hp => exact (Reps.none _ _)); intro v233 w4 ho5 hb hg_ hnew_; clear hg_ hnew_; (first | rw [← Ny232.out] at ho5 | (simp only [Int.reduceToNat] at ho5; rw [← Ny232.out] at ho5)); have n0_ := Aside0.mk (Kd.R_lower ho5 (below_size (by repeat (first | (with_reducible first | exact HB.out | apply below_alloc | apply pw_below_drewN | apply below_drew1) | exact HB.out)))); have n1_ := Aside0.mk (below_step (by repeat (first | (with_reducible first | exact HB.out | apply below_alloc | apply pw_below_drewN | apply below_drew1) | exact HB.out)) hb); clear HB; have HO234 := n0_; have HB := n1_; clear n0_ n1_; clear hb ho5) | ((with_reducible refine gate_builtin (b := .append) (xs := #[.tmp 11, .tmp 12]) rfl ?_); (try (refine gate_guard (by rfl) ?_; dsimp only)); at_builtin; refine Kd.R_append_rows k40 (w0 := w) w.heap.size rfl (.tmp 11) (.tmp 12) 22 40 (.agg #[(.int .u32 0), (.int .u8 0)]) 8 rfl Try.underlying22 info40 rfl (by decide) (by omega) v233 y232 l0 _ _ _ (fun _ => True) (fun _ => False) rfl rfl ?aO ?aR (fun _ _ h => h) (fun _ h => h.elim) ?aF ?aB ?aS ?aL ?_; (case aR => repeat (first | exact (Kd.C_below HR0.out HB.out) | (with_reducible refine Kd.C_alloc ?_ _) | (with_reducible refine Kd.C_drewN ?_ _) | (with_reducible refine Kd.C_drew ?_))); (case aB => exact (by repeat (first | (with_reducible first | exact HB.out | apply below_alloc | apply pw_below_drewN | apply below_drew1) | exact HB.out))); (case aF => exact (fun _ _ => trivial)); (case aO => exact (by (with_reducible repeat (first | apply Kd.R_alloc | apply Kd.R_drewN | apply Kd.R_drew)); exact HO234.out)); (case aS => exact (below_size (by repeat (first | (with_reducible first | exact HB.out | apply below_alloc | apply pw_below_drewN | apply below_drew1) | exact HB.out)))); (case aL => have := LMc3.out; omega); intro v236 w6 ho hb hg hat; rw [← Ny235.out] at ho; have n0_ := Aside0.mk (hb); have n1_ := Aside0.mk (ho); clear HB; clear HO234; have HB := n0_; have HO237 := n1_; clear n0_ n1_; clear ho hb hg hat))
    go_loopg [6, 7] k (fun kq v6 v7 w' => ∃ (x6_1 : List (S40)) (x7_1 : Int), v7 = .int .i64 x7_1 ∧ Aside0 (postchaiseref11_Play.l0 kq l1 x6_1 x7_1 = some (r1, r2)) ∧ Aside0 (kq ≤ k) ∧ Aside0 (Kd.R k40 40 w' w.heap.size (fun _ => True) v6 x6_1) ∧ Aside0 (Below w.heap.size w w'))
    case atStart => exact ⟨(y235), (0), (by first | rfl | (simp; done) | (simp [*]; done)), H', ⟨Nat.le_refl _⟩, ⟨by (with_reducible repeat (first | apply Kd.R_alloc | apply Kd.R_drewN | apply Kd.R_drew)); exact HO237.out⟩, ⟨by repeat (first | (with_reducible first | exact HB.out | apply below_alloc | apply pw_below_drewN | apply below_drew1) | exact HB.out)⟩⟩
    case round =>
      clear H'
      try clear c1
      try clear p2
      try clear c3
      obtain ⟨x6_1, x7_1, rfl, HA, HK1, HO_6, HB⟩ := hrel
      cases gk with
      | zero => exact absurd HA.out (by simp [postchaiseref11_Play.l0])
      | succ k1 =>
        have H := HA.out
        clear HA
        simp only [postchaiseref11_Play.l0] at H
        by_cases c7 : x7_1 < (l1.length : Int)
        · rw [if_pos c7] at H
          have c7b0 : decide (x7_1 < (l1.length : Int)) = true := decide_eq_true c7
          clear c7
          by_cases c8 : 0 ≤ x7_1
          · rw [if_pos c8] at H
            have c8b0 : decide (0 ≤ x7_1) = true := decide_eq_true c8
            clear c8
            by_cases c9 : ((rd_T42 l1 x7_1).f0) = 1
            · rw [if_pos c9] at H
              have c9b0 : (((rd_T42 l1 x7_1).f0) == 1) = true := beq_iff_eq.mpr c9
              have c9b1 : (((rd_T42 l1 x7_1).f0) != 1) = false := bne_eq_false_iff_eq.mpr c9
              clear c9
              have HC10 := Aside0.mk H
              clear H
              have p238 : 0 ≤ (x7_1 : Int) := of_decide_eq_true (by first | (with_reducible assumption) | assumption)
              have q238 : x7_1 < (l1.length : Int) := of_decide_eq_true (by first | (with_reducible assumption) | assumption)
              obtain ⟨ad238, e238, hx238_0, hx238_1, hx238_2, hx238_3⟩ := at_T42 HR1.out x7_1 p238 q238
              cases e238
              replace hx238_0 := (HB.out.cell (World.block_lt_of_cell? w _ hx238_0)).trans hx238_0
              replace hx238_1 := (HB.out.cell (World.block_lt_of_cell? w _ hx238_1)).trans hx238_1
              replace hx238_2 := (HB.out.cell (World.block_lt_of_cell? w _ hx238_2)).trans hx238_2
              replace hx238_3 := (HB.out.cell (World.block_lt_of_cell? w _ hx238_3)).trans hx238_3
              replace p238 := eq_true p238
              replace q238 := eq_true q238
              go_upto_region 7 with (first | ((with_reducible refine gate_dst (N := 8) rfl ?_); (try (refine gate_guard (by rfl) ?_; dsimp only)); refine box_event ?hg (N := 8) ?hd (cs := #[.int .i64 0, .int .i64 0, .int .u32 0, .int .u8 0]) (t := 42) ?hr ?_; (case hd => rfl); (case hg => rfl); (case hr => first | (go_simp; done) | (go_simp; rfl)); intro gb239 hg w11 hbox hb; have n0_ := Aside0.mk (Kd.R_below (by (with_reducible repeat (first | apply Kd.R_alloc | apply Kd.R_drewN | apply Kd.R_drew)); exact HO_6.out) hb); have n1_ := Aside0.mk (below_step (by repeat (first | (with_reducible first | exact HB.out | apply below_alloc | apply pw_below_drewN | apply below_drew1) | exact HB.out)) hb); have n2_ := Aside0.mk (hbox); have n3_ := Aside0.mk ((by rw [hg]; exact (below_size (by repeat (first | (with_reducible first | exact HB.out | apply below_alloc | apply pw_below_drewN | apply below_drew1) | exact HB.out))) : w.heap.size ≤ gb239)); have n4_ := Aside0.mk ((by rw [hg]; exact (below_size (by repeat (first | (with_reducible first | exact HB.out | apply below_alloc | apply pw_below_drewN | apply below_drew1) | exact HB.out))) : w.heap.size ≤ gb239)); clear HO_6; clear HB; have HO_6 := n0_; have HB := n1_; have BK239 := n2_; have GW239 := n3_; have GE239 := n4_; clear n0_ n1_ n2_ n3_ n4_; clear hb hbox hg; have hcz12_0 : w11.cell? ⟨gb239, 0, none⟩ = some (.int .i64 0) := (blk_cell BK239.out 0).trans rfl; have hcz12_1 : w11.cell? ⟨gb239, 1, none⟩ = some (.int .i64 0) := (blk_cell BK239.out 1).trans rfl; have hcz12_2 : w11.cell? ⟨gb239, 2, none⟩ = some (.int .u32 0) := (blk_cell BK239.out 2).trans rfl; have hcz12_3 : w11.cell? ⟨gb239, 3, none⟩ = some (.int .u8 0) := (blk_cell BK239.out 3).trans rfl; have hfz12_0 := blk_frozen BK239.out 0; have hfz12_1 := blk_frozen BK239.out 1; have hfz12_2 := blk_frozen BK239.out 2; have hfz12_3 := blk_frozen BK239.out 3))
              (try simp only [Act.put, List.setIfInBounds_toArray, List.set_cons_zero, List.set_cons_succ])
              go_cut [39] (fun v39 wc => ∃ (kq : Nat) (x39_9 : Bool), v39 = .bool x39_9 ∧ Aside0 (postchaiseref11_Play.j1 kq l1 x6_1 x7_1 x39_9 ((rd_T42 l1 x7_1).f0) ((rd_T42 l1 x7_1).f1) ((rd_T42 l1 x7_1).f2.f0) ((rd_T42 l1 x7_1).f2.f1) = some (r1, r2)) ∧ Aside0 (kq ≤ k1) ∧ Aside0 (Kd.R k40 40 wc w.heap.size (fun _ => True) u6 x6_1) ∧ Aside0 (wc.heap[gb239]? = some (.cells #[.int .i64 ((rd_T42 l1 x7_1).f0), .int .i64 ((rd_T42 l1 x7_1).f1), .int .u32 ((rd_T42 l1 x7_1).f2.f0), .int .u8 ((rd_T42 l1 x7_1).f2.f1)] 42 (0, 0))) ∧ Aside0 (Below w.heap.size w wc))
              case first =>
                have H := HC10.out
                clear HC10
                by_cases c13 : ((rd_T42 l1 x7_1).f1) < (x6_1.length : Int)
                · rw [if_pos c13] at H
                  have c13b0 : decide (((rd_T42 l1 x7_1).f1) < (x6_1.length : Int)) = true := decide_eq_true c13
                  clear c13
                  (first | rw [c13b0] | (simp only [i64_w, i32_w]; rw [c13b0]) | skip)
                  have H' := Aside0.mk H
                  clear H
                  have hcz14_0 : w11.cell? ⟨gb239, 0, none⟩ = some (.int .i64 0) := (blk_cell BK239.out 0).trans rfl
                  have hcz14_1 : w11.cell? ⟨gb239, 1, none⟩ = some (.int .i64 0) := (blk_cell BK239.out 1).trans rfl
                  have hcz14_2 : w11.cell? ⟨gb239, 2, none⟩ = some (.int .u32 0) := (blk_cell BK239.out 2).trans rfl
                  have hcz14_3 : w11.cell? ⟨gb239, 3, none⟩ = some (.int .u8 0) := (blk_cell BK239.out 3).trans rfl
                  have hfz14_0 := blk_frozen BK239.out 0
                  have hfz14_1 := blk_frozen BK239.out 1
                  have hfz14_2 := blk_frozen BK239.out 2
                  have hfz14_3 := blk_frozen BK239.out 3
                  obtain ⟨Ao15, co15, eo15⟩ := Kd.R_slice HO_6.out
                  subst eo15
                  go_wp2
                  go_meet
                  case rel => exact ⟨_, (true), (by first | rfl | (simp; done) | (simp [*]; done)), H', ⟨by have := HK1.out; first | omega | exact Nat.le_refl _⟩, ⟨by (with_reducible repeat (first | apply Kd.R_alloc | apply Kd.R_drewN | apply Kd.R_drew)); exact Kd.R_mono (Kd.R_far (p := ⟨gb239, 3, none⟩) (Kd.R_far (p := ⟨gb239, 2, none⟩) (Kd.R_far (p := ⟨gb239, 1, none⟩) (Kd.R_far (p := ⟨gb239, 0, none⟩) (Kd.R_types HO_6.out BK239.out (by decide)) (fun _ hk => hk.2) (.int .i64 ((rd_T42 l1 x7_1).f0))) (fun _ hk => hk.2) (.int .i64 ((rd_T42 l1 x7_1).f1))) (fun _ hk => hk.2) (.int .u32 ((rd_T42 l1 x7_1).f2.f0))) (fun _ hk => hk.2) (.int .u8 ((rd_T42 l1 x7_1).f2.f1))) (fun _ hk => trivial)⟩, ⟨by (with_reducible repeat (first | refine blk_drewN ?_ _ | refine blk_drew ?_ | refine blk_alloc ?_ _)); refine blk_put (cs := #[.int .i64 ((rd_T42 l1 x7_1).f0), .int .i64 ((rd_T42 l1 x7_1).f1), .int .u32 ((rd_T42 l1 x7_1).f2.f0), .int .u8 0]) ?_ 3 _ rfl; (with_reducible repeat (first | refine blk_drewN ?_ _ | refine blk_drew ?_ | refine blk_alloc ?_ _)); refine blk_put (cs := #[.int .i64 ((rd_T42 l1 x7_1).f0), .int .i64 ((rd_T42 l1 x7_1).f1), .int .u32 0, .int .u8 0]) ?_ 2 _ rfl; (with_reducible repeat (first | refine blk_drewN ?_ _ | refine blk_drew ?_ | refine blk_alloc ?_ _)); refine blk_put (cs := #[.int .i64 ((rd_T42 l1 x7_1).f0), .int .i64 0, .int .u32 0, .int .u8 0]) ?_ 1 _ rfl; (with_reducible repeat (first | refine blk_drewN ?_ _ | refine blk_drew ?_ | refine blk_alloc ?_ _)); refine blk_put (cs := #[.int .i64 0, .int .i64 0, .int .u32 0, .int .u8 0]) ?_ 0 _ rfl; (with_reducible repeat (first | refine blk_drewN ?_ _ | refine blk_drew ?_ | refine blk_alloc ?_ _)); exact BK239.out⟩, ⟨by repeat (first | (with_reducible first | exact HB.out | apply below_alloc | apply pw_below_drewN | apply below_drew1 | refine below_set ?_ GE239.out) | exact HB.out)⟩⟩
                · rw [if_neg c13] at H
                  have c13b0 : decide (((rd_T42 l1 x7_1).f1) < (x6_1.length : Int)) = false := decide_eq_false c13
                  clear c13
                  (first | rw [c13b0] | (simp only [i64_w, i32_w]; rw [c13b0]) | skip)
                  have H' := Aside0.mk H
                  clear H
                  have hcz16_0 : w11.cell? ⟨gb239, 0, none⟩ = some (.int .i64 0) := (blk_cell BK239.out 0).trans rfl
                  have hcz16_1 : w11.cell? ⟨gb239, 1, none⟩ = some (.int .i64 0) := (blk_cell BK239.out 1).trans rfl
                  have hcz16_2 : w11.cell? ⟨gb239, 2, none⟩ = some (.int .u32 0) := (blk_cell BK239.out 2).trans rfl
                  have hcz16_3 : w11.cell? ⟨gb239, 3, none⟩ = some (.int .u8 0) := (blk_cell BK239.out 3).trans rfl
                  have hfz16_0 := blk_frozen BK239.out 0
                  have hfz16_1 := blk_frozen BK239.out 1
                  have hfz16_2 := blk_frozen BK239.out 2
                  have hfz16_3 := blk_frozen BK239.out 3
                  obtain ⟨Ao17, co17, eo17⟩ := Kd.R_slice HO_6.out
                  subst eo17
                  go_wp2
                  go_meet
                  case rel => exact ⟨_, (decide ((wrap64 (((rd_T42 l1 x7_1).f1) - (x6_1.length : Int))) > 65536)), (by first | rfl | (simp; done) | (simp [*]; done)), H', ⟨by have := HK1.out; first | omega | exact Nat.le_refl _⟩, ⟨by (with_reducible repeat (first | apply Kd.R_alloc | apply Kd.R_drewN | apply Kd.R_drew)); exact Kd.R_mono (Kd.R_far (p := ⟨gb239, 3, none⟩) (Kd.R_far (p := ⟨gb239, 2, none⟩) (Kd.R_far (p := ⟨gb239, 1, none⟩) (Kd.R_far (p := ⟨gb239, 0, none⟩) (Kd.R_types HO_6.out BK239.out (by decide)) (fun _ hk => hk.2) (.int .i64 ((rd_T42 l1 x7_1).f0))) (fun _ hk => hk.2) (.int .i64 ((rd_T42 l1 x7_1).f1))) (fun _ hk => hk.2) (.int .u32 ((rd_T42 l1 x7_1).f2.f0))) (fun _ hk => hk.2) (.int .u8 ((rd_T42 l1 x7_1).f2.f1))) (fun _ hk => trivial)⟩, ⟨by (with_reducible repeat (first | refine blk_drewN ?_ _ | refine blk_drew ?_ | refine blk_alloc ?_ _)); refine blk_put (cs := #[.int .i64 ((rd_T42 l1 x7_1).f0), .int .i64 ((rd_T42 l1 x7_1).f1), .int .u32 ((rd_T42 l1 x7_1).f2.f0), .int .u8 0]) ?_ 3 _ rfl; (with_reducible repeat (first | refine blk_drewN ?_ _ | refine blk_drew ?_ | refine blk_alloc ?_ _)); refine blk_put (cs := #[.int .i64 ((rd_T42 l1 x7_1).f0), .int .i64 ((rd_T42 l1 x7_1).f1), .int .u32 0, .int .u8 0]) ?_ 2 _ rfl; (with_reducible repeat (first | refine blk_drewN ?_ _ | refine blk_drew ?_ | refine blk_alloc ?_ _)); refine blk_put (cs := #[.int .i64 ((rd_T42 l1 x7_1).f0), .int .i64 0, .int .u32 0, .int .u8 0]) ?_ 1 _ rfl; (with_reducible repeat (first | refine blk_drewN ?_ _ | refine blk_drew ?_ | refine blk_alloc ?_ _)); refine blk_put (cs := #[.int .i64 0, .int .i64 0, .int .u32 0, .int .u8 0]) ?_ 0 _ rfl; (with_reducible repeat (first | refine blk_drewN ?_ _ | refine blk_drew ?_ | refine blk_alloc ?_ _)); exact BK239.out⟩, ⟨by repeat (first | (with_reducible first | exact HB.out | apply below_alloc | apply pw_below_drewN | apply below_drew1 | refine below_set ?_ GE239.out) | exact HB.out)⟩⟩
              case rest =>
                clear HC10
                try clear c1
                try clear p2
                try clear q2
                try clear hx2
                try clear c3
                try clear p6
                try clear c7
                try clear c7b0
                try clear c8
                try clear c8b0
                try clear c9
                try clear c9b0
                try clear c9b1
                try clear c13
                try clear c13b0
                try clear c16
                try clear hcz12_0
                try clear hcz12_1
                try clear hcz12_2
                try clear hcz12_3
                try clear hcz14_0
                try clear hcz14_1
                try clear hcz14_2
                try clear hcz14_3
                try clear hcz16_0
                try clear hcz16_1
                try clear hcz16_2
                try clear hcz16_3
                try clear hfz12_0
                try clear hfz12_1
                try clear hfz12_2
                try clear hfz12_3
                try clear hfz14_0
                try clear hfz14_1
                try clear hfz14_2
                try clear hfz14_3
                try clear hfz16_0
                try clear hfz16_1
                try clear hfz16_2
                try clear hfz16_3
                try clear hx238_0
                try clear hx238_1
                try clear hx238_2
                try clear hx238_3
                try clear p2
                try clear p238
                try clear q238
                obtain ⟨kq, x39_9, rfl, HA, HJ9, HO_6, BK239, HB⟩ := hcut
                cases kq with
                | zero => exact absurd HA.out (by simp [postchaiseref11_Play.j1])
                | succ kj9 =>
                  have H := HA.out
                  clear HA
                  simp only [postchaiseref11_Play.j1] at H
                  by_cases c18 : x39_9 = true
                  · subst c18
                    have H1 : (some (([] : List (S40)), 3)) = some (r1, r2) := by rw [if_pos rfl] at H; exact H
                    clear H
                    have H := H1
                    clear H1
                    simp only [Option.some.injEq, Prod.mk.injEq] at H
                    obtain ⟨rfl, rfl⟩ := H
                    go_wp2
                    go_ret2
                    exact ⟨_, by first | rfl | (simp [errW_none, errW_some] <;> rfl) | (simp [*, errW_none, errW_some] <;> rfl), by first | exact Kd.R_nil _ _ _ _ _ | exact Kd.N_nil _ _ _ _ _ | exact Kd.V_nil _ _ _ _ _ | exact Kd.Q_nil _ _ _ _ _ | exact Kd.S_nil _ _ _ _ _, by repeat (first | (with_reducible first | exact HB.out | apply below_alloc | apply pw_below_drewN | apply below_drew1 | refine below_set ?_ GE239.out) | exact HB.out)⟩
                  · replace c18 := Bool.eq_false_iff.mpr c18
                    subst c18
                    have H1 : (postchaiseref11_Play.l1 kj9 l1 x6_1 x7_1 ((rd_T42 l1 x7_1).f0) ((rd_T42 l1 x7_1).f1) ((rd_T42 l1 x7_1).f2.f0) ((rd_T42 l1 x7_1).f2.f1)) = some (r1, r2) := by rw [if_neg (show ¬ (false = true) by decide)] at H; exact H
                    clear H
                    have H := H1
                    clear H1
                    have H' := Aside0.mk H
                    clear H
                    go_wp2
                    go_loopg [6] kj9 (fun kq v6 w' => ∃ (x6_3 : List (S40)), Aside0 (postchaiseref11_Play.l1 kq l1 x6_3 x7_1 ((rd_T42 l1 x7_1).f0) ((rd_T42 l1 x7_1).f1) ((rd_T42 l1 x7_1).f2.f0) ((rd_T42 l1 x7_1).f2.f1) = some (r1, r2)) ∧ Aside0 (kq ≤ kj9) ∧ Aside0 (Kd.R k40 40 w' w.heap.size (fun _ => True) v6 x6_3) ∧ Aside0 (w'.heap[gb239]? = some (.cells #[.int .i64 ((rd_T42 l1 x7_1).f0), .int .i64 ((rd_T42 l1 x7_1).f1), .int .u32 ((rd_T42 l1 x7_1).f2.f0), .int .u8 ((rd_T42 l1 x7_1).f2.f1)] 42 (0, 0))) ∧ Aside0 (Below w.heap.size w w'))
                    case atStart => exact ⟨(x6_1), H', ⟨Nat.le_refl _⟩, ⟨by (with_reducible repeat (first | apply Kd.R_alloc | apply Kd.R_drewN | apply Kd.R_drew)); exact HO_6.out⟩, ⟨by (with_reducible repeat (first | refine blk_drewN ?_ _ | refine blk_drew ?_ | refine blk_alloc ?_ _)); exact BK239.out⟩, ⟨by repeat (first | (with_reducible first | exact HB.out | apply below_alloc | apply pw_below_drewN | apply below_drew1 | refine below_set ?_ GE239.out) | exact HB.out)⟩⟩
                    case round =>
                      clear H'
                      try clear c1
                      try clear p2
                      try clear q2
                      try clear hx2
                      try clear c3
                      try clear p6
                      try clear c7
                      try clear c7b0
                      try clear c8
                      try clear c8b0
                      try clear c9
                      try clear c9b0
                      try clear c9b1
                      try clear c13
                      try clear c13b0
                      try clear c16
                      try clear c18
                      try clear hcz12_0
                      try clear hcz12_1
                      try clear hcz12_2
                      try clear hcz12_3
                      try clear hcz14_0
                      try clear hcz14_1
                      try clear hcz14_2
                      try clear hcz14_3
                      try clear hcz16_0
                      try clear hcz16_1
                      try clear hcz16_2
                      try clear hcz16_3
                      try clear hfz12_0
                      try clear hfz12_1
                      try clear hfz12_2
                      try clear hfz12_3
                      try clear hfz14_0
                      try clear hfz14_1
                      try clear hfz14_2
                      try clear hfz14_3
                      try clear hfz16_0
                      try clear hfz16_1
                      try clear hfz16_2
                      try clear hfz16_3
                      try clear hx238_0
                      try clear hx238_1
                      try clear hx238_2
                      try clear hx238_3
                      try clear p2
                      try clear p238
                      try clear p6
                      try clear q2
                      try clear q238
                      obtain ⟨x6_3, HA, HK3, HO_6, BK239, HB⟩ := hrel
                      cases gk with
                      | zero => exact absurd HA.out (by simp [postchaiseref11_Play.l1])
                      | succ k3 =>
                        have H := HA.out
                        clear HA
                        simp only [postchaiseref11_Play.l1] at H
                        by_cases c19 : (x6_3.length : Int) < ((rd_T42 l1 x7_1).f1)
                        · rw [if_pos c19] at H
                          have c19b0 : decide ((x6_3.length : Int) < ((rd_T42 l1 x7_1).f1)) = true := decide_eq_true c19
                          clear c19
                          by_cases c20 : x6_3.length < 17592186044416
                          · rw [if_pos c20] at H
                            have LMc20 := Aside0.mk c20
                            clear c20
                            obtain ⟨y240, hy240⟩ : ∃ y_ : List (S40), y_ = (x6_3 ++ [(⟨0, 0⟩ : S40)]) := ⟨_, rfl⟩
                            replace H : (postchaiseref11_Play.l1 k3 l1 y240 x7_1 ((rd_T42 l1 x7_1).f0) ((rd_T42 l1 x7_1).f1) ((rd_T42 l1 x7_1).f2.f0) ((rd_T42 l1 x7_1).f2.f1)) = some (r1, r2) := by first | (rw [hy240]; with_reducible exact H) | (have H2_ := (Option.bind_some _ _).symm.trans H; rw [hy240]; with_reducible exact H2_) | (have H2_ := (Option.bind_some _ _).symm.trans H; with_reducible exact H2_) | with_reducible exact H | (rw [hy240]; exact H) | exact H
                            have Ny240 := Aside0.mk hy240
                            clear hy240
                            have H' := Aside0.mk H
                            clear H
                            obtain ⟨Ao21, co21, eo21⟩ := Kd.R_slice HO_6.out
                            subst eo21
                            have hcz22_0 : wr.cell? ⟨gb239, 0, none⟩ = some (.int .i64 ((rd_T42 l1 x7_1).f0)) := (blk_cell BK239.out 0).trans rfl
                            have hcz22_1 : wr.cell? ⟨gb239, 1, none⟩ = some (.int .i64 ((rd_T42 l1 x7_1).f1)) := (blk_cell BK239.out 1).trans rfl
                            have hcz22_2 : wr.cell? ⟨gb239, 2, none⟩ = some (.int .u32 ((rd_T42 l1 x7_1).f2.f0)) := (blk_cell BK239.out 2).trans rfl
                            have hcz22_3 : wr.cell? ⟨gb239, 3, none⟩ = some (.int .u8 ((rd_T42 l1 x7_1).f2.f1)) := (blk_cell BK239.out 3).trans rfl
                            have hfz22_0 := blk_frozen BK239.out 0
                            have hfz22_1 := blk_frozen BK239.out 1
                            have hfz22_2 := blk_frozen BK239.out 2
                            have hfz22_3 := blk_frozen BK239.out 3
                            go_wp2_with (first | ((with_reducible refine gate_builtin (b := .append) (xs := #[.tmp 45, .tmp 47]) rfl ?_); (try (refine gate_guard (by rfl) ?_; dsimp only)); at_builtin; refine Kd.R_append k40 (w0 := w) w.heap.size rfl (.tmp 45) (.tmp 47) 22 40 (.agg #[(.int .u32 0), (.int .u8 0)]) 8 rfl Try.underlying22 info40 rfl (by decide) (by omega) (.slice Ao21 x6_3.length co21) x6_3 (⟨0, 0⟩ : S40) [.int .u32 0, .int .u8 0] (fun _ => True) (fun _ => False) rfl rfl ?aP (fun _ hk => hk.elim) ?aF ?aO ?aB ?aS ?aL ?_; (case aP => exact k40_mkM _ _ _ (⟨0, 0⟩ : S40)); (case aB => exact (by repeat (first | (with_reducible first | exact HB.out | apply below_alloc | apply pw_below_drewN | apply below_drew1 | refine below_set ?_ GE239.out) | exact HB.out))); (case aF => exact (fun _ _ => trivial)); (case aO => exact (by (with_reducible repeat (first | apply Kd.R_alloc | apply Kd.R_drewN | apply Kd.R_drew)); exact HO_6.out)); (case aS => exact (below_size (by repeat (first | (with_reducible first | exact HB.out | apply below_alloc | apply pw_below_drewN | apply below_drew1 | refine below_set ?_ GE239.out) | exact HB.out)))); (case aL => have := LMc20.out; omega); intro v241 w23 ho hb hg hat; rw [← Ny240.out] at ho; have n0_ := Aside0.mk (blk_grown (g := gb239) (o := .cells #[.int .i64 ((rd_T42 l1 x7_1).f0), .int .i64 ((rd_T42 l1 x7_1).f1), .int .u32 ((rd_T42 l1 x7_1).f2.f0), .int .u8 ((rd_T42 l1 x7_1).f2.f1)] 42 (0, 0)) (by (with_reducible repeat (first | refine blk_drewN ?_ _ | refine blk_drew ?_ | refine blk_alloc ?_ _)); exact BK239.out) hg (Kd.R_ne HO_6.out BK239.out (by decide))); have n1_ := Aside0.mk (hb); have n2_ := Aside0.mk (ho); clear BK239; clear HB; clear HO_6; have BK239 := n0_; have HB := n1_; have HO242 := n2_; clear n0_ n1_ n2_; clear ho hb hg hat))
                            go_roundg k3
                            case measure => have := HK1.out; have := HJ9.out; have := HK3.out; omega
                            case rel => exact ⟨(y240), H', ⟨by have := HK1.out; have := HJ9.out; have := HK3.out; omega⟩, ⟨by (with_reducible repeat (first | apply Kd.R_alloc | apply Kd.R_drewN | apply Kd.R_drew)); exact HO242.out⟩, ⟨by (with_reducible repeat (first | refine blk_drewN ?_ _ | refine blk_drew ?_ | refine blk_alloc ?_ _)); exact BK239.out⟩, ⟨by repeat (first | (with_reducible first | exact HB.out | apply below_alloc | apply pw_below_drewN | apply below_drew1 | refine below_set ?_ GE239.out) | exact HB.out)⟩⟩
                          · rw [if_neg c20] at H
                            exact absurd H (by simp)
                        · rw [if_neg c19] at H
                          have c19b0 : decide ((x6_3.length : Int) < ((rd_T42 l1 x7_1).f1)) = false := decide_eq_false c19
                          clear c19
                          have H' := Aside0.mk H
                          clear H
                          obtain ⟨Ao24, co24, eo24⟩ := Kd.R_slice HO_6.out
                          subst eo24
                          have hcz25_0 : wr.cell? ⟨gb239, 0, none⟩ = some (.int .i64 ((rd_T42 l1 x7_1).f0)) := (blk_cell BK239.out 0).trans rfl
                          have hcz25_1 : wr.cell? ⟨gb239, 1, none⟩ = some (.int .i64 ((rd_T42 l1 x7_1).f1)) := (blk_cell BK239.out 1).trans rfl
                          have hcz25_2 : wr.cell? ⟨gb239, 2, none⟩ = some (.int .u32 ((rd_T42 l1 x7_1).f2.f0)) := (blk_cell BK239.out 2).trans rfl
                          have hcz25_3 : wr.cell? ⟨gb239, 3, none⟩ = some (.int .u8 ((rd_T42 l1 x7_1).f2.f1)) := (blk_cell BK239.out 3).trans rfl
                          have hfz25_0 := blk_frozen BK239.out 0
                          have hfz25_1 := blk_frozen BK239.out 1
                          have hfz25_2 := blk_frozen BK239.out 2
                          have hfz25_3 := blk_frozen BK239.out 3
                          go_wp2
                          go_roundg k3
                          case measure => have := HK1.out; have := HJ9.out; have := HK3.out; omega
                          case rel => exact ⟨(x6_3), (wrap64 (x7_1 + 1)), (by first | rfl | (simp; done) | (simp [*]; done)), H', ⟨by have := HK1.out; have := HJ9.out; have := HK3.out; omega⟩, ⟨by (with_reducible repeat (first | apply Kd.R_alloc | apply Kd.R_drewN | apply Kd.R_drew)); exact HO_6.out⟩, ⟨by repeat (first | (with_reducible first | exact HB.out | apply below_alloc | apply pw_below_drewN | apply below_drew1 | refine below_set ?_ GE239.out) | exact HB.out)⟩⟩
            · rw [if_neg c9] at H
              have c9b0 : (((rd_T42 l1 x7_1).f0) == 1) = false := beq_eq_false_iff_ne.mpr c9
              have c9b1 : (((rd_T42 l1 x7_1).f0) != 1) = true := bne_iff_ne.mpr c9
              have HC26 := Aside0.mk H
              clear H
              have p238 : 0 ≤ (x7_1 : Int) := of_decide_eq_true (by first | (with_reducible assumption) | assumption)
              have q238 : x7_1 < (l1.length : Int) := of_decide_eq_true (by first | (with_reducible assumption) | assumption)
              obtain ⟨ad238, e238, hx238_0, hx238_1, hx238_2, hx238_3⟩ := at_T42 HR1.out x7_1 p238 q238
              cases e238
              replace hx238_0 := (HB.out.cell (World.block_lt_of_cell? w _ hx238_0)).trans hx238_0
              replace hx238_1 := (HB.out.cell (World.block_lt_of_cell? w _ hx238_1)).trans hx238_1
              replace hx238_2 := (HB.out.cell (World.block_lt_of_cell? w _ hx238_2)).trans hx238_2
              replace hx238_3 := (HB.out.cell (World.block_lt_of_cell? w _ hx238_3)).trans hx238_3
              replace p238 := eq_true p238
              replace q238 := eq_true q238
              go_upto_region 11 with (first | ((with_reducible refine gate_dst (N := 8) rfl ?_); (try (refine gate_guard (by rfl) ?_; dsimp only)); refine box_event ?hg (N := 8) ?hd (cs := #[.int .i64 0, .int .i64 0, .int .u32 0, .int .u8 0]) (t := 42) ?hr ?_; (case hd => rfl); (case hg => rfl); (case hr => first | (go_simp; done) | (go_simp; rfl)); intro gb239 hg w27 hbox hb; have n0_ := Aside0.mk (Kd.R_below (by (with_reducible repeat (first | apply Kd.R_alloc | apply Kd.R_drewN | apply Kd.R_drew)); exact HO_6.out) hb); have n1_ := Aside0.mk (below_step (by repeat (first | (with_reducible first | exact HB.out | apply below_alloc | apply pw_below_drewN | apply below_drew1) | exact HB.out)) hb); have n2_ := Aside0.mk (hbox); have n3_ := Aside0.mk ((by rw [hg]; exact (below_size (by repeat (first | (with_reducible first | exact HB.out | apply below_alloc | apply pw_below_drewN | apply below_drew1) | exact HB.out))) : w.heap.size ≤ gb239)); have n4_ := Aside0.mk ((by rw [hg]; exact (below_size (by repeat (first | (with_reducible first | exact HB.out | apply below_alloc | apply pw_below_drewN | apply below_drew1) | exact HB.out))) : w.heap.size ≤ gb239)); clear HO_6; clear HB; have HO_6 := n0_; have HB := n1_; have BK239 := n2_; have GW239 := n3_; have GE239 := n4_; clear n0_ n1_ n2_ n3_ n4_; clear hb hbox hg; have hcz28_0 : w27.cell? ⟨gb239, 0, none⟩ = some (.int .i64 0) := (blk_cell BK239.out 0).trans rfl; have hcz28_1 : w27.cell? ⟨gb239, 1, none⟩ = some (.int .i64 0) := (blk_cell BK239.out 1).trans rfl; have hcz28_2 : w27.cell? ⟨gb239, 2, none⟩ = some (.int .u32 0) := (blk_cell BK239.out 2).trans rfl; have hcz28_3 : w27.cell? ⟨gb239, 3, none⟩ = some (.int .u8 0) := (blk_cell BK239.out 3).trans rfl; have hfz28_0 := blk_frozen BK239.out 0; have hfz28_1 := blk_frozen BK239.out 1; have hfz28_2 := blk_frozen BK239.out 2; have hfz28_3 := blk_frozen BK239.out 3))
              (try simp only [Act.put, List.setIfInBounds_toArray, List.set_cons_zero, List.set_cons_succ])
              go_cut [68] (fun v68 wc => ∃ (kq : Nat) (x68_25 : Bool), v68 = .bool x68_25 ∧ Aside0 (postchaiseref11_Play.j3 kq l1 x6_1 x7_1 x68_25 ((rd_T42 l1 x7_1).f0) ((rd_T42 l1 x7_1).f1) ((rd_T42 l1 x7_1).f2.f0) ((rd_T42 l1 x7_1).f2.f1) = some (r1, r2)) ∧ Aside0 (kq ≤ k1) ∧ Aside0 (Kd.R k40 40 wc w.heap.size (fun _ => True) u6 x6_1) ∧ Aside0 (wc.heap[gb239]? = some (.cells #[.int .i64 ((rd_T42 l1 x7_1).f0), .int .i64 ((rd_T42 l1 x7_1).f1), .int .u32 ((rd_T42 l1 x7_1).f2.f0), .int .u8 ((rd_T42 l1 x7_1).f2.f1)] 42 (0, 0))) ∧ Aside0 (Below w.heap.size w wc))
              case first =>
                have H := HC26.out
                clear HC26
                by_cases c29 : ((rd_T42 l1 x7_1).f0) = 0
                · rw [if_pos c29] at H
                  have c29b0 : (((rd_T42 l1 x7_1).f0) == 0) = true := beq_iff_eq.mpr c29
                  have c29b1 : (((rd_T42 l1 x7_1).f0) != 0) = false := bne_eq_false_iff_eq.mpr c29
                  clear c29
                  (first | rw [c29b0] | (simp only [i64_w, i32_w]; rw [c29b0]) | skip)
                  by_cases c30 : ((rd_T42 l1 x7_1).f1) < 1
                  · rw [if_pos c30] at H
                    have c30b0 : decide (((rd_T42 l1 x7_1).f1) < 1) = true := decide_eq_true c30
                    clear c30
                    have H' := Aside0.mk H
                    clear H
                    have hcz31_0 : w27.cell? ⟨gb239, 0, none⟩ = some (.int .i64 0) := (blk_cell BK239.out 0).trans rfl
                    have hcz31_1 : w27.cell? ⟨gb239, 1, none⟩ = some (.int .i64 0) := (blk_cell BK239.out 1).trans rfl
                    have hcz31_2 : w27.cell? ⟨gb239, 2, none⟩ = some (.int .u32 0) := (blk_cell BK239.out 2).trans rfl
                    have hcz31_3 : w27.cell? ⟨gb239, 3, none⟩ = some (.int .u8 0) := (blk_cell BK239.out 3).trans rfl
                    have hfz31_0 := blk_frozen BK239.out 0
                    have hfz31_1 := blk_frozen BK239.out 1
                    have hfz31_2 := blk_frozen BK239.out 2
                    have hfz31_3 := blk_frozen BK239.out 3
                    go_wp2
                    go_meet
                    case rel => exact ⟨_, (true), (by first | rfl | (simp; done) | (simp [*]; done)), H', ⟨by have := HK1.out; first | omega | exact Nat.le_refl _⟩, ⟨by (with_reducible repeat (first | apply Kd.R_alloc | apply Kd.R_drewN | apply Kd.R_drew)); exact Kd.R_mono (Kd.R_far (p := ⟨gb239, 3, none⟩) (Kd.R_far (p := ⟨gb239, 2, none⟩) (Kd.R_far (p := ⟨gb239, 1, none⟩) (Kd.R_far (p := ⟨gb239, 0, none⟩) (Kd.R_types HO_6.out BK239.out (by decide)) (fun _ hk => hk.2) (.int .i64 ((rd_T42 l1 x7_1).f0))) (fun _ hk => hk.2) (.int .i64 ((rd_T42 l1 x7_1).f1))) (fun _ hk => hk.2) (.int .u32 ((rd_T42 l1 x7_1).f2.f0))) (fun _ hk => hk.2) (.int .u8 ((rd_T42 l1 x7_1).f2.f1))) (fun _ hk => trivial)⟩, ⟨by (with_reducible repeat (first | refine blk_drewN ?_ _ | refine blk_drew ?_ | refine blk_alloc ?_ _)); refine blk_put (cs := #[.int .i64 ((rd_T42 l1 x7_1).f0), .int .i64 ((rd_T42 l1 x7_1).f1), .int .u32 ((rd_T42 l1 x7_1).f2.f0), .int .u8 0]) ?_ 3 _ rfl; (with_reducible repeat (first | refine blk_drewN ?_ _ | refine blk_drew ?_ | refine blk_alloc ?_ _)); refine blk_put (cs := #[.int .i64 ((rd_T42 l1 x7_1).f0), .int .i64 ((rd_T42 l1 x7_1).f1), .int .u32 0, .int .u8 0]) ?_ 2 _ rfl; (with_reducible repeat (first | refine blk_drewN ?_ _ | refine blk_drew ?_ | refine blk_alloc ?_ _)); refine blk_put (cs := #[.int .i64 ((rd_T42 l1 x7_1).f0), .int .i64 0, .int .u32 0, .int .u8 0]) ?_ 1 _ rfl; (with_reducible repeat (first | refine blk_drewN ?_ _ | refine blk_drew ?_ | refine blk_alloc ?_ _)); refine blk_put (cs := #[.int .i64 0, .int .i64 0, .int .u32 0, .int .u8 0]) ?_ 0 _ rfl; (with_reducible repeat (first | refine blk_drewN ?_ _ | refine blk_drew ?_ | refine blk_alloc ?_ _)); exact BK239.out⟩, ⟨by repeat (first | (with_reducible first | exact HB.out | apply below_alloc | apply pw_below_drewN | apply below_drew1 | refine below_set ?_ GE239.out) | exact HB.out)⟩⟩
                  · rw [if_neg c30] at H
                    have c30b0 : decide (((rd_T42 l1 x7_1).f1) < 1) = false := decide_eq_false c30
                    clear c30
                    have H' := Aside0.mk H
                    clear H
                    have hcz32_0 : w27.cell? ⟨gb239, 0, none⟩ = some (.int .i64 0) := (blk_cell BK239.out 0).trans rfl
                    have hcz32_1 : w27.cell? ⟨gb239, 1, none⟩ = some (.int .i64 0) := (blk_cell BK239.out 1).trans rfl
                    have hcz32_2 : w27.cell? ⟨gb239, 2, none⟩ = some (.int .u32 0) := (blk_cell BK239.out 2).trans rfl
                    have hcz32_3 : w27.cell? ⟨gb239, 3, none⟩ = some (.int .u8 0) := (blk_cell BK239.out 3).trans rfl
                    have hfz32_0 := blk_frozen BK239.out 0
                    have hfz32_1 := blk_frozen BK239.out 1
                    have hfz32_2 := blk_frozen BK239.out 2
                    have hfz32_3 := blk_frozen BK239.out 3
                    obtain ⟨Ao33, co33, eo33⟩ := Kd.R_slice HO_6.out
                    subst eo33
                    go_wp2
                    go_meet
                    case rel => exact ⟨_, (decide (((rd_T42 l1 x7_1).f1) > (x6_1.length : Int))), (by first | rfl | (simp; done) | (simp [*]; done)), H', ⟨by have := HK1.out; first | omega | exact Nat.le_refl _⟩, ⟨by (with_reducible repeat (first | apply Kd.R_alloc | apply Kd.R_drewN | apply Kd.R_drew)); exact Kd.R_mono (Kd.R_far (p := ⟨gb239, 3, none⟩) (Kd.R_far (p := ⟨gb239, 2, none⟩) (Kd.R_far (p := ⟨gb239, 1, none⟩) (Kd.R_far (p := ⟨gb239, 0, none⟩) (Kd.R_types HO_6.out BK239.out (by decide)) (fun _ hk => hk.2) (.int .i64 ((rd_T42 l1 x7_1).f0))) (fun _ hk => hk.2) (.int .i64 ((rd_T42 l1 x7_1).f1))) (fun _ hk => hk.2) (.int .u32 ((rd_T42 l1 x7_1).f2.f0))) (fun _ hk => hk.2) (.int .u8 ((rd_T42 l1 x7_1).f2.f1))) (fun _ hk => trivial)⟩, ⟨by (with_reducible repeat (first | refine blk_drewN ?_ _ | refine blk_drew ?_ | refine blk_alloc ?_ _)); refine blk_put (cs := #[.int .i64 ((rd_T42 l1 x7_1).f0), .int .i64 ((rd_T42 l1 x7_1).f1), .int .u32 ((rd_T42 l1 x7_1).f2.f0), .int .u8 0]) ?_ 3 _ rfl; (with_reducible repeat (first | refine blk_drewN ?_ _ | refine blk_drew ?_ | refine blk_alloc ?_ _)); refine blk_put (cs := #[.int .i64 ((rd_T42 l1 x7_1).f0), .int .i64 ((rd_T42 l1 x7_1).f1), .int .u32 0, .int .u8 0]) ?_ 2 _ rfl; (with_reducible repeat (first | refine blk_drewN ?_ _ | refine blk_drew ?_ | refine blk_alloc ?_ _)); refine blk_put (cs := #[.int .i64 ((rd_T42 l1 x7_1).f0), .int .i64 0, .int .u32 0, .int .u8 0]) ?_ 1 _ rfl; (with_reducible repeat (first | refine blk_drewN ?_ _ | refine blk_drew ?_ | refine blk_alloc ?_ _)); refine blk_put (cs := #[.int .i64 0, .int .i64 0, .int .u32 0, .int .u8 0]) ?_ 0 _ rfl; (with_reducible repeat (first | refine blk_drewN ?_ _ | refine blk_drew ?_ | refine blk_alloc ?_ _)); exact BK239.out⟩, ⟨by repeat (first | (with_reducible first | exact HB.out | apply below_alloc | apply pw_below_drewN | apply below_drew1 | refine below_set ?_ GE239.out) | exact HB.out)⟩⟩
                · rw [if_neg c29] at H
                  have c29b0 : (((rd_T42 l1 x7_1).f0) == 0) = false := beq_eq_false_iff_ne.mpr c29
                  have c29b1 : (((rd_T42 l1 x7_1).f0) != 0) = true := bne_iff_ne.mpr c29
                  (first | rw [c29b0] | (simp only [i64_w, i32_w]; rw [c29b0]) | skip)
                  by_cases c34 : ((rd_T42 l1 x7_1).f0) = 2
                  · rw [if_pos c34] at H
                    have c34b0 : (((rd_T42 l1 x7_1).f0) == 2) = true := beq_iff_eq.mpr c34
                    have c34b1 : (((rd_T42 l1 x7_1).f0) != 2) = false := bne_eq_false_iff_eq.mpr c34
                    clear c34
                    by_cases c35 : ((rd_T42 l1 x7_1).f1) < 1
                    · rw [if_pos c35] at H
                      have c35b0 : decide (((rd_T42 l1 x7_1).f1) < 1) = true := decide_eq_true c35
                      clear c35
                      have H' := Aside0.mk H
                      clear H
                      have hcz36_0 : w27.cell? ⟨gb239, 0, none⟩ = some (.int .i64 0) := (blk_cell BK239.out 0).trans rfl
                      have hcz36_1 : w27.cell? ⟨gb239, 1, none⟩ = some (.int .i64 0) := (blk_cell BK239.out 1).trans rfl
                      have hcz36_2 : w27.cell? ⟨gb239, 2, none⟩ = some (.int .u32 0) := (blk_cell BK239.out 2).trans rfl
                      have hcz36_3 : w27.cell? ⟨gb239, 3, none⟩ = some (.int .u8 0) := (blk_cell BK239.out 3).trans rfl
                      have hfz36_0 := blk_frozen BK239.out 0
                      have hfz36_1 := blk_frozen BK239.out 1
                      have hfz36_2 := blk_frozen BK239.out 2
                      have hfz36_3 := blk_frozen BK239.out 3
                      go_wp2
                      go_meet
                      case rel => exact ⟨_, (true), (by first | rfl | (simp; done) | (simp [*]; done)), H', ⟨by have := HK1.out; first | omega | exact Nat.le_refl _⟩, ⟨by (with_reducible repeat (first | apply Kd.R_alloc | apply Kd.R_drewN | apply Kd.R_drew)); exact Kd.R_mono (Kd.R_far (p := ⟨gb239, 3, none⟩) (Kd.R_far (p := ⟨gb239, 2, none⟩) (Kd.R_far (p := ⟨gb239, 1, none⟩) (Kd.R_far (p := ⟨gb239, 0, none⟩) (Kd.R_types HO_6.out BK239.out (by decide)) (fun _ hk => hk.2) (.int .i64 ((rd_T42 l1 x7_1).f0))) (fun _ hk => hk.2) (.int .i64 ((rd_T42 l1 x7_1).f1))) (fun _ hk => hk.2) (.int .u32 ((rd_T42 l1 x7_1).f2.f0))) (fun _ hk => hk.2) (.int .u8 ((rd_T42 l1 x7_1).f2.f1))) (fun _ hk => trivial)⟩, ⟨by (with_reducible repeat (first | refine blk_drewN ?_ _ | refine blk_drew ?_ | refine blk_alloc ?_ _)); refine blk_put (cs := #[.int .i64 ((rd_T42 l1 x7_1).f0), .int .i64 ((rd_T42 l1 x7_1).f1), .int .u32 ((rd_T42 l1 x7_1).f2.f0), .int .u8 0]) ?_ 3 _ rfl; (with_reducible repeat (first | refine blk_drewN ?_ _ | refine blk_drew ?_ | refine blk_alloc ?_ _)); refine blk_put (cs := #[.int .i64 ((rd_T42 l1 x7_1).f0), .int .i64 ((rd_T42 l1 x7_1).f1), .int .u32 0, .int .u8 0]) ?_ 2 _ rfl; (with_reducible repeat (first | refine blk_drewN ?_ _ | refine blk_drew ?_ | refine blk_alloc ?_ _)); refine blk_put (cs := #[.int .i64 ((rd_T42 l1 x7_1).f0), .int .i64 0, .int .u32 0, .int .u8 0]) ?_ 1 _ rfl; (with_reducible repeat (first | refine blk_drewN ?_ _ | refine blk_drew ?_ | refine blk_alloc ?_ _)); refine blk_put (cs := #[.int .i64 0, .int .i64 0, .int .u32 0, .int .u8 0]) ?_ 0 _ rfl; (with_reducible repeat (first | refine blk_drewN ?_ _ | refine blk_drew ?_ | refine blk_alloc ?_ _)); exact BK239.out⟩, ⟨by repeat (first | (with_reducible first | exact HB.out | apply below_alloc | apply pw_below_drewN | apply below_drew1 | refine below_set ?_ GE239.out) | exact HB.out)⟩⟩
                    · rw [if_neg c35] at H
                      have c35b0 : decide (((rd_T42 l1 x7_1).f1) < 1) = false := decide_eq_false c35
                      clear c35
                      have H' := Aside0.mk H
                      clear H
                      have hcz37_0 : w27.cell? ⟨gb239, 0, none⟩ = some (.int .i64 0) := (blk_cell BK239.out 0).trans rfl
                      have hcz37_1 : w27.cell? ⟨gb239, 1, none⟩ = some (.int .i64 0) := (blk_cell BK239.out 1).trans rfl
                      have hcz37_2 : w27.cell? ⟨gb239, 2, none⟩ = some (.int .u32 0) := (blk_cell BK239.out 2).trans rfl
                      have hcz37_3 : w27.cell? ⟨gb239, 3, none⟩ = some (.int .u8 0) := (blk_cell BK239.out 3).trans rfl
                      have hfz37_0 := blk_frozen BK239.out 0
                      have hfz37_1 := blk_frozen BK239.out 1
                      have hfz37_2 := blk_frozen BK239.out 2
                      have hfz37_3 := blk_frozen BK239.out 3
                      obtain ⟨Ao38, co38, eo38⟩ := Kd.R_slice HO_6.out
                      subst eo38
                      go_wp2
                      go_meet
                      case rel => exact ⟨_, (decide (((rd_T42 l1 x7_1).f1) > (x6_1.length : Int))), (by first | rfl | (simp; done) | (simp [*]; done)), H', ⟨by have := HK1.out; first | omega | exact Nat.le_refl _⟩, ⟨by (with_reducible repeat (first | apply Kd.R_alloc | apply Kd.R_drewN | apply Kd.R_drew)); exact Kd.R_mono (Kd.R_far (p := ⟨gb239, 3, none⟩) (Kd.R_far (p := ⟨gb239, 2, none⟩) (Kd.R_far (p := ⟨gb239, 1, none⟩) (Kd.R_far (p := ⟨gb239, 0, none⟩) (Kd.R_types HO_6.out BK239.out (by decide)) (fun _ hk => hk.2) (.int .i64 ((rd_T42 l1 x7_1).f0))) (fun _ hk => hk.2) (.int .i64 ((rd_T42 l1 x7_1).f1))) (fun _ hk => hk.2) (.int .u32 ((rd_T42 l1 x7_1).f2.f0))) (fun _ hk => hk.2) (.int .u8 ((rd_T42 l1 x7_1).f2.f1))) (fun _ hk => trivial)⟩, ⟨by (with_reducible repeat (first | refine blk_drewN ?_ _ | refine blk_drew ?_ | refine blk_alloc ?_ _)); refine blk_put (cs := #[.int .i64 ((rd_T42 l1 x7_1).f0), .int .i64 ((rd_T42 l1 x7_1).f1), .int .u32 ((rd_T42 l1 x7_1).f2.f0), .int .u8 0]) ?_ 3 _ rfl; (with_reducible repeat (first | refine blk_drewN ?_ _ | refine blk_drew ?_ | refine blk_alloc ?_ _)); refine blk_put (cs := #[.int .i64 ((rd_T42 l1 x7_1).f0), .int .i64 ((rd_T42 l1 x7_1).f1), .int .u32 0, .int .u8 0]) ?_ 2 _ rfl; (with_reducible repeat (first | refine blk_drewN ?_ _ | refine blk_drew ?_ | refine blk_alloc ?_ _)); refine blk_put (cs := #[.int .i64 ((rd_T42 l1 x7_1).f0), .int .i64 0, .int .u32 0, .int .u8 0]) ?_ 1 _ rfl; (with_reducible repeat (first | refine blk_drewN ?_ _ | refine blk_drew ?_ | refine blk_alloc ?_ _)); refine blk_put (cs := #[.int .i64 0, .int .i64 0, .int .u32 0, .int .u8 0]) ?_ 0 _ rfl; (with_reducible repeat (first | refine blk_drewN ?_ _ | refine blk_drew ?_ | refine blk_alloc ?_ _)); exact BK239.out⟩, ⟨by repeat (first | (with_reducible first | exact HB.out | apply below_alloc | apply pw_below_drewN | apply below_drew1 | refine below_set ?_ GE239.out) | exact HB.out)⟩⟩
                  · rw [if_neg c34] at H
                    have c34b0 : (((rd_T42 l1 x7_1).f0) == 2) = false := beq_eq_false_iff_ne.mpr c34
                    have c34b1 : (((rd_T42 l1 x7_1).f0) != 2) = true := bne_iff_ne.mpr c34
                    have H' := Aside0.mk H
                    clear H
                    have hcz39_0 : w27.cell? ⟨gb239, 0, none⟩ = some (.int .i64 0) := (blk_cell BK239.out 0).trans rfl
                    have hcz39_1 : w27.cell? ⟨gb239, 1, none⟩ = some (.int .i64 0) := (blk_cell BK239.out 1).trans rfl
                    have hcz39_2 : w27.cell? ⟨gb239, 2, none⟩ = some (.int .u32 0) := (blk_cell BK239.out 2).trans rfl
                    have hcz39_3 : w27.cell? ⟨gb239, 3, none⟩ = some (.int .u8 0) := (blk_cell BK239.out 3).trans rfl
                    have hfz39_0 := blk_frozen BK239.out 0
                    have hfz39_1 := blk_frozen BK239.out 1
                    have hfz39_2 := blk_frozen BK239.out 2
                    have hfz39_3 := blk_frozen BK239.out 3
                    go_wp2
                    go_meet
                    case rel => exact ⟨_, (true), (by first | rfl | (simp; done) | (simp [*]; done)), H', ⟨by have := HK1.out; first | omega | exact Nat.le_refl _⟩, ⟨by (with_reducible repeat (first | apply Kd.R_alloc | apply Kd.R_drewN | apply Kd.R_drew)); exact Kd.R_mono (Kd.R_far (p := ⟨gb239, 3, none⟩) (Kd.R_far (p := ⟨gb239, 2, none⟩) (Kd.R_far (p := ⟨gb239, 1, none⟩) (Kd.R_far (p := ⟨gb239, 0, none⟩) (Kd.R_types HO_6.out BK239.out (by decide)) (fun _ hk => hk.2) (.int .i64 ((rd_T42 l1 x7_1).f0))) (fun _ hk => hk.2) (.int .i64 ((rd_T42 l1 x7_1).f1))) (fun _ hk => hk.2) (.int .u32 ((rd_T42 l1 x7_1).f2.f0))) (fun _ hk => hk.2) (.int .u8 ((rd_T42 l1 x7_1).f2.f1))) (fun _ hk => trivial)⟩, ⟨by (with_reducible repeat (first | refine blk_drewN ?_ _ | refine blk_drew ?_ | refine blk_alloc ?_ _)); refine blk_put (cs := #[.int .i64 ((rd_T42 l1 x7_1).f0), .int .i64 ((rd_T42 l1 x7_1).f1), .int .u32 ((rd_T42 l1 x7_1).f2.f0), .int .u8 0]) ?_ 3 _ rfl; (with_reducible repeat (first | refine blk_drewN ?_ _ | refine blk_drew ?_ | refine blk_alloc ?_ _)); refine blk_put (cs := #[.int .i64 ((rd_T42 l1 x7_1).f0), .int .i64 ((rd_T42 l1 x7_1).f1), .int .u32 0, .int .u8 0]) ?_ 2 _ rfl; (with_reducible repeat (first | refine blk_drewN ?_ _ | refine blk_drew ?_ | refine blk_alloc ?_ _)); refine blk_put (cs := #[.int .i64 ((rd_T42 l1 x7_1).f0), .int .i64 0, .int .u32 0, .int .u8 0]) ?_ 1 _ rfl; (with_reducible repeat (first | refine blk_drewN ?_ _ | refine blk_drew ?_ | refine blk_alloc ?_ _)); refine blk_put (cs := #[.int .i64 0, .int .i64 0, .int .u32 0, .int .u8 0]) ?_ 0 _ rfl; (with_reducible repeat (first | refine blk_drewN ?_ _ | refine blk_drew ?_ | refine blk_alloc ?_ _)); exact BK239.out⟩, ⟨by repeat (first | (with_reducible first | exact HB.out | apply below_alloc | apply pw_below_drewN | apply below_drew1 | refine below_set ?_ GE239.out) | exact HB.out)⟩⟩
              case rest =>
                clear HC26
                try clear c1
                try clear c2
                try clear p2
                try clear q2
                try clear hx2
                try clear c3
                try clear p6
                try clear c7
                try clear c7b0
                try clear c8
                try clear c8b0
                try clear c9
                try clear c9b0
                try clear c9b1
                try clear c13
                try clear c13b0
                try clear c16
                try clear c18
                try clear c19
                try clear c19b0
                try clear c20
                try clear p23
                try clear q23
                try clear hx23
                try clear c29
                try clear c29b0
                try clear c29b1
                try clear c30
                try clear c30b0
                try clear c34
                try clear c34b0
                try clear c34b1
                try clear c35
                try clear c35b0
                try clear hcz12_0
                try clear hcz12_1
                try clear hcz12_2
                try clear hcz12_3
                try clear hcz14_0
                try clear hcz14_1
                try clear hcz14_2
                try clear hcz14_3
                try clear hcz16_0
                try clear hcz16_1
                try clear hcz16_2
                try clear hcz16_3
                try clear hcz22_0
                try clear hcz22_1
                try clear hcz22_2
                try clear hcz22_3
                try clear hcz25_0
                try clear hcz25_1
                try clear hcz25_2
                try clear hcz25_3
                try clear hcz28_0
                try clear hcz28_1
                try clear hcz28_2
                try clear hcz28_3
                try clear hcz31_0
                try clear hcz31_1
                try clear hcz31_2
                try clear hcz31_3
                try clear hcz32_0
                try clear hcz32_1
                try clear hcz32_2
                try clear hcz32_3
                try clear hcz36_0
                try clear hcz36_1
                try clear hcz36_2
                try clear hcz36_3
                try clear hcz37_0
                try clear hcz37_1
                try clear hcz37_2
                try clear hcz37_3
                try clear hcz39_0
                try clear hcz39_1
                try clear hcz39_2
                try clear hcz39_3
                try clear hfz12_0
                try clear hfz12_1
                try clear hfz12_2
                try clear hfz12_3
                try clear hfz14_0
                try clear hfz14_1
                try clear hfz14_2
                try clear hfz14_3
                try clear hfz16_0
                try clear hfz16_1
                try clear hfz16_2
                try clear hfz16_3
                try clear hfz22_0
                try clear hfz22_1
                try clear hfz22_2
                try clear hfz22_3
                try clear hfz25_0
                try clear hfz25_1
                try clear hfz25_2
                try clear hfz25_3
                try clear hfz28_0
                try clear hfz28_1
                try clear hfz28_2
                try clear hfz28_3
                try clear hfz31_0
                try clear hfz31_1
                try clear hfz31_2
                try clear hfz31_3
                try clear hfz32_0
                try clear hfz32_1
                try clear hfz32_2
                try clear hfz32_3
                try clear hfz36_0
                try clear hfz36_1
                try clear hfz36_2
                try clear hfz36_3
                try clear hfz37_0
                try clear hfz37_1
                try clear hfz37_2
                try clear hfz37_3
                try clear hfz39_0
                try clear hfz39_1
                try clear hfz39_2
                try clear hfz39_3
                try clear hx238_0
                try clear hx238_1
                try clear hx238_2
                try clear hx238_3
                try clear p2
                try clear p238
                try clear p6
                try clear q2
                try clear q238
                obtain ⟨kq, x68_25, rfl, HA, HJ25, HO_6, BK239, HB⟩ := hcut
                cases kq with
                | zero => exact absurd HA.out (by simp [postchaiseref11_Play.j3])
                | succ kj25 =>
                  have H := HA.out
                  clear HA
                  simp only [postchaiseref11_Play.j3] at H
                  by_cases c40 : x68_25 = true
                  · subst c40
                    have H1 : (some (([] : List (S40)), 3)) = some (r1, r2) := by rw [if_pos rfl] at H; exact H
                    clear H
                    have H := H1
                    clear H1
                    simp only [Option.some.injEq, Prod.mk.injEq] at H
                    obtain ⟨rfl, rfl⟩ := H
                    go_wp2
                    go_ret2
                    exact ⟨_, by first | rfl | (simp [errW_none, errW_some] <;> rfl) | (simp [*, errW_none, errW_some] <;> rfl), by first | exact Kd.R_nil _ _ _ _ _ | exact Kd.N_nil _ _ _ _ _ | exact Kd.V_nil _ _ _ _ _ | exact Kd.Q_nil _ _ _ _ _ | exact Kd.S_nil _ _ _ _ _, by repeat (first | (with_reducible first | exact HB.out | apply below_alloc | apply pw_below_drewN | apply below_drew1 | refine below_set ?_ GE239.out) | exact HB.out)⟩
                  · replace c40 := Bool.eq_false_iff.mpr c40
                    subst c40
                    have H1 : (if ((rd_T42 l1 x7_1).f0) = 2 then (if 0 ≤ (wrap64 (((rd_T42 l1 x7_1).f1) - 1)) then (if (wrap64 (((rd_T42 l1 x7_1).f1) - 1)) < (x6_1.length : Int) then (postchaiseref11_Play.l0 kj25 l1 (x6_1.set ((wrap64 (((rd_T42 l1 x7_1).f1) - 1)) : Int).toNat (⟨((rd_T42 l1 x7_1).f2.f0), ((rd_T42 l1 x7_1).f2.f1)⟩ : S40)) (wrap64 (x7_1 + 1))) else (none)) else (none)) else (postchaiseref11_Play.l2 kj25 l1 x6_1 x7_1 ([] : List (S40)) 0 ((rd_T42 l1 x7_1).f0) ((rd_T42 l1 x7_1).f1) ((rd_T42 l1 x7_1).f2.f0) ((rd_T42 l1 x7_1).f2.f1))) = some (r1, r2) := by rw [if_neg (show ¬ (false = true) by decide)] at H; exact H
                    clear H
                    have H := H1
                    clear H1
                    by_cases c41 : ((rd_T42 l1 x7_1).f0) = 2
                    · rw [if_pos c41] at H
                      have c41b0 : (((rd_T42 l1 x7_1).f0) == 2) = true := beq_iff_eq.mpr c41
                      have c41b1 : (((rd_T42 l1 x7_1).f0) != 2) = false := bne_eq_false_iff_eq.mpr c41
                      clear c41
                      obtain ⟨ji42, hji42⟩ : ∃ j_ : Int, (wrap64 (((rd_T42 l1 x7_1).f1) - 1)) = j_ := ⟨_, rfl⟩
                      replace H : (if 0 ≤ (ji42) then (if (ji42) < (x6_1.length : Int) then (postchaiseref11_Play.l0 kj25 l1 (x6_1.set ((ji42) : Int).toNat (⟨((rd_T42 l1 x7_1).f2.f0), ((rd_T42 l1 x7_1).f2.f1)⟩ : S40)) (wrap64 (x7_1 + 1))) else (none)) else (none)) = some (r1, r2) := by first | (rw [hji42] at H; exact H) | (simp only [hji42] at H ⊢; exact H)
                      have hji42w : (IntKind.i64.wrap (((rd_T42 l1 x7_1).f1) - 1)) = ji42 := (i64_w _).trans hji42
                      by_cases c43 : 0 ≤ (ji42)
                      · rw [if_pos c43] at H
                        have c43b0 : decide (0 ≤ (ji42)) = true := decide_eq_true c43
                        clear c43
                        by_cases c44 : (ji42) < (x6_1.length : Int)
                        · rw [if_pos c44] at H
                          have c44b0 : decide ((ji42) < (x6_1.length : Int)) = true := decide_eq_true c44
                          clear c44
                          obtain ⟨y243, hy243⟩ : ∃ y_ : List (S40), y_ = (x6_1.set ((ji42) : Int).toNat (⟨((rd_T42 l1 x7_1).f2.f0), ((rd_T42 l1 x7_1).f2.f1)⟩ : S40)) := ⟨_, rfl⟩
                          replace H : (postchaiseref11_Play.l0 kj25 l1 y243 (wrap64 (x7_1 + 1))) = some (r1, r2) := by first | (rw [hy243]; with_reducible exact H) | (have H2_ := (Option.bind_some _ _).symm.trans H; rw [hy243]; with_reducible exact H2_) | (have H2_ := (Option.bind_some _ _).symm.trans H; with_reducible exact H2_) | with_reducible exact H | (rw [hy243]; exact H) | exact H
                          have Ny243 := Aside0.mk hy243
                          clear hy243
                          have H' := Aside0.mk H
                          clear H
                          have hcz46_0 : wc.cell? ⟨gb239, 0, none⟩ = some (.int .i64 ((rd_T42 l1 x7_1).f0)) := (blk_cell BK239.out 0).trans rfl
                          have hcz46_1 : wc.cell? ⟨gb239, 1, none⟩ = some (.int .i64 ((rd_T42 l1 x7_1).f1)) := (blk_cell BK239.out 1).trans rfl
                          have hcz46_2 : wc.cell? ⟨gb239, 2, none⟩ = some (.int .u32 ((rd_T42 l1 x7_1).f2.f0)) := (blk_cell BK239.out 2).trans rfl
                          have hcz46_3 : wc.cell? ⟨gb239, 3, none⟩ = some (.int .u8 ((rd_T42 l1 x7_1).f2.f1)) := (blk_cell BK239.out 3).trans rfl
                          have hfz46_0 := blk_frozen BK239.out 0
                          have hfz46_1 := blk_frozen BK239.out 1
                          have hfz46_2 := blk_frozen BK239.out 2
                          have hfz46_3 := blk_frozen BK239.out 3
                          have p45 : 0 ≤ ((ji42) : Int) := of_decide_eq_true (by first | (with_reducible assumption) | assumption)
                          have q45 : ((ji42) : Int) < ((x6_1.length : Int) : Int) := of_decide_eq_true (by first | (with_reducible assumption) | assumption)
                          obtain ⟨go45, co45, eo45, gb45, gl45, cl45, HG45⟩ := Kd.R_form HO_6.out (by omega)
                          (first | cases eo45 | (injection eo45 with ea_ en_ ec_; (first | subst ea_ | (injection ea_ with ea_; subst ea_)); subst ec_; clear en_))
                          have GB45 := Aside0.mk gb45
                          have GG45 := Aside0.mk HG45
                          clear gb45 gl45 HG45
                          obtain ⟨ce45, hcl45, hM45, hcc45, hfr45⟩ := Kd.R_elem HO_6.out z40 ((ji42) : Int) p45 q45
                          obtain rfl := k40_openM hM45
                          have hx45_0 : wc.cell? ⟨go45, ((ji42) : Int).toNat * 2, none⟩ = some (.int .u32 ((rd_T40 x6_1 (ji42)).f0)) := hcc45 0 _ rfl
                          have hx45_1 : wc.cell? ⟨go45, ((ji42) : Int).toNat * 2 + 1, none⟩ = some (.int .u8 ((rd_T40 x6_1 (ji42)).f1)) := hcc45 1 _ rfl
                          have hf45_0 : wc.frozen? ⟨go45, ((ji42) : Int).toNat * 2, none⟩ = false := hfr45 0
                          have hf45_1 : wc.frozen? ⟨go45, ((ji42) : Int).toNat * 2 + 1, none⟩ = false := hfr45 1
                          clear hcl45 hcc45 hfr45 hM45
                          replace p45 := eq_true p45
                          replace q45 := eq_true q45
                          have HX47 := Aside0.mk (show Kd.R k40 40 wc w.heap.size (fun _ => True) (.slice (some ⟨go45, 0, none⟩) x6_1.length co45) x6_1 from (by (with_reducible repeat (first | apply Kd.R_alloc | apply Kd.R_drewN | apply Kd.R_drew)); exact HO_6.out))
                          obtain ⟨ce47, hcl47, hM47, hcc47, hfr47⟩ := Kd.R_elem HX47.out z40 ((ji42) : Int) (of_decide_eq_true (by first | (with_reducible assumption) | assumption)) (by have h_ : ((ji42) : Int) < ((x6_1.length : Int) : Int) := of_decide_eq_true (by first | (with_reducible assumption) | assumption); first | exact h_ | (have e_ := (Kd.R_reads' HO_6.out).1; omega) | simpa using h_)
                          obtain rfl := k40_openM hM47
                          have HP47 := Kd.R_seg HX47.out ((ji42) : Int) (of_decide_eq_true (by first | (with_reducible assumption) | assumption)) (by have h_ : ((ji42) : Int) < ((x6_1.length : Int) : Int) := of_decide_eq_true (by first | (with_reducible assumption) | assumption); first | exact h_ | (have e_ := (Kd.R_reads' HO_6.out).1; omega) | simpa using h_) (seg := [.int .u32 ((rd_T42 l1 x7_1).f2.f0), .int .u8 ((rd_T42 l1 x7_1).f2.f1)]) (j := 0) hcl47 hcc47 (show 2 ≤ 2 from by decide) (x' := (⟨((rd_T42 l1 x7_1).f2.f0), ((rd_T42 l1 x7_1).f2.f1)⟩ : S40)) (k40_mkM _ _ _ (⟨((rd_T42 l1 x7_1).f2.f0), ((rd_T42 l1 x7_1).f2.f1)⟩ : S40) ) (fun _ hk => hk)
                          have hx47_0 := hcc47 0 _ rfl
                          (try simp only [show (k40).sz = 2 from rfl, Nat.mul_one, Nat.add_zero] at hx47_0)
                          have hf47_0 := hfr47 0
                          (try simp only [show (k40).sz = 2 from rfl, Nat.mul_one, Nat.add_zero] at hf47_0)
                          have hx47_1 := hcc47 1 _ rfl
                          (try simp only [show (k40).sz = 2 from rfl, Nat.mul_one, Nat.add_zero] at hx47_1)
                          have hf47_1 := hfr47 1
                          (try simp only [show (k40).sz = 2 from rfl, Nat.mul_one, Nat.add_zero] at hf47_1)
                          clear hcl47 hcc47 hfr47 hM47
                          go_wp2_with (first | ((with_reducible refine gate_store (t := 40) (p := 78) rfl ?_); refine store_event (t := 40) (p := 78) (v := ?vo_w48) (w1 := ((wc.setCell ⟨go45, ((ji42) : Int).toNat * 2, none⟩ (.int .u32 ((rd_T42 l1 x7_1).f2.f0))).setCell ⟨go45, ((ji42) : Int).toNat * 2 + 1, none⟩ (.int .u8 ((rd_T42 l1 x7_1).f2.f1)))) ?hg ?ho ?hn ?hr ?_; (case ho => rfl); (case hg => rfl); (case hn => rfl); (case hr => first | (go_simp; done) | (go_simp; rfl)); intro w48 hw; have hg : wc.grownBy w48 (some go45) := (by rw [hw]; exact HP47.2); have hp_ : Kd.R k40 40 w48 w.heap.size (fun _ => True) (.slice (some ⟨go45, 0, none⟩) x6_1.length co45) y243 := (by rw [hw, Ny243.out]; exact HP47.1); clear HP47; have n0_ := Aside0.mk (hp_); have n1_ := Aside0.mk (blk_grown (g := gb239) (o := .cells #[.int .i64 ((rd_T42 l1 x7_1).f0), .int .i64 ((rd_T42 l1 x7_1).f1), .int .u32 ((rd_T42 l1 x7_1).f2.f0), .int .u8 ((rd_T42 l1 x7_1).f2.f1)] 42 (0, 0)) (by (with_reducible repeat (first | refine blk_drewN ?_ _ | refine blk_drew ?_ | refine blk_alloc ?_ _)); exact BK239.out) hg (Kd.R_ne HO_6.out BK239.out (by decide))); have n2_ := Aside0.mk ((by rw [hw]; exact below_set (below_set (HB.out) GB45.out) GB45.out : Below w.heap.size w w48)); clear HO_6; clear BK239; clear HB; have HO_6 := n0_; have BK239 := n1_; have HB := n2_; clear n0_ n1_ n2_; clear hg hw hp_))
                          go_roundg kj25
                          case measure => have := HK1.out; have := HJ25.out; omega
                          case rel => exact ⟨(y243), (wrap64 (x7_1 + 1)), (by first | rfl | (simp; done) | (simp [*]; done)), H', ⟨by have := HK1.out; have := HJ25.out; omega⟩, ⟨by (with_reducible repeat (first | apply Kd.R_alloc | apply Kd.R_drewN | apply Kd.R_drew)); exact HO_6.out⟩, ⟨by repeat (first | (with_reducible first | exact HB.out | apply below_alloc | apply pw_below_drewN | apply below_drew1 | refine below_set ?_ GE239.out) | exact HB.out)⟩⟩
                        · rw [if_neg c44] at H
                          exact absurd H (by simp)
                      · rw [if_neg c43] at H
                        exact absurd H (by simp)
                    · rw [if_neg c41] at H
                      have c41b0 : (((rd_T42 l1 x7_1).f0) == 2) = false := beq_eq_false_iff_ne.mpr c41
                      have c41b1 : (((rd_T42 l1 x7_1).f0) != 2) = true := bne_iff_ne.mpr c41
                      have H' := Aside0.mk H
                      clear H
                      have hcz49_0 : wc.cell? ⟨gb239, 0, none⟩ = some (.int .i64 ((rd_T42 l1 x7_1).f0)) := (blk_cell BK239.out 0).trans rfl
                      have hcz49_1 : wc.cell? ⟨gb239, 1, none⟩ = some (.int .i64 ((rd_T42 l1 x7_1).f1)) := (blk_cell BK239.out 1).trans rfl
                      have hcz49_2 : wc.cell? ⟨gb239, 2, none⟩ = some (.int .u32 ((rd_T42 l1 x7_1).f2.f0)) := (blk_cell BK239.out 2).trans rfl
                      have hcz49_3 : wc.cell? ⟨gb239, 3, none⟩ = some (.int .u8 ((rd_T42 l1 x7_1).f2.f1)) := (blk_cell BK239.out 3).trans rfl
                      have hfz49_0 := blk_frozen BK239.out 0
                      have hfz49_1 := blk_frozen BK239.out 1
                      have hfz49_2 := blk_frozen BK239.out 2
                      have hfz49_3 := blk_frozen BK239.out 3
                      go_wp2
                      go_loopg [9, 10] kj25 (fun kq v9 v10 w' => ∃ (x9_3 : List (S40)) (x10_3 : Int), v10 = .int .i64 x10_3 ∧ Aside0 (postchaiseref11_Play.l2 kq l1 x6_1 x7_1 x9_3 x10_3 ((rd_T42 l1 x7_1).f0) ((rd_T42 l1 x7_1).f1) ((rd_T42 l1 x7_1).f2.f0) ((rd_T42 l1 x7_1).f2.f1) = some (r1, r2)) ∧ Aside0 (kq ≤ kj25) ∧ Aside0 (Kd.R k40 40 w' w.heap.size (fun k_ => some k_ ≠ (v9 : Value).ownBlock) u6 x6_1) ∧ Aside0 (Kd.R k40 40 w' w.heap.size (fun k_ => some k_ ≠ (u6 : Value).ownBlock) v9 x9_3) ∧ Aside0 (w'.heap[gb239]? = some (.cells #[.int .i64 ((rd_T42 l1 x7_1).f0), .int .i64 ((rd_T42 l1 x7_1).f1), .int .u32 ((rd_T42 l1 x7_1).f2.f0), .int .u8 ((rd_T42 l1 x7_1).f2.f1)] 42 (0, 0))) ∧ Aside0 (Below w.heap.size w w'))
                      case atStart => exact ⟨(([] : List (S40))), (0), (by first | rfl | (simp; done) | (simp [*]; done)), H', ⟨Nat.le_refl _⟩, ⟨by (with_reducible repeat (first | apply Kd.R_alloc | apply Kd.R_drewN | apply Kd.R_drew)); exact Kd.R_mono HO_6.out (fun _ hk => (by simp [Value.ownBlock]))⟩, ⟨by first | exact Kd.R_nil _ _ _ _ _ | exact Kd.N_nil _ _ _ _ _ | exact Kd.V_nil _ _ _ _ _ | exact Kd.Q_nil _ _ _ _ _ | exact Kd.S_nil _ _ _ _ _⟩, ⟨by (with_reducible repeat (first | refine blk_drewN ?_ _ | refine blk_drew ?_ | refine blk_alloc ?_ _)); exact BK239.out⟩, ⟨by repeat (first | (with_reducible first | exact HB.out | apply below_alloc | apply pw_below_drewN | apply below_drew1 | refine below_set ?_ GE239.out) | exact HB.out)⟩⟩
                      case round =>
                        clear H'
                        try clear c1
                        try clear c2
                        try clear p2
                        try clear q2
                        try clear hx2
                        try clear c3
                        try clear c4
                        try clear p4
                        try clear q4
                        try clear hx4
                        try clear hf4
                        try clear p6
                        try clear c7
                        try clear c7b0
                        try clear c8
                        try clear c8b0
                        try clear c9
                        try clear c9b0
                        try clear c9b1
                        try clear c13
                        try clear c13b0
                        try clear c16
                        try clear c18
                        try clear c19
                        try clear c19b0
                        try clear c20
                        try clear p23
                        try clear q23
                        try clear hx23
                        try clear c29
                        try clear c29b0
                        try clear c29b1
                        try clear c30
                        try clear c30b0
                        try clear c34
                        try clear c34b0
                        try clear c34b1
                        try clear c35
                        try clear c35b0
                        try clear c40
                        try clear c41
                        try clear c41b0
                        try clear c41b1
                        try clear c43
                        try clear c43b0
                        try clear c44
                        try clear c44b0
                        try clear c45
                        try clear p45
                        try clear q45
                        try clear hx45
                        try clear hf45
                        try clear c47
                        try clear hx47
                        try clear hf47
                        try clear hcz12_0
                        try clear hcz12_1
                        try clear hcz12_2
                        try clear hcz12_3
                        try clear hcz14_0
                        try clear hcz14_1
                        try clear hcz14_2
                        try clear hcz14_3
                        try clear hcz16_0
                        try clear hcz16_1
                        try clear hcz16_2
                        try clear hcz16_3
                        try clear hcz22_0
                        try clear hcz22_1
                        try clear hcz22_2
                        try clear hcz22_3
                        try clear hcz25_0
                        try clear hcz25_1
                        try clear hcz25_2
                        try clear hcz25_3
                        try clear hcz28_0
                        try clear hcz28_1
                        try clear hcz28_2
                        try clear hcz28_3
                        try clear hcz31_0
                        try clear hcz31_1
                        try clear hcz31_2
                        try clear hcz31_3
                        try clear hcz32_0
                        try clear hcz32_1
                        try clear hcz32_2
                        try clear hcz32_3
                        try clear hcz36_0
                        try clear hcz36_1
                        try clear hcz36_2
                        try clear hcz36_3
                        try clear hcz37_0
                        try clear hcz37_1
                        try clear hcz37_2
                        try clear hcz37_3
                        try clear hcz39_0
                        try clear hcz39_1
                        try clear hcz39_2
                        try clear hcz39_3
                        try clear hcz46_0
                        try clear hcz46_1
                        try clear hcz46_2
                        try clear hcz46_3
                        try clear hcz49_0
                        try clear hcz49_1
                        try clear hcz49_2
                        try clear hcz49_3
                        try clear hfz12_0
                        try clear hfz12_1
                        try clear hfz12_2
                        try clear hfz12_3
                        try clear hfz14_0
                        try clear hfz14_1
                        try clear hfz14_2
                        try clear hfz14_3
                        try clear hfz16_0
                        try clear hfz16_1
                        try clear hfz16_2
                        try clear hfz16_3
                        try clear hfz22_0
                        try clear hfz22_1
                        try clear hfz22_2
                        try clear hfz22_3
                        try clear hfz25_0
                        try clear hfz25_1
                        try clear hfz25_2
                        try clear hfz25_3
                        try clear hfz28_0
                        try clear hfz28_1
                        try clear hfz28_2
                        try clear hfz28_3
                        try clear hfz31_0
                        try clear hfz31_1
                        try clear hfz31_2
                        try clear hfz31_3
                        try clear hfz32_0
                        try clear hfz32_1
                        try clear hfz32_2
                        try clear hfz32_3
                        try clear hfz36_0
                        try clear hfz36_1
                        try clear hfz36_2
                        try clear hfz36_3
                        try clear hfz37_0
                        try clear hfz37_1
                        try clear hfz37_2
                        try clear hfz37_3
                        try clear hfz39_0
                        try clear hfz39_1
                        try clear hfz39_2
                        try clear hfz39_3
                        try clear hfz46_0
                        try clear hfz46_1
                        try clear hfz46_2
                        try clear hfz46_3
                        try clear hfz49_0
                        try clear hfz49_1
                        try clear hfz49_2
                        try clear hfz49_3
                        try clear hx238_0
                        try clear hx238_1
                        try clear hx238_2
                        try clear hx238_3
                        try clear hx45_0
                        try clear hx45_1
                        try clear hx47_0
                        try clear hx47_1
                        try clear p2
                        try clear p23
                        try clear p238
                        try clear p45
                        try clear p6
                        try clear q2
                        try clear q23
                        try clear q238
                        try clear q45
                        obtain ⟨x9_3, x10_3, rfl, HA, HK3, HO_6, HO_9, BK239, HB⟩ := hrel
                        cases gk with
                        | zero => exact absurd HA.out (by simp [postchaiseref11_Play.l2])
                        | succ k3 =>
                          have H := HA.out
                          clear HA
                          simp only [postchaiseref11_Play.l2] at H
                          by_cases c50 : x10_3 < (x6_1.length : Int)
                          · rw [if_pos c50] at H
                            have c50b0 : decide (x10_3 < (x6_1.length : Int)) = true := decide_eq_true c50
                            clear c50
                            by_cases c51 : x10_3 = (wrap64 (((rd_T42 l1 x7_1).f1) - 1))
                            · rw [if_pos c51] at H
                              have c51b0 : (x10_3 == (wrap64 (((rd_T42 l1 x7_1).f1) - 1))) = true := beq_iff_eq.mpr c51
                              have c51b1 : (x10_3 != (wrap64 (((rd_T42 l1 x7_1).f1) - 1))) = false := bne_eq_false_iff_eq.mpr c51
                              clear c51
                              have H' := Aside0.mk H
                              clear H
                              obtain ⟨Ao52, co52, eo52⟩ := Kd.R_slice HO_6.out
                              subst eo52
                              have hcz53_0 : wr.cell? ⟨gb239, 0, none⟩ = some (.int .i64 ((rd_T42 l1 x7_1).f0)) := (blk_cell BK239.out 0).trans rfl
                              have hcz53_1 : wr.cell? ⟨gb239, 1, none⟩ = some (.int .i64 ((rd_T42 l1 x7_1).f1)) := (blk_cell BK239.out 1).trans rfl
                              have hcz53_2 : wr.cell? ⟨gb239, 2, none⟩ = some (.int .u32 ((rd_T42 l1 x7_1).f2.f0)) := (blk_cell BK239.out 2).trans rfl
                              have hcz53_3 : wr.cell? ⟨gb239, 3, none⟩ = some (.int .u8 ((rd_T42 l1 x7_1).f2.f1)) := (blk_cell BK239.out 3).trans rfl
                              have hfz53_0 := blk_frozen BK239.out 0
                              have hfz53_1 := blk_frozen BK239.out 1
                              have hfz53_2 := blk_frozen BK239.out 2
                              have hfz53_3 := blk_frozen BK239.out 3
                              go_wp2
                              go_roundg k3
                              case measure => have := HK1.out; have := HJ25.out; have := HK3.out; omega
                              case rel => exact ⟨(x9_3), (wrap64 (x10_3 + 1)), (by first | rfl | (simp; done) | (simp [*]; done)), H', ⟨by have := HK1.out; have := HJ25.out; have := HK3.out; omega⟩, ⟨by (with_reducible repeat (first | apply Kd.R_alloc | apply Kd.R_drewN | apply Kd.R_drew)); exact HO_6.out⟩, ⟨by (with_reducible repeat (first | apply Kd.R_alloc | apply Kd.R_drewN | apply Kd.R_drew)); exact HO_9.out⟩, ⟨by (with_reducible repeat (first | refine blk_drewN ?_ _ | refine blk_drew ?_ | refine blk_alloc ?_ _)); exact BK239.out⟩, ⟨by repeat (first | (with_reducible first | exact HB.out | apply below_alloc | apply pw_below_drewN | apply below_drew1 | refine below_set ?_ GE239.out) | exact HB.out)⟩⟩
                            · rw [if_neg c51] at H
                              have c51b0 : (x10_3 == (wrap64 (((rd_T42 l1 x7_1).f1) - 1))) = false := beq_eq_false_iff_ne.mpr c51
                              have c51b1 : (x10_3 != (wrap64 (((rd_T42 l1 x7_1).f1) - 1))) = true := bne_iff_ne.mpr c51
                              by_cases c54 : 0 ≤ x10_3
                              · rw [if_pos c54] at H
                                have c54b0 : decide (0 ≤ x10_3) = true := decide_eq_true c54
                                clear c54
                                by_cases c55 : x9_3.length < 17592186044416
                                · rw [if_pos c55] at H
                                  have LMc55 := Aside0.mk c55
                                  clear c55
                                  obtain ⟨y245, hy245⟩ : ∃ y_ : List (S40), y_ = (x9_3 ++ [(⟨(rd_T40 x6_1 x10_3).f0, (rd_T40 x6_1 x10_3).f1⟩ : S40)]) := ⟨_, rfl⟩
                                  replace H : (postchaiseref11_Play.l2 k3 l1 x6_1 x7_1 y245 (wrap64 (x10_3 + 1)) ((rd_T42 l1 x7_1).f0) ((rd_T42 l1 x7_1).f1) ((rd_T42 l1 x7_1).f2.f0) ((rd_T42 l1 x7_1).f2.f1)) = some (r1, r2) := by first | (rw [hy245]; with_reducible exact H) | (have H2_ := (Option.bind_some _ _).symm.trans H; rw [hy245]; with_reducible exact H2_) | (have H2_ := (Option.bind_some _ _).symm.trans H; with_reducible exact H2_) | with_reducible exact H | (rw [hy245]; exact H) | exact H
                                  have Ny245 := Aside0.mk hy245
                                  clear hy245
                                  have H' := Aside0.mk H
                                  clear H
                                  obtain ⟨Ao56, co56, eo56⟩ := Kd.R_slice HO_6.out
                                  subst eo56
                                  have hcz57_0 : wr.cell? ⟨gb239, 0, none⟩ = some (.int .i64 ((rd_T42 l1 x7_1).f0)) := (blk_cell BK239.out 0).trans rfl
                                  have hcz57_1 : wr.cell? ⟨gb239, 1, none⟩ = some (.int .i64 ((rd_T42 l1 x7_1).f1)) := (blk_cell BK239.out 1).trans rfl
                                  have hcz57_2 : wr.cell? ⟨gb239, 2, none⟩ = some (.int .u32 ((rd_T42 l1 x7_1).f2.f0)) := (blk_cell BK239.out 2).trans rfl
                                  have hcz57_3 : wr.cell? ⟨gb239, 3, none⟩ = some (.int .u8 ((rd_T42 l1 x7_1).f2.f1)) := (blk_cell BK239.out 3).trans rfl
                                  have hfz57_0 := blk_frozen BK239.out 0
                                  have hfz57_1 := blk_frozen BK239.out 1
                                  have hfz57_2 := blk_frozen BK239.out 2
                                  have hfz57_3 := blk_frozen BK239.out 3
                                  have p244 : 0 ≤ (x10_3 : Int) := of_decide_eq_true (by first | (with_reducible assumption) | assumption)
                                  have q244 : x10_3 < (x6_1.length : Int) := of_decide_eq_true (by first | (with_reducible assumption) | assumption)
                                  obtain ⟨ad244, e244, hx244_0, hx244_1⟩ := at_T40 (Kd.R_reads' HO_6.out).2.2 x10_3 p244 q244
                                  cases e244
                                  replace p244 := eq_true p244
                                  replace q244 := eq_true q244
                                  go_wp2_with (first | ((with_reducible refine gate_builtin (b := .append) (xs := #[.tmp 90, .tmp 95]) rfl ?_); (try (refine gate_guard (by rfl) ?_; dsimp only)); at_builtin; refine Kd.R_append k40 (w0 := w) w.heap.size rfl (.tmp 90) (.tmp 95) 22 40 (.agg #[(.int .u32 0), (.int .u8 0)]) 8 rfl Try.underlying22 info40 rfl (by decide) (by omega) u9 x9_3 (⟨(rd_T40 x6_1 x10_3).f0, (rd_T40 x6_1 x10_3).f1⟩ : S40) [.int .u32 ((rd_T40 x6_1 x10_3).f0), .int .u8 ((rd_T40 x6_1 x10_3).f1)] (fun k_ => some k_ ≠ (.slice (some ad244) x6_1.length co56 : Value).ownBlock) (fun _ => False) rfl rfl ?aP (fun _ hk => hk.elim) ?aF ?aO ?aB ?aS ?aL ?_; (case aP => exact k40_mkM _ _ _ (⟨(rd_T40 x6_1 x10_3).f0, (rd_T40 x6_1 x10_3).f1⟩ : S40)); (case aB => exact (by repeat (first | (with_reducible first | exact HB.out | apply below_alloc | apply pw_below_drewN | apply below_drew1 | refine below_set ?_ GE239.out) | exact HB.out))); (case aF => exact (fun k_ hk => Kd.fresh' (Kd.R_lt (by (with_reducible repeat (first | apply Kd.R_alloc | apply Kd.R_drewN | apply Kd.R_drew)); exact HO_6.out)) k_ hk)); (case aO => exact (by (with_reducible repeat (first | apply Kd.R_alloc | apply Kd.R_drewN | apply Kd.R_drew)); exact HO_9.out)); (case aS => exact (below_size (by repeat (first | (with_reducible first | exact HB.out | apply below_alloc | apply pw_below_drewN | apply below_drew1 | refine below_set ?_ GE239.out) | exact HB.out)))); (case aL => have := LMc55.out; omega); intro v246 w58 ho hb hg hat; rw [← Ny245.out] at ho; have n0_ := Aside0.mk (Kd.R_after (ok := (fun _ => True)) (by (with_reducible repeat (first | apply Kd.R_alloc | apply Kd.R_drewN | apply Kd.R_drew)); exact Kd.R_mono HO_6.out (fun _ hk => ⟨trivial, hk⟩)) hg hat); have n1_ := Aside0.mk (blk_grown (g := gb239) (o := .cells #[.int .i64 ((rd_T42 l1 x7_1).f0), .int .i64 ((rd_T42 l1 x7_1).f1), .int .u32 ((rd_T42 l1 x7_1).f2.f0), .int .u8 ((rd_T42 l1 x7_1).f2.f1)] 42 (0, 0)) (by (with_reducible repeat (first | refine blk_drewN ?_ _ | refine blk_drew ?_ | refine blk_alloc ?_ _)); exact BK239.out) hg (Kd.R_ne HO_9.out BK239.out (by decide))); have n2_ := Aside0.mk (hb); have n3_ := Aside0.mk (ho); clear HO_6; clear BK239; clear HB; clear HO_9; have HO_6 := n0_; have BK239 := n1_; have HB := n2_; have HO247 := n3_; clear n0_ n1_ n2_ n3_; clear ho hb hg hat))
                                  go_roundg k3
                                  case measure => have := HK1.out; have := HJ25.out; have := HK3.out; omega
                                  case rel => exact ⟨(y245), (wrap64 (x10_3 + 1)), (by first | rfl | (simp; done) | (simp [*]; done)), H', ⟨by have := HK1.out; have := HJ25.out; have := HK3.out; omega⟩, ⟨by (with_reducible repeat (first | apply Kd.R_alloc | apply Kd.R_drewN | apply Kd.R_drew)); exact Kd.R_mono HO_6.out (fun _ hk => hk.2)⟩, ⟨by (with_reducible repeat (first | apply Kd.R_alloc | apply Kd.R_drewN | apply Kd.R_drew)); exact HO247.out⟩, ⟨by (with_reducible repeat (first | refine blk_drewN ?_ _ | refine blk_drew ?_ | refine blk_alloc ?_ _)); exact BK239.out⟩, ⟨by repeat (first | (with_reducible first | exact HB.out | apply below_alloc | apply pw_below_drewN | apply below_drew1 | refine below_set ?_ GE239.out) | exact HB.out)⟩⟩
                                · rw [if_neg c55] at H
                                  exact absurd H (by simp)
                              · rw [if_neg c54] at H
                                exact absurd H (by simp)
                          · rw [if_neg c50] at H
                            have c50b0 : decide (x10_3 < (x6_1.length : Int)) = false := decide_eq_false c50
                            clear c50
                            have H' := Aside0.mk H
                            clear H
                            obtain ⟨Ao59, co59, eo59⟩ := Kd.R_slice HO_6.out
                            subst eo59
                            go_wp2
                            go_roundg k3
                            case measure => have := HK1.out; have := HJ25.out; have := HK3.out; omega
                            case rel => exact ⟨(x9_3), (wrap64 (x7_1 + 1)), (by first | rfl | (simp; done) | (simp [*]; done)), H', ⟨by have := HK1.out; have := HJ25.out; have := HK3.out; omega⟩, ⟨by (with_reducible repeat (first | apply Kd.R_alloc | apply Kd.R_drewN | apply Kd.R_drew)); exact Kd.R_mono HO_9.out (fun _ hk => trivial)⟩, ⟨by repeat (first | (with_reducible first | exact HB.out | apply below_alloc | apply pw_below_drewN | apply below_drew1 | refine below_set ?_ GE239.out) | exact HB.out)⟩⟩
          · rw [if_neg c8] at H
            exact absurd H (by simp)
        · rw [if_neg c7] at H
          have c7b0 : decide (x7_1 < (l1.length : Int)) = false := decide_eq_false c7
          clear c7
          simp only [Option.some.injEq, Prod.mk.injEq] at H
          obtain ⟨rfl, rfl⟩ := H
          go_wp2
          go_ret2
          exact ⟨_, by first | rfl | (simp [errW_none, errW_some] <;> rfl) | (simp [*, errW_none, errW_some] <;> rfl), by (with_reducible repeat (first | apply Kd.R_alloc | apply Kd.R_drewN | apply Kd.R_drew)); exact HO_6.out, by repeat (first | (with_reducible first | exact HB.out | apply below_alloc | apply pw_below_drewN | apply below_drew1) | exact HB.out)⟩
  · rw [if_neg c3] at H
    exact absurd H (by simp)

end Go.Proofs.Ytlklegdaeffcpaa.PList
