/- Contracts of plain functions, written by the kit's print for this claim (law List), with lemmas of this session's own laid in. -/
import Derived.Test.YtlklegdaeffcpaaQList0
import Derived.Test.YtlklegdaeffcpaaQList4
import Derived.Test.YtlklegdaeffcpaaQList5
import Derived.Test.YtlklegdaeffcpaaQList8
import Derived.Test.YtlklegdaeffcpaaQList9
import Derived.Test.YtlklegdaeffcpaaQList11
namespace Go.Proofs.Ytlklegdaeffcpaa.PList
open Go.RowKit Go.Proofs.YtlklegdaeffcpaaW.PrintWords Go.Proofs.YtlklegdaeffcpaaW.PrintLast Go.Proofs.YtlklegdaeffcpaaW.PrintMore
attribute [local go_sem] max2_int min2_int max_two min_two max_three min_three max_four min_four   -- for this text's walks alone
set_option linter.unusedVariables false
set_option linter.unusedSimpArgs false

/-! ### postchaiselaw11_ListBack: function 5 -/
mutual
def postchaiselaw11_ListBack.j0 : Nat → List (S40) → List (S40) → Bool → Option (Bool)
  | 0, _, _, _ => none
  | k + 1, x0, x1, x26 => if x26 = true then (some true) else ((postchaiselaw11_Own.f k x0).bind fun t286 => ((postchaiselaw11_Own.f k x1).bind fun t289 => ((list_List_Diff.f k t286 t289).bind fun t292 => ((list_List_Play.f k t286 t292).bind fun bt295 => (if bt295.2 = 0 then ((postchaiselaw11_Back.f k bt295.1).bind fun t299 => ((postchaiseref11_Same.f k t299 x1).bind fun t302 => (postchaiselaw11_ListBack.j1 k x1 t286 t292 (!t302)))) else (postchaiselaw11_ListBack.j1 k x1 t286 t292 true))))))
def postchaiselaw11_ListBack.j1 : Nat → List (S40) → List (S35) → List (S37) → Bool → Option (Bool)
  | 0, _, _, _, _ => none
  | k + 1, x1, x5, x6, x47 => if x47 = true then (some false) else (postchaiselaw11_ListBack.l0 k x1 x6 x5 0)
def postchaiselaw11_ListBack.l0 : Nat → List (S40) → List (S37) → List (S35) → Int → Option (Bool)
  | 0, _, _, _, _ => none
  | k + 1, x1, x6, x9, x10 => if x10 < (x6.length : Int) then (if 0 ≤ x10 then ((list_List_Play.f k x9 (([(⟨(rd_T37 x6 x10).f0, (rd_T37 x6 x10).f1, (⟨(rd_T37 x6 x10).f2.f0, (rd_T37 x6 x10).f2.f1⟩ : S35)⟩ : S37)] : List (S37)))).bind fun bt307 => (if bt307.2 = 0 then (if (bt307.1.length : Int) < (x9.length : Int) then (if ((rd_T37 x6 x10).f0) = 0 then (if ((rd_T37 x6 x10).f0) = 1 then (if ((rd_T37 x6 x10).f1) < (x9.length : Int) then (some false) else (postchaiselaw11_ListBack.l0 k x1 x6 bt307.1 (wrap64 (x10 + 1)))) else (postchaiselaw11_ListBack.l0 k x1 x6 bt307.1 (wrap64 (x10 + 1)))) else (some false)) else (if ((rd_T37 x6 x10).f0) = 1 then (if ((rd_T37 x6 x10).f1) < (x9.length : Int) then (some false) else (postchaiselaw11_ListBack.l0 k x1 x6 bt307.1 (wrap64 (x10 + 1)))) else (postchaiselaw11_ListBack.l0 k x1 x6 bt307.1 (wrap64 (x10 + 1))))) else (some false))) else (none)) else ((postchaiselaw11_Own.f k x1).bind fun t316 => ((postchaiselaw11_Own.f k x1).bind fun t319 => ((list_List_Diff.f k t316 t319).bind fun t322 => (if (t322.length : Int) = 0 then ((postchaiselaw11_awake.f k).bind fun t325 => (some t325)) else (some false)))))
end
def postchaiselaw11_ListBack.f (k : Nat) (l0 : List (S40)) (l1 : List (S40)) : Option (Bool) := if (l0.length : Int) > 80 then (postchaiselaw11_ListBack.j0 k l0 l1 true) else (if (l1.length : Int) > 80 then (postchaiselaw11_ListBack.j0 k l0 l1 true) else ((postchaiseref11_May.f k l0 l1).bind fun t285 => (postchaiselaw11_ListBack.j0 k l0 l1 (!t285))))
theorem postchaiselaw11_ListBack.mono_l : ∀ k, (∀ y0 y1 y2, LeO (postchaiselaw11_ListBack.j0 k y0 y1 y2) (postchaiselaw11_ListBack.j0 (k + 1) y0 y1 y2)) ∧ (∀ y0 y1 y2 y3, LeO (postchaiselaw11_ListBack.j1 k y0 y1 y2 y3) (postchaiselaw11_ListBack.j1 (k + 1) y0 y1 y2 y3)) ∧ (∀ y0 y1 y2 y3, LeO (postchaiselaw11_ListBack.l0 k y0 y1 y2 y3) (postchaiselaw11_ListBack.l0 (k + 1) y0 y1 y2 y3))
  | 0 => ⟨fun _ _ _ r h => by simp [postchaiselaw11_ListBack.j0] at h, fun _ _ _ _ r h => by simp [postchaiselaw11_ListBack.j1] at h, fun _ _ _ _ r h => by simp [postchaiselaw11_ListBack.l0] at h⟩
  | k + 1 => by
    obtain ⟨ih0, ih1, ih2⟩ := postchaiselaw11_ListBack.mono_l k
    refine ⟨?_, ?_, ?_⟩
    · intro y0 y1 y2
      unfold postchaiselaw11_ListBack.j0
      repeat' first
      | (with_reducible exact ih0 _ _ _)
      | (with_reducible exact ih1 _ _ _ _)
      | (with_reducible exact ih2 _ _ _ _)
      | (with_reducible exact list_List_Diff.mono _ _ _)
      | (with_reducible exact list_List_Play.mono _ _ _)
      | (with_reducible exact postchaiselaw11_Back.mono _ _)
      | (with_reducible exact postchaiselaw11_Own.mono _ _)
      | (with_reducible exact postchaiselaw11_awake.mono _)
      | (with_reducible exact postchaiseref11_May.mono _ _ _)
      | (with_reducible exact postchaiseref11_Same.mono _ _ _)
      | (with_reducible exact LeO.refl _)
      | (with_reducible exact LeO.none _)
      | (with_reducible refine LeO.ite ?_ ?_)
      | (with_reducible refine LeO.bind ?_ (fun _ => ?_))
      | exact ih0 _ _ _
      | exact ih1 _ _ _ _
      | exact ih2 _ _ _ _
      | exact list_List_Diff.mono _ _ _
      | exact list_List_Play.mono _ _ _
      | exact postchaiselaw11_Back.mono _ _
      | exact postchaiselaw11_Own.mono _ _
      | exact postchaiselaw11_awake.mono _
      | exact postchaiseref11_May.mono _ _ _
      | exact postchaiseref11_Same.mono _ _ _
      | exact LeO.none _
      | refine LeO.ite ?_ ?_
      | refine LeO.bind ?_ (fun _ => ?_)
    · intro y0 y1 y2 y3
      unfold postchaiselaw11_ListBack.j1
      repeat' first
      | (with_reducible exact ih0 _ _ _)
      | (with_reducible exact ih1 _ _ _ _)
      | (with_reducible exact ih2 _ _ _ _)
      | (with_reducible exact list_List_Diff.mono _ _ _)
      | (with_reducible exact list_List_Play.mono _ _ _)
      | (with_reducible exact postchaiselaw11_Back.mono _ _)
      | (with_reducible exact postchaiselaw11_Own.mono _ _)
      | (with_reducible exact postchaiselaw11_awake.mono _)
      | (with_reducible exact postchaiseref11_May.mono _ _ _)
      | (with_reducible exact postchaiseref11_Same.mono _ _ _)
      | (with_reducible exact LeO.refl _)
      | (with_reducible exact LeO.none _)
      | (with_reducible refine LeO.ite ?_ ?_)
      | (with_reducible refine LeO.bind ?_ (fun _ => ?_))
      | exact ih0 _ _ _
      | exact ih1 _ _ _ _
      | exact ih2 _ _ _ _
      | exact list_List_Diff.mono _ _ _
      | exact list_List_Play.mono _ _ _
      | exact postchaiselaw11_Back.mono _ _
      | exact postchaiselaw11_Own.mono _ _
      | exact postchaiselaw11_awake.mono _
      | exact postchaiseref11_May.mono _ _ _
      | exact postchaiseref11_Same.mono _ _ _
      | exact LeO.none _
      | refine LeO.ite ?_ ?_
      | refine LeO.bind ?_ (fun _ => ?_)
    · intro y0 y1 y2 y3
      unfold postchaiselaw11_ListBack.l0
      repeat' first
      | (with_reducible exact ih0 _ _ _)
      | (with_reducible exact ih1 _ _ _ _)
      | (with_reducible exact ih2 _ _ _ _)
      | (with_reducible exact list_List_Diff.mono _ _ _)
      | (with_reducible exact list_List_Play.mono _ _ _)
      | (with_reducible exact postchaiselaw11_Back.mono _ _)
      | (with_reducible exact postchaiselaw11_Own.mono _ _)
      | (with_reducible exact postchaiselaw11_awake.mono _)
      | (with_reducible exact postchaiseref11_May.mono _ _ _)
      | (with_reducible exact postchaiseref11_Same.mono _ _ _)
      | (with_reducible exact LeO.refl _)
      | (with_reducible exact LeO.none _)
      | (with_reducible refine LeO.ite ?_ ?_)
      | (with_reducible refine LeO.bind ?_ (fun _ => ?_))
      | exact ih0 _ _ _
      | exact ih1 _ _ _ _
      | exact ih2 _ _ _ _
      | exact list_List_Diff.mono _ _ _
      | exact list_List_Play.mono _ _ _
      | exact postchaiselaw11_Back.mono _ _
      | exact postchaiselaw11_Own.mono _ _
      | exact postchaiselaw11_awake.mono _
      | exact postchaiseref11_May.mono _ _ _
      | exact postchaiseref11_Same.mono _ _ _
      | exact LeO.none _
      | refine LeO.ite ?_ ?_
      | refine LeO.bind ?_ (fun _ => ?_)
theorem postchaiselaw11_ListBack.mono : ∀ a0 a1 k, LeO (postchaiselaw11_ListBack.f k a0 a1) (postchaiselaw11_ListBack.f (k + 1) a0 a1) := by
  intro a0 a1 k
  obtain ⟨ih0, ih1, ih2⟩ := postchaiselaw11_ListBack.mono_l k
  unfold postchaiselaw11_ListBack.f
  repeat' first
      | (with_reducible exact ih0 _ _ _)
      | (with_reducible exact ih1 _ _ _ _)
      | (with_reducible exact ih2 _ _ _ _)
      | (with_reducible exact list_List_Diff.mono _ _ _)
      | (with_reducible exact list_List_Play.mono _ _ _)
      | (with_reducible exact postchaiselaw11_Back.mono _ _)
      | (with_reducible exact postchaiselaw11_Own.mono _ _)
      | (with_reducible exact postchaiselaw11_awake.mono _)
      | (with_reducible exact postchaiseref11_May.mono _ _ _)
      | (with_reducible exact postchaiseref11_Same.mono _ _ _)
      | (with_reducible exact LeO.refl _)
      | (with_reducible exact LeO.none _)
      | (with_reducible refine LeO.ite ?_ ?_)
      | (with_reducible refine LeO.bind ?_ (fun _ => ?_))
      | exact ih0 _ _ _
      | exact ih1 _ _ _ _
      | exact ih2 _ _ _ _
      | exact list_List_Diff.mono _ _ _
      | exact list_List_Play.mono _ _ _
      | exact postchaiselaw11_Back.mono _ _
      | exact postchaiselaw11_Own.mono _ _
      | exact postchaiselaw11_awake.mono _
      | exact postchaiseref11_May.mono _ _ _
      | exact postchaiseref11_Same.mono _ _ _
      | exact LeO.none _
      | refine LeO.ite ?_ ?_
      | refine LeO.bind ?_ (fun _ => ?_)
set_option maxHeartbeats 8000000 in
set_option maxRecDepth 100000 in
theorem postchaiselaw11_ListBack.calls (k : Nat) (A0 : Option Addr) (c0 : Nat) (l0 : List (S40)) (A1 : Option Addr) (c1 : Nat) (l1 : List (S40)) (r : Bool) (w : World) (hr0 : Kd.C k40 w A0 l0.length l0) (hc0 : l0.length ≤ c0) (hr1 : Kd.C k40 w A1 l1.length l1) (hc1 : l1.length ≤ c1) (h : postchaiselaw11_ListBack.f k l0 l1 = some r) :
    Calls Try.prog 5 #[.slice A0 l0.length c0, .slice A1 l1.length c1] w fun e w' => e = .returned (.bool r) ∧ Below w.heap.size w w' := by
  have hu37 := Try.underlying37
  have HR0 := Aside0.mk hr0
  have HC0 := Aside0.mk hc0
  clear hr0 hc0
  have HR1 := Aside0.mk hr1
  have HC1 := Aside0.mk hc1
  clear hr1 hc1
  have HB := Aside0.mk (Below.refl w.heap.size w)
  have H : (if (l0.length : Int) > 80 then (postchaiselaw11_ListBack.j0 k l0 l1 true) else (if (l1.length : Int) > 80 then (postchaiselaw11_ListBack.j0 k l0 l1 true) else ((postchaiseref11_May.f k l0 l1).bind fun t285 => (postchaiselaw11_ListBack.j0 k l0 l1 (!t285))))) = some r := h
  clear h
  have HC3 := Aside0.mk H
  clear H
  go_enter Try.func5, Try.ntmps5
  go_upto_region 1 with (fail)
  go_cut [26] (fun v26 wc => ∃ (kq : Nat) (x26_2 : Bool), v26 = .bool x26_2 ∧ Aside0 (postchaiselaw11_ListBack.j0 kq l0 l1 x26_2 = some r) ∧ Aside0 (kq ≤ k) ∧ Aside0 (Below w.heap.size w wc))
  case first =>
    have H := HC3.out
    clear HC3
    by_cases c4 : (l0.length : Int) > 80
    · rw [if_pos c4] at H
      have c4b0 : decide (80 < (l0.length : Int)) = true := decide_eq_true c4
      have c4b1 : decide (80 < l0.length) = true := decide_eq_true (by omega)
      clear c4
      (first | rw [c4b0] | (simp only [i64_w, i32_w]; rw [c4b0]) | rw [c4b1] | skip)
      have H' := Aside0.mk H
      clear H
      go_wp2
      go_meet
      case rel => exact ⟨_, (true), (by first | rfl | (simp; done) | (simp [*]; done)), H', ⟨by first | omega | exact Nat.le_refl _⟩, ⟨by repeat (first | (with_reducible first | exact HB.out | apply below_alloc | apply pw_below_drewN | apply below_drew1) | exact HB.out)⟩⟩
    · rw [if_neg c4] at H
      have c4b0 : decide (80 < (l0.length : Int)) = false := decide_eq_false c4
      have c4b1 : decide (80 < l0.length) = false := decide_eq_false (by omega)
      clear c4
      (first | rw [c4b0] | (simp only [i64_w, i32_w]; rw [c4b0]) | rw [c4b1] | skip)
      by_cases c5 : (l1.length : Int) > 80
      · rw [if_pos c5] at H
        have c5b0 : decide (80 < (l1.length : Int)) = true := decide_eq_true c5
        have c5b1 : decide (80 < l1.length) = true := decide_eq_true (by omega)
        clear c5
        have H' := Aside0.mk H
        clear H
        go_wp2
        go_meet
        case rel => exact ⟨_, (true), (by first | rfl | (simp; done) | (simp [*]; done)), H', ⟨by first | omega | exact Nat.le_refl _⟩, ⟨by repeat (first | (with_reducible first | exact HB.out | apply below_alloc | apply pw_below_drewN | apply below_drew1) | exact HB.out)⟩⟩
      · rw [if_neg c5] at H
        have c5b0 : decide (80 < (l1.length : Int)) = false := decide_eq_false c5
        have c5b1 : decide (80 < l1.length) = false := decide_eq_false (by omega)
        clear c5
        replace H := Option.bind_eq_some_iff.mp H
        obtain ⟨t285, A60, H⟩ := H
        replace H : (postchaiselaw11_ListBack.j0 k l0 l1 (!t285)) = some r := H
        have A6 := Aside0.mk A60
        clear A60
        have H' := Aside0.mk H
        clear H
        go_wp2_with (first | (go_at_call 9; (with_reducible refine (postchaiseref11_May.calls k _ _ l0 _ _ l1 t285 _ ?side1 ?side2 ?side3 ?side4 A6.out).mono ?_); (case side1 => repeat (first | exact (Kd.C_below HR0.out HB.out) | (with_reducible refine Kd.C_alloc ?_ _) | (with_reducible refine Kd.C_drewN ?_ _) | (with_reducible refine Kd.C_drew ?_))); (case side2 => exact HC0.out); (case side3 => repeat (first | exact (Kd.C_below HR1.out HB.out) | (with_reducible refine Kd.C_alloc ?_ _) | (with_reducible refine Kd.C_drewN ?_ _) | (with_reducible refine Kd.C_drew ?_))); (case side4 => exact HC1.out); rintro e w' ⟨rfl, ⟨nd, rfl⟩⟩))
        go_meet
        case rel => exact ⟨_, (!t285), (by first | rfl | (simp; done) | (simp [*]; done)), H', ⟨by first | omega | exact Nat.le_refl _⟩, ⟨by repeat (first | (with_reducible first | exact HB.out | apply below_alloc | apply pw_below_drewN | apply below_drew1) | exact HB.out)⟩⟩
  case rest =>
    clear HC3
    try clear c1
    try clear p2
    try clear c4
    try clear c4b0
    try clear c4b1
    try clear c5
    try clear c5b0
    try clear c5b1
    obtain ⟨kq, x26_2, rfl, HA, HJ2, HB⟩ := hcut
    cases kq with
    | zero => exact absurd HA.out (by simp [postchaiselaw11_ListBack.j0])
    | succ kj2 =>
      have H := HA.out
      clear HA
      simp only [postchaiselaw11_ListBack.j0] at H
      by_cases c7 : x26_2 = true
      · subst c7
        have H1 : (some true) = some r := by rw [if_pos rfl] at H; exact H
        clear H
        have H := H1
        clear H1
        obtain rfl := Option.some.inj H
        go_wp2
        go_ret
        exact ⟨by first | rfl | (simp [errW_none, errW_some] <;> rfl) | (simp [*, errW_none, errW_some] <;> rfl), by repeat (first | (with_reducible first | exact HB.out | apply below_alloc | apply pw_below_drewN | apply below_drew1) | exact HB.out)⟩
      · replace c7 := Bool.eq_false_iff.mpr c7
        subst c7
        have H1 : ((postchaiselaw11_Own.f kj2 l0).bind fun t286 => ((postchaiselaw11_Own.f kj2 l1).bind fun t289 => ((list_List_Diff.f kj2 t286 t289).bind fun t292 => ((list_List_Play.f kj2 t286 t292).bind fun bt295 => (if bt295.2 = 0 then ((postchaiselaw11_Back.f kj2 bt295.1).bind fun t299 => ((postchaiseref11_Same.f kj2 t299 l1).bind fun t302 => (postchaiselaw11_ListBack.j1 kj2 l1 t286 t292 (!t302)))) else (postchaiselaw11_ListBack.j1 kj2 l1 t286 t292 true)))))) = some r := by rw [if_neg (show ¬ (false = true) by decide)] at H; exact H
        clear H
        have H := H1
        clear H1
        replace H := Option.bind_eq_some_iff.mp H
        obtain ⟨t286, A80, H⟩ := H
        replace H : ((postchaiselaw11_Own.f kj2 l1).bind fun t289 => ((list_List_Diff.f kj2 t286 t289).bind fun t292 => ((list_List_Play.f kj2 t286 t292).bind fun bt295 => (if bt295.2 = 0 then ((postchaiselaw11_Back.f kj2 bt295.1).bind fun t299 => ((postchaiseref11_Same.f kj2 t299 l1).bind fun t302 => (postchaiselaw11_ListBack.j1 kj2 l1 t286 t292 (!t302)))) else (postchaiselaw11_ListBack.j1 kj2 l1 t286 t292 true))))) = some r := H
        have A8 := Aside0.mk A80
        clear A80
        replace H := Option.bind_eq_some_iff.mp H
        obtain ⟨t289, A90, H⟩ := H
        replace H : ((list_List_Diff.f kj2 t286 t289).bind fun t292 => ((list_List_Play.f kj2 t286 t292).bind fun bt295 => (if bt295.2 = 0 then ((postchaiselaw11_Back.f kj2 bt295.1).bind fun t299 => ((postchaiseref11_Same.f kj2 t299 l1).bind fun t302 => (postchaiselaw11_ListBack.j1 kj2 l1 t286 t292 (!t302)))) else (postchaiselaw11_ListBack.j1 kj2 l1 t286 t292 true)))) = some r := H
        have A9 := Aside0.mk A90
        clear A90
        replace H := Option.bind_eq_some_iff.mp H
        obtain ⟨t292, A100, H⟩ := H
        replace H : ((list_List_Play.f kj2 t286 t292).bind fun bt295 => (if bt295.2 = 0 then ((postchaiselaw11_Back.f kj2 bt295.1).bind fun t299 => ((postchaiseref11_Same.f kj2 t299 l1).bind fun t302 => (postchaiselaw11_ListBack.j1 kj2 l1 t286 t292 (!t302)))) else (postchaiselaw11_ListBack.j1 kj2 l1 t286 t292 true))) = some r := H
        have A10 := Aside0.mk A100
        clear A100
        replace H := Option.bind_eq_some_iff.mp H
        obtain ⟨⟨t295, t296⟩, A110, H⟩ := H
        replace H : (if t296 = 0 then ((postchaiselaw11_Back.f kj2 t295).bind fun t299 => ((postchaiseref11_Same.f kj2 t299 l1).bind fun t302 => (postchaiselaw11_ListBack.j1 kj2 l1 t286 t292 (!t302)))) else (postchaiselaw11_ListBack.j1 kj2 l1 t286 t292 true)) = some r := H
        have A11 := Aside0.mk A110
        clear A110
        have HC12 := Aside0.mk H
        clear H
        go_upto_region 6 with (first | ((with_reducible refine gate_callee (f := 10) rfl ?_); refine goesL_ (some 28) rfl rfl Try.func10 (by kernel_rfl) rfl #[.slice A0 l0.length c0] rfl (by (try simp only [List.map_toArray, List.map_cons, List.map_nil]); first | done | rfl | (simp only [List.length_drop, List.length_take]; rfl)) ?_; (with_reducible refine (postchaiselaw11_Own.calls kj2 _ _ l0 t286 _ ?side1 ?side2 A8.out).mono ?_); (case side1 => repeat (first | exact (Kd.C_below HR0.out HB.out) | (with_reducible refine Kd.C_alloc ?_ _) | (with_reducible refine Kd.C_drewN ?_ _) | (with_reducible refine Kd.C_drew ?_))); (case side2 => exact HC0.out); rintro e w13 ⟨v287, rfl, ho0, hb⟩; refine ⟨_, rfl, ?_⟩; have n0_ := Aside0.mk (Kd.R_lower ho0 (below_size (by repeat (first | (with_reducible first | exact HB.out | apply below_alloc | apply pw_below_drewN | apply below_drew1) | exact HB.out)))); have n1_ := Aside0.mk (below_step (by repeat (first | (with_reducible first | exact HB.out | apply below_alloc | apply pw_below_drewN | apply below_drew1) | exact HB.out)) hb); clear HB; have HO288 := n0_; have HB := n1_; clear n0_ n1_; (try clear hb); (try clear hb2); (try clear hk); (try clear hi); (try clear ho0)) | ((with_reducible refine gate_callee (f := 10) rfl ?_); refine goesL_ (some 31) rfl rfl Try.func10 (by kernel_rfl) rfl #[.slice A1 l1.length c1] rfl (by (try simp only [List.map_toArray, List.map_cons, List.map_nil]); first | done | rfl | (simp only [List.length_drop, List.length_take]; rfl)) ?_; (with_reducible refine (postchaiselaw11_Own.calls kj2 _ _ l1 t289 _ ?side1 ?side2 A9.out).mono ?_); (case side1 => repeat (first | exact (Kd.C_below HR1.out HB.out) | (with_reducible refine Kd.C_alloc ?_ _) | (with_reducible refine Kd.C_drewN ?_ _) | (with_reducible refine Kd.C_drew ?_))); (case side2 => exact HC1.out); rintro e w14 ⟨v290, rfl, ho0, hb⟩; refine ⟨_, rfl, ?_⟩; have n0_ := Aside0.mk (Kd.R_elder' (by (with_reducible repeat (first | apply Kd.R_alloc | apply Kd.R_drewN | apply Kd.R_drew)); exact HO288.out) (Kd.R_base ho0) hb); have n1_ := Aside0.mk (Kd.R_lower (Kd.R_new' ho0 (Kd.R_lt (by (with_reducible repeat (first | apply Kd.R_alloc | apply Kd.R_drewN | apply Kd.R_drew)); exact HO288.out))) (below_size (by repeat (first | (with_reducible first | exact HB.out | apply below_alloc | apply pw_below_drewN | apply below_drew1) | exact HB.out)))); have n2_ := Aside0.mk (below_step (by repeat (first | (with_reducible first | exact HB.out | apply below_alloc | apply pw_below_drewN | apply below_drew1) | exact HB.out)) hb); clear HO288; clear HB; have HO288 := n0_; have HO291 := n1_; have HB := n2_; clear n0_ n1_ n2_; (try clear hb); (try clear hb2); (try clear hk); (try clear hi); (try clear ho0); obtain ⟨Ao15, co15, eo15⟩ := Kd.R_slice HO288.out; subst eo15; obtain ⟨Ao16, co16, eo16⟩ := Kd.R_slice HO291.out; subst eo16) | ((with_reducible refine gate_callee (f := 11) rfl ?_); refine goesL_ (some 32) rfl rfl Try.func11 (by kernel_rfl) rfl #[.slice Ao15 t286.length co15, .slice Ao16 t289.length co16] rfl (by (try simp only [List.map_toArray, List.map_cons, List.map_nil]); first | done | rfl | (simp only [List.length_drop, List.length_take]; rfl)) ?_; (with_reducible refine (list_List_Diff.calls kj2 _ _ t286 _ _ t289 t292 _ ?side1 ?side2 ?side3 ?side4 A10.out).mono ?_); (case side1 => repeat (first | exact (Kd.R_reads' HO288.out).2.2 | (with_reducible refine Kd.C_alloc ?_ _) | (with_reducible refine Kd.C_drewN ?_ _) | (with_reducible refine Kd.C_drew ?_))); (case side2 => exact (Kd.R_reads' HO288.out).2.1); (case side3 => repeat (first | exact (Kd.R_reads' HO291.out).2.2 | (with_reducible refine Kd.C_alloc ?_ _) | (with_reducible refine Kd.C_drewN ?_ _) | (with_reducible refine Kd.C_drew ?_))); (case side4 => exact (Kd.R_reads' HO291.out).2.1); rintro e w17 ⟨v293, rfl, ho0, hb⟩; refine ⟨_, rfl, ?_⟩; have n0_ := Aside0.mk (Kd.R_below (by (with_reducible repeat (first | apply Kd.R_alloc | apply Kd.R_drewN | apply Kd.R_drew)); exact HO288.out) hb); have n1_ := Aside0.mk (Kd.R_below (by (with_reducible repeat (first | apply Kd.R_alloc | apply Kd.R_drewN | apply Kd.R_drew)); exact HO291.out) hb); have n2_ := Aside0.mk (Kd.R_lower ho0 (below_size (by repeat (first | (with_reducible first | exact HB.out | apply below_alloc | apply pw_below_drewN | apply below_drew1) | exact HB.out)))); have n3_ := Aside0.mk (below_step (by repeat (first | (with_reducible first | exact HB.out | apply below_alloc | apply pw_below_drewN | apply below_drew1) | exact HB.out)) hb); clear HO288; clear HO291; clear HB; have HO288 := n0_; have HO291 := n1_; have HO294 := n2_; have HB := n3_; clear n0_ n1_ n2_ n3_; (try clear hb); (try clear hb2); (try clear hk); (try clear hi); (try clear ho0); obtain ⟨Ao18, co18, eo18⟩ := Kd.R_slice HO294.out; subst eo18) | ((with_reducible refine gate_callee (f := 15) rfl ?_); refine goesL_ (some 36) rfl rfl Try.func15 (by kernel_rfl) rfl #[.slice Ao15 t286.length co15, .slice Ao18 t292.length co18] rfl (by (try simp only [List.map_toArray, List.map_cons, List.map_nil]); first | done | rfl | (simp only [List.length_drop, List.length_take]; rfl)) ?_; (with_reducible refine (list_List_Play.calls kj2 _ _ t286 _ _ t292 t295 t296 _ ?side1 ?side2 ?side3 ?side4 A11.out).mono ?_); (case side1 => repeat (first | exact (Kd.R_reads' HO288.out).2.2 | (with_reducible refine Kd.C_alloc ?_ _) | (with_reducible refine Kd.C_drewN ?_ _) | (with_reducible refine Kd.C_drew ?_))); (case side2 => exact (Kd.R_reads' HO288.out).2.1); (case side3 => repeat (first | exact (Kd.R_reads' HO294.out).2.2 | (with_reducible refine Kd.C_alloc ?_ _) | (with_reducible refine Kd.C_drewN ?_ _) | (with_reducible refine Kd.C_drew ?_))); (case side4 => exact (Kd.R_reads' HO294.out).2.1); rintro e w19 ⟨v297, rfl, ho0, hb⟩; refine ⟨_, rfl, ?_⟩; have n0_ := Aside0.mk (Kd.R_elder' (by (with_reducible repeat (first | apply Kd.R_alloc | apply Kd.R_drewN | apply Kd.R_drew)); exact HO288.out) (Kd.R_base ho0) hb); have n1_ := Aside0.mk (Kd.R_elder' (by (with_reducible repeat (first | apply Kd.R_alloc | apply Kd.R_drewN | apply Kd.R_drew)); exact HO291.out) (Kd.R_base ho0) hb); have n2_ := Aside0.mk (Kd.R_below (by (with_reducible repeat (first | apply Kd.R_alloc | apply Kd.R_drewN | apply Kd.R_drew)); exact HO294.out) hb); have n3_ := Aside0.mk (Kd.R_lower (Kd.R_new' (Kd.R_new' ho0 (Kd.R_lt (by (with_reducible repeat (first | apply Kd.R_alloc | apply Kd.R_drewN | apply Kd.R_drew)); exact HO288.out))) (Kd.R_lt (by (with_reducible repeat (first | apply Kd.R_alloc | apply Kd.R_drewN | apply Kd.R_drew)); exact HO291.out))) (below_size (by repeat (first | (with_reducible first | exact HB.out | apply below_alloc | apply pw_below_drewN | apply below_drew1) | exact HB.out)))); have n4_ := Aside0.mk (below_step (by repeat (first | (with_reducible first | exact HB.out | apply below_alloc | apply pw_below_drewN | apply below_drew1) | exact HB.out)) hb); clear HO288; clear HO291; clear HO294; clear HB; have HO288 := n0_; have HO291 := n1_; have HO294 := n2_; have HO298 := n3_; have HB := n4_; clear n0_ n1_ n2_ n3_ n4_; (try clear hb); (try clear hb2); (try clear hk); (try clear hi); (try clear ho0)))
        (try simp only [Act.put, List.setIfInBounds_toArray, List.set_cons_zero, List.set_cons_succ])
        go_cut [47] (fun v47 wc => ∃ (kq : Nat) (x47_11 : Bool), v47 = .bool x47_11 ∧ Aside0 (postchaiselaw11_ListBack.j1 kq l1 t286 t292 x47_11 = some r) ∧ Aside0 (kq ≤ kj2) ∧ Aside0 (Kd.R k35 35 wc w.heap.size (fun _ => True) (.slice Ao15 t286.length co15) t286) ∧ Aside0 (Kd.R k37 37 wc w.heap.size (fun _ => True) (.slice Ao18 t292.length co18) t292) ∧ Aside0 (Below w.heap.size w wc))
        case first =>
          have H := HC12.out
          clear HC12
          by_cases c20 : t296 = 0
          · rw [if_pos c20] at H
            have c20b0 : (t296 == 0) = true := beq_iff_eq.mpr c20
            have c20b1 : (t296 != 0) = false := bne_eq_false_iff_eq.mpr c20
            clear c20
            (first | rw [c20b0] | (simp only [i64_w, i32_w]; rw [c20b0]) | skip)
            replace H := Option.bind_eq_some_iff.mp H
            obtain ⟨t299, A210, H⟩ := H
            replace H : ((postchaiseref11_Same.f kj2 t299 l1).bind fun t302 => (postchaiselaw11_ListBack.j1 kj2 l1 t286 t292 (!t302))) = some r := H
            have A21 := Aside0.mk A210
            clear A210
            replace H := Option.bind_eq_some_iff.mp H
            obtain ⟨t302, A220, H⟩ := H
            replace H : (postchaiselaw11_ListBack.j1 kj2 l1 t286 t292 (!t302)) = some r := H
            have A22 := Aside0.mk A220
            clear A220
            have H' := Aside0.mk H
            clear H
            obtain ⟨Ao23, co23, eo23⟩ := Kd.R_slice HO298.out
            subst eo23
            go_wp2_with (first | (go_at_call 18; (with_reducible refine (postchaiselaw11_Back.calls kj2 _ _ t295 t299 _ ?side1 ?side2 A21.out).mono ?_); (case side1 => repeat (first | exact (Kd.R_reads' HO298.out).2.2 | (with_reducible refine Kd.C_alloc ?_ _) | (with_reducible refine Kd.C_drewN ?_ _) | (with_reducible refine Kd.C_drew ?_))); (case side2 => exact (Kd.R_reads' HO298.out).2.1); rintro e w24 ⟨v300, rfl, ho0, hb⟩; have n0_ := Aside0.mk (Kd.R_below (by (with_reducible repeat (first | apply Kd.R_alloc | apply Kd.R_drewN | apply Kd.R_drew)); exact HO288.out) hb); have n1_ := Aside0.mk (Kd.R_below (by (with_reducible repeat (first | apply Kd.R_alloc | apply Kd.R_drewN | apply Kd.R_drew)); exact HO291.out) hb); have n2_ := Aside0.mk (Kd.R_below (by (with_reducible repeat (first | apply Kd.R_alloc | apply Kd.R_drewN | apply Kd.R_drew)); exact HO294.out) hb); have n3_ := Aside0.mk (Kd.R_below (by (with_reducible repeat (first | apply Kd.R_alloc | apply Kd.R_drewN | apply Kd.R_drew)); exact HO298.out) hb); have n4_ := Aside0.mk (Kd.R_lower ho0 (below_size (by repeat (first | (with_reducible first | exact HB.out | apply below_alloc | apply pw_below_drewN | apply below_drew1) | exact HB.out)))); have n5_ := Aside0.mk (below_step (by repeat (first | (with_reducible first | exact HB.out | apply below_alloc | apply pw_below_drewN | apply below_drew1) | exact HB.out)) hb); clear HO288; clear HO291; clear HO294; clear HO298; clear HB; have HO288 := n0_; have HO291 := n1_; have HO294 := n2_; have HO298 := n3_; have HO301 := n4_; have HB := n5_; clear n0_ n1_ n2_ n3_ n4_ n5_; (try clear hb); (try clear hb2); (try clear hk); (try clear hi); (try clear ho0); obtain ⟨Ao25, co25, eo25⟩ := Kd.R_slice HO301.out; subst eo25) | (go_at_call 17; (with_reducible refine (postchaiseref11_Same.calls kj2 _ _ t299 _ _ l1 t302 _ ?side1 ?side2 ?side3 ?side4 A22.out).mono ?_); (case side1 => repeat (first | exact (Kd.R_reads' HO301.out).2.2 | (with_reducible refine Kd.C_alloc ?_ _) | (with_reducible refine Kd.C_drewN ?_ _) | (with_reducible refine Kd.C_drew ?_))); (case side2 => exact (Kd.R_reads' HO301.out).2.1); (case side3 => repeat (first | exact (Kd.C_below HR1.out HB.out) | (with_reducible refine Kd.C_alloc ?_ _) | (with_reducible refine Kd.C_drewN ?_ _) | (with_reducible refine Kd.C_drew ?_))); (case side4 => exact HC1.out); rintro e w' ⟨rfl, ⟨nd, rfl⟩⟩))
            go_meet
            case rel => exact ⟨_, (!t302), (by first | rfl | (simp; done) | (simp [*]; done)), H', ⟨by have := HJ2.out; first | omega | exact Nat.le_refl _⟩, ⟨by (with_reducible repeat (first | apply Kd.R_alloc | apply Kd.R_drewN | apply Kd.R_drew)); exact Kd.R_mono HO288.out (fun _ hk => trivial)⟩, ⟨by (with_reducible repeat (first | apply Kd.R_alloc | apply Kd.R_drewN | apply Kd.R_drew)); exact HO294.out⟩, ⟨by repeat (first | (with_reducible first | exact HB.out | apply below_alloc | apply pw_below_drewN | apply below_drew1) | exact HB.out)⟩⟩
          · rw [if_neg c20] at H
            have c20b0 : (t296 == 0) = false := beq_eq_false_iff_ne.mpr c20
            have c20b1 : (t296 != 0) = true := bne_iff_ne.mpr c20
            (first | rw [c20b0] | (simp only [i64_w, i32_w]; rw [c20b0]) | skip)
            have H' := Aside0.mk H
            clear H
            go_wp2
            go_meet
            case rel => exact ⟨_, (true), (by first | rfl | (simp; done) | (simp [*]; done)), H', ⟨by have := HJ2.out; first | omega | exact Nat.le_refl _⟩, ⟨by (with_reducible repeat (first | apply Kd.R_alloc | apply Kd.R_drewN | apply Kd.R_drew)); exact Kd.R_mono HO288.out (fun _ hk => trivial)⟩, ⟨by (with_reducible repeat (first | apply Kd.R_alloc | apply Kd.R_drewN | apply Kd.R_drew)); exact HO294.out⟩, ⟨by repeat (first | (with_reducible first | exact HB.out | apply below_alloc | apply pw_below_drewN | apply below_drew1) | exact HB.out)⟩⟩
        case rest =>
          clear HC12
          try clear c1
          try clear c2
          try clear p2
          try clear c4
          try clear c4b0
          try clear c4b1
          try clear c5
          try clear c5b0
          try clear c5b1
          try clear c7
          try clear c10
          try clear c11
          try clear c15
          try clear c20
          try clear c20b0
          try clear c20b1
          try clear p2
          obtain ⟨kq, x47_11, rfl, HA, HJ11, HO_5, HO_6, HB⟩ := hcut
          cases kq with
          | zero => exact absurd HA.out (by simp [postchaiselaw11_ListBack.j1])
          | succ kj11 =>
            have H := HA.out
            clear HA
            simp only [postchaiselaw11_ListBack.j1] at H
            by_cases c26 : x47_11 = true
            · subst c26
              have H1 : (some false) = some r := by rw [if_pos rfl] at H; exact H
              clear H
              have H := H1
              clear H1
              obtain rfl := Option.some.inj H
              go_wp2
              go_ret
              exact ⟨by first | rfl | (simp [errW_none, errW_some] <;> rfl) | (simp [*, errW_none, errW_some] <;> rfl), by repeat (first | (with_reducible first | exact HB.out | apply below_alloc | apply pw_below_drewN | apply below_drew1) | exact HB.out)⟩
            · replace c26 := Bool.eq_false_iff.mpr c26
              subst c26
              have H1 : (postchaiselaw11_ListBack.l0 kj11 l1 t292 t286 0) = some r := by rw [if_neg (show ¬ (false = true) by decide)] at H; exact H
              clear H
              have H := H1
              clear H1
              have H' := Aside0.mk H
              clear H
              go_wp2
              go_loopg [9, 10] kj11 (fun kq v9 v10 w' => ∃ (x9_3 : List (S35)) (x10_3 : Int), v10 = .int .i64 x10_3 ∧ Aside0 (postchaiselaw11_ListBack.l0 kq l1 t292 x9_3 x10_3 = some r) ∧ Aside0 (kq ≤ kj11) ∧ Aside0 (Kd.R k37 37 w' w.heap.size (fun _ => True) (.slice Ao18 t292.length co18) t292) ∧ Aside0 (Kd.R k35 35 w' w.heap.size (fun _ => True) v9 x9_3) ∧ Aside0 (Below w.heap.size w w'))
              case atStart => exact ⟨(t286), (0), (by first | rfl | (simp; done) | (simp [*]; done)), H', ⟨Nat.le_refl _⟩, ⟨by (with_reducible repeat (first | apply Kd.R_alloc | apply Kd.R_drewN | apply Kd.R_drew)); exact HO_6.out⟩, ⟨by (with_reducible repeat (first | apply Kd.R_alloc | apply Kd.R_drewN | apply Kd.R_drew)); exact HO_5.out⟩, ⟨by repeat (first | (with_reducible first | exact HB.out | apply below_alloc | apply pw_below_drewN | apply below_drew1) | exact HB.out)⟩⟩
              case round =>
                clear H'
                try clear c1
                try clear c2
                try clear p2
                try clear c4
                try clear c4b0
                try clear c4b1
                try clear c5
                try clear c5b0
                try clear c5b1
                try clear c7
                try clear c10
                try clear c11
                try clear c15
                try clear c20
                try clear c20b0
                try clear c20b1
                try clear c26
                try clear p2
                obtain ⟨x9_3, x10_3, rfl, HA, HK3, HO_6, HO_9, HB⟩ := hrel
                cases gk with
                | zero => exact absurd HA.out (by simp [postchaiselaw11_ListBack.l0])
                | succ k3 =>
                  have H := HA.out
                  clear HA
                  simp only [postchaiselaw11_ListBack.l0] at H
                  by_cases c27 : x10_3 < (t292.length : Int)
                  · rw [if_pos c27] at H
                    have c27b0 : decide (x10_3 < (t292.length : Int)) = true := decide_eq_true c27
                    clear c27
                    by_cases c28 : 0 ≤ x10_3
                    · rw [if_pos c28] at H
                      have c28b0 : decide (0 ≤ x10_3) = true := decide_eq_true c28
                      clear c28
                      obtain ⟨y304, hy304⟩ : ∃ y_ : List (S37), y_ = (([(⟨(rd_T37 t292 x10_3).f0, (rd_T37 t292 x10_3).f1, (⟨(rd_T37 t292 x10_3).f2.f0, (rd_T37 t292 x10_3).f2.f1⟩ : S35)⟩ : S37)] : List (S37))) := ⟨_, rfl⟩
                      replace H : ((list_List_Play.f k3 x9_3 y304).bind fun bt307 => (if bt307.2 = 0 then (if (bt307.1.length : Int) < (x9_3.length : Int) then (if ((rd_T37 t292 x10_3).f0) = 0 then (if ((rd_T37 t292 x10_3).f0) = 1 then (if ((rd_T37 t292 x10_3).f1) < (x9_3.length : Int) then (some false) else (postchaiselaw11_ListBack.l0 k3 l1 t292 bt307.1 (wrap64 (x10_3 + 1)))) else (postchaiselaw11_ListBack.l0 k3 l1 t292 bt307.1 (wrap64 (x10_3 + 1)))) else (some false)) else (if ((rd_T37 t292 x10_3).f0) = 1 then (if ((rd_T37 t292 x10_3).f1) < (x9_3.length : Int) then (some false) else (postchaiselaw11_ListBack.l0 k3 l1 t292 bt307.1 (wrap64 (x10_3 + 1)))) else (postchaiselaw11_ListBack.l0 k3 l1 t292 bt307.1 (wrap64 (x10_3 + 1))))) else (some false))) = some r := by first | (rw [hy304]; with_reducible exact H) | (have H2_ := (Option.bind_some _ _).symm.trans H; rw [hy304]; with_reducible exact H2_) | (have H2_ := (Option.bind_some _ _).symm.trans H; with_reducible exact H2_) | with_reducible exact H | (rw [hy304]; exact H) | exact H
                      have Ny304 := Aside0.mk hy304
                      clear hy304
                      replace H := Option.bind_eq_some_iff.mp H
                      obtain ⟨⟨t307, t308⟩, A290, H⟩ := H
                      replace H : (if t308 = 0 then (if (t307.length : Int) < (x9_3.length : Int) then (if ((rd_T37 t292 x10_3).f0) = 0 then (if ((rd_T37 t292 x10_3).f0) = 1 then (if ((rd_T37 t292 x10_3).f1) < (x9_3.length : Int) then (some false) else (postchaiselaw11_ListBack.l0 k3 l1 t292 t307 (wrap64 (x10_3 + 1)))) else (postchaiselaw11_ListBack.l0 k3 l1 t292 t307 (wrap64 (x10_3 + 1)))) else (some false)) else (if ((rd_T37 t292 x10_3).f0) = 1 then (if ((rd_T37 t292 x10_3).f1) < (x9_3.length : Int) then (some false) else (postchaiselaw11_ListBack.l0 k3 l1 t292 t307 (wrap64 (x10_3 + 1)))) else (postchaiselaw11_ListBack.l0 k3 l1 t292 t307 (wrap64 (x10_3 + 1))))) else (some false)) = some r := H
                      have A29 := Aside0.mk A290
                      clear A290
                      by_cases c30 : t308 = 0
                      · rw [if_pos c30] at H
                        have c30b0 : (t308 == 0) = true := beq_iff_eq.mpr c30
                        have c30b1 : (t308 != 0) = false := bne_eq_false_iff_eq.mpr c30
                        clear c30
                        by_cases c31 : (t307.length : Int) < (x9_3.length : Int)
                        · rw [if_pos c31] at H
                          have c31b0 : decide ((t307.length : Int) < (x9_3.length : Int)) = true := decide_eq_true c31
                          have c31b1 : decide (t307.length < x9_3.length) = true := decide_eq_true (Int.ofNat_lt.mp c31)
                          clear c31
                          by_cases c32 : ((rd_T37 t292 x10_3).f0) = 0
                          · rw [if_pos c32] at H
                            have c32b0 : (((rd_T37 t292 x10_3).f0) == 0) = true := beq_iff_eq.mpr c32
                            have c32b1 : (((rd_T37 t292 x10_3).f0) != 0) = false := bne_eq_false_iff_eq.mpr c32
                            clear c32
                            by_cases c33 : ((rd_T37 t292 x10_3).f0) = 1
                            · rw [if_pos c33] at H
                              have c33b0 : (((rd_T37 t292 x10_3).f0) == 1) = true := beq_iff_eq.mpr c33
                              have c33b1 : (((rd_T37 t292 x10_3).f0) != 1) = false := bne_eq_false_iff_eq.mpr c33
                              clear c33
                              by_cases c34 : ((rd_T37 t292 x10_3).f1) < (x9_3.length : Int)
                              · rw [if_pos c34] at H
                                have c34b0 : decide (((rd_T37 t292 x10_3).f1) < (x9_3.length : Int)) = true := decide_eq_true c34
                                clear c34
                                obtain rfl := Option.some.inj H
                                have p303 : 0 ≤ (x10_3 : Int) := of_decide_eq_true (by first | (with_reducible assumption) | assumption)
                                have q303 : x10_3 < (t292.length : Int) := of_decide_eq_true (by first | (with_reducible assumption) | assumption)
                                obtain ⟨ad303, e303, hx303_0, hx303_1, hx303_2, hx303_3⟩ := at_T37 (Kd.R_reads' HO_6.out).2.2 x10_3 p303 q303
                                cases e303
                                replace p303 := eq_true p303
                                replace q303 := eq_true q303
                                go_wp2_with (first | ((with_reducible refine gate_dst (N := 61) rfl ?_); (try (refine gate_guard (by rfl) ?_; dsimp only)); refine Kd.R_lit k37 _ 37 ?hg (N := 61) ?hd (xs := ([(⟨(rd_T37 t292 x10_3).f0, (rd_T37 t292 x10_3).f1, (⟨(rd_T37 t292 x10_3).f2.f0, (rd_T37 t292 x10_3).f2.f1⟩ : S35)⟩ : S37)] : List (S37))) (inner := [.int .i64 ((rd_T37 t292 x10_3).f0), .int .i64 ((rd_T37 t292 x10_3).f1), .int .u32 ((rd_T37 t292 x10_3).f2.f0), .int .u8 ((rd_T37 t292 x10_3).f2.f1)]) (ok := fun _ => True) (okp := fun _ => True) ?hr ?hp (fun _ hk => hk) trivial (Below.refl _ _) (Nat.le_refl _) (by simp) ?_; (case hd => rfl); (case hg => rfl); (case hr => first | (go_simp; done) | (go_simp; rfl)); (case hp => exact (Reps.c4 (show Kd.M k37 _ _ _ (⟨(rd_T37 t292 x10_3).f0, (rd_T37 t292 x10_3).f1, (⟨(rd_T37 t292 x10_3).f2.f0, (rd_T37 t292 x10_3).f2.f1⟩ : S35)⟩ : S37) [.int .i64 ((rd_T37 t292 x10_3).f0), .int .i64 ((rd_T37 t292 x10_3).f1), .int .u32 ((rd_T37 t292 x10_3).f2.f0), .int .u8 ((rd_T37 t292 x10_3).f2.f1)] from (k37_mkM _ _ _ (⟨(rd_T37 t292 x10_3).f0, (rd_T37 t292 x10_3).f1, (⟨(rd_T37 t292 x10_3).f2.f0, (rd_T37 t292 x10_3).f2.f1⟩ : S35)⟩ : S37) )) (Reps.none _ _))); intro v305 w35 ho36 hb hg_ hnew_; clear hg_ hnew_; (first | rw [← Ny304.out] at ho36 | (simp only [Int.reduceToNat] at ho36; rw [← Ny304.out] at ho36)); have n0_ := Aside0.mk (Kd.R_elder' (by (with_reducible repeat (first | apply Kd.R_alloc | apply Kd.R_drewN | apply Kd.R_drew)); exact HO_6.out) (Kd.R_base ho36) hb); have n1_ := Aside0.mk (Kd.R_below (by (with_reducible repeat (first | apply Kd.R_alloc | apply Kd.R_drewN | apply Kd.R_drew)); exact HO_9.out) hb); have n2_ := Aside0.mk (Kd.R_lower (Kd.R_new' ho36 (Kd.R_lt (by (with_reducible repeat (first | apply Kd.R_alloc | apply Kd.R_drewN | apply Kd.R_drew)); exact HO_6.out))) (below_size (by repeat (first | (with_reducible first | exact HB.out | apply below_alloc | apply pw_below_drewN | apply below_drew1) | exact HB.out)))); have n3_ := Aside0.mk (below_step (by repeat (first | (with_reducible first | exact HB.out | apply below_alloc | apply pw_below_drewN | apply below_drew1) | exact HB.out)) hb); clear HO_6; clear HO_9; clear HB; have HO_6 := n0_; have HO_9 := n1_; have HO306 := n2_; have HB := n3_; clear n0_ n1_ n2_ n3_; clear hb ho36; obtain ⟨Ao37, co37, eo37⟩ := Kd.R_slice HO_9.out; subst eo37; obtain ⟨Ao38, co38, eo38⟩ := Kd.R_slice HO306.out; subst eo38) | ((with_reducible refine gate_callee (f := 15) rfl ?_); refine goesL_ (some 62) rfl rfl Try.func15 (by kernel_rfl) rfl #[.slice Ao37 x9_3.length co37, .slice Ao38 y304.length co38] rfl (by (try simp only [List.map_toArray, List.map_cons, List.map_nil]); first | done | rfl | (simp only [List.length_drop, List.length_take]; rfl)) ?_; (with_reducible refine (list_List_Play.calls k3 _ _ x9_3 _ _ y304 t307 t308 _ ?side1 ?side2 ?side3 ?side4 A29.out).mono ?_); (case side1 => repeat (first | exact (Kd.R_reads' HO_9.out).2.2 | (with_reducible refine Kd.C_alloc ?_ _) | (with_reducible refine Kd.C_drewN ?_ _) | (with_reducible refine Kd.C_drew ?_))); (case side2 => exact (Kd.R_reads' HO_9.out).2.1); (case side3 => repeat (first | exact (Kd.R_reads' HO306.out).2.2 | (with_reducible refine Kd.C_alloc ?_ _) | (with_reducible refine Kd.C_drewN ?_ _) | (with_reducible refine Kd.C_drew ?_))); (case side4 => exact (Kd.R_reads' HO306.out).2.1); rintro e w39 ⟨v309, rfl, ho0, hb⟩; refine ⟨_, rfl, ?_⟩; have n0_ := Aside0.mk (Kd.R_below (by (with_reducible repeat (first | apply Kd.R_alloc | apply Kd.R_drewN | apply Kd.R_drew)); exact HO_6.out) hb); have n1_ := Aside0.mk (Kd.R_elder' (by (with_reducible repeat (first | apply Kd.R_alloc | apply Kd.R_drewN | apply Kd.R_drew)); exact HO_9.out) (Kd.R_base ho0) hb); have n2_ := Aside0.mk (Kd.R_below (by (with_reducible repeat (first | apply Kd.R_alloc | apply Kd.R_drewN | apply Kd.R_drew)); exact HO306.out) hb); have n3_ := Aside0.mk (Kd.R_lower (Kd.R_new' ho0 (Kd.R_lt (by (with_reducible repeat (first | apply Kd.R_alloc | apply Kd.R_drewN | apply Kd.R_drew)); exact HO_9.out))) (below_size (by repeat (first | (with_reducible first | exact HB.out | apply below_alloc | apply pw_below_drewN | apply below_drew1) | exact HB.out)))); have n4_ := Aside0.mk (below_step (by repeat (first | (with_reducible first | exact HB.out | apply below_alloc | apply pw_below_drewN | apply below_drew1) | exact HB.out)) hb); clear HO_6; clear HO_9; clear HO306; clear HB; have HO_6 := n0_; have HO_9 := n1_; have HO306 := n2_; have HO310 := n3_; have HB := n4_; clear n0_ n1_ n2_ n3_ n4_; (try clear hb); (try clear hb2); (try clear hk); (try clear hi); (try clear ho0); obtain ⟨Ao40, co40, eo40⟩ := Kd.R_slice HO310.out; subst eo40; have p311 : 0 ≤ (x10_3 : Int) := of_decide_eq_true (by first | (with_reducible assumption) | assumption); have q311 : x10_3 < (t292.length : Int) := of_decide_eq_true (by first | (with_reducible assumption) | assumption); obtain ⟨ad311, e311, hx311_0, hx311_1, hx311_2, hx311_3⟩ := at_T37 (Kd.R_reads' HO_6.out).2.2 x10_3 p311 q311; obtain rfl : ad303 = ad311 := (by injection e311); replace p311 := eq_true p311; replace q311 := eq_true q311; have p312 : 0 ≤ (x10_3 : Int) := of_decide_eq_true (by first | (with_reducible assumption) | assumption); have q312 : x10_3 < (t292.length : Int) := of_decide_eq_true (by first | (with_reducible assumption) | assumption); obtain ⟨ad312, e312, hx312_0, hx312_1, hx312_2, hx312_3⟩ := at_T37 (Kd.R_reads' HO_6.out).2.2 x10_3 p312 q312; obtain rfl : ad303 = ad312 := (by injection e312); replace p312 := eq_true p312; replace q312 := eq_true q312; have p313 : 0 ≤ (x10_3 : Int) := of_decide_eq_true (by first | (with_reducible assumption) | assumption); have q313 : x10_3 < (t292.length : Int) := of_decide_eq_true (by first | (with_reducible assumption) | assumption); obtain ⟨ad313, e313, hx313_0, hx313_1, hx313_2, hx313_3⟩ := at_T37 (Kd.R_reads' HO_6.out).2.2 x10_3 p313 q313; obtain rfl : ad303 = ad313 := (by injection e313); replace p313 := eq_true p313; replace q313 := eq_true q313))
                                go_ret
                                exact ⟨by first | rfl | (simp [errW_none, errW_some] <;> rfl) | (simp [*, errW_none, errW_some] <;> rfl), by repeat (first | (with_reducible first | exact HB.out | apply below_alloc | apply pw_below_drewN | apply below_drew1) | exact HB.out)⟩
                              · rw [if_neg c34] at H
                                have c34b0 : decide (((rd_T37 t292 x10_3).f1) < (x9_3.length : Int)) = false := decide_eq_false c34
                                clear c34
                                have H' := Aside0.mk H
                                clear H
                                have p303 : 0 ≤ (x10_3 : Int) := of_decide_eq_true (by first | (with_reducible assumption) | assumption)
                                have q303 : x10_3 < (t292.length : Int) := of_decide_eq_true (by first | (with_reducible assumption) | assumption)
                                obtain ⟨ad303, e303, hx303_0, hx303_1, hx303_2, hx303_3⟩ := at_T37 (Kd.R_reads' HO_6.out).2.2 x10_3 p303 q303
                                cases e303
                                replace p303 := eq_true p303
                                replace q303 := eq_true q303
                                go_wp2_with (first | ((with_reducible refine gate_dst (N := 61) rfl ?_); (try (refine gate_guard (by rfl) ?_; dsimp only)); refine Kd.R_lit k37 _ 37 ?hg (N := 61) ?hd (xs := ([(⟨(rd_T37 t292 x10_3).f0, (rd_T37 t292 x10_3).f1, (⟨(rd_T37 t292 x10_3).f2.f0, (rd_T37 t292 x10_3).f2.f1⟩ : S35)⟩ : S37)] : List (S37))) (inner := [.int .i64 ((rd_T37 t292 x10_3).f0), .int .i64 ((rd_T37 t292 x10_3).f1), .int .u32 ((rd_T37 t292 x10_3).f2.f0), .int .u8 ((rd_T37 t292 x10_3).f2.f1)]) (ok := fun _ => True) (okp := fun _ => True) ?hr ?hp (fun _ hk => hk) trivial (Below.refl _ _) (Nat.le_refl _) (by simp) ?_; (case hd => rfl); (case hg => rfl); (case hr => first | (go_simp; done) | (go_simp; rfl)); (case hp => exact (Reps.c4 (show Kd.M k37 _ _ _ (⟨(rd_T37 t292 x10_3).f0, (rd_T37 t292 x10_3).f1, (⟨(rd_T37 t292 x10_3).f2.f0, (rd_T37 t292 x10_3).f2.f1⟩ : S35)⟩ : S37) [.int .i64 ((rd_T37 t292 x10_3).f0), .int .i64 ((rd_T37 t292 x10_3).f1), .int .u32 ((rd_T37 t292 x10_3).f2.f0), .int .u8 ((rd_T37 t292 x10_3).f2.f1)] from (k37_mkM _ _ _ (⟨(rd_T37 t292 x10_3).f0, (rd_T37 t292 x10_3).f1, (⟨(rd_T37 t292 x10_3).f2.f0, (rd_T37 t292 x10_3).f2.f1⟩ : S35)⟩ : S37) )) (Reps.none _ _))); intro v305 w41 ho42 hb hg_ hnew_; clear hg_ hnew_; (first | rw [← Ny304.out] at ho42 | (simp only [Int.reduceToNat] at ho42; rw [← Ny304.out] at ho42)); have n0_ := Aside0.mk (Kd.R_elder' (by (with_reducible repeat (first | apply Kd.R_alloc | apply Kd.R_drewN | apply Kd.R_drew)); exact HO_6.out) (Kd.R_base ho42) hb); have n1_ := Aside0.mk (Kd.R_below (by (with_reducible repeat (first | apply Kd.R_alloc | apply Kd.R_drewN | apply Kd.R_drew)); exact HO_9.out) hb); have n2_ := Aside0.mk (Kd.R_lower (Kd.R_new' ho42 (Kd.R_lt (by (with_reducible repeat (first | apply Kd.R_alloc | apply Kd.R_drewN | apply Kd.R_drew)); exact HO_6.out))) (below_size (by repeat (first | (with_reducible first | exact HB.out | apply below_alloc | apply pw_below_drewN | apply below_drew1) | exact HB.out)))); have n3_ := Aside0.mk (below_step (by repeat (first | (with_reducible first | exact HB.out | apply below_alloc | apply pw_below_drewN | apply below_drew1) | exact HB.out)) hb); clear HO_6; clear HO_9; clear HB; have HO_6 := n0_; have HO_9 := n1_; have HO306 := n2_; have HB := n3_; clear n0_ n1_ n2_ n3_; clear hb ho42; obtain ⟨Ao43, co43, eo43⟩ := Kd.R_slice HO_9.out; subst eo43; obtain ⟨Ao44, co44, eo44⟩ := Kd.R_slice HO306.out; subst eo44) | ((with_reducible refine gate_callee (f := 15) rfl ?_); refine goesL_ (some 62) rfl rfl Try.func15 (by kernel_rfl) rfl #[.slice Ao43 x9_3.length co43, .slice Ao44 y304.length co44] rfl (by (try simp only [List.map_toArray, List.map_cons, List.map_nil]); first | done | rfl | (simp only [List.length_drop, List.length_take]; rfl)) ?_; (with_reducible refine (list_List_Play.calls k3 _ _ x9_3 _ _ y304 t307 t308 _ ?side1 ?side2 ?side3 ?side4 A29.out).mono ?_); (case side1 => repeat (first | exact (Kd.R_reads' HO_9.out).2.2 | (with_reducible refine Kd.C_alloc ?_ _) | (with_reducible refine Kd.C_drewN ?_ _) | (with_reducible refine Kd.C_drew ?_))); (case side2 => exact (Kd.R_reads' HO_9.out).2.1); (case side3 => repeat (first | exact (Kd.R_reads' HO306.out).2.2 | (with_reducible refine Kd.C_alloc ?_ _) | (with_reducible refine Kd.C_drewN ?_ _) | (with_reducible refine Kd.C_drew ?_))); (case side4 => exact (Kd.R_reads' HO306.out).2.1); rintro e w45 ⟨v309, rfl, ho0, hb⟩; refine ⟨_, rfl, ?_⟩; have n0_ := Aside0.mk (Kd.R_below (by (with_reducible repeat (first | apply Kd.R_alloc | apply Kd.R_drewN | apply Kd.R_drew)); exact HO_6.out) hb); have n1_ := Aside0.mk (Kd.R_elder' (by (with_reducible repeat (first | apply Kd.R_alloc | apply Kd.R_drewN | apply Kd.R_drew)); exact HO_9.out) (Kd.R_base ho0) hb); have n2_ := Aside0.mk (Kd.R_below (by (with_reducible repeat (first | apply Kd.R_alloc | apply Kd.R_drewN | apply Kd.R_drew)); exact HO306.out) hb); have n3_ := Aside0.mk (Kd.R_lower (Kd.R_new' ho0 (Kd.R_lt (by (with_reducible repeat (first | apply Kd.R_alloc | apply Kd.R_drewN | apply Kd.R_drew)); exact HO_9.out))) (below_size (by repeat (first | (with_reducible first | exact HB.out | apply below_alloc | apply pw_below_drewN | apply below_drew1) | exact HB.out)))); have n4_ := Aside0.mk (below_step (by repeat (first | (with_reducible first | exact HB.out | apply below_alloc | apply pw_below_drewN | apply below_drew1) | exact HB.out)) hb); clear HO_6; clear HO_9; clear HO306; clear HB; have HO_6 := n0_; have HO_9 := n1_; have HO306 := n2_; have HO310 := n3_; have HB := n4_; clear n0_ n1_ n2_ n3_ n4_; (try clear hb); (try clear hb2); (try clear hk); (try clear hi); (try clear ho0); obtain ⟨Ao46, co46, eo46⟩ := Kd.R_slice HO310.out; subst eo46; have p311 : 0 ≤ (x10_3 : Int) := of_decide_eq_true (by first | (with_reducible assumption) | assumption); have q311 : x10_3 < (t292.length : Int) := of_decide_eq_true (by first | (with_reducible assumption) | assumption); obtain ⟨ad311, e311, hx311_0, hx311_1, hx311_2, hx311_3⟩ := at_T37 (Kd.R_reads' HO_6.out).2.2 x10_3 p311 q311; obtain rfl : ad303 = ad311 := (by injection e311); replace p311 := eq_true p311; replace q311 := eq_true q311; have p312 : 0 ≤ (x10_3 : Int) := of_decide_eq_true (by first | (with_reducible assumption) | assumption); have q312 : x10_3 < (t292.length : Int) := of_decide_eq_true (by first | (with_reducible assumption) | assumption); obtain ⟨ad312, e312, hx312_0, hx312_1, hx312_2, hx312_3⟩ := at_T37 (Kd.R_reads' HO_6.out).2.2 x10_3 p312 q312; obtain rfl : ad303 = ad312 := (by injection e312); replace p312 := eq_true p312; replace q312 := eq_true q312; have p313 : 0 ≤ (x10_3 : Int) := of_decide_eq_true (by first | (with_reducible assumption) | assumption); have q313 : x10_3 < (t292.length : Int) := of_decide_eq_true (by first | (with_reducible assumption) | assumption); obtain ⟨ad313, e313, hx313_0, hx313_1, hx313_2, hx313_3⟩ := at_T37 (Kd.R_reads' HO_6.out).2.2 x10_3 p313 q313; obtain rfl : ad303 = ad313 := (by injection e313); replace p313 := eq_true p313; replace q313 := eq_true q313))
                                go_roundg k3
                                case measure => have := HJ2.out; have := HJ11.out; have := HK3.out; omega
                                case rel => exact ⟨(t307), (wrap64 (x10_3 + 1)), (by first | rfl | (simp; done) | (simp [*]; done)), H', ⟨by have := HJ2.out; have := HJ11.out; have := HK3.out; omega⟩, ⟨by (with_reducible repeat (first | apply Kd.R_alloc | apply Kd.R_drewN | apply Kd.R_drew)); exact Kd.R_mono HO_6.out (fun _ hk => trivial)⟩, ⟨by (with_reducible repeat (first | apply Kd.R_alloc | apply Kd.R_drewN | apply Kd.R_drew)); exact Kd.R_mono HO310.out (fun _ hk => trivial)⟩, ⟨by repeat (first | (with_reducible first | exact HB.out | apply below_alloc | apply pw_below_drewN | apply below_drew1) | exact HB.out)⟩⟩
                            · rw [if_neg c33] at H
                              have c33b0 : (((rd_T37 t292 x10_3).f0) == 1) = false := beq_eq_false_iff_ne.mpr c33
                              have c33b1 : (((rd_T37 t292 x10_3).f0) != 1) = true := bne_iff_ne.mpr c33
                              have H' := Aside0.mk H
                              clear H
                              have p303 : 0 ≤ (x10_3 : Int) := of_decide_eq_true (by first | (with_reducible assumption) | assumption)
                              have q303 : x10_3 < (t292.length : Int) := of_decide_eq_true (by first | (with_reducible assumption) | assumption)
                              obtain ⟨ad303, e303, hx303_0, hx303_1, hx303_2, hx303_3⟩ := at_T37 (Kd.R_reads' HO_6.out).2.2 x10_3 p303 q303
                              cases e303
                              replace p303 := eq_true p303
                              replace q303 := eq_true q303
                              go_wp2_with (first | ((with_reducible refine gate_dst (N := 61) rfl ?_); (try (refine gate_guard (by rfl) ?_; dsimp only)); refine Kd.R_lit k37 _ 37 ?hg (N := 61) ?hd (xs := ([(⟨(rd_T37 t292 x10_3).f0, (rd_T37 t292 x10_3).f1, (⟨(rd_T37 t292 x10_3).f2.f0, (rd_T37 t292 x10_3).f2.f1⟩ : S35)⟩ : S37)] : List (S37))) (inner := [.int .i64 ((rd_T37 t292 x10_3).f0), .int .i64 ((rd_T37 t292 x10_3).f1), .int .u32 ((rd_T37 t292 x10_3).f2.f0), .int .u8 ((rd_T37 t292 x10_3).f2.f1)]) (ok := fun _ => True) (okp := fun _ => True) ?hr ?hp (fun _ hk => hk) trivial (Below.refl _ _) (Nat.le_refl _) (by simp) ?_; (case hd => rfl); (case hg => rfl); (case hr => first | (go_simp; done) | (go_simp; rfl)); (case hp => exact (Reps.c4 (show Kd.M k37 _ _ _ (⟨(rd_T37 t292 x10_3).f0, (rd_T37 t292 x10_3).f1, (⟨(rd_T37 t292 x10_3).f2.f0, (rd_T37 t292 x10_3).f2.f1⟩ : S35)⟩ : S37) [.int .i64 ((rd_T37 t292 x10_3).f0), .int .i64 ((rd_T37 t292 x10_3).f1), .int .u32 ((rd_T37 t292 x10_3).f2.f0), .int .u8 ((rd_T37 t292 x10_3).f2.f1)] from (k37_mkM _ _ _ (⟨(rd_T37 t292 x10_3).f0, (rd_T37 t292 x10_3).f1, (⟨(rd_T37 t292 x10_3).f2.f0, (rd_T37 t292 x10_3).f2.f1⟩ : S35)⟩ : S37) )) (Reps.none _ _))); intro v305 w47 ho48 hb hg_ hnew_; clear hg_ hnew_; (first | rw [← Ny304.out] at ho48 | (simp only [Int.reduceToNat] at ho48; rw [← Ny304.out] at ho48)); have n0_ := Aside0.mk (Kd.R_elder' (by (with_reducible repeat (first | apply Kd.R_alloc | apply Kd.R_drewN | apply Kd.R_drew)); exact HO_6.out) (Kd.R_base ho48) hb); have n1_ := Aside0.mk (Kd.R_below (by (with_reducible repeat (first | apply Kd.R_alloc | apply Kd.R_drewN | apply Kd.R_drew)); exact HO_9.out) hb); have n2_ := Aside0.mk (Kd.R_lower (Kd.R_new' ho48 (Kd.R_lt (by (with_reducible repeat (first | apply Kd.R_alloc | apply Kd.R_drewN | apply Kd.R_drew)); exact HO_6.out))) (below_size (by repeat (first | (with_reducible first | exact HB.out | apply below_alloc | apply pw_below_drewN | apply below_drew1) | exact HB.out)))); have n3_ := Aside0.mk (below_step (by repeat (first | (with_reducible first | exact HB.out | apply below_alloc | apply pw_below_drewN | apply below_drew1) | exact HB.out)) hb); clear HO_6; clear HO_9; clear HB; have HO_6 := n0_; have HO_9 := n1_; have HO306 := n2_; have HB := n3_; clear n0_ n1_ n2_ n3_; clear hb ho48; obtain ⟨Ao49, co49, eo49⟩ := Kd.R_slice HO_9.out; subst eo49; obtain ⟨Ao50, co50, eo50⟩ := Kd.R_slice HO306.out; subst eo50) | ((with_reducible refine gate_callee (f := 15) rfl ?_); refine goesL_ (some 62) rfl rfl Try.func15 (by kernel_rfl) rfl #[.slice Ao49 x9_3.length co49, .slice Ao50 y304.length co50] rfl (by (try simp only [List.map_toArray, List.map_cons, List.map_nil]); first | done | rfl | (simp only [List.length_drop, List.length_take]; rfl)) ?_; (with_reducible refine (list_List_Play.calls k3 _ _ x9_3 _ _ y304 t307 t308 _ ?side1 ?side2 ?side3 ?side4 A29.out).mono ?_); (case side1 => repeat (first | exact (Kd.R_reads' HO_9.out).2.2 | (with_reducible refine Kd.C_alloc ?_ _) | (with_reducible refine Kd.C_drewN ?_ _) | (with_reducible refine Kd.C_drew ?_))); (case side2 => exact (Kd.R_reads' HO_9.out).2.1); (case side3 => repeat (first | exact (Kd.R_reads' HO306.out).2.2 | (with_reducible refine Kd.C_alloc ?_ _) | (with_reducible refine Kd.C_drewN ?_ _) | (with_reducible refine Kd.C_drew ?_))); (case side4 => exact (Kd.R_reads' HO306.out).2.1); rintro e w51 ⟨v309, rfl, ho0, hb⟩; refine ⟨_, rfl, ?_⟩; have n0_ := Aside0.mk (Kd.R_below (by (with_reducible repeat (first | apply Kd.R_alloc | apply Kd.R_drewN | apply Kd.R_drew)); exact HO_6.out) hb); have n1_ := Aside0.mk (Kd.R_elder' (by (with_reducible repeat (first | apply Kd.R_alloc | apply Kd.R_drewN | apply Kd.R_drew)); exact HO_9.out) (Kd.R_base ho0) hb); have n2_ := Aside0.mk (Kd.R_below (by (with_reducible repeat (first | apply Kd.R_alloc | apply Kd.R_drewN | apply Kd.R_drew)); exact HO306.out) hb); have n3_ := Aside0.mk (Kd.R_lower (Kd.R_new' ho0 (Kd.R_lt (by (with_reducible repeat (first | apply Kd.R_alloc | apply Kd.R_drewN | apply Kd.R_drew)); exact HO_9.out))) (below_size (by repeat (first | (with_reducible first | exact HB.out | apply below_alloc | apply pw_below_drewN | apply below_drew1) | exact HB.out)))); have n4_ := Aside0.mk (below_step (by repeat (first | (with_reducible first | exact HB.out | apply below_alloc | apply pw_below_drewN | apply below_drew1) | exact HB.out)) hb); clear HO_6; clear HO_9; clear HO306; clear HB; have HO_6 := n0_; have HO_9 := n1_; have HO306 := n2_; have HO310 := n3_; have HB := n4_; clear n0_ n1_ n2_ n3_ n4_; (try clear hb); (try clear hb2); (try clear hk); (try clear hi); (try clear ho0); obtain ⟨Ao52, co52, eo52⟩ := Kd.R_slice HO310.out; subst eo52; have p311 : 0 ≤ (x10_3 : Int) := of_decide_eq_true (by first | (with_reducible assumption) | assumption); have q311 : x10_3 < (t292.length : Int) := of_decide_eq_true (by first | (with_reducible assumption) | assumption); obtain ⟨ad311, e311, hx311_0, hx311_1, hx311_2, hx311_3⟩ := at_T37 (Kd.R_reads' HO_6.out).2.2 x10_3 p311 q311; obtain rfl : ad303 = ad311 := (by injection e311); replace p311 := eq_true p311; replace q311 := eq_true q311; have p312 : 0 ≤ (x10_3 : Int) := of_decide_eq_true (by first | (with_reducible assumption) | assumption); have q312 : x10_3 < (t292.length : Int) := of_decide_eq_true (by first | (with_reducible assumption) | assumption); obtain ⟨ad312, e312, hx312_0, hx312_1, hx312_2, hx312_3⟩ := at_T37 (Kd.R_reads' HO_6.out).2.2 x10_3 p312 q312; obtain rfl : ad303 = ad312 := (by injection e312); replace p312 := eq_true p312; replace q312 := eq_true q312))
                              go_roundg k3
                              case measure => have := HJ2.out; have := HJ11.out; have := HK3.out; omega
                              case rel => exact ⟨(t307), (wrap64 (x10_3 + 1)), (by first | rfl | (simp; done) | (simp [*]; done)), H', ⟨by have := HJ2.out; have := HJ11.out; have := HK3.out; omega⟩, ⟨by (with_reducible repeat (first | apply Kd.R_alloc | apply Kd.R_drewN | apply Kd.R_drew)); exact Kd.R_mono HO_6.out (fun _ hk => trivial)⟩, ⟨by (with_reducible repeat (first | apply Kd.R_alloc | apply Kd.R_drewN | apply Kd.R_drew)); exact Kd.R_mono HO310.out (fun _ hk => trivial)⟩, ⟨by repeat (first | (with_reducible first | exact HB.out | apply below_alloc | apply pw_below_drewN | apply below_drew1) | exact HB.out)⟩⟩
                          · rw [if_neg c32] at H
                            have c32b0 : (((rd_T37 t292 x10_3).f0) == 0) = false := beq_eq_false_iff_ne.mpr c32
                            have c32b1 : (((rd_T37 t292 x10_3).f0) != 0) = true := bne_iff_ne.mpr c32
                            obtain rfl := Option.some.inj H
                            have p303 : 0 ≤ (x10_3 : Int) := of_decide_eq_true (by first | (with_reducible assumption) | assumption)
                            have q303 : x10_3 < (t292.length : Int) := of_decide_eq_true (by first | (with_reducible assumption) | assumption)
                            obtain ⟨ad303, e303, hx303_0, hx303_1, hx303_2, hx303_3⟩ := at_T37 (Kd.R_reads' HO_6.out).2.2 x10_3 p303 q303
                            cases e303
                            replace p303 := eq_true p303
                            replace q303 := eq_true q303
                            go_wp2_with (first | ((with_reducible refine gate_dst (N := 61) rfl ?_); (try (refine gate_guard (by rfl) ?_; dsimp only)); refine Kd.R_lit k37 _ 37 ?hg (N := 61) ?hd (xs := ([(⟨(rd_T37 t292 x10_3).f0, (rd_T37 t292 x10_3).f1, (⟨(rd_T37 t292 x10_3).f2.f0, (rd_T37 t292 x10_3).f2.f1⟩ : S35)⟩ : S37)] : List (S37))) (inner := [.int .i64 ((rd_T37 t292 x10_3).f0), .int .i64 ((rd_T37 t292 x10_3).f1), .int .u32 ((rd_T37 t292 x10_3).f2.f0), .int .u8 ((rd_T37 t292 x10_3).f2.f1)]) (ok := fun _ => True) (okp := fun _ => True) ?hr ?hp (fun _ hk => hk) trivial (Below.refl _ _) (Nat.le_refl _) (by simp) ?_; (case hd => rfl); (case hg => rfl); (case hr => first | (go_simp; done) | (go_simp; rfl)); (case hp => exact (Reps.c4 (show Kd.M k37 _ _ _ (⟨(rd_T37 t292 x10_3).f0, (rd_T37 t292 x10_3).f1, (⟨(rd_T37 t292 x10_3).f2.f0, (rd_T37 t292 x10_3).f2.f1⟩ : S35)⟩ : S37) [.int .i64 ((rd_T37 t292 x10_3).f0), .int .i64 ((rd_T37 t292 x10_3).f1), .int .u32 ((rd_T37 t292 x10_3).f2.f0), .int .u8 ((rd_T37 t292 x10_3).f2.f1)] from (k37_mkM _ _ _ (⟨(rd_T37 t292 x10_3).f0, (rd_T37 t292 x10_3).f1, (⟨(rd_T37 t292 x10_3).f2.f0, (rd_T37 t292 x10_3).f2.f1⟩ : S35)⟩ : S37) )) (Reps.none _ _))); intro v305 w53 ho54 hb hg_ hnew_; clear hg_ hnew_; (first | rw [← Ny304.out] at ho54 | (simp only [Int.reduceToNat] at ho54; rw [← Ny304.out] at ho54)); have n0_ := Aside0.mk (Kd.R_elder' (by (with_reducible repeat (first | apply Kd.R_alloc | apply Kd.R_drewN | apply Kd.R_drew)); exact HO_6.out) (Kd.R_base ho54) hb); have n1_ := Aside0.mk (Kd.R_below (by (with_reducible repeat (first | apply Kd.R_alloc | apply Kd.R_drewN | apply Kd.R_drew)); exact HO_9.out) hb); have n2_ := Aside0.mk (Kd.R_lower (Kd.R_new' ho54 (Kd.R_lt (by (with_reducible repeat (first | apply Kd.R_alloc | apply Kd.R_drewN | apply Kd.R_drew)); exact HO_6.out))) (below_size (by repeat (first | (with_reducible first | exact HB.out | apply below_alloc | apply pw_below_drewN | apply below_drew1) | exact HB.out)))); have n3_ := Aside0.mk (below_step (by repeat (first | (with_reducible first | exact HB.out | apply below_alloc | apply pw_below_drewN | apply below_drew1) | exact HB.out)) hb); clear HO_6; clear HO_9; clear HB; have HO_6 := n0_; have HO_9 := n1_; have HO306 := n2_; have HB := n3_; clear n0_ n1_ n2_ n3_; clear hb ho54; obtain ⟨Ao55, co55, eo55⟩ := Kd.R_slice HO_9.out; subst eo55; obtain ⟨Ao56, co56, eo56⟩ := Kd.R_slice HO306.out; subst eo56) | ((with_reducible refine gate_callee (f := 15) rfl ?_); refine goesL_ (some 62) rfl rfl Try.func15 (by kernel_rfl) rfl #[.slice Ao55 x9_3.length co55, .slice Ao56 y304.length co56] rfl (by (try simp only [List.map_toArray, List.map_cons, List.map_nil]); first | done | rfl | (simp only [List.length_drop, List.length_take]; rfl)) ?_; (with_reducible refine (list_List_Play.calls k3 _ _ x9_3 _ _ y304 t307 t308 _ ?side1 ?side2 ?side3 ?side4 A29.out).mono ?_); (case side1 => repeat (first | exact (Kd.R_reads' HO_9.out).2.2 | (with_reducible refine Kd.C_alloc ?_ _) | (with_reducible refine Kd.C_drewN ?_ _) | (with_reducible refine Kd.C_drew ?_))); (case side2 => exact (Kd.R_reads' HO_9.out).2.1); (case side3 => repeat (first | exact (Kd.R_reads' HO306.out).2.2 | (with_reducible refine Kd.C_alloc ?_ _) | (with_reducible refine Kd.C_drewN ?_ _) | (with_reducible refine Kd.C_drew ?_))); (case side4 => exact (Kd.R_reads' HO306.out).2.1); rintro e w57 ⟨v309, rfl, ho0, hb⟩; refine ⟨_, rfl, ?_⟩; have n0_ := Aside0.mk (Kd.R_below (by (with_reducible repeat (first | apply Kd.R_alloc | apply Kd.R_drewN | apply Kd.R_drew)); exact HO_6.out) hb); have n1_ := Aside0.mk (Kd.R_elder' (by (with_reducible repeat (first | apply Kd.R_alloc | apply Kd.R_drewN | apply Kd.R_drew)); exact HO_9.out) (Kd.R_base ho0) hb); have n2_ := Aside0.mk (Kd.R_below (by (with_reducible repeat (first | apply Kd.R_alloc | apply Kd.R_drewN | apply Kd.R_drew)); exact HO306.out) hb); have n3_ := Aside0.mk (Kd.R_lower (Kd.R_new' ho0 (Kd.R_lt (by (with_reducible repeat (first | apply Kd.R_alloc | apply Kd.R_drewN | apply Kd.R_drew)); exact HO_9.out))) (below_size (by repeat (first | (with_reducible first | exact HB.out | apply below_alloc | apply pw_below_drewN | apply below_drew1) | exact HB.out)))); have n4_ := Aside0.mk (below_step (by repeat (first | (with_reducible first | exact HB.out | apply below_alloc | apply pw_below_drewN | apply below_drew1) | exact HB.out)) hb); clear HO_6; clear HO_9; clear HO306; clear HB; have HO_6 := n0_; have HO_9 := n1_; have HO306 := n2_; have HO310 := n3_; have HB := n4_; clear n0_ n1_ n2_ n3_ n4_; (try clear hb); (try clear hb2); (try clear hk); (try clear hi); (try clear ho0); obtain ⟨Ao58, co58, eo58⟩ := Kd.R_slice HO310.out; subst eo58; have p311 : 0 ≤ (x10_3 : Int) := of_decide_eq_true (by first | (with_reducible assumption) | assumption); have q311 : x10_3 < (t292.length : Int) := of_decide_eq_true (by first | (with_reducible assumption) | assumption); obtain ⟨ad311, e311, hx311_0, hx311_1, hx311_2, hx311_3⟩ := at_T37 (Kd.R_reads' HO_6.out).2.2 x10_3 p311 q311; obtain rfl : ad303 = ad311 := (by injection e311); replace p311 := eq_true p311; replace q311 := eq_true q311))
                            go_ret
                            exact ⟨by first | rfl | (simp [errW_none, errW_some] <;> rfl) | (simp [*, errW_none, errW_some] <;> rfl), by repeat (first | (with_reducible first | exact HB.out | apply below_alloc | apply pw_below_drewN | apply below_drew1) | exact HB.out)⟩
                        · rw [if_neg c31] at H
                          have c31b0 : decide ((t307.length : Int) < (x9_3.length : Int)) = false := decide_eq_false c31
                          have c31b1 : decide (t307.length < x9_3.length) = false := decide_eq_false (fun h => c31 (Int.ofNat_lt.mpr h))
                          clear c31
                          by_cases c59 : ((rd_T37 t292 x10_3).f0) = 1
                          · rw [if_pos c59] at H
                            have c59b0 : (((rd_T37 t292 x10_3).f0) == 1) = true := beq_iff_eq.mpr c59
                            have c59b1 : (((rd_T37 t292 x10_3).f0) != 1) = false := bne_eq_false_iff_eq.mpr c59
                            clear c59
                            by_cases c60 : ((rd_T37 t292 x10_3).f1) < (x9_3.length : Int)
                            · rw [if_pos c60] at H
                              have c60b0 : decide (((rd_T37 t292 x10_3).f1) < (x9_3.length : Int)) = true := decide_eq_true c60
                              clear c60
                              obtain rfl := Option.some.inj H
                              have p303 : 0 ≤ (x10_3 : Int) := of_decide_eq_true (by first | (with_reducible assumption) | assumption)
                              have q303 : x10_3 < (t292.length : Int) := of_decide_eq_true (by first | (with_reducible assumption) | assumption)
                              obtain ⟨ad303, e303, hx303_0, hx303_1, hx303_2, hx303_3⟩ := at_T37 (Kd.R_reads' HO_6.out).2.2 x10_3 p303 q303
                              cases e303
                              replace p303 := eq_true p303
                              replace q303 := eq_true q303
                              go_wp2_with (first | ((with_reducible refine gate_dst (N := 61) rfl ?_); (try (refine gate_guard (by rfl) ?_; dsimp only)); refine Kd.R_lit k37 _ 37 ?hg (N := 61) ?hd (xs := ([(⟨(rd_T37 t292 x10_3).f0, (rd_T37 t292 x10_3).f1, (⟨(rd_T37 t292 x10_3).f2.f0, (rd_T37 t292 x10_3).f2.f1⟩ : S35)⟩ : S37)] : List (S37))) (inner := [.int .i64 ((rd_T37 t292 x10_3).f0), .int .i64 ((rd_T37 t292 x10_3).f1), .int .u32 ((rd_T37 t292 x10_3).f2.f0), .int .u8 ((rd_T37 t292 x10_3).f2.f1)]) (ok := fun _ => True) (okp := fun _ => True) ?hr ?hp (fun _ hk => hk) trivial (Below.refl _ _) (Nat.le_refl _) (by simp) ?_; (case hd => rfl); (case hg => rfl); (case hr => first | (go_simp; done) | (go_simp; rfl)); (case hp => exact (Reps.c4 (show Kd.M k37 _ _ _ (⟨(rd_T37 t292 x10_3).f0, (rd_T37 t292 x10_3).f1, (⟨(rd_T37 t292 x10_3).f2.f0, (rd_T37 t292 x10_3).f2.f1⟩ : S35)⟩ : S37) [.int .i64 ((rd_T37 t292 x10_3).f0), .int .i64 ((rd_T37 t292 x10_3).f1), .int .u32 ((rd_T37 t292 x10_3).f2.f0), .int .u8 ((rd_T37 t292 x10_3).f2.f1)] from (k37_mkM _ _ _ (⟨(rd_T37 t292 x10_3).f0, (rd_T37 t292 x10_3).f1, (⟨(rd_T37 t292 x10_3).f2.f0, (rd_T37 t292 x10_3).f2.f1⟩ : S35)⟩ : S37) )) (Reps.none _ _))); intro v305 w61 ho62 hb hg_ hnew_; clear hg_ hnew_; (first | rw [← Ny304.out] at ho62 | (simp only [Int.reduceToNat] at ho62; rw [← Ny304.out] at ho62)); have n0_ := Aside0.mk (Kd.R_elder' (by (with_reducible repeat (first | apply Kd.R_alloc | apply Kd.R_drewN | apply Kd.R_drew)); exact HO_6.out) (Kd.R_base ho62) hb); have n1_ := Aside0.mk (Kd.R_below (by (with_reducible repeat (first | apply Kd.R_alloc | apply Kd.R_drewN | apply Kd.R_drew)); exact HO_9.out) hb); have n2_ := Aside0.mk (Kd.R_lower (Kd.R_new' ho62 (Kd.R_lt (by (with_reducible repeat (first | apply Kd.R_alloc | apply Kd.R_drewN | apply Kd.R_drew)); exact HO_6.out))) (below_size (by repeat (first | (with_reducible first | exact HB.out | apply below_alloc | apply pw_below_drewN | apply below_drew1) | exact HB.out)))); have n3_ := Aside0.mk (below_step (by repeat (first | (with_reducible first | exact HB.out | apply below_alloc | apply pw_below_drewN | apply below_drew1) | exact HB.out)) hb); clear HO_6; clear HO_9; clear HB; have HO_6 := n0_; have HO_9 := n1_; have HO306 := n2_; have HB := n3_; clear n0_ n1_ n2_ n3_; clear hb ho62; obtain ⟨Ao63, co63, eo63⟩ := Kd.R_slice HO_9.out; subst eo63; obtain ⟨Ao64, co64, eo64⟩ := Kd.R_slice HO306.out; subst eo64) | ((with_reducible refine gate_callee (f := 15) rfl ?_); refine goesL_ (some 62) rfl rfl Try.func15 (by kernel_rfl) rfl #[.slice Ao63 x9_3.length co63, .slice Ao64 y304.length co64] rfl (by (try simp only [List.map_toArray, List.map_cons, List.map_nil]); first | done | rfl | (simp only [List.length_drop, List.length_take]; rfl)) ?_; (with_reducible refine (list_List_Play.calls k3 _ _ x9_3 _ _ y304 t307 t308 _ ?side1 ?side2 ?side3 ?side4 A29.out).mono ?_); (case side1 => repeat (first | exact (Kd.R_reads' HO_9.out).2.2 | (with_reducible refine Kd.C_alloc ?_ _) | (with_reducible refine Kd.C_drewN ?_ _) | (with_reducible refine Kd.C_drew ?_))); (case side2 => exact (Kd.R_reads' HO_9.out).2.1); (case side3 => repeat (first | exact (Kd.R_reads' HO306.out).2.2 | (with_reducible refine Kd.C_alloc ?_ _) | (with_reducible refine Kd.C_drewN ?_ _) | (with_reducible refine Kd.C_drew ?_))); (case side4 => exact (Kd.R_reads' HO306.out).2.1); rintro e w65 ⟨v309, rfl, ho0, hb⟩; refine ⟨_, rfl, ?_⟩; have n0_ := Aside0.mk (Kd.R_below (by (with_reducible repeat (first | apply Kd.R_alloc | apply Kd.R_drewN | apply Kd.R_drew)); exact HO_6.out) hb); have n1_ := Aside0.mk (Kd.R_elder' (by (with_reducible repeat (first | apply Kd.R_alloc | apply Kd.R_drewN | apply Kd.R_drew)); exact HO_9.out) (Kd.R_base ho0) hb); have n2_ := Aside0.mk (Kd.R_below (by (with_reducible repeat (first | apply Kd.R_alloc | apply Kd.R_drewN | apply Kd.R_drew)); exact HO306.out) hb); have n3_ := Aside0.mk (Kd.R_lower (Kd.R_new' ho0 (Kd.R_lt (by (with_reducible repeat (first | apply Kd.R_alloc | apply Kd.R_drewN | apply Kd.R_drew)); exact HO_9.out))) (below_size (by repeat (first | (with_reducible first | exact HB.out | apply below_alloc | apply pw_below_drewN | apply below_drew1) | exact HB.out)))); have n4_ := Aside0.mk (below_step (by repeat (first | (with_reducible first | exact HB.out | apply below_alloc | apply pw_below_drewN | apply below_drew1) | exact HB.out)) hb); clear HO_6; clear HO_9; clear HO306; clear HB; have HO_6 := n0_; have HO_9 := n1_; have HO306 := n2_; have HO310 := n3_; have HB := n4_; clear n0_ n1_ n2_ n3_ n4_; (try clear hb); (try clear hb2); (try clear hk); (try clear hi); (try clear ho0); obtain ⟨Ao66, co66, eo66⟩ := Kd.R_slice HO310.out; subst eo66; have p314 : 0 ≤ (x10_3 : Int) := of_decide_eq_true (by first | (with_reducible assumption) | assumption); have q314 : x10_3 < (t292.length : Int) := of_decide_eq_true (by first | (with_reducible assumption) | assumption); obtain ⟨ad314, e314, hx314_0, hx314_1, hx314_2, hx314_3⟩ := at_T37 (Kd.R_reads' HO_6.out).2.2 x10_3 p314 q314; obtain rfl : ad303 = ad314 := (by injection e314); replace p314 := eq_true p314; replace q314 := eq_true q314; have p315 : 0 ≤ (x10_3 : Int) := of_decide_eq_true (by first | (with_reducible assumption) | assumption); have q315 : x10_3 < (t292.length : Int) := of_decide_eq_true (by first | (with_reducible assumption) | assumption); obtain ⟨ad315, e315, hx315_0, hx315_1, hx315_2, hx315_3⟩ := at_T37 (Kd.R_reads' HO_6.out).2.2 x10_3 p315 q315; obtain rfl : ad303 = ad315 := (by injection e315); replace p315 := eq_true p315; replace q315 := eq_true q315))
                              go_ret
                              exact ⟨by first | rfl | (simp [errW_none, errW_some] <;> rfl) | (simp [*, errW_none, errW_some] <;> rfl), by repeat (first | (with_reducible first | exact HB.out | apply below_alloc | apply pw_below_drewN | apply below_drew1) | exact HB.out)⟩
                            · rw [if_neg c60] at H
                              have c60b0 : decide (((rd_T37 t292 x10_3).f1) < (x9_3.length : Int)) = false := decide_eq_false c60
                              clear c60
                              have H' := Aside0.mk H
                              clear H
                              have p303 : 0 ≤ (x10_3 : Int) := of_decide_eq_true (by first | (with_reducible assumption) | assumption)
                              have q303 : x10_3 < (t292.length : Int) := of_decide_eq_true (by first | (with_reducible assumption) | assumption)
                              obtain ⟨ad303, e303, hx303_0, hx303_1, hx303_2, hx303_3⟩ := at_T37 (Kd.R_reads' HO_6.out).2.2 x10_3 p303 q303
                              cases e303
                              replace p303 := eq_true p303
                              replace q303 := eq_true q303
                              go_wp2_with (first | ((with_reducible refine gate_dst (N := 61) rfl ?_); (try (refine gate_guard (by rfl) ?_; dsimp only)); refine Kd.R_lit k37 _ 37 ?hg (N := 61) ?hd (xs := ([(⟨(rd_T37 t292 x10_3).f0, (rd_T37 t292 x10_3).f1, (⟨(rd_T37 t292 x10_3).f2.f0, (rd_T37 t292 x10_3).f2.f1⟩ : S35)⟩ : S37)] : List (S37))) (inner := [.int .i64 ((rd_T37 t292 x10_3).f0), .int .i64 ((rd_T37 t292 x10_3).f1), .int .u32 ((rd_T37 t292 x10_3).f2.f0), .int .u8 ((rd_T37 t292 x10_3).f2.f1)]) (ok := fun _ => True) (okp := fun _ => True) ?hr ?hp (fun _ hk => hk) trivial (Below.refl _ _) (Nat.le_refl _) (by simp) ?_; (case hd => rfl); (case hg => rfl); (case hr => first | (go_simp; done) | (go_simp; rfl)); (case hp => exact (Reps.c4 (show Kd.M k37 _ _ _ (⟨(rd_T37 t292 x10_3).f0, (rd_T37 t292 x10_3).f1, (⟨(rd_T37 t292 x10_3).f2.f0, (rd_T37 t292 x10_3).f2.f1⟩ : S35)⟩ : S37) [.int .i64 ((rd_T37 t292 x10_3).f0), .int .i64 ((rd_T37 t292 x10_3).f1), .int .u32 ((rd_T37 t292 x10_3).f2.f0), .int .u8 ((rd_T37 t292 x10_3).f2.f1)] from (k37_mkM _ _ _ (⟨(rd_T37 t292 x10_3).f0, (rd_T37 t292 x10_3).f1, (⟨(rd_T37 t292 x10_3).f2.f0, (rd_T37 t292 x10_3).f2.f1⟩ : S35)⟩ : S37) )) (Reps.none _ _))); intro v305 w67 ho68 hb hg_ hnew_; clear hg_ hnew_; (first | rw [← Ny304.out] at ho68 | (simp only [Int.reduceToNat] at ho68; rw [← Ny304.out] at ho68)); have n0_ := Aside0.mk (Kd.R_elder' (by (with_reducible repeat (first | apply Kd.R_alloc | apply Kd.R_drewN | apply Kd.R_drew)); exact HO_6.out) (Kd.R_base ho68) hb); have n1_ := Aside0.mk (Kd.R_below (by (with_reducible repeat (first | apply Kd.R_alloc | apply Kd.R_drewN | apply Kd.R_drew)); exact HO_9.out) hb); have n2_ := Aside0.mk (Kd.R_lower (Kd.R_new' ho68 (Kd.R_lt (by (with_reducible repeat (first | apply Kd.R_alloc | apply Kd.R_drewN | apply Kd.R_drew)); exact HO_6.out))) (below_size (by repeat (first | (with_reducible first | exact HB.out | apply below_alloc | apply pw_below_drewN | apply below_drew1) | exact HB.out)))); have n3_ := Aside0.mk (below_step (by repeat (first | (with_reducible first | exact HB.out | apply below_alloc | apply pw_below_drewN | apply below_drew1) | exact HB.out)) hb); clear HO_6; clear HO_9; clear HB; have HO_6 := n0_; have HO_9 := n1_; have HO306 := n2_; have HB := n3_; clear n0_ n1_ n2_ n3_; clear hb ho68; obtain ⟨Ao69, co69, eo69⟩ := Kd.R_slice HO_9.out; subst eo69; obtain ⟨Ao70, co70, eo70⟩ := Kd.R_slice HO306.out; subst eo70) | ((with_reducible refine gate_callee (f := 15) rfl ?_); refine goesL_ (some 62) rfl rfl Try.func15 (by kernel_rfl) rfl #[.slice Ao69 x9_3.length co69, .slice Ao70 y304.length co70] rfl (by (try simp only [List.map_toArray, List.map_cons, List.map_nil]); first | done | rfl | (simp only [List.length_drop, List.length_take]; rfl)) ?_; (with_reducible refine (list_List_Play.calls k3 _ _ x9_3 _ _ y304 t307 t308 _ ?side1 ?side2 ?side3 ?side4 A29.out).mono ?_); (case side1 => repeat (first | exact (Kd.R_reads' HO_9.out).2.2 | (with_reducible refine Kd.C_alloc ?_ _) | (with_reducible refine Kd.C_drewN ?_ _) | (with_reducible refine Kd.C_drew ?_))); (case side2 => exact (Kd.R_reads' HO_9.out).2.1); (case side3 => repeat (first | exact (Kd.R_reads' HO306.out).2.2 | (with_reducible refine Kd.C_alloc ?_ _) | (with_reducible refine Kd.C_drewN ?_ _) | (with_reducible refine Kd.C_drew ?_))); (case side4 => exact (Kd.R_reads' HO306.out).2.1); rintro e w71 ⟨v309, rfl, ho0, hb⟩; refine ⟨_, rfl, ?_⟩; have n0_ := Aside0.mk (Kd.R_below (by (with_reducible repeat (first | apply Kd.R_alloc | apply Kd.R_drewN | apply Kd.R_drew)); exact HO_6.out) hb); have n1_ := Aside0.mk (Kd.R_elder' (by (with_reducible repeat (first | apply Kd.R_alloc | apply Kd.R_drewN | apply Kd.R_drew)); exact HO_9.out) (Kd.R_base ho0) hb); have n2_ := Aside0.mk (Kd.R_below (by (with_reducible repeat (first | apply Kd.R_alloc | apply Kd.R_drewN | apply Kd.R_drew)); exact HO306.out) hb); have n3_ := Aside0.mk (Kd.R_lower (Kd.R_new' ho0 (Kd.R_lt (by (with_reducible repeat (first | apply Kd.R_alloc | apply Kd.R_drewN | apply Kd.R_drew)); exact HO_9.out))) (below_size (by repeat (first | (with_reducible first | exact HB.out | apply below_alloc | apply pw_below_drewN | apply below_drew1) | exact HB.out)))); have n4_ := Aside0.mk (below_step (by repeat (first | (with_reducible first | exact HB.out | apply below_alloc | apply pw_below_drewN | apply below_drew1) | exact HB.out)) hb); clear HO_6; clear HO_9; clear HO306; clear HB; have HO_6 := n0_; have HO_9 := n1_; have HO306 := n2_; have HO310 := n3_; have HB := n4_; clear n0_ n1_ n2_ n3_ n4_; (try clear hb); (try clear hb2); (try clear hk); (try clear hi); (try clear ho0); obtain ⟨Ao72, co72, eo72⟩ := Kd.R_slice HO310.out; subst eo72; have p314 : 0 ≤ (x10_3 : Int) := of_decide_eq_true (by first | (with_reducible assumption) | assumption); have q314 : x10_3 < (t292.length : Int) := of_decide_eq_true (by first | (with_reducible assumption) | assumption); obtain ⟨ad314, e314, hx314_0, hx314_1, hx314_2, hx314_3⟩ := at_T37 (Kd.R_reads' HO_6.out).2.2 x10_3 p314 q314; obtain rfl : ad303 = ad314 := (by injection e314); replace p314 := eq_true p314; replace q314 := eq_true q314; have p315 : 0 ≤ (x10_3 : Int) := of_decide_eq_true (by first | (with_reducible assumption) | assumption); have q315 : x10_3 < (t292.length : Int) := of_decide_eq_true (by first | (with_reducible assumption) | assumption); obtain ⟨ad315, e315, hx315_0, hx315_1, hx315_2, hx315_3⟩ := at_T37 (Kd.R_reads' HO_6.out).2.2 x10_3 p315 q315; obtain rfl : ad303 = ad315 := (by injection e315); replace p315 := eq_true p315; replace q315 := eq_true q315))
                              go_roundg k3
                              case measure => have := HJ2.out; have := HJ11.out; have := HK3.out; omega
                              case rel => exact ⟨(t307), (wrap64 (x10_3 + 1)), (by first | rfl | (simp; done) | (simp [*]; done)), H', ⟨by have := HJ2.out; have := HJ11.out; have := HK3.out; omega⟩, ⟨by (with_reducible repeat (first | apply Kd.R_alloc | apply Kd.R_drewN | apply Kd.R_drew)); exact Kd.R_mono HO_6.out (fun _ hk => trivial)⟩, ⟨by (with_reducible repeat (first | apply Kd.R_alloc | apply Kd.R_drewN | apply Kd.R_drew)); exact Kd.R_mono HO310.out (fun _ hk => trivial)⟩, ⟨by repeat (first | (with_reducible first | exact HB.out | apply below_alloc | apply pw_below_drewN | apply below_drew1) | exact HB.out)⟩⟩
                          · rw [if_neg c59] at H
                            have c59b0 : (((rd_T37 t292 x10_3).f0) == 1) = false := beq_eq_false_iff_ne.mpr c59
                            have c59b1 : (((rd_T37 t292 x10_3).f0) != 1) = true := bne_iff_ne.mpr c59
                            have H' := Aside0.mk H
                            clear H
                            have p303 : 0 ≤ (x10_3 : Int) := of_decide_eq_true (by first | (with_reducible assumption) | assumption)
                            have q303 : x10_3 < (t292.length : Int) := of_decide_eq_true (by first | (with_reducible assumption) | assumption)
                            obtain ⟨ad303, e303, hx303_0, hx303_1, hx303_2, hx303_3⟩ := at_T37 (Kd.R_reads' HO_6.out).2.2 x10_3 p303 q303
                            cases e303
                            replace p303 := eq_true p303
                            replace q303 := eq_true q303
                            go_wp2_with (first | ((with_reducible refine gate_dst (N := 61) rfl ?_); (try (refine gate_guard (by rfl) ?_; dsimp only)); refine Kd.R_lit k37 _ 37 ?hg (N := 61) ?hd (xs := ([(⟨(rd_T37 t292 x10_3).f0, (rd_T37 t292 x10_3).f1, (⟨(rd_T37 t292 x10_3).f2.f0, (rd_T37 t292 x10_3).f2.f1⟩ : S35)⟩ : S37)] : List (S37))) (inner := [.int .i64 ((rd_T37 t292 x10_3).f0), .int .i64 ((rd_T37 t292 x10_3).f1), .int .u32 ((rd_T37 t292 x10_3).f2.f0), .int .u8 ((rd_T37 t292 x10_3).f2.f1)]) (ok := fun _ => True) (okp := fun _ => True) ?hr ?hp (fun _ hk => hk) trivial (Below.refl _ _) (Nat.le_refl _) (by simp) ?_; (case hd => rfl); (case hg => rfl); (case hr => first | (go_simp; done) | (go_simp; rfl)); (case hp => exact (Reps.c4 (show Kd.M k37 _ _ _ (⟨(rd_T37 t292 x10_3).f0, (rd_T37 t292 x10_3).f1, (⟨(rd_T37 t292 x10_3).f2.f0, (rd_T37 t292 x10_3).f2.f1⟩ : S35)⟩ : S37) [.int .i64 ((rd_T37 t292 x10_3).f0), .int .i64 ((rd_T37 t292 x10_3).f1), .int .u32 ((rd_T37 t292 x10_3).f2.f0), .int .u8 ((rd_T37 t292 x10_3).f2.f1)] from (k37_mkM _ _ _ (⟨(rd_T37 t292 x10_3).f0, (rd_T37 t292 x10_3).f1, (⟨(rd_T37 t292 x10_3).f2.f0, (rd_T37 t292 x10_3).f2.f1⟩ : S35)⟩ : S37) )) (Reps.none _ _))); intro v305 w73 ho74 hb hg_ hnew_; clear hg_ hnew_; (first | rw [← Ny304.out] at ho74 | (simp only [Int.reduceToNat] at ho74; rw [← Ny304.out] at ho74)); have n0_ := Aside0.mk (Kd.R_elder' (by (with_reducible repeat (first | apply Kd.R_alloc | apply Kd.R_drewN | apply Kd.R_drew)); exact HO_6.out) (Kd.R_base ho74) hb); have n1_ := Aside0.mk (Kd.R_below (by (with_reducible repeat (first | apply Kd.R_alloc | apply Kd.R_drewN | apply Kd.R_drew)); exact HO_9.out) hb); have n2_ := Aside0.mk (Kd.R_lower (Kd.R_new' ho74 (Kd.R_lt (by (with_reducible repeat (first | apply Kd.R_alloc | apply Kd.R_drewN | apply Kd.R_drew)); exact HO_6.out))) (below_size (by repeat (first | (with_reducible first | exact HB.out | apply below_alloc | apply pw_below_drewN | apply below_drew1) | exact HB.out)))); have n3_ := Aside0.mk (below_step (by repeat (first | (with_reducible first | exact HB.out | apply below_alloc | apply pw_below_drewN | apply below_drew1) | exact HB.out)) hb); clear HO_6; clear HO_9; clear HB; have HO_6 := n0_; have HO_9 := n1_; have HO306 := n2_; have HB := n3_; clear n0_ n1_ n2_ n3_; clear hb ho74; obtain ⟨Ao75, co75, eo75⟩ := Kd.R_slice HO_9.out; subst eo75; obtain ⟨Ao76, co76, eo76⟩ := Kd.R_slice HO306.out; subst eo76) | ((with_reducible refine gate_callee (f := 15) rfl ?_); refine goesL_ (some 62) rfl rfl Try.func15 (by kernel_rfl) rfl #[.slice Ao75 x9_3.length co75, .slice Ao76 y304.length co76] rfl (by (try simp only [List.map_toArray, List.map_cons, List.map_nil]); first | done | rfl | (simp only [List.length_drop, List.length_take]; rfl)) ?_; (with_reducible refine (list_List_Play.calls k3 _ _ x9_3 _ _ y304 t307 t308 _ ?side1 ?side2 ?side3 ?side4 A29.out).mono ?_); (case side1 => repeat (first | exact (Kd.R_reads' HO_9.out).2.2 | (with_reducible refine Kd.C_alloc ?_ _) | (with_reducible refine Kd.C_drewN ?_ _) | (with_reducible refine Kd.C_drew ?_))); (case side2 => exact (Kd.R_reads' HO_9.out).2.1); (case side3 => repeat (first | exact (Kd.R_reads' HO306.out).2.2 | (with_reducible refine Kd.C_alloc ?_ _) | (with_reducible refine Kd.C_drewN ?_ _) | (with_reducible refine Kd.C_drew ?_))); (case side4 => exact (Kd.R_reads' HO306.out).2.1); rintro e w77 ⟨v309, rfl, ho0, hb⟩; refine ⟨_, rfl, ?_⟩; have n0_ := Aside0.mk (Kd.R_below (by (with_reducible repeat (first | apply Kd.R_alloc | apply Kd.R_drewN | apply Kd.R_drew)); exact HO_6.out) hb); have n1_ := Aside0.mk (Kd.R_elder' (by (with_reducible repeat (first | apply Kd.R_alloc | apply Kd.R_drewN | apply Kd.R_drew)); exact HO_9.out) (Kd.R_base ho0) hb); have n2_ := Aside0.mk (Kd.R_below (by (with_reducible repeat (first | apply Kd.R_alloc | apply Kd.R_drewN | apply Kd.R_drew)); exact HO306.out) hb); have n3_ := Aside0.mk (Kd.R_lower (Kd.R_new' ho0 (Kd.R_lt (by (with_reducible repeat (first | apply Kd.R_alloc | apply Kd.R_drewN | apply Kd.R_drew)); exact HO_9.out))) (below_size (by repeat (first | (with_reducible first | exact HB.out | apply below_alloc | apply pw_below_drewN | apply below_drew1) | exact HB.out)))); have n4_ := Aside0.mk (below_step (by repeat (first | (with_reducible first | exact HB.out | apply below_alloc | apply pw_below_drewN | apply below_drew1) | exact HB.out)) hb); clear HO_6; clear HO_9; clear HO306; clear HB; have HO_6 := n0_; have HO_9 := n1_; have HO306 := n2_; have HO310 := n3_; have HB := n4_; clear n0_ n1_ n2_ n3_ n4_; (try clear hb); (try clear hb2); (try clear hk); (try clear hi); (try clear ho0); obtain ⟨Ao78, co78, eo78⟩ := Kd.R_slice HO310.out; subst eo78; have p314 : 0 ≤ (x10_3 : Int) := of_decide_eq_true (by first | (with_reducible assumption) | assumption); have q314 : x10_3 < (t292.length : Int) := of_decide_eq_true (by first | (with_reducible assumption) | assumption); obtain ⟨ad314, e314, hx314_0, hx314_1, hx314_2, hx314_3⟩ := at_T37 (Kd.R_reads' HO_6.out).2.2 x10_3 p314 q314; obtain rfl : ad303 = ad314 := (by injection e314); replace p314 := eq_true p314; replace q314 := eq_true q314))
                            go_roundg k3
                            case measure => have := HJ2.out; have := HJ11.out; have := HK3.out; omega
                            case rel => exact ⟨(t307), (wrap64 (x10_3 + 1)), (by first | rfl | (simp; done) | (simp [*]; done)), H', ⟨by have := HJ2.out; have := HJ11.out; have := HK3.out; omega⟩, ⟨by (with_reducible repeat (first | apply Kd.R_alloc | apply Kd.R_drewN | apply Kd.R_drew)); exact Kd.R_mono HO_6.out (fun _ hk => trivial)⟩, ⟨by (with_reducible repeat (first | apply Kd.R_alloc | apply Kd.R_drewN | apply Kd.R_drew)); exact Kd.R_mono HO310.out (fun _ hk => trivial)⟩, ⟨by repeat (first | (with_reducible first | exact HB.out | apply below_alloc | apply pw_below_drewN | apply below_drew1) | exact HB.out)⟩⟩
                      · rw [if_neg c30] at H
                        have c30b0 : (t308 == 0) = false := beq_eq_false_iff_ne.mpr c30
                        have c30b1 : (t308 != 0) = true := bne_iff_ne.mpr c30
                        obtain rfl := Option.some.inj H
                        have p303 : 0 ≤ (x10_3 : Int) := of_decide_eq_true (by first | (with_reducible assumption) | assumption)
                        have q303 : x10_3 < (t292.length : Int) := of_decide_eq_true (by first | (with_reducible assumption) | assumption)
                        obtain ⟨ad303, e303, hx303_0, hx303_1, hx303_2, hx303_3⟩ := at_T37 (Kd.R_reads' HO_6.out).2.2 x10_3 p303 q303
                        cases e303
                        replace p303 := eq_true p303
                        replace q303 := eq_true q303
                        go_wp2_with (first | ((with_reducible refine gate_dst (N := 61) rfl ?_); (try (refine gate_guard (by rfl) ?_; dsimp only)); refine Kd.R_lit k37 _ 37 ?hg (N := 61) ?hd (xs := ([(⟨(rd_T37 t292 x10_3).f0, (rd_T37 t292 x10_3).f1, (⟨(rd_T37 t292 x10_3).f2.f0, (rd_T37 t292 x10_3).f2.f1⟩ : S35)⟩ : S37)] : List (S37))) (inner := [.int .i64 ((rd_T37 t292 x10_3).f0), .int .i64 ((rd_T37 t292 x10_3).f1), .int .u32 ((rd_T37 t292 x10_3).f2.f0), .int .u8 ((rd_T37 t292 x10_3).f2.f1)]) (ok := fun _ => True) (okp := fun _ => True) ?hr ?hp (fun _ hk => hk) trivial (Below.refl _ _) (Nat.le_refl _) (by simp) ?_; (case hd => rfl); (case hg => rfl); (case hr => first | (go_simp; done) | (go_simp; rfl)); (case hp => exact (Reps.c4 (show Kd.M k37 _ _ _ (⟨(rd_T37 t292 x10_3).f0, (rd_T37 t292 x10_3).f1, (⟨(rd_T37 t292 x10_3).f2.f0, (rd_T37 t292 x10_3).f2.f1⟩ : S35)⟩ : S37) [.int .i64 ((rd_T37 t292 x10_3).f0), .int .i64 ((rd_T37 t292 x10_3).f1), .int .u32 ((rd_T37 t292 x10_3).f2.f0), .int .u8 ((rd_T37 t292 x10_3).f2.f1)] from (k37_mkM _ _ _ (⟨(rd_T37 t292 x10_3).f0, (rd_T37 t292 x10_3).f1, (⟨(rd_T37 t292 x10_3).f2.f0, (rd_T37 t292 x10_3).f2.f1⟩ : S35)⟩ : S37) )) (Reps.none _ _))); intro v305 w79 ho80 hb hg_ hnew_; clear hg_ hnew_; (first | rw [← Ny304.out] at ho80 | (simp only [Int.reduceToNat] at ho80; rw [← Ny304.out] at ho80)); have n0_ := Aside0.mk (Kd.R_elder' (by (with_reducible repeat (first | apply Kd.R_alloc | apply Kd.R_drewN | apply Kd.R_drew)); exact HO_6.out) (Kd.R_base ho80) hb); have n1_ := Aside0.mk (Kd.R_below (by (with_reducible repeat (first | apply Kd.R_alloc | apply Kd.R_drewN | apply Kd.R_drew)); exact HO_9.out) hb); have n2_ := Aside0.mk (Kd.R_lower (Kd.R_new' ho80 (Kd.R_lt (by (with_reducible repeat (first | apply Kd.R_alloc | apply Kd.R_drewN | apply Kd.R_drew)); exact HO_6.out))) (below_size (by repeat (first | (with_reducible first | exact HB.out | apply below_alloc | apply pw_below_drewN | apply below_drew1) | exact HB.out)))); have n3_ := Aside0.mk (below_step (by repeat (first | (with_reducible first | exact HB.out | apply below_alloc | apply pw_below_drewN | apply below_drew1) | exact HB.out)) hb); clear HO_6; clear HO_9; clear HB; have HO_6 := n0_; have HO_9 := n1_; have HO306 := n2_; have HB := n3_; clear n0_ n1_ n2_ n3_; clear hb ho80; obtain ⟨Ao81, co81, eo81⟩ := Kd.R_slice HO_9.out; subst eo81; obtain ⟨Ao82, co82, eo82⟩ := Kd.R_slice HO306.out; subst eo82) | ((with_reducible refine gate_callee (f := 15) rfl ?_); refine goesL_ (some 62) rfl rfl Try.func15 (by kernel_rfl) rfl #[.slice Ao81 x9_3.length co81, .slice Ao82 y304.length co82] rfl (by (try simp only [List.map_toArray, List.map_cons, List.map_nil]); first | done | rfl | (simp only [List.length_drop, List.length_take]; rfl)) ?_; (with_reducible refine (list_List_Play.calls k3 _ _ x9_3 _ _ y304 t307 t308 _ ?side1 ?side2 ?side3 ?side4 A29.out).mono ?_); (case side1 => repeat (first | exact (Kd.R_reads' HO_9.out).2.2 | (with_reducible refine Kd.C_alloc ?_ _) | (with_reducible refine Kd.C_drewN ?_ _) | (with_reducible refine Kd.C_drew ?_))); (case side2 => exact (Kd.R_reads' HO_9.out).2.1); (case side3 => repeat (first | exact (Kd.R_reads' HO306.out).2.2 | (with_reducible refine Kd.C_alloc ?_ _) | (with_reducible refine Kd.C_drewN ?_ _) | (with_reducible refine Kd.C_drew ?_))); (case side4 => exact (Kd.R_reads' HO306.out).2.1); rintro e w83 ⟨v309, rfl, ho0, hb⟩; refine ⟨_, rfl, ?_⟩; have n0_ := Aside0.mk (Kd.R_below (by (with_reducible repeat (first | apply Kd.R_alloc | apply Kd.R_drewN | apply Kd.R_drew)); exact HO_6.out) hb); have n1_ := Aside0.mk (Kd.R_elder' (by (with_reducible repeat (first | apply Kd.R_alloc | apply Kd.R_drewN | apply Kd.R_drew)); exact HO_9.out) (Kd.R_base ho0) hb); have n2_ := Aside0.mk (Kd.R_below (by (with_reducible repeat (first | apply Kd.R_alloc | apply Kd.R_drewN | apply Kd.R_drew)); exact HO306.out) hb); have n3_ := Aside0.mk (Kd.R_lower (Kd.R_new' ho0 (Kd.R_lt (by (with_reducible repeat (first | apply Kd.R_alloc | apply Kd.R_drewN | apply Kd.R_drew)); exact HO_9.out))) (below_size (by repeat (first | (with_reducible first | exact HB.out | apply below_alloc | apply pw_below_drewN | apply below_drew1) | exact HB.out)))); have n4_ := Aside0.mk (below_step (by repeat (first | (with_reducible first | exact HB.out | apply below_alloc | apply pw_below_drewN | apply below_drew1) | exact HB.out)) hb); clear HO_6; clear HO_9; clear HO306; clear HB; have HO_6 := n0_; have HO_9 := n1_; have HO306 := n2_; have HO310 := n3_; have HB := n4_; clear n0_ n1_ n2_ n3_ n4_; (try clear hb); (try clear hb2); (try clear hk); (try clear hi); (try clear ho0)))
                        go_ret
                        exact ⟨by first | rfl | (simp [errW_none, errW_some] <;> rfl) | (simp [*, errW_none, errW_some] <;> rfl), by repeat (first | (with_reducible first | exact HB.out | apply below_alloc | apply pw_below_drewN | apply below_drew1) | exact HB.out)⟩
                    · rw [if_neg c28] at H
                      exact absurd H (by simp)
                  · rw [if_neg c27] at H
                    have c27b0 : decide (x10_3 < (t292.length : Int)) = false := decide_eq_false c27
                    clear c27
                    replace H := Option.bind_eq_some_iff.mp H
                    obtain ⟨t316, A840, H⟩ := H
                    replace H : ((postchaiselaw11_Own.f k3 l1).bind fun t319 => ((list_List_Diff.f k3 t316 t319).bind fun t322 => (if (t322.length : Int) = 0 then ((postchaiselaw11_awake.f k3).bind fun t325 => (some t325)) else (some false)))) = some r := H
                    have A84 := Aside0.mk A840
                    clear A840
                    replace H := Option.bind_eq_some_iff.mp H
                    obtain ⟨t319, A850, H⟩ := H
                    replace H : ((list_List_Diff.f k3 t316 t319).bind fun t322 => (if (t322.length : Int) = 0 then ((postchaiselaw11_awake.f k3).bind fun t325 => (some t325)) else (some false))) = some r := H
                    have A85 := Aside0.mk A850
                    clear A850
                    replace H := Option.bind_eq_some_iff.mp H
                    obtain ⟨t322, A860, H⟩ := H
                    replace H : (if (t322.length : Int) = 0 then ((postchaiselaw11_awake.f k3).bind fun t325 => (some t325)) else (some false)) = some r := H
                    have A86 := Aside0.mk A860
                    clear A860
                    by_cases c87 : (t322.length : Int) = 0
                    · rw [if_pos c87] at H
                      have c87b0 : ((t322.length : Int) == 0) = true := beq_iff_eq.mpr c87
                      have c87b1 : ((t322.length : Int) != 0) = false := bne_eq_false_iff_eq.mpr c87
                      clear c87
                      replace H := Option.bind_eq_some_iff.mp H
                      obtain ⟨t325, A880, H⟩ := H
                      replace H : (some t325) = some r := H
                      have A88 := Aside0.mk A880
                      clear A880
                      obtain rfl := Option.some.inj H
                      go_wp2_with (first | ((with_reducible refine gate_callee (f := 10) rfl ?_); refine goesL_ (some 102) rfl rfl Try.func10 (by kernel_rfl) rfl #[.slice A1 l1.length c1] rfl (by (try simp only [List.map_toArray, List.map_cons, List.map_nil]); first | done | rfl | (simp only [List.length_drop, List.length_take]; rfl)) ?_; (with_reducible refine (postchaiselaw11_Own.calls k3 _ _ l1 t316 _ ?side1 ?side2 A84.out).mono ?_); (case side1 => repeat (first | exact (Kd.C_below HR1.out HB.out) | (with_reducible refine Kd.C_alloc ?_ _) | (with_reducible refine Kd.C_drewN ?_ _) | (with_reducible refine Kd.C_drew ?_))); (case side2 => exact HC1.out); rintro e w89 ⟨v317, rfl, ho0, hb⟩; refine ⟨_, rfl, ?_⟩; have n0_ := Aside0.mk (Kd.R_below (by (with_reducible repeat (first | apply Kd.R_alloc | apply Kd.R_drewN | apply Kd.R_drew)); exact HO_6.out) hb); have n1_ := Aside0.mk (Kd.R_elder' (by (with_reducible repeat (first | apply Kd.R_alloc | apply Kd.R_drewN | apply Kd.R_drew)); exact HO_9.out) (Kd.R_base ho0) hb); have n2_ := Aside0.mk (Kd.R_lower (Kd.R_new' ho0 (Kd.R_lt (by (with_reducible repeat (first | apply Kd.R_alloc | apply Kd.R_drewN | apply Kd.R_drew)); exact HO_9.out))) (below_size (by repeat (first | (with_reducible first | exact HB.out | apply below_alloc | apply pw_below_drewN | apply below_drew1) | exact HB.out)))); have n3_ := Aside0.mk (below_step (by repeat (first | (with_reducible first | exact HB.out | apply below_alloc | apply pw_below_drewN | apply below_drew1) | exact HB.out)) hb); clear HO_6; clear HO_9; clear HB; have HO_6 := n0_; have HO_9 := n1_; have HO318 := n2_; have HB := n3_; clear n0_ n1_ n2_ n3_; (try clear hb); (try clear hb2); (try clear hk); (try clear hi); (try clear ho0)) | ((with_reducible refine gate_callee (f := 10) rfl ?_); refine goesL_ (some 104) rfl rfl Try.func10 (by kernel_rfl) rfl #[.slice A1 l1.length c1] rfl (by (try simp only [List.map_toArray, List.map_cons, List.map_nil]); first | done | rfl | (simp only [List.length_drop, List.length_take]; rfl)) ?_; (with_reducible refine (postchaiselaw11_Own.calls k3 _ _ l1 t319 _ ?side1 ?side2 A85.out).mono ?_); (case side1 => repeat (first | exact (Kd.C_below HR1.out HB.out) | (with_reducible refine Kd.C_alloc ?_ _) | (with_reducible refine Kd.C_drewN ?_ _) | (with_reducible refine Kd.C_drew ?_))); (case side2 => exact HC1.out); rintro e w90 ⟨v320, rfl, ho0, hb⟩; refine ⟨_, rfl, ?_⟩; have n0_ := Aside0.mk (Kd.R_below (by (with_reducible repeat (first | apply Kd.R_alloc | apply Kd.R_drewN | apply Kd.R_drew)); exact HO_6.out) hb); have n1_ := Aside0.mk (Kd.R_elder' (by (with_reducible repeat (first | apply Kd.R_alloc | apply Kd.R_drewN | apply Kd.R_drew)); exact HO_9.out) (Kd.R_base ho0) hb); have n2_ := Aside0.mk (Kd.R_elder' (by (with_reducible repeat (first | apply Kd.R_alloc | apply Kd.R_drewN | apply Kd.R_drew)); exact HO318.out) (Kd.R_base ho0) hb); have n3_ := Aside0.mk (Kd.R_lower (Kd.R_new' (Kd.R_new' ho0 (Kd.R_lt (by (with_reducible repeat (first | apply Kd.R_alloc | apply Kd.R_drewN | apply Kd.R_drew)); exact HO_9.out))) (Kd.R_lt (by (with_reducible repeat (first | apply Kd.R_alloc | apply Kd.R_drewN | apply Kd.R_drew)); exact HO318.out))) (below_size (by repeat (first | (with_reducible first | exact HB.out | apply below_alloc | apply pw_below_drewN | apply below_drew1) | exact HB.out)))); have n4_ := Aside0.mk (below_step (by repeat (first | (with_reducible first | exact HB.out | apply below_alloc | apply pw_below_drewN | apply below_drew1) | exact HB.out)) hb); clear HO_6; clear HO_9; clear HO318; clear HB; have HO_6 := n0_; have HO_9 := n1_; have HO318 := n2_; have HO321 := n3_; have HB := n4_; clear n0_ n1_ n2_ n3_ n4_; (try clear hb); (try clear hb2); (try clear hk); (try clear hi); (try clear ho0); obtain ⟨Ao91, co91, eo91⟩ := Kd.R_slice HO318.out; subst eo91; obtain ⟨Ao92, co92, eo92⟩ := Kd.R_slice HO321.out; subst eo92) | ((with_reducible refine gate_callee (f := 11) rfl ?_); refine goesL_ (some 105) rfl rfl Try.func11 (by kernel_rfl) rfl #[.slice Ao91 t316.length co91, .slice Ao92 t319.length co92] rfl (by (try simp only [List.map_toArray, List.map_cons, List.map_nil]); first | done | rfl | (simp only [List.length_drop, List.length_take]; rfl)) ?_; (with_reducible refine (list_List_Diff.calls k3 _ _ t316 _ _ t319 t322 _ ?side1 ?side2 ?side3 ?side4 A86.out).mono ?_); (case side1 => repeat (first | exact (Kd.R_reads' HO318.out).2.2 | (with_reducible refine Kd.C_alloc ?_ _) | (with_reducible refine Kd.C_drewN ?_ _) | (with_reducible refine Kd.C_drew ?_))); (case side2 => exact (Kd.R_reads' HO318.out).2.1); (case side3 => repeat (first | exact (Kd.R_reads' HO321.out).2.2 | (with_reducible refine Kd.C_alloc ?_ _) | (with_reducible refine Kd.C_drewN ?_ _) | (with_reducible refine Kd.C_drew ?_))); (case side4 => exact (Kd.R_reads' HO321.out).2.1); rintro e w93 ⟨v323, rfl, ho0, hb⟩; refine ⟨_, rfl, ?_⟩; have n0_ := Aside0.mk (Kd.R_elder' (by (with_reducible repeat (first | apply Kd.R_alloc | apply Kd.R_drewN | apply Kd.R_drew)); exact HO_6.out) (Kd.R_base ho0) hb); have n1_ := Aside0.mk (Kd.R_below (by (with_reducible repeat (first | apply Kd.R_alloc | apply Kd.R_drewN | apply Kd.R_drew)); exact HO_9.out) hb); have n2_ := Aside0.mk (Kd.R_below (by (with_reducible repeat (first | apply Kd.R_alloc | apply Kd.R_drewN | apply Kd.R_drew)); exact HO318.out) hb); have n3_ := Aside0.mk (Kd.R_below (by (with_reducible repeat (first | apply Kd.R_alloc | apply Kd.R_drewN | apply Kd.R_drew)); exact HO321.out) hb); have n4_ := Aside0.mk (Kd.R_lower (Kd.R_new' ho0 (Kd.R_lt (by (with_reducible repeat (first | apply Kd.R_alloc | apply Kd.R_drewN | apply Kd.R_drew)); exact HO_6.out))) (below_size (by repeat (first | (with_reducible first | exact HB.out | apply below_alloc | apply pw_below_drewN | apply below_drew1) | exact HB.out)))); have n5_ := Aside0.mk (below_step (by repeat (first | (with_reducible first | exact HB.out | apply below_alloc | apply pw_below_drewN | apply below_drew1) | exact HB.out)) hb); clear HO_6; clear HO_9; clear HO318; clear HO321; clear HB; have HO_6 := n0_; have HO_9 := n1_; have HO318 := n2_; have HO321 := n3_; have HO324 := n4_; have HB := n5_; clear n0_ n1_ n2_ n3_ n4_ n5_; (try clear hb); (try clear hb2); (try clear hk); (try clear hi); (try clear ho0); obtain ⟨Ao94, co94, eo94⟩ := Kd.R_slice HO324.out; subst eo94) | (go_at_call 14; (with_reducible refine (postchaiselaw11_awake.calls k3  t325 _ A88.out).mono ?_); rintro e w95 ⟨rfl, hb⟩; have n0_ := Aside0.mk (Kd.R_below (by (with_reducible repeat (first | apply Kd.R_alloc | apply Kd.R_drewN | apply Kd.R_drew)); exact HO_6.out) hb); have n1_ := Aside0.mk (Kd.R_below (by (with_reducible repeat (first | apply Kd.R_alloc | apply Kd.R_drewN | apply Kd.R_drew)); exact HO_9.out) hb); have n2_ := Aside0.mk (Kd.R_below (by (with_reducible repeat (first | apply Kd.R_alloc | apply Kd.R_drewN | apply Kd.R_drew)); exact HO318.out) hb); have n3_ := Aside0.mk (Kd.R_below (by (with_reducible repeat (first | apply Kd.R_alloc | apply Kd.R_drewN | apply Kd.R_drew)); exact HO321.out) hb); have n4_ := Aside0.mk (Kd.R_below (by (with_reducible repeat (first | apply Kd.R_alloc | apply Kd.R_drewN | apply Kd.R_drew)); exact HO324.out) hb); have n5_ := Aside0.mk (below_step (by repeat (first | (with_reducible first | exact HB.out | apply below_alloc | apply pw_below_drewN | apply below_drew1) | exact HB.out)) hb); clear HO_6; clear HO_9; clear HO318; clear HO321; clear HO324; clear HB; have HO_6 := n0_; have HO_9 := n1_; have HO318 := n2_; have HO321 := n3_; have HO324 := n4_; have HB := n5_; clear n0_ n1_ n2_ n3_ n4_ n5_; (try clear hb); (try clear hb2); (try clear hk); (try clear hi)))
                      go_ret
                      exact ⟨by first | rfl | (simp [errW_none, errW_some] <;> rfl) | (simp [*, errW_none, errW_some] <;> rfl), by repeat (first | (with_reducible first | exact HB.out | apply below_alloc | apply pw_below_drewN | apply below_drew1) | exact HB.out)⟩
                    · rw [if_neg c87] at H
                      have c87b0 : ((t322.length : Int) == 0) = false := beq_eq_false_iff_ne.mpr c87
                      have c87b1 : ((t322.length : Int) != 0) = true := bne_iff_ne.mpr c87
                      have c87b2 : ¬ (t322 = []) := fun h_ => c87 (by rw [h_]; rfl)
                      obtain rfl := Option.some.inj H
                      go_wp2_with (first | ((with_reducible refine gate_callee (f := 10) rfl ?_); refine goesL_ (some 102) rfl rfl Try.func10 (by kernel_rfl) rfl #[.slice A1 l1.length c1] rfl (by (try simp only [List.map_toArray, List.map_cons, List.map_nil]); first | done | rfl | (simp only [List.length_drop, List.length_take]; rfl)) ?_; (with_reducible refine (postchaiselaw11_Own.calls k3 _ _ l1 t316 _ ?side1 ?side2 A84.out).mono ?_); (case side1 => repeat (first | exact (Kd.C_below HR1.out HB.out) | (with_reducible refine Kd.C_alloc ?_ _) | (with_reducible refine Kd.C_drewN ?_ _) | (with_reducible refine Kd.C_drew ?_))); (case side2 => exact HC1.out); rintro e w96 ⟨v317, rfl, ho0, hb⟩; refine ⟨_, rfl, ?_⟩; have n0_ := Aside0.mk (Kd.R_below (by (with_reducible repeat (first | apply Kd.R_alloc | apply Kd.R_drewN | apply Kd.R_drew)); exact HO_6.out) hb); have n1_ := Aside0.mk (Kd.R_elder' (by (with_reducible repeat (first | apply Kd.R_alloc | apply Kd.R_drewN | apply Kd.R_drew)); exact HO_9.out) (Kd.R_base ho0) hb); have n2_ := Aside0.mk (Kd.R_lower (Kd.R_new' ho0 (Kd.R_lt (by (with_reducible repeat (first | apply Kd.R_alloc | apply Kd.R_drewN | apply Kd.R_drew)); exact HO_9.out))) (below_size (by repeat (first | (with_reducible first | exact HB.out | apply below_alloc | apply pw_below_drewN | apply below_drew1) | exact HB.out)))); have n3_ := Aside0.mk (below_step (by repeat (first | (with_reducible first | exact HB.out | apply below_alloc | apply pw_below_drewN | apply below_drew1) | exact HB.out)) hb); clear HO_6; clear HO_9; clear HB; have HO_6 := n0_; have HO_9 := n1_; have HO318 := n2_; have HB := n3_; clear n0_ n1_ n2_ n3_; (try clear hb); (try clear hb2); (try clear hk); (try clear hi); (try clear ho0)) | ((with_reducible refine gate_callee (f := 10) rfl ?_); refine goesL_ (some 104) rfl rfl Try.func10 (by kernel_rfl) rfl #[.slice A1 l1.length c1] rfl (by (try simp only [List.map_toArray, List.map_cons, List.map_nil]); first | done | rfl | (simp only [List.length_drop, List.length_take]; rfl)) ?_; (with_reducible refine (postchaiselaw11_Own.calls k3 _ _ l1 t319 _ ?side1 ?side2 A85.out).mono ?_); (case side1 => repeat (first | exact (Kd.C_below HR1.out HB.out) | (with_reducible refine Kd.C_alloc ?_ _) | (with_reducible refine Kd.C_drewN ?_ _) | (with_reducible refine Kd.C_drew ?_))); (case side2 => exact HC1.out); rintro e w97 ⟨v320, rfl, ho0, hb⟩; refine ⟨_, rfl, ?_⟩; have n0_ := Aside0.mk (Kd.R_below (by (with_reducible repeat (first | apply Kd.R_alloc | apply Kd.R_drewN | apply Kd.R_drew)); exact HO_6.out) hb); have n1_ := Aside0.mk (Kd.R_elder' (by (with_reducible repeat (first | apply Kd.R_alloc | apply Kd.R_drewN | apply Kd.R_drew)); exact HO_9.out) (Kd.R_base ho0) hb); have n2_ := Aside0.mk (Kd.R_elder' (by (with_reducible repeat (first | apply Kd.R_alloc | apply Kd.R_drewN | apply Kd.R_drew)); exact HO318.out) (Kd.R_base ho0) hb); have n3_ := Aside0.mk (Kd.R_lower (Kd.R_new' (Kd.R_new' ho0 (Kd.R_lt (by (with_reducible repeat (first | apply Kd.R_alloc | apply Kd.R_drewN | apply Kd.R_drew)); exact HO_9.out))) (Kd.R_lt (by (with_reducible repeat (first | apply Kd.R_alloc | apply Kd.R_drewN | apply Kd.R_drew)); exact HO318.out))) (below_size (by repeat (first | (with_reducible first | exact HB.out | apply below_alloc | apply pw_below_drewN | apply below_drew1) | exact HB.out)))); have n4_ := Aside0.mk (below_step (by repeat (first | (with_reducible first | exact HB.out | apply below_alloc | apply pw_below_drewN | apply below_drew1) | exact HB.out)) hb); clear HO_6; clear HO_9; clear HO318; clear HB; have HO_6 := n0_; have HO_9 := n1_; have HO318 := n2_; have HO321 := n3_; have HB := n4_; clear n0_ n1_ n2_ n3_ n4_; (try clear hb); (try clear hb2); (try clear hk); (try clear hi); (try clear ho0); obtain ⟨Ao98, co98, eo98⟩ := Kd.R_slice HO318.out; subst eo98; obtain ⟨Ao99, co99, eo99⟩ := Kd.R_slice HO321.out; subst eo99) | ((with_reducible refine gate_callee (f := 11) rfl ?_); refine goesL_ (some 105) rfl rfl Try.func11 (by kernel_rfl) rfl #[.slice Ao98 t316.length co98, .slice Ao99 t319.length co99] rfl (by (try simp only [List.map_toArray, List.map_cons, List.map_nil]); first | done | rfl | (simp only [List.length_drop, List.length_take]; rfl)) ?_; (with_reducible refine (list_List_Diff.calls k3 _ _ t316 _ _ t319 t322 _ ?side1 ?side2 ?side3 ?side4 A86.out).mono ?_); (case side1 => repeat (first | exact (Kd.R_reads' HO318.out).2.2 | (with_reducible refine Kd.C_alloc ?_ _) | (with_reducible refine Kd.C_drewN ?_ _) | (with_reducible refine Kd.C_drew ?_))); (case side2 => exact (Kd.R_reads' HO318.out).2.1); (case side3 => repeat (first | exact (Kd.R_reads' HO321.out).2.2 | (with_reducible refine Kd.C_alloc ?_ _) | (with_reducible refine Kd.C_drewN ?_ _) | (with_reducible refine Kd.C_drew ?_))); (case side4 => exact (Kd.R_reads' HO321.out).2.1); rintro e w100 ⟨v323, rfl, ho0, hb⟩; refine ⟨_, rfl, ?_⟩; have n0_ := Aside0.mk (Kd.R_elder' (by (with_reducible repeat (first | apply Kd.R_alloc | apply Kd.R_drewN | apply Kd.R_drew)); exact HO_6.out) (Kd.R_base ho0) hb); have n1_ := Aside0.mk (Kd.R_below (by (with_reducible repeat (first | apply Kd.R_alloc | apply Kd.R_drewN | apply Kd.R_drew)); exact HO_9.out) hb); have n2_ := Aside0.mk (Kd.R_below (by (with_reducible repeat (first | apply Kd.R_alloc | apply Kd.R_drewN | apply Kd.R_drew)); exact HO318.out) hb); have n3_ := Aside0.mk (Kd.R_below (by (with_reducible repeat (first | apply Kd.R_alloc | apply Kd.R_drewN | apply Kd.R_drew)); exact HO321.out) hb); have n4_ := Aside0.mk (Kd.R_lower (Kd.R_new' ho0 (Kd.R_lt (by (with_reducible repeat (first | apply Kd.R_alloc | apply Kd.R_drewN | apply Kd.R_drew)); exact HO_6.out))) (below_size (by repeat (first | (with_reducible first | exact HB.out | apply below_alloc | apply pw_below_drewN | apply below_drew1) | exact HB.out)))); have n5_ := Aside0.mk (below_step (by repeat (first | (with_reducible first | exact HB.out | apply below_alloc | apply pw_below_drewN | apply below_drew1) | exact HB.out)) hb); clear HO_6; clear HO_9; clear HO318; clear HO321; clear HB; have HO_6 := n0_; have HO_9 := n1_; have HO318 := n2_; have HO321 := n3_; have HO324 := n4_; have HB := n5_; clear n0_ n1_ n2_ n3_ n4_ n5_; (try clear hb); (try clear hb2); (try clear hk); (try clear hi); (try clear ho0); obtain ⟨Ao101, co101, eo101⟩ := Kd.R_slice HO324.out; subst eo101))
                      go_ret
                      exact ⟨by first | rfl | (simp [errW_none, errW_some] <;> rfl) | (simp [*, errW_none, errW_some] <;> rfl), by repeat (first | (with_reducible first | exact HB.out | apply below_alloc | apply pw_below_drewN | apply below_drew1) | exact HB.out)⟩

end Go.Proofs.Ytlklegdaeffcpaa.PList
