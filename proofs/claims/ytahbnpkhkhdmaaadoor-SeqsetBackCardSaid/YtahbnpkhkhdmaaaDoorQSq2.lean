/- Contracts of plain functions, written by the kit's print for this claim (key Sq), of which this text keeps those that are used. -/
import Derived.Test.YtahbnpkhkhdmaaaDoorQSq0
import Derived.Test.YtahbnpkhkhdmaaaDoorSqHand
import Derived.Test.YtahbnpkhkhdmaaaDoorQSq1
namespace Go.Proofs.YtahbnpkhkhdmaaaDoor.PSq
open Go.RowKit Go.Proofs.YtahbnpkhkhdmaaaDoorW.PrintWords Go.Proofs.YtahbnpkhkhdmaaaDoorW.PrintLast Go.Proofs.YtahbnpkhkhdmaaaDoorW.PrintMore
attribute [local go_sem] max2_int min2_int max_two min_two max_three min_three max_four min_four   -- for this text's walks alone
set_option linter.unusedVariables false
set_option linter.unusedSimpArgs false

/-! ### postchaiseref02_Parse: function 21 -/
def postchaiseref02_Parse.l0 : Nat → List ByteArray → List (S80) → Int → Option ((List (S80)) × Int)
  | 0, _, _, _ => none
  | k + 1, x4, x5, x6 => if x6 < (x4.length : Int) then (if 0 ≤ x6 then ((postchaiseref02_Split.f k (rdOf ByteArray.empty x4 x6) 58).bind fun t152 => (if (t152.length : Int) > 2 then (some (([] : List (S80)), 2)) else (if 0 < (t152.length : Int) then ((postchaiseref02_end.f k (rdOf ByteArray.empty t152 0)).bind fun bt156 => (if 0 ≤ (wrap64 ((t152.length : Int) - 1)) then (if (wrap64 ((t152.length : Int) - 1)) < (t152.length : Int) then ((postchaiseref02_end.f k (rdOf ByteArray.empty t152 (wrap64 ((t152.length : Int) - 1)))).bind fun bt159 => (if bt156.2 = true then (if bt159.2 = true then (if x5.length < 17592186044416 then (postchaiseref02_Parse.l0 k x4 (x5 ++ [(⟨bt156.1, bt159.1⟩ : S80)]) (wrap64 (x6 + 1))) else (none)) else (some (([] : List (S80)), 2))) else (some (([] : List (S80)), 2)))) else (none)) else (none))) else (none)))) else (none)) else (if (x5.length : Int) > 64 then (some (([] : List (S80)), 9)) else (some (x5, 0)))
def postchaiseref02_Parse.f (k : Nat) (a0 : ByteArray) : Option ((List (S80)) × Int) := (postchaiseref02_Split.f k a0 44).bind fun t148 => (postchaiseref02_Parse.l0 k t148 ([] : List (S80)) 0)
theorem postchaiseref02_Parse.mono_l : ∀ k, (∀ y0 y1 y2, LeO (postchaiseref02_Parse.l0 k y0 y1 y2) (postchaiseref02_Parse.l0 (k + 1) y0 y1 y2))
  | 0 => fun _ _ _ r h => by simp [postchaiseref02_Parse.l0] at h
  | k + 1 => by
    have ih0 := postchaiseref02_Parse.mono_l k
    · intro y0 y1 y2
      unfold postchaiseref02_Parse.l0
      repeat' first
      | (with_reducible exact ih0 _ _ _)
      | (with_reducible exact postchaiseref02_Split.mono _ _ _)
      | (with_reducible exact postchaiseref02_end.mono _ _)
      | (with_reducible exact LeO.refl _)
      | (with_reducible exact LeO.none _)
      | (with_reducible refine LeO.ite ?_ ?_)
      | (with_reducible refine LeO.bind ?_ (fun _ => ?_))
      | exact ih0 _ _ _
      | exact postchaiseref02_Split.mono _ _ _
      | exact postchaiseref02_end.mono _ _
      | exact LeO.none _
      | refine LeO.ite ?_ ?_
      | refine LeO.bind ?_ (fun _ => ?_)
theorem postchaiseref02_Parse.mono : ∀ a0 k, LeO (postchaiseref02_Parse.f k a0) (postchaiseref02_Parse.f (k + 1) a0) := by
  intro a0 k
  have ih0 := postchaiseref02_Parse.mono_l k
  unfold postchaiseref02_Parse.f
  repeat' first
      | (with_reducible exact ih0 _ _ _)
      | (with_reducible exact postchaiseref02_Split.mono _ _ _)
      | (with_reducible exact postchaiseref02_end.mono _ _)
      | (with_reducible exact LeO.refl _)
      | (with_reducible exact LeO.none _)
      | (with_reducible refine LeO.ite ?_ ?_)
      | (with_reducible refine LeO.bind ?_ (fun _ => ?_))
      | exact ih0 _ _ _
      | exact postchaiseref02_Split.mono _ _ _
      | exact postchaiseref02_end.mono _ _
      | exact LeO.none _
      | refine LeO.ite ?_ ?_
      | refine LeO.bind ?_ (fun _ => ?_)
set_option maxHeartbeats 8000000 in
set_option maxRecDepth 100000 in
theorem postchaiseref02_Parse.calls (k : Nat) (a0 : ByteArray) (r1 : List (S80)) (r2 : Int) (w : World) (h : postchaiseref02_Parse.f k a0 = some (r1, r2)) :
    Calls Tryd.prog 21 #[.string a0] w fun e w' => ∃ v0_ : Value, e = .returned (.tuple #[v0_, .int .i64 r2]) ∧ Kd.R k80 80 w' w.heap.size (fun _ => True) v0_ r1 ∧ Below w.heap.size w w' := by
  have hu80 := Tryd.underlying80
  have HB := Aside0.mk (Below.refl w.heap.size w)
  have H : ((postchaiseref02_Split.f k a0 44).bind fun t148 => (postchaiseref02_Parse.l0 k t148 ([] : List (S80)) 0)) = some (r1, r2) := h
  clear h
  replace H := Option.bind_eq_some_iff.mp H
  obtain ⟨t148, A20, H⟩ := H
  replace H : (postchaiseref02_Parse.l0 k t148 ([] : List (S80)) 0) = some (r1, r2) := H
  have A2 := Aside0.mk A20
  clear A20
  have H' := Aside0.mk H
  clear H
  go_enter Tryd.func21, Tryd.ntmps21
  go_wp2_with (first | ((with_reducible refine gate_callee (f := 42) rfl ?_); refine goesL_ (some 13) rfl rfl Tryd.func42 (by kernel_rfl) rfl #[.string a0, .int .u8 44] rfl (by (try simp only [List.map_toArray, List.map_cons, List.map_nil]); first | done | rfl | (simp only [List.length_drop, List.length_take]; rfl)) ?_; (with_reducible refine (postchaiseref02_Split.calls k a0 44 t148 _ A2.out).mono ?_); rintro e w3 ⟨v149, rfl, ho0, hb⟩; refine ⟨_, rfl, ?_⟩; have n0_ := Aside0.mk (Kd.R_lower ho0 (below_size (by repeat (first | (with_reducible first | exact HB.out | apply below_alloc | apply pw_below_drewN | apply below_drew1) | exact HB.out)))); have n1_ := Aside0.mk (below_step (by repeat (first | (with_reducible first | exact HB.out | apply below_alloc | apply pw_below_drewN | apply below_drew1) | exact HB.out)) hb); clear HB; have HO150 := n0_; have HB := n1_; clear n0_ n1_; (try clear hb); (try clear hb2); (try clear hk); (try clear hi); (try clear ho0)))
  go_loopg [5, 6] k (fun kq v5 v6 w' => ∃ (x5_1 : List (S80)) (x6_1 : Int), v6 = .int .i64 x6_1 ∧ Aside0 (postchaiseref02_Parse.l0 kq t148 x5_1 x6_1 = some (r1, r2)) ∧ Aside0 (kq ≤ k) ∧ Aside0 (Kd.R Kd.string 9 w' w.heap.size (fun _ => True) v149 t148) ∧ Aside0 (Kd.R k80 80 w' w.heap.size (fun _ => True) v5 x5_1) ∧ Aside0 (Below w.heap.size w w'))
  case atStart => exact ⟨(([] : List (S80))), (0), (by first | rfl | (simp; done) | (simp [*]; done)), H', ⟨Nat.le_refl _⟩, ⟨by (with_reducible repeat (first | apply Kd.R_alloc | apply Kd.R_drewN | apply Kd.R_drew)); exact HO150.out⟩, ⟨by first | exact Kd.R_nil _ _ _ _ _ | exact Kd.N_nil _ _ _ _ _ | exact Kd.V_nil _ _ _ _ _ | exact Kd.Q_nil _ _ _ _ _ | exact Kd.S_nil _ _ _ _ _⟩, ⟨by repeat (first | (with_reducible first | exact HB.out | apply below_alloc | apply pw_below_drewN | apply below_drew1) | exact HB.out)⟩⟩
  case round =>
    clear H'
    try clear c2
    try clear p2
    obtain ⟨x5_1, x6_1, rfl, HA, HK1, HO_4, HO_5, HB⟩ := hrel
    cases gk with
    | zero => exact absurd HA.out (by simp [postchaiseref02_Parse.l0])
    | succ k1 =>
      have H := HA.out
      clear HA
      simp only [postchaiseref02_Parse.l0] at H
      by_cases c4 : x6_1 < (t148.length : Int)
      · rw [if_pos c4] at H
        have c4b0 : decide (x6_1 < (t148.length : Int)) = true := decide_eq_true c4
        clear c4
        by_cases c5 : 0 ≤ x6_1
        · rw [if_pos c5] at H
          have c5b0 : decide (0 ≤ x6_1) = true := decide_eq_true c5
          clear c5
          replace H := Option.bind_eq_some_iff.mp H
          obtain ⟨t152, A60, H⟩ := H
          replace H : (if (t152.length : Int) > 2 then (some (([] : List (S80)), 2)) else (if 0 < (t152.length : Int) then ((postchaiseref02_end.f k1 (rdOf ByteArray.empty t152 0)).bind fun bt156 => (if 0 ≤ (wrap64 ((t152.length : Int) - 1)) then (if (wrap64 ((t152.length : Int) - 1)) < (t152.length : Int) then ((postchaiseref02_end.f k1 (rdOf ByteArray.empty t152 (wrap64 ((t152.length : Int) - 1)))).bind fun bt159 => (if bt156.2 = true then (if bt159.2 = true then (if x5_1.length < 17592186044416 then (postchaiseref02_Parse.l0 k1 t148 (x5_1 ++ [(⟨bt156.1, bt159.1⟩ : S80)]) (wrap64 (x6_1 + 1))) else (none)) else (some (([] : List (S80)), 2))) else (some (([] : List (S80)), 2)))) else (none)) else (none))) else (none))) = some (r1, r2) := H
          have A6 := Aside0.mk A60
          clear A60
          by_cases c7 : (t152.length : Int) > 2
          · rw [if_pos c7] at H
            have c7b0 : decide (2 < (t152.length : Int)) = true := decide_eq_true c7
            have c7b1 : decide (2 < t152.length) = true := decide_eq_true (by omega)
            clear c7
            simp only [Option.some.injEq, Prod.mk.injEq] at H
            obtain ⟨rfl, rfl⟩ := H
            obtain ⟨Ao8, co8, eo8⟩ := Kd.R_slice HO_4.out
            subst eo8
            have p151 : 0 ≤ (x6_1 : Int) := of_decide_eq_true (by first | (with_reducible assumption) | assumption)
            have q151 : x6_1 < (t148.length : Int) := of_decide_eq_true (by first | (with_reducible assumption) | assumption)
            obtain ⟨ad151, e151, hx151_0⟩ := Kd.at_string (Kd.R_reads' HO_4.out).2.2 x6_1 p151 q151
            cases e151
            replace p151 := eq_true p151
            replace q151 := eq_true q151
            go_wp2_with (first | ((with_reducible refine gate_callee (f := 42) rfl ?_); refine goesL_ (some 24) rfl rfl Tryd.func42 (by kernel_rfl) rfl #[.string (rdOf ByteArray.empty t148 x6_1), .int .u8 58] rfl (by (try simp only [List.map_toArray, List.map_cons, List.map_nil]); first | done | rfl | (simp only [List.length_drop, List.length_take]; rfl)) ?_; (with_reducible refine (postchaiseref02_Split.calls k1 (rdOf ByteArray.empty t148 x6_1) 58 t152 _ A6.out).mono ?_); rintro e w9 ⟨v153, rfl, ho0, hb⟩; refine ⟨_, rfl, ?_⟩; have n0_ := Aside0.mk (Kd.R_elder' (by (with_reducible repeat (first | apply Kd.R_alloc | apply Kd.R_drewN | apply Kd.R_drew)); exact HO_4.out) (Kd.R_base ho0) hb); have n1_ := Aside0.mk (Kd.R_below (by (with_reducible repeat (first | apply Kd.R_alloc | apply Kd.R_drewN | apply Kd.R_drew)); exact HO_5.out) hb); have n2_ := Aside0.mk (Kd.R_lower (Kd.R_new' ho0 (Kd.R_lt (by (with_reducible repeat (first | apply Kd.R_alloc | apply Kd.R_drewN | apply Kd.R_drew)); exact HO_4.out))) (below_size (by repeat (first | (with_reducible first | exact HB.out | apply below_alloc | apply pw_below_drewN | apply below_drew1) | exact HB.out)))); have n3_ := Aside0.mk (below_step (by repeat (first | (with_reducible first | exact HB.out | apply below_alloc | apply pw_below_drewN | apply below_drew1) | exact HB.out)) hb); clear HO_4; clear HO_5; clear HB; have HO_4 := n0_; have HO_5 := n1_; have HO154 := n2_; have HB := n3_; clear n0_ n1_ n2_ n3_; (try clear hb); (try clear hb2); (try clear hk); (try clear hi); (try clear ho0); obtain ⟨Ao10, co10, eo10⟩ := Kd.R_slice HO154.out; subst eo10))
            go_ret2
            exact ⟨_, by first | rfl | (simp [errW_none, errW_some] <;> rfl) | (simp [*, errW_none, errW_some] <;> rfl), by first | exact Kd.R_nil _ _ _ _ _ | exact Kd.N_nil _ _ _ _ _ | exact Kd.V_nil _ _ _ _ _ | exact Kd.Q_nil _ _ _ _ _ | exact Kd.S_nil _ _ _ _ _, by repeat (first | (with_reducible first | exact HB.out | apply below_alloc | apply pw_below_drewN | apply below_drew1) | exact HB.out)⟩
          · rw [if_neg c7] at H
            have c7b0 : decide (2 < (t152.length : Int)) = false := decide_eq_false c7
            have c7b1 : decide (2 < t152.length) = false := decide_eq_false (by omega)
            clear c7
            by_cases c11 : 0 < (t152.length : Int)
            · rw [if_pos c11] at H
              have c11b0 : decide (0 < (t152.length : Int)) = true := decide_eq_true c11
              have c11b1 : decide (0 < t152.length) = true := decide_eq_true (by omega)
              clear c11
              replace H := Option.bind_eq_some_iff.mp H
              obtain ⟨⟨t156, t157⟩, A120, H⟩ := H
              replace H : (if 0 ≤ (wrap64 ((t152.length : Int) - 1)) then (if (wrap64 ((t152.length : Int) - 1)) < (t152.length : Int) then ((postchaiseref02_end.f k1 (rdOf ByteArray.empty t152 (wrap64 ((t152.length : Int) - 1)))).bind fun bt159 => (if t157 = true then (if bt159.2 = true then (if x5_1.length < 17592186044416 then (postchaiseref02_Parse.l0 k1 t148 (x5_1 ++ [(⟨t156, bt159.1⟩ : S80)]) (wrap64 (x6_1 + 1))) else (none)) else (some (([] : List (S80)), 2))) else (some (([] : List (S80)), 2)))) else (none)) else (none)) = some (r1, r2) := H
              have A12 := Aside0.mk A120
              clear A120
              obtain ⟨ji13, hji13⟩ : ∃ j_ : Int, (wrap64 ((t152.length : Int) - 1)) = j_ := ⟨_, rfl⟩
              replace H : (if 0 ≤ (ji13) then (if (ji13) < (t152.length : Int) then ((postchaiseref02_end.f k1 (rdOf ByteArray.empty t152 (ji13))).bind fun bt159 => (if t157 = true then (if bt159.2 = true then (if x5_1.length < 17592186044416 then (postchaiseref02_Parse.l0 k1 t148 (x5_1 ++ [(⟨t156, bt159.1⟩ : S80)]) (wrap64 (x6_1 + 1))) else (none)) else (some (([] : List (S80)), 2))) else (some (([] : List (S80)), 2)))) else (none)) else (none)) = some (r1, r2) := by first | (rw [hji13] at H; exact H) | (simp only [hji13] at H ⊢; exact H)
              (try rw [hji13] at A6)
              (try rw [hji13] at A12)
              have hji13w : (IntKind.i64.wrap ((t152.length : Int) - 1)) = ji13 := (i64_w _).trans hji13
              by_cases c14 : 0 ≤ (ji13)
              · rw [if_pos c14] at H
                have c14b0 : decide (0 ≤ (ji13)) = true := decide_eq_true c14
                clear c14
                by_cases c15 : (ji13) < (t152.length : Int)
                · rw [if_pos c15] at H
                  have c15b0 : decide ((ji13) < (t152.length : Int)) = true := decide_eq_true c15
                  clear c15
                  replace H := Option.bind_eq_some_iff.mp H
                  obtain ⟨⟨t159, t160⟩, A160, H⟩ := H
                  replace H : (if t157 = true then (if t160 = true then (if x5_1.length < 17592186044416 then (postchaiseref02_Parse.l0 k1 t148 (x5_1 ++ [(⟨t156, t159⟩ : S80)]) (wrap64 (x6_1 + 1))) else (none)) else (some (([] : List (S80)), 2))) else (some (([] : List (S80)), 2))) = some (r1, r2) := H
                  have A16 := Aside0.mk A160
                  clear A160
                  by_cases c17 : t157 = true
                  · subst c17
                    have H1 : (if t160 = true then (if x5_1.length < 17592186044416 then (postchaiseref02_Parse.l0 k1 t148 (x5_1 ++ [(⟨t156, t159⟩ : S80)]) (wrap64 (x6_1 + 1))) else (none)) else (some (([] : List (S80)), 2))) = some (r1, r2) := by rw [if_pos rfl] at H; exact H
                    clear H
                    have H := H1
                    clear H1
                    by_cases c18 : t160 = true
                    · subst c18
                      have H1 : (if x5_1.length < 17592186044416 then (postchaiseref02_Parse.l0 k1 t148 (x5_1 ++ [(⟨t156, t159⟩ : S80)]) (wrap64 (x6_1 + 1))) else (none)) = some (r1, r2) := by rw [if_pos rfl] at H; exact H
                      clear H
                      have H := H1
                      clear H1
                      by_cases c19 : x5_1.length < 17592186044416
                      · rw [if_pos c19] at H
                        have LMc19 := Aside0.mk c19
                        clear c19
                        obtain ⟨y161, hy161⟩ : ∃ y_ : List (S80), y_ = (x5_1 ++ [(⟨t156, t159⟩ : S80)]) := ⟨_, rfl⟩
                        replace H : (postchaiseref02_Parse.l0 k1 t148 y161 (wrap64 (x6_1 + 1))) = some (r1, r2) := by first | (rw [hy161]; with_reducible exact H) | (have H2_ := (Option.bind_some _ _).symm.trans H; rw [hy161]; with_reducible exact H2_) | (have H2_ := (Option.bind_some _ _).symm.trans H; with_reducible exact H2_) | with_reducible exact H | (rw [hy161]; exact H) | exact H
                        have Ny161 := Aside0.mk hy161
                        clear hy161
                        have H' := Aside0.mk H
                        clear H
                        obtain ⟨Ao20, co20, eo20⟩ := Kd.R_slice HO_4.out
                        subst eo20
                        have p151 : 0 ≤ (x6_1 : Int) := of_decide_eq_true (by first | (with_reducible assumption) | assumption)
                        have q151 : x6_1 < (t148.length : Int) := of_decide_eq_true (by first | (with_reducible assumption) | assumption)
                        obtain ⟨ad151, e151, hx151_0⟩ := Kd.at_string (Kd.R_reads' HO_4.out).2.2 x6_1 p151 q151
                        cases e151
                        replace p151 := eq_true p151
                        replace q151 := eq_true q151
                        go_wp2_with (first | ((with_reducible refine gate_callee (f := 42) rfl ?_); refine goesL_ (some 24) rfl rfl Tryd.func42 (by kernel_rfl) rfl #[.string (rdOf ByteArray.empty t148 x6_1), .int .u8 58] rfl (by (try simp only [List.map_toArray, List.map_cons, List.map_nil]); first | done | rfl | (simp only [List.length_drop, List.length_take]; rfl)) ?_; (with_reducible refine (postchaiseref02_Split.calls k1 (rdOf ByteArray.empty t148 x6_1) 58 t152 _ A6.out).mono ?_); rintro e w21 ⟨v153, rfl, ho0, hb⟩; refine ⟨_, rfl, ?_⟩; have n0_ := Aside0.mk (Kd.R_elder' (by (with_reducible repeat (first | apply Kd.R_alloc | apply Kd.R_drewN | apply Kd.R_drew)); exact HO_4.out) (Kd.R_base ho0) hb); have n1_ := Aside0.mk (Kd.R_below (by (with_reducible repeat (first | apply Kd.R_alloc | apply Kd.R_drewN | apply Kd.R_drew)); exact HO_5.out) hb); have n2_ := Aside0.mk (Kd.R_lower (Kd.R_new' ho0 (Kd.R_lt (by (with_reducible repeat (first | apply Kd.R_alloc | apply Kd.R_drewN | apply Kd.R_drew)); exact HO_4.out))) (below_size (by repeat (first | (with_reducible first | exact HB.out | apply below_alloc | apply pw_below_drewN | apply below_drew1) | exact HB.out)))); have n3_ := Aside0.mk (below_step (by repeat (first | (with_reducible first | exact HB.out | apply below_alloc | apply pw_below_drewN | apply below_drew1) | exact HB.out)) hb); clear HO_4; clear HO_5; clear HB; have HO_4 := n0_; have HO_5 := n1_; have HO154 := n2_; have HB := n3_; clear n0_ n1_ n2_ n3_; (try clear hb); (try clear hb2); (try clear hk); (try clear hi); (try clear ho0); obtain ⟨Ao22, co22, eo22⟩ := Kd.R_slice HO154.out; subst eo22; have p155 : 0 ≤ (0 : Int) := (by omega); have q155 : 0 < (t152.length : Int) := of_decide_eq_true (by first | (with_reducible assumption) | assumption); obtain ⟨ad155, e155, hx155_0⟩ := Kd.at_string (Kd.R_reads' HO154.out).2.2 0 p155 q155; cases e155; have qi155 : (0 < t152.length) = True := eq_true (by omega); (try rw [show ((0 : Int)).toNat = 0 from rfl] at hx155_0); (try rw [Addr.add_zero'] at hx155_0); replace p155 := eq_true p155; replace q155 := eq_true q155) | ((with_reducible refine gate_callee (f := 43) rfl ?_); refine goesL_ (some 32) rfl rfl Tryd.func43 (by kernel_rfl) rfl #[.string (rdOf ByteArray.empty t152 0)] rfl (by (try simp only [List.map_toArray, List.map_cons, List.map_nil]); first | done | rfl | (simp only [List.length_drop, List.length_take]; rfl)) ?_; (with_reducible refine (postchaiseref02_end.calls k1 (rdOf ByteArray.empty t152 0) t156 true _ A12.out).mono ?_); rintro e w' ⟨rfl, ⟨nd, rfl⟩⟩; refine ⟨_, rfl, ?_⟩; have p158 : 0 ≤ ((ji13) : Int) := of_decide_eq_true (by first | (with_reducible assumption) | assumption); have q158 : (ji13) < (t152.length : Int) := of_decide_eq_true (by first | (with_reducible assumption) | assumption); obtain ⟨ad158, e158, hx158_0⟩ := Kd.at_string (Kd.R_reads' HO154.out).2.2 (ji13) p158 q158; obtain rfl : ad155 = ad158 := (by injection e158); replace p158 := eq_true p158; replace q158 := eq_true q158) | ((with_reducible refine gate_callee (f := 43) rfl ?_); refine goesL_ (some 42) rfl rfl Tryd.func43 (by kernel_rfl) rfl #[.string (rdOf ByteArray.empty t152 (ji13))] rfl (by (try simp only [List.map_toArray, List.map_cons, List.map_nil]); first | done | (simp only [hji13]; rfl) | rfl | (simp only [List.length_drop, List.length_take]; rfl)) ?_; (with_reducible refine (postchaiseref02_end.calls k1 (rdOf ByteArray.empty t152 (ji13)) t159 true _ A16.out).mono ?_); rintro e w' ⟨rfl, ⟨nd, rfl⟩⟩; refine ⟨_, rfl, ?_⟩) | ((with_reducible refine gate_builtin (b := .append) (xs := #[.tmp 51, .tmp 55]) rfl ?_); at_builtin; refine Kd.R_append k80 (w0 := w) w.heap.size rfl (.tmp 51) (.tmp 55) 47 80 (.agg #[(.int .u32 0), (.int .u32 0)]) 8 rfl Tryd.underlying47 info80 rfl (by decide) (by omega) u5 x5_1 (⟨t156, t159⟩ : S80) [.int .u32 t156, .int .u32 t159] (fun _ => True) (fun _ => False) rfl rfl ?aP (fun _ hk => hk.elim) ?aF ?aO ?aB ?aS ?aL ?_; (case aP => exact k80_mkM _ _ _ (⟨t156, t159⟩ : S80)); (case aB => exact (by repeat (first | (with_reducible first | exact HB.out | apply below_alloc | apply pw_below_drewN | apply below_drew1) | exact HB.out))); (case aF => exact (fun _ _ => trivial)); (case aO => exact (by (with_reducible repeat (first | apply Kd.R_alloc | apply Kd.R_drewN | apply Kd.R_drew)); exact HO_5.out)); (case aS => exact (below_size (by repeat (first | (with_reducible first | exact HB.out | apply below_alloc | apply pw_below_drewN | apply below_drew1) | exact HB.out)))); (case aL => have := LMc19.out; omega); intro v162 w23 ho hb hg hat; rw [← Ny161.out] at ho; have n0_ := Aside0.mk (Kd.R_over' (by (with_reducible repeat (first | apply Kd.R_alloc | apply Kd.R_drewN | apply Kd.R_drew)); exact HO_4.out) (Kd.R_typed (by (with_reducible repeat (first | apply Kd.R_alloc | apply Kd.R_drewN | apply Kd.R_drew)); exact HO_5.out)) (by decide) hg); have n1_ := Aside0.mk (Kd.R_over' (by (with_reducible repeat (first | apply Kd.R_alloc | apply Kd.R_drewN | apply Kd.R_drew)); exact HO154.out) (Kd.R_typed (by (with_reducible repeat (first | apply Kd.R_alloc | apply Kd.R_drewN | apply Kd.R_drew)); exact HO_5.out)) (by decide) hg); have n2_ := Aside0.mk (hb); have n3_ := Aside0.mk (ho); clear HO_4; clear HO154; clear HB; clear HO_5; have HO_4 := n0_; have HO154 := n1_; have HB := n2_; have HO163 := n3_; clear n0_ n1_ n2_ n3_; clear ho hb hg hat))
                        go_roundg k1
                        case measure => have := HK1.out; omega
                        case rel => exact ⟨(y161), (wrap64 (x6_1 + 1)), (by first | rfl | (simp; done) | (simp [*]; done)), H', ⟨by have := HK1.out; omega⟩, ⟨by (with_reducible repeat (first | apply Kd.R_alloc | apply Kd.R_drewN | apply Kd.R_drew)); exact Kd.R_mono HO_4.out (fun _ hk => trivial)⟩, ⟨by (with_reducible repeat (first | apply Kd.R_alloc | apply Kd.R_drewN | apply Kd.R_drew)); exact HO163.out⟩, ⟨by repeat (first | (with_reducible first | exact HB.out | apply below_alloc | apply pw_below_drewN | apply below_drew1) | exact HB.out)⟩⟩
                      · rw [if_neg c19] at H
                        exact absurd H (by simp)
                    · replace c18 := Bool.eq_false_iff.mpr c18
                      subst c18
                      have H1 : (some (([] : List (S80)), 2)) = some (r1, r2) := by rw [if_neg (show ¬ (false = true) by decide)] at H; exact H
                      clear H
                      have H := H1
                      clear H1
                      simp only [Option.some.injEq, Prod.mk.injEq] at H
                      obtain ⟨rfl, rfl⟩ := H
                      obtain ⟨Ao24, co24, eo24⟩ := Kd.R_slice HO_4.out
                      subst eo24
                      have p151 : 0 ≤ (x6_1 : Int) := of_decide_eq_true (by first | (with_reducible assumption) | assumption)
                      have q151 : x6_1 < (t148.length : Int) := of_decide_eq_true (by first | (with_reducible assumption) | assumption)
                      obtain ⟨ad151, e151, hx151_0⟩ := Kd.at_string (Kd.R_reads' HO_4.out).2.2 x6_1 p151 q151
                      cases e151
                      replace p151 := eq_true p151
                      replace q151 := eq_true q151
                      go_wp2_with (first | ((with_reducible refine gate_callee (f := 42) rfl ?_); refine goesL_ (some 24) rfl rfl Tryd.func42 (by kernel_rfl) rfl #[.string (rdOf ByteArray.empty t148 x6_1), .int .u8 58] rfl (by (try simp only [List.map_toArray, List.map_cons, List.map_nil]); first | done | rfl | (simp only [List.length_drop, List.length_take]; rfl)) ?_; (with_reducible refine (postchaiseref02_Split.calls k1 (rdOf ByteArray.empty t148 x6_1) 58 t152 _ A6.out).mono ?_); rintro e w25 ⟨v153, rfl, ho0, hb⟩; refine ⟨_, rfl, ?_⟩; have n0_ := Aside0.mk (Kd.R_elder' (by (with_reducible repeat (first | apply Kd.R_alloc | apply Kd.R_drewN | apply Kd.R_drew)); exact HO_4.out) (Kd.R_base ho0) hb); have n1_ := Aside0.mk (Kd.R_below (by (with_reducible repeat (first | apply Kd.R_alloc | apply Kd.R_drewN | apply Kd.R_drew)); exact HO_5.out) hb); have n2_ := Aside0.mk (Kd.R_lower (Kd.R_new' ho0 (Kd.R_lt (by (with_reducible repeat (first | apply Kd.R_alloc | apply Kd.R_drewN | apply Kd.R_drew)); exact HO_4.out))) (below_size (by repeat (first | (with_reducible first | exact HB.out | apply below_alloc | apply pw_below_drewN | apply below_drew1) | exact HB.out)))); have n3_ := Aside0.mk (below_step (by repeat (first | (with_reducible first | exact HB.out | apply below_alloc | apply pw_below_drewN | apply below_drew1) | exact HB.out)) hb); clear HO_4; clear HO_5; clear HB; have HO_4 := n0_; have HO_5 := n1_; have HO154 := n2_; have HB := n3_; clear n0_ n1_ n2_ n3_; (try clear hb); (try clear hb2); (try clear hk); (try clear hi); (try clear ho0); obtain ⟨Ao26, co26, eo26⟩ := Kd.R_slice HO154.out; subst eo26; have p155 : 0 ≤ (0 : Int) := (by omega); have q155 : 0 < (t152.length : Int) := of_decide_eq_true (by first | (with_reducible assumption) | assumption); obtain ⟨ad155, e155, hx155_0⟩ := Kd.at_string (Kd.R_reads' HO154.out).2.2 0 p155 q155; cases e155; have qi155 : (0 < t152.length) = True := eq_true (by omega); (try rw [show ((0 : Int)).toNat = 0 from rfl] at hx155_0); (try rw [Addr.add_zero'] at hx155_0); replace p155 := eq_true p155; replace q155 := eq_true q155) | ((with_reducible refine gate_callee (f := 43) rfl ?_); refine goesL_ (some 32) rfl rfl Tryd.func43 (by kernel_rfl) rfl #[.string (rdOf ByteArray.empty t152 0)] rfl (by (try simp only [List.map_toArray, List.map_cons, List.map_nil]); first | done | rfl | (simp only [List.length_drop, List.length_take]; rfl)) ?_; (with_reducible refine (postchaiseref02_end.calls k1 (rdOf ByteArray.empty t152 0) t156 true _ A12.out).mono ?_); rintro e w' ⟨rfl, ⟨nd, rfl⟩⟩; refine ⟨_, rfl, ?_⟩; have p158 : 0 ≤ ((ji13) : Int) := of_decide_eq_true (by first | (with_reducible assumption) | assumption); have q158 : (ji13) < (t152.length : Int) := of_decide_eq_true (by first | (with_reducible assumption) | assumption); obtain ⟨ad158, e158, hx158_0⟩ := Kd.at_string (Kd.R_reads' HO154.out).2.2 (ji13) p158 q158; obtain rfl : ad155 = ad158 := (by injection e158); replace p158 := eq_true p158; replace q158 := eq_true q158) | ((with_reducible refine gate_callee (f := 43) rfl ?_); refine goesL_ (some 42) rfl rfl Tryd.func43 (by kernel_rfl) rfl #[.string (rdOf ByteArray.empty t152 (ji13))] rfl (by (try simp only [List.map_toArray, List.map_cons, List.map_nil]); first | done | (simp only [hji13]; rfl) | rfl | (simp only [List.length_drop, List.length_take]; rfl)) ?_; (with_reducible refine (postchaiseref02_end.calls k1 (rdOf ByteArray.empty t152 (ji13)) t159 false _ A16.out).mono ?_); rintro e w' ⟨rfl, ⟨nd, rfl⟩⟩; refine ⟨_, rfl, ?_⟩))
                      go_ret2
                      exact ⟨_, by first | rfl | (simp [errW_none, errW_some] <;> rfl) | (simp only [← hji13]; first | rfl | (simp [errW_none, errW_some] <;> rfl)) | (simp [*, errW_none, errW_some] <;> rfl), by first | exact Kd.R_nil _ _ _ _ _ | exact Kd.N_nil _ _ _ _ _ | exact Kd.V_nil _ _ _ _ _ | exact Kd.Q_nil _ _ _ _ _ | exact Kd.S_nil _ _ _ _ _, by repeat (first | (with_reducible first | exact HB.out | apply below_alloc | apply pw_below_drewN | apply below_drew1) | exact HB.out)⟩
                  · replace c17 := Bool.eq_false_iff.mpr c17
                    subst c17
                    have H1 : (some (([] : List (S80)), 2)) = some (r1, r2) := by rw [if_neg (show ¬ (false = true) by decide)] at H; exact H
                    clear H
                    have H := H1
                    clear H1
                    simp only [Option.some.injEq, Prod.mk.injEq] at H
                    obtain ⟨rfl, rfl⟩ := H
                    obtain ⟨Ao27, co27, eo27⟩ := Kd.R_slice HO_4.out
                    subst eo27
                    have p151 : 0 ≤ (x6_1 : Int) := of_decide_eq_true (by first | (with_reducible assumption) | assumption)
                    have q151 : x6_1 < (t148.length : Int) := of_decide_eq_true (by first | (with_reducible assumption) | assumption)
                    obtain ⟨ad151, e151, hx151_0⟩ := Kd.at_string (Kd.R_reads' HO_4.out).2.2 x6_1 p151 q151
                    cases e151
                    replace p151 := eq_true p151
                    replace q151 := eq_true q151
                    go_wp2_with (first | ((with_reducible refine gate_callee (f := 42) rfl ?_); refine goesL_ (some 24) rfl rfl Tryd.func42 (by kernel_rfl) rfl #[.string (rdOf ByteArray.empty t148 x6_1), .int .u8 58] rfl (by (try simp only [List.map_toArray, List.map_cons, List.map_nil]); first | done | rfl | (simp only [List.length_drop, List.length_take]; rfl)) ?_; (with_reducible refine (postchaiseref02_Split.calls k1 (rdOf ByteArray.empty t148 x6_1) 58 t152 _ A6.out).mono ?_); rintro e w28 ⟨v153, rfl, ho0, hb⟩; refine ⟨_, rfl, ?_⟩; have n0_ := Aside0.mk (Kd.R_elder' (by (with_reducible repeat (first | apply Kd.R_alloc | apply Kd.R_drewN | apply Kd.R_drew)); exact HO_4.out) (Kd.R_base ho0) hb); have n1_ := Aside0.mk (Kd.R_below (by (with_reducible repeat (first | apply Kd.R_alloc | apply Kd.R_drewN | apply Kd.R_drew)); exact HO_5.out) hb); have n2_ := Aside0.mk (Kd.R_lower (Kd.R_new' ho0 (Kd.R_lt (by (with_reducible repeat (first | apply Kd.R_alloc | apply Kd.R_drewN | apply Kd.R_drew)); exact HO_4.out))) (below_size (by repeat (first | (with_reducible first | exact HB.out | apply below_alloc | apply pw_below_drewN | apply below_drew1) | exact HB.out)))); have n3_ := Aside0.mk (below_step (by repeat (first | (with_reducible first | exact HB.out | apply below_alloc | apply pw_below_drewN | apply below_drew1) | exact HB.out)) hb); clear HO_4; clear HO_5; clear HB; have HO_4 := n0_; have HO_5 := n1_; have HO154 := n2_; have HB := n3_; clear n0_ n1_ n2_ n3_; (try clear hb); (try clear hb2); (try clear hk); (try clear hi); (try clear ho0); obtain ⟨Ao29, co29, eo29⟩ := Kd.R_slice HO154.out; subst eo29; have p155 : 0 ≤ (0 : Int) := (by omega); have q155 : 0 < (t152.length : Int) := of_decide_eq_true (by first | (with_reducible assumption) | assumption); obtain ⟨ad155, e155, hx155_0⟩ := Kd.at_string (Kd.R_reads' HO154.out).2.2 0 p155 q155; cases e155; have qi155 : (0 < t152.length) = True := eq_true (by omega); (try rw [show ((0 : Int)).toNat = 0 from rfl] at hx155_0); (try rw [Addr.add_zero'] at hx155_0); replace p155 := eq_true p155; replace q155 := eq_true q155) | ((with_reducible refine gate_callee (f := 43) rfl ?_); refine goesL_ (some 32) rfl rfl Tryd.func43 (by kernel_rfl) rfl #[.string (rdOf ByteArray.empty t152 0)] rfl (by (try simp only [List.map_toArray, List.map_cons, List.map_nil]); first | done | rfl | (simp only [List.length_drop, List.length_take]; rfl)) ?_; (with_reducible refine (postchaiseref02_end.calls k1 (rdOf ByteArray.empty t152 0) t156 false _ A12.out).mono ?_); rintro e w' ⟨rfl, ⟨nd, rfl⟩⟩; refine ⟨_, rfl, ?_⟩; have p158 : 0 ≤ ((ji13) : Int) := of_decide_eq_true (by first | (with_reducible assumption) | assumption); have q158 : (ji13) < (t152.length : Int) := of_decide_eq_true (by first | (with_reducible assumption) | assumption); obtain ⟨ad158, e158, hx158_0⟩ := Kd.at_string (Kd.R_reads' HO154.out).2.2 (ji13) p158 q158; obtain rfl : ad155 = ad158 := (by injection e158); replace p158 := eq_true p158; replace q158 := eq_true q158) | ((with_reducible refine gate_callee (f := 43) rfl ?_); refine goesL_ (some 42) rfl rfl Tryd.func43 (by kernel_rfl) rfl #[.string (rdOf ByteArray.empty t152 (ji13))] rfl (by (try simp only [List.map_toArray, List.map_cons, List.map_nil]); first | done | (simp only [hji13]; rfl) | rfl | (simp only [List.length_drop, List.length_take]; rfl)) ?_; (with_reducible refine (postchaiseref02_end.calls k1 (rdOf ByteArray.empty t152 (ji13)) t159 t160 _ A16.out).mono ?_); rintro e w' ⟨rfl, ⟨nd, rfl⟩⟩; refine ⟨_, rfl, ?_⟩))
                    go_ret2
                    exact ⟨_, by first | rfl | (simp [errW_none, errW_some] <;> rfl) | (simp only [← hji13]; first | rfl | (simp [errW_none, errW_some] <;> rfl)) | (simp [*, errW_none, errW_some] <;> rfl), by first | exact Kd.R_nil _ _ _ _ _ | exact Kd.N_nil _ _ _ _ _ | exact Kd.V_nil _ _ _ _ _ | exact Kd.Q_nil _ _ _ _ _ | exact Kd.S_nil _ _ _ _ _, by repeat (first | (with_reducible first | exact HB.out | apply below_alloc | apply pw_below_drewN | apply below_drew1) | exact HB.out)⟩
                · rw [if_neg c15] at H
                  exact absurd H (by simp)
              · rw [if_neg c14] at H
                exact absurd H (by simp)
            · rw [if_neg c11] at H
              exact absurd H (by simp)
        · rw [if_neg c5] at H
          exact absurd H (by simp)
      · rw [if_neg c4] at H
        have c4b0 : decide (x6_1 < (t148.length : Int)) = false := decide_eq_false c4
        clear c4
        by_cases c30 : (x5_1.length : Int) > 64
        · rw [if_pos c30] at H
          have c30b0 : decide (64 < (x5_1.length : Int)) = true := decide_eq_true c30
          have c30b1 : decide (64 < x5_1.length) = true := decide_eq_true (by omega)
          clear c30
          simp only [Option.some.injEq, Prod.mk.injEq] at H
          obtain ⟨rfl, rfl⟩ := H
          obtain ⟨Ao31, co31, eo31⟩ := Kd.R_slice HO_4.out
          subst eo31
          obtain ⟨Ao32, co32, eo32⟩ := Kd.R_slice HO_5.out
          subst eo32
          go_wp2
          go_ret2
          exact ⟨_, by first | rfl | (simp [errW_none, errW_some] <;> rfl) | (simp [*, errW_none, errW_some] <;> rfl), by first | exact Kd.R_nil _ _ _ _ _ | exact Kd.N_nil _ _ _ _ _ | exact Kd.V_nil _ _ _ _ _ | exact Kd.Q_nil _ _ _ _ _ | exact Kd.S_nil _ _ _ _ _, by repeat (first | (with_reducible first | exact HB.out | apply below_alloc | apply pw_below_drewN | apply below_drew1) | exact HB.out)⟩
        · rw [if_neg c30] at H
          have c30b0 : decide (64 < (x5_1.length : Int)) = false := decide_eq_false c30
          have c30b1 : decide (64 < x5_1.length) = false := decide_eq_false (by omega)
          clear c30
          simp only [Option.some.injEq, Prod.mk.injEq] at H
          obtain ⟨rfl, rfl⟩ := H
          obtain ⟨Ao33, co33, eo33⟩ := Kd.R_slice HO_4.out
          subst eo33
          obtain ⟨Ao34, co34, eo34⟩ := Kd.R_slice HO_5.out
          subst eo34
          go_wp2
          go_ret2
          exact ⟨_, by first | rfl | (simp [errW_none, errW_some] <;> rfl) | (simp [*, errW_none, errW_some] <;> rfl), by (with_reducible repeat (first | apply Kd.R_alloc | apply Kd.R_drewN | apply Kd.R_drew)); exact HO_5.out, by repeat (first | (with_reducible first | exact HB.out | apply below_alloc | apply pw_below_drewN | apply below_drew1) | exact HB.out)⟩

/-! ### postchaiselaw02_Same: function 22 -/
def postchaiselaw02_Same.l0 : Nat → List (S78) → List (S80) → Int → Option (Bool)
  | 0, _, _, _ => none
  | k + 1, x0, x1, x5 => if x5 < (x0.length : Int) then (if 0 ≤ x5 then (if x5 < (x1.length : Int) then (if ((rd_T78 x0 x5).f0) = ((rd_T80 x1 x5).f0) then (if ((rd_T78 x0 x5).f1) = ((rd_T80 x1 x5).f1) then (postchaiselaw02_Same.l0 k x0 x1 (wrap64 (x5 + 1))) else (some false)) else (some false)) else (none)) else (none)) else (some true)
def postchaiselaw02_Same.f (k : Nat) (l0 : List (S78)) (l1 : List (S80)) : Option (Bool) := if (l0.length : Int) = (l1.length : Int) then (postchaiselaw02_Same.l0 k l0 l1 0) else (some false)
theorem postchaiselaw02_Same.mono_l : ∀ k, (∀ y0 y1 y2, LeO (postchaiselaw02_Same.l0 k y0 y1 y2) (postchaiselaw02_Same.l0 (k + 1) y0 y1 y2))
  | 0 => fun _ _ _ r h => by simp [postchaiselaw02_Same.l0] at h
  | k + 1 => by
    have ih0 := postchaiselaw02_Same.mono_l k
    · intro y0 y1 y2
      unfold postchaiselaw02_Same.l0
      repeat' first
      | (with_reducible exact ih0 _ _ _)
      | (with_reducible exact LeO.refl _)
      | (with_reducible exact LeO.none _)
      | (with_reducible refine LeO.ite ?_ ?_)
      | (with_reducible refine LeO.bind ?_ (fun _ => ?_))
      | exact ih0 _ _ _
      | exact LeO.none _
      | refine LeO.ite ?_ ?_
      | refine LeO.bind ?_ (fun _ => ?_)
theorem postchaiselaw02_Same.mono : ∀ a0 a1 k, LeO (postchaiselaw02_Same.f k a0 a1) (postchaiselaw02_Same.f (k + 1) a0 a1) := by
  intro a0 a1 k
  have ih0 := postchaiselaw02_Same.mono_l k
  unfold postchaiselaw02_Same.f
  repeat' first
      | (with_reducible exact ih0 _ _ _)
      | (with_reducible exact LeO.refl _)
      | (with_reducible exact LeO.none _)
      | (with_reducible refine LeO.ite ?_ ?_)
      | (with_reducible refine LeO.bind ?_ (fun _ => ?_))
      | exact ih0 _ _ _
      | exact LeO.none _
      | refine LeO.ite ?_ ?_
      | refine LeO.bind ?_ (fun _ => ?_)
set_option maxHeartbeats 8000000 in
set_option maxRecDepth 100000 in
theorem postchaiselaw02_Same.calls (k : Nat) (A0 : Option Addr) (c0 : Nat) (l0 : List (S78)) (A1 : Option Addr) (c1 : Nat) (l1 : List (S80)) (r : Bool) (w : World) (hr0 : Kd.C k78 w A0 l0.length l0) (hc0 : l0.length ≤ c0) (hr1 : Kd.C k80 w A1 l1.length l1) (hc1 : l1.length ≤ c1) (h : postchaiselaw02_Same.f k l0 l1 = some r) :
    Calls Tryd.prog 22 #[.slice A0 l0.length c0, .slice A1 l1.length c1] w fun e w' => e = .returned (.bool r) ∧ Drawn0 w w' := by
  have HR0 := Aside0.mk hr0
  have HC0 := Aside0.mk hc0
  clear hr0 hc0
  have HR1 := Aside0.mk hr1
  have HC1 := Aside0.mk hc1
  clear hr1 hc1
  have H : (if (l0.length : Int) = (l1.length : Int) then (postchaiselaw02_Same.l0 k l0 l1 0) else (some false)) = some r := h
  clear h
  by_cases c3 : (l0.length : Int) = (l1.length : Int)
  · rw [if_pos c3] at H
    have c3b0 : ((l0.length : Int) == (l1.length : Int)) = true := beq_iff_eq.mpr c3
    have c3b1 : ((l0.length : Int) != (l1.length : Int)) = false := bne_eq_false_iff_eq.mpr c3
    have c3b2 : (l0.length == l1.length) = true := by first | simpa using c3 | (simp at c3 ⊢; omega)
    clear c3
    have H' := Aside0.mk H
    clear H
    go_enter Tryd.func22, Tryd.ntmps22
    go_wp2
    repeat (go_quiet (fail); try go_wp2)
    go_loopg [5] k (fun kq v5 w' => ∃ (x5_1 : Int), v5 = .int .i64 x5_1 ∧ Aside0 (postchaiselaw02_Same.l0 kq l0 l1 x5_1 = some r) ∧ Aside0 (kq ≤ k) ∧ Drawn0 w w')
    case atStart => exact ⟨(0), (by first | rfl | (simp; done) | (simp [*]; done)), H', ⟨Nat.le_refl _⟩, by repeat (first | exact Drawn0.refl _ | apply Drawn0.step)⟩
    case round =>
      clear H'
      try clear c1
      try clear c2
      try clear p2
      try clear c3
      try clear c3b0
      try clear c3b1
      try clear c3b2
      obtain ⟨x5_1, rfl, HA, HK1, ⟨m1, rfl⟩⟩ := hrel
      cases gk with
      | zero => exact absurd HA.out (by simp [postchaiselaw02_Same.l0])
      | succ k1 =>
        have H := HA.out
        clear HA
        simp only [postchaiselaw02_Same.l0] at H
        by_cases c4 : x5_1 < (l0.length : Int)
        · rw [if_pos c4] at H
          have c4b0 : decide (x5_1 < (l0.length : Int)) = true := decide_eq_true c4
          clear c4
          by_cases c5 : 0 ≤ x5_1
          · rw [if_pos c5] at H
            have c5b0 : decide (0 ≤ x5_1) = true := decide_eq_true c5
            clear c5
            by_cases c6 : x5_1 < (l1.length : Int)
            · rw [if_pos c6] at H
              have c6b0 : decide (x5_1 < (l1.length : Int)) = true := decide_eq_true c6
              clear c6
              by_cases c7 : ((rd_T78 l0 x5_1).f0) = ((rd_T80 l1 x5_1).f0)
              · rw [if_pos c7] at H
                have c7b0 : (((rd_T78 l0 x5_1).f0) == ((rd_T80 l1 x5_1).f0)) = true := beq_iff_eq.mpr c7
                have c7b1 : (((rd_T78 l0 x5_1).f0) != ((rd_T80 l1 x5_1).f0)) = false := bne_eq_false_iff_eq.mpr c7
                clear c7
                by_cases c8 : ((rd_T78 l0 x5_1).f1) = ((rd_T80 l1 x5_1).f1)
                · rw [if_pos c8] at H
                  have c8b0 : (((rd_T78 l0 x5_1).f1) == ((rd_T80 l1 x5_1).f1)) = true := beq_iff_eq.mpr c8
                  have c8b1 : (((rd_T78 l0 x5_1).f1) != ((rd_T80 l1 x5_1).f1)) = false := bne_eq_false_iff_eq.mpr c8
                  clear c8
                  have H' := Aside0.mk H
                  clear H
                  have p164 : 0 ≤ (x5_1 : Int) := of_decide_eq_true (by first | (with_reducible assumption) | assumption)
                  have q164 : x5_1 < (l0.length : Int) := of_decide_eq_true (by first | (with_reducible assumption) | assumption)
                  obtain ⟨ad164, e164, hx164_0, hx164_1⟩ := at_T78 HR0.out x5_1 p164 q164
                  cases e164
                  replace p164 := eq_true p164
                  replace q164 := eq_true q164
                  have p165 : 0 ≤ (x5_1 : Int) := of_decide_eq_true (by first | (with_reducible assumption) | assumption)
                  have q165 : x5_1 < (l1.length : Int) := of_decide_eq_true (by first | (with_reducible assumption) | assumption)
                  obtain ⟨ad165, e165, hx165_0, hx165_1⟩ := at_T80 HR1.out x5_1 p165 q165
                  cases e165
                  replace p165 := eq_true p165
                  replace q165 := eq_true q165
                  have p166 : 0 ≤ (x5_1 : Int) := of_decide_eq_true (by first | (with_reducible assumption) | assumption)
                  have q166 : x5_1 < (l0.length : Int) := of_decide_eq_true (by first | (with_reducible assumption) | assumption)
                  obtain ⟨ad166, e166, hx166_0, hx166_1⟩ := at_T78 HR0.out x5_1 p166 q166
                  obtain rfl : ad164 = ad166 := (by injection e166)
                  replace p166 := eq_true p166
                  replace q166 := eq_true q166
                  have p167 : 0 ≤ (x5_1 : Int) := of_decide_eq_true (by first | (with_reducible assumption) | assumption)
                  have q167 : x5_1 < (l1.length : Int) := of_decide_eq_true (by first | (with_reducible assumption) | assumption)
                  obtain ⟨ad167, e167, hx167_0, hx167_1⟩ := at_T80 HR1.out x5_1 p167 q167
                  obtain rfl : ad165 = ad167 := (by injection e167)
                  replace p167 := eq_true p167
                  replace q167 := eq_true q167
                  go_wp2
                  repeat (go_quiet (fail); try go_wp2)
                  go_roundg k1
                  case measure => have := HK1.out; omega
                  case rel => exact ⟨(wrap64 (x5_1 + 1)), (by first | rfl | (simp; done) | (simp [*]; done)), H', ⟨by have := HK1.out; omega⟩, by repeat (first | exact Drawn0.refl _ | apply Drawn0.step)⟩
                · rw [if_neg c8] at H
                  have c8b0 : (((rd_T78 l0 x5_1).f1) == ((rd_T80 l1 x5_1).f1)) = false := beq_eq_false_iff_ne.mpr c8
                  have c8b1 : (((rd_T78 l0 x5_1).f1) != ((rd_T80 l1 x5_1).f1)) = true := bne_iff_ne.mpr c8
                  obtain rfl := Option.some.inj H
                  have p164 : 0 ≤ (x5_1 : Int) := of_decide_eq_true (by first | (with_reducible assumption) | assumption)
                  have q164 : x5_1 < (l0.length : Int) := of_decide_eq_true (by first | (with_reducible assumption) | assumption)
                  obtain ⟨ad164, e164, hx164_0, hx164_1⟩ := at_T78 HR0.out x5_1 p164 q164
                  cases e164
                  replace p164 := eq_true p164
                  replace q164 := eq_true q164
                  have p165 : 0 ≤ (x5_1 : Int) := of_decide_eq_true (by first | (with_reducible assumption) | assumption)
                  have q165 : x5_1 < (l1.length : Int) := of_decide_eq_true (by first | (with_reducible assumption) | assumption)
                  obtain ⟨ad165, e165, hx165_0, hx165_1⟩ := at_T80 HR1.out x5_1 p165 q165
                  cases e165
                  replace p165 := eq_true p165
                  replace q165 := eq_true q165
                  have p166 : 0 ≤ (x5_1 : Int) := of_decide_eq_true (by first | (with_reducible assumption) | assumption)
                  have q166 : x5_1 < (l0.length : Int) := of_decide_eq_true (by first | (with_reducible assumption) | assumption)
                  obtain ⟨ad166, e166, hx166_0, hx166_1⟩ := at_T78 HR0.out x5_1 p166 q166
                  obtain rfl : ad164 = ad166 := (by injection e166)
                  replace p166 := eq_true p166
                  replace q166 := eq_true q166
                  have p167 : 0 ≤ (x5_1 : Int) := of_decide_eq_true (by first | (with_reducible assumption) | assumption)
                  have q167 : x5_1 < (l1.length : Int) := of_decide_eq_true (by first | (with_reducible assumption) | assumption)
                  obtain ⟨ad167, e167, hx167_0, hx167_1⟩ := at_T80 HR1.out x5_1 p167 q167
                  obtain rfl : ad165 = ad167 := (by injection e167)
                  replace p167 := eq_true p167
                  replace q167 := eq_true q167
                  go_wp2
                  repeat (go_quiet (fail); try go_wp2)
                  go_ret
                  exact ⟨by first | rfl | (simp; done) | (simp [*]; done), by repeat (first | exact Drawn0.refl _ | apply Drawn0.step)⟩
              · rw [if_neg c7] at H
                have c7b0 : (((rd_T78 l0 x5_1).f0) == ((rd_T80 l1 x5_1).f0)) = false := beq_eq_false_iff_ne.mpr c7
                have c7b1 : (((rd_T78 l0 x5_1).f0) != ((rd_T80 l1 x5_1).f0)) = true := bne_iff_ne.mpr c7
                obtain rfl := Option.some.inj H
                have p164 : 0 ≤ (x5_1 : Int) := of_decide_eq_true (by first | (with_reducible assumption) | assumption)
                have q164 : x5_1 < (l0.length : Int) := of_decide_eq_true (by first | (with_reducible assumption) | assumption)
                obtain ⟨ad164, e164, hx164_0, hx164_1⟩ := at_T78 HR0.out x5_1 p164 q164
                cases e164
                replace p164 := eq_true p164
                replace q164 := eq_true q164
                have p165 : 0 ≤ (x5_1 : Int) := of_decide_eq_true (by first | (with_reducible assumption) | assumption)
                have q165 : x5_1 < (l1.length : Int) := of_decide_eq_true (by first | (with_reducible assumption) | assumption)
                obtain ⟨ad165, e165, hx165_0, hx165_1⟩ := at_T80 HR1.out x5_1 p165 q165
                cases e165
                replace p165 := eq_true p165
                replace q165 := eq_true q165
                go_wp2
                repeat (go_quiet (fail); try go_wp2)
                go_ret
                exact ⟨by first | rfl | (simp; done) | (simp [*]; done), by repeat (first | exact Drawn0.refl _ | apply Drawn0.step)⟩
            · rw [if_neg c6] at H
              exact absurd H (by simp)
          · rw [if_neg c5] at H
            exact absurd H (by simp)
        · rw [if_neg c4] at H
          have c4b0 : decide (x5_1 < (l0.length : Int)) = false := decide_eq_false c4
          clear c4
          obtain rfl := Option.some.inj H
          go_wp2
          repeat (go_quiet (fail); try go_wp2)
          go_ret
          exact ⟨by first | rfl | (simp; done) | (simp [*]; done), by repeat (first | exact Drawn0.refl _ | apply Drawn0.step)⟩
  · rw [if_neg c3] at H
    have c3b0 : ((l0.length : Int) == (l1.length : Int)) = false := beq_eq_false_iff_ne.mpr c3
    have c3b1 : ((l0.length : Int) != (l1.length : Int)) = true := bne_iff_ne.mpr c3
    have c3b2 : (l0.length == l1.length) = false := by first | simpa using c3 | (simp at c3 ⊢; omega)
    obtain rfl := Option.some.inj H
    go_enter Tryd.func22, Tryd.ntmps22
    go_wp2
    repeat (go_quiet (fail); try go_wp2)
    go_ret
    exact ⟨by first | rfl | (simp; done) | (simp [*]; done), by repeat (first | exact Drawn0.refl _ | apply Drawn0.step)⟩

/-! ### seqset_text: function 44 -/
def seqset_text.f (a0 : Int) : Option (ByteArray) := if a0 = 0 then (some (⟨#[42]⟩ : ByteArray)) else ((strconv_FormatUint_59.f (IntKind.u64.wrap (a0)) 10).bind fun t168 => (some t168))
set_option maxHeartbeats 8000000 in
set_option maxRecDepth 100000 in
theorem seqset_text.calls (a0 : Int) (r : ByteArray) (w : World) (hG : GlobOk w) (h : seqset_text.f a0 = some r) :
    Calls Tryd.prog 44 #[.int .u32 a0] w fun e w' => e = .returned (.string r) ∧ Below w.heap.size w w' := by
  have HG_ := Aside0.mk hG
  clear hG
  have HB := Aside0.mk (Below.refl w.heap.size w)
  have H : (if a0 = 0 then (some (⟨#[42]⟩ : ByteArray)) else ((strconv_FormatUint_59.f (IntKind.u64.wrap (a0)) 10).bind fun t168 => (some t168))) = some r := h
  clear h
  by_cases c2 : a0 = 0
  · rw [if_pos c2] at H
    have c2b0 : (a0 == 0) = true := beq_iff_eq.mpr c2
    have c2b1 : (a0 != 0) = false := bne_eq_false_iff_eq.mpr c2
    clear c2
    obtain rfl := Option.some.inj H
    go_enter Tryd.func44, Tryd.ntmps44
    go_wp2
    go_ret
    exact ⟨by first | rfl | (simp [errW_none, errW_some] <;> rfl) | (simp [*, errW_none, errW_some] <;> rfl), by repeat (first | (with_reducible first | exact HB.out | apply below_alloc | apply pw_below_drewN | apply below_drew1) | exact HB.out)⟩
  · rw [if_neg c2] at H
    have c2b0 : (a0 == 0) = false := beq_eq_false_iff_ne.mpr c2
    have c2b1 : (a0 != 0) = true := bne_iff_ne.mpr c2
    replace H := Option.bind_eq_some_iff.mp H
    obtain ⟨t168, A30, H⟩ := H
    replace H : (some t168) = some r := H
    have A3 := Aside0.mk A30
    clear A30
    obtain rfl := Option.some.inj H
    go_enter Tryd.func44, Tryd.ntmps44
    go_wp2_with (first | ((with_reducible refine gate_callee (f := 59) rfl ?_); refine goesL_ (some 7) rfl rfl Tryd.func59 (by kernel_rfl) rfl #[.int .u64 (IntKind.u64.wrap (a0)), .int .i64 10] rfl (by (try simp only [List.map_toArray, List.map_cons, List.map_nil]); first | done | rfl | (simp only [List.length_drop, List.length_take]; rfl)) ?_; (with_reducible refine (strconv_FormatUint_59.calls (hG := HG_.out.on (by repeat (first | (with_reducible first | exact HB.out | apply below_alloc | apply pw_below_drewN | apply below_drew1) | exact HB.out))) (IntKind.u64.wrap (a0)) 10 t168 _ A3.out).mono ?_); rintro e w4 ⟨rfl, hb⟩; refine ⟨_, rfl, ?_⟩; have n0_ := Aside0.mk (below_step (by repeat (first | (with_reducible first | exact HB.out | apply below_alloc | apply pw_below_drewN | apply below_drew1) | exact HB.out)) hb); clear HB; have HB := n0_; clear n0_; (try clear hb); (try clear hb2); (try clear hk); (try clear hi)))
    go_ret
    exact ⟨by first | rfl | (simp [errW_none, errW_some] <;> rfl) | (simp [*, errW_none, errW_some] <;> rfl), by repeat (first | (with_reducible first | exact HB.out | apply below_alloc | apply pw_below_drewN | apply below_drew1) | exact HB.out)⟩

end Go.Proofs.YtahbnpkhkhdmaaaDoor.PSq
