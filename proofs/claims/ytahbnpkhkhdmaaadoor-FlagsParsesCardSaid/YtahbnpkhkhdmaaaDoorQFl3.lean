/- Contracts of plain functions, written by the kit's print for this claim (law Fl), with lemmas of this session's own laid in. -/
import Derived.Test.YtahbnpkhkhdmaaaDoorQFl0
import Derived.Test.YtahbnpkhkhdmaaaDoorQFl1
namespace Go.Proofs.YtahbnpkhkhdmaaaDoor.PFl
open Go.RowKit Go.Proofs.YtahbnpkhkhdmaaaDoorW.PrintWords Go.Proofs.YtahbnpkhkhdmaaaDoorW.PrintLast Go.Proofs.YtahbnpkhkhdmaaaDoorW.PrintMore
attribute [local go_sem] max2_int min2_int max_two min_two max_three min_three max_four min_four   -- for this text's walks alone
set_option linter.unusedVariables false
set_option linter.unusedSimpArgs false

-- NOT PRINTED: function 12 (flags_Set_Names)

-- NOT PRINTED: function 74 (abi_NoEscape)

-- NOT PRINTED: function 67 (strings_Builder_copyCheck)

-- NOT PRINTED: function 75 (bytealg_MakeNoZero)

-- NOT PRINTED: function 68 (strings_Builder_grow)

-- NOT PRINTED: function 53 (strings_Builder_Grow)

-- NOT PRINTED: function 54 (strings_Builder_WriteString)

-- NOT PRINTED: function 55 (strings_Builder_String)

-- NOT PRINTED: function 38 (strings_Join)

-- NOT PRINTED: function 56 (slices_AppendSeq_string_string)

-- NOT PRINTED: function 39 (slices_Collect_string)

-- NOT PRINTED: function 15 (flags_Set_String)

-- NOT PRINTED: function 11 (postchaiselaw01_awake)

-- NOT PRINTED: function 3 (postchaiselaw01_FlagsParses)

/-! ### postchaiseref01_Text: function 16 -/
def postchaiseref01_Text.l0 : Nat → Int → ByteArray → Int → Option (ByteArray)
  | 0, _, _, _ => none
  | k + 1, x0, x3, x4 => if x4 < 5 then ((postchaiseref01_Bit.f x0 x4).bind fun t127 => (if t127 = true then (if x3.toList = ([] : List UInt8) then ((postchaiseref01_Names.f).bind fun t128 => (if 0 ≤ x4 then (if x4 < (t128.length : Int) then (if x3.size + (rdOf ByteArray.empty t128 x4).size ≤ 9223372036854775807 then (postchaiseref01_Text.l0 k x0 (x3 ++ (rdOf ByteArray.empty t128 x4)) (wrap64 (x4 + 1))) else (none)) else (none)) else (none))) else (if x3.size + 1 ≤ 9223372036854775807 then ((postchaiseref01_Names.f).bind fun t132 => (if 0 ≤ x4 then (if x4 < (t132.length : Int) then (if (x3 ++ (⟨#[32]⟩ : ByteArray)).size + (rdOf ByteArray.empty t132 x4).size ≤ 9223372036854775807 then (postchaiseref01_Text.l0 k x0 ((x3 ++ (⟨#[32]⟩ : ByteArray)) ++ (rdOf ByteArray.empty t132 x4)) (wrap64 (x4 + 1))) else (none)) else (none)) else (none))) else (none))) else (postchaiseref01_Text.l0 k x0 x3 (wrap64 (x4 + 1))))) else (if 1 + x3.size ≤ 9223372036854775807 then (if ((⟨#[40]⟩ : ByteArray) ++ x3).size + 1 ≤ 9223372036854775807 then (some (((⟨#[40]⟩ : ByteArray) ++ x3) ++ (⟨#[41]⟩ : ByteArray))) else (none)) else (none))
def postchaiseref01_Text.f (k : Nat) (a0 : Int) : Option (ByteArray) := postchaiseref01_Text.l0 k a0 (⟨#[]⟩ : ByteArray) 0
theorem postchaiseref01_Text.mono_l : ∀ k, (∀ y0 y1 y2, LeO (postchaiseref01_Text.l0 k y0 y1 y2) (postchaiseref01_Text.l0 (k + 1) y0 y1 y2))
  | 0 => fun _ _ _ r h => by simp [postchaiseref01_Text.l0] at h
  | k + 1 => by
    have ih0 := postchaiseref01_Text.mono_l k
    · intro y0 y1 y2
      unfold postchaiseref01_Text.l0
      repeat' first
      | (with_reducible exact ih0 _ _ _)
      | (with_reducible exact LeO.refl _)
      | (with_reducible exact LeO.none _)
      | (with_reducible refine LeO.ite ?_ ?_)
      | (with_reducible refine LeO.bind ?_ (fun _ => ?_))
      | exact ih0 _ _ _
      | exact LeO.none _
      | refine LeO.ite ?_ ?_
      | refine LeO.bind ?_ (fun _ => ?_)
theorem postchaiseref01_Text.mono : ∀ a0 k, LeO (postchaiseref01_Text.f k a0) (postchaiseref01_Text.f (k + 1) a0) := by
  intro a0 k
  have ih0 := postchaiseref01_Text.mono_l k
  unfold postchaiseref01_Text.f
  repeat' first
      | (with_reducible exact ih0 _ _ _)
      | (with_reducible exact LeO.refl _)
      | (with_reducible exact LeO.none _)
      | (with_reducible refine LeO.ite ?_ ?_)
      | (with_reducible refine LeO.bind ?_ (fun _ => ?_))
      | exact ih0 _ _ _
      | exact LeO.none _
      | refine LeO.ite ?_ ?_
      | refine LeO.bind ?_ (fun _ => ?_)
set_option maxHeartbeats 8000000 in
set_option maxRecDepth 100000 in
theorem postchaiseref01_Text.calls (k : Nat) (a0 : Int) (r : ByteArray) (w : World) (h : postchaiseref01_Text.f k a0 = some r) :
    Calls Tryd.prog 16 #[.int .u8 a0] w fun e w' => e = .returned (.string r) ∧ Below w.heap.size w w' := by
  have HB := Aside0.mk (Below.refl w.heap.size w)
  have H : (postchaiseref01_Text.l0 k a0 (⟨#[]⟩ : ByteArray) 0) = some r := h
  clear h
  have H' := Aside0.mk H
  clear H
  go_enter Tryd.func16, Tryd.ntmps16
  go_wp2
  go_loopg [3, 4] k (fun kq v3 v4 w' => ∃ (x3_1 : ByteArray) (x4_1 : Int), v3 = .string x3_1 ∧ v4 = .int .i64 x4_1 ∧ Aside0 (postchaiseref01_Text.l0 kq a0 x3_1 x4_1 = some r) ∧ Aside0 (kq ≤ k) ∧ Aside0 (Below w.heap.size w w'))
  case atStart => exact ⟨((⟨#[]⟩ : ByteArray)), (0), (by first | rfl | (simp; done) | (simp [*]; done)), (by first | rfl | (simp; done) | (simp [*]; done)), H', ⟨Nat.le_refl _⟩, ⟨by repeat (first | (with_reducible first | exact HB.out | apply below_alloc | apply pw_below_drewN | apply below_drew1) | exact HB.out)⟩⟩
  case round =>
    clear H'
    try clear c1
    obtain ⟨x3_1, x4_1, rfl, rfl, HA, HK1, HB⟩ := hrel
    cases gk with
    | zero => exact absurd HA.out (by simp [postchaiseref01_Text.l0])
    | succ k1 =>
      have H := HA.out
      clear HA
      simp only [postchaiseref01_Text.l0] at H
      by_cases c2 : x4_1 < 5
      · rw [if_pos c2] at H
        have c2b0 : decide (x4_1 < 5) = true := decide_eq_true c2
        clear c2
        replace H := Option.bind_eq_some_iff.mp H
        obtain ⟨t127, A30, H⟩ := H
        replace H : (if t127 = true then (if x3_1.toList = ([] : List UInt8) then ((postchaiseref01_Names.f).bind fun t128 => (if 0 ≤ x4_1 then (if x4_1 < (t128.length : Int) then (if x3_1.size + (rdOf ByteArray.empty t128 x4_1).size ≤ 9223372036854775807 then (postchaiseref01_Text.l0 k1 a0 (x3_1 ++ (rdOf ByteArray.empty t128 x4_1)) (wrap64 (x4_1 + 1))) else (none)) else (none)) else (none))) else (if x3_1.size + 1 ≤ 9223372036854775807 then ((postchaiseref01_Names.f).bind fun t132 => (if 0 ≤ x4_1 then (if x4_1 < (t132.length : Int) then (if (x3_1 ++ (⟨#[32]⟩ : ByteArray)).size + (rdOf ByteArray.empty t132 x4_1).size ≤ 9223372036854775807 then (postchaiseref01_Text.l0 k1 a0 ((x3_1 ++ (⟨#[32]⟩ : ByteArray)) ++ (rdOf ByteArray.empty t132 x4_1)) (wrap64 (x4_1 + 1))) else (none)) else (none)) else (none))) else (none))) else (postchaiseref01_Text.l0 k1 a0 x3_1 (wrap64 (x4_1 + 1)))) = some r := H
        have A3 := Aside0.mk A30
        clear A30
        by_cases c4 : t127 = true
        · subst c4
          have H1 : (if x3_1.toList = ([] : List UInt8) then ((postchaiseref01_Names.f).bind fun t128 => (if 0 ≤ x4_1 then (if x4_1 < (t128.length : Int) then (if x3_1.size + (rdOf ByteArray.empty t128 x4_1).size ≤ 9223372036854775807 then (postchaiseref01_Text.l0 k1 a0 (x3_1 ++ (rdOf ByteArray.empty t128 x4_1)) (wrap64 (x4_1 + 1))) else (none)) else (none)) else (none))) else (if x3_1.size + 1 ≤ 9223372036854775807 then ((postchaiseref01_Names.f).bind fun t132 => (if 0 ≤ x4_1 then (if x4_1 < (t132.length : Int) then (if (x3_1 ++ (⟨#[32]⟩ : ByteArray)).size + (rdOf ByteArray.empty t132 x4_1).size ≤ 9223372036854775807 then (postchaiseref01_Text.l0 k1 a0 ((x3_1 ++ (⟨#[32]⟩ : ByteArray)) ++ (rdOf ByteArray.empty t132 x4_1)) (wrap64 (x4_1 + 1))) else (none)) else (none)) else (none))) else (none))) = some r := by rw [if_pos rfl] at H; exact H
          clear H
          have H := H1
          clear H1
          by_cases c5 : x3_1.toList = ([] : List UInt8)
          · rw [if_pos c5] at H
            have c5b0 : (x3_1.toList == ([] : List UInt8)) = true := beq_iff_eq.mpr c5
            have c5b1 : (x3_1.toList != ([] : List UInt8)) = false := bne_eq_false_iff_eq.mpr c5
            clear c5
            replace H := Option.bind_eq_some_iff.mp H
            obtain ⟨t128, A60, H⟩ := H
            replace H : (if 0 ≤ x4_1 then (if x4_1 < (t128.length : Int) then (if x3_1.size + (rdOf ByteArray.empty t128 x4_1).size ≤ 9223372036854775807 then (postchaiseref01_Text.l0 k1 a0 (x3_1 ++ (rdOf ByteArray.empty t128 x4_1)) (wrap64 (x4_1 + 1))) else (none)) else (none)) else (none)) = some r := H
            have A6 := Aside0.mk A60
            clear A60
            by_cases c7 : 0 ≤ x4_1
            · rw [if_pos c7] at H
              have c7b0 : decide (0 ≤ x4_1) = true := decide_eq_true c7
              clear c7
              by_cases c8 : x4_1 < (t128.length : Int)
              · rw [if_pos c8] at H
                have c8b0 : decide (x4_1 < (t128.length : Int)) = true := decide_eq_true c8
                clear c8
                by_cases c9 : x3_1.size + (rdOf ByteArray.empty t128 x4_1).size ≤ 9223372036854775807
                · rw [if_pos c9] at H
                  have c9b0 := eq_true c9
                  have c9b1 : decide (x3_1.size + (rdOf ByteArray.empty t128 x4_1).size ≤ 9223372036854775807) = true := decide_eq_true c9
                  try have c9b2 : (9223372036854775807 < x3_1.size + (rdOf ByteArray.empty t128 x4_1).size) = False := eq_false (Nat.not_lt.2 c9)
                  have H' := Aside0.mk H
                  clear H
                  go_wp2_with (first | ((with_reducible refine gate_callee (f := 13) rfl ?_); refine goesL_ (some 11) rfl rfl Tryd.func13 (by kernel_rfl) rfl #[.int .u8 a0, .int .i64 x4_1] rfl (by (try simp only [List.map_toArray, List.map_cons, List.map_nil]); first | done | rfl | (simp only [List.length_drop, List.length_take]; rfl)) ?_; (with_reducible refine (postchaiseref01_Bit.calls a0 x4_1 true _ A3.out).mono ?_); rintro e w' ⟨rfl, ⟨nd, rfl⟩⟩; refine ⟨_, rfl, ?_⟩) | ((with_reducible refine gate_callee (f := 14) rfl ?_); refine goesL_ (some 17) rfl rfl Tryd.func14 (by kernel_rfl) rfl #[] rfl (by (try simp only [List.map_toArray, List.map_cons, List.map_nil]); first | done | rfl | (simp only [List.length_drop, List.length_take]; rfl)) ?_; (with_reducible refine (postchaiseref01_Names.calls  t128 _ A6.out).mono ?_); rintro e w10 ⟨v129, rfl, ho0, hb⟩; refine ⟨_, rfl, ?_⟩; have n0_ := Aside0.mk (Kd.R_lower ho0 (below_size (by repeat (first | (with_reducible first | exact HB.out | apply below_alloc | apply pw_below_drewN | apply below_drew1) | exact HB.out)))); have n1_ := Aside0.mk (below_step (by repeat (first | (with_reducible first | exact HB.out | apply below_alloc | apply pw_below_drewN | apply below_drew1) | exact HB.out)) hb); clear HB; have HO130 := n0_; have HB := n1_; clear n0_ n1_; (try clear hb); (try clear hb2); (try clear hk); (try clear hi); (try clear ho0); obtain ⟨Ao11, co11, eo11⟩ := Kd.R_slice HO130.out; subst eo11; have p131 : 0 ≤ (x4_1 : Int) := of_decide_eq_true (by first | (with_reducible assumption) | assumption); have q131 : x4_1 < (t128.length : Int) := of_decide_eq_true (by first | (with_reducible assumption) | assumption); obtain ⟨ad131, e131, hx131_0⟩ := Kd.at_string (Kd.R_reads' HO130.out).2.2 x4_1 p131 q131; cases e131; replace p131 := eq_true p131; replace q131 := eq_true q131))
                  go_roundg k1
                  case measure => have := HK1.out; omega
                  case rel => exact ⟨(x3_1 ++ (rdOf ByteArray.empty t128 x4_1)), (wrap64 (x4_1 + 1)), (by first | rfl | (simp; done) | (simp [*]; done)), (by first | rfl | (simp; done) | (simp [*]; done)), H', ⟨by have := HK1.out; omega⟩, ⟨by repeat (first | (with_reducible first | exact HB.out | apply below_alloc | apply pw_below_drewN | apply below_drew1) | exact HB.out)⟩⟩
                · rw [if_neg c9] at H
                  exact absurd H (by simp)
              · rw [if_neg c8] at H
                exact absurd H (by simp)
            · rw [if_neg c7] at H
              exact absurd H (by simp)
          · rw [if_neg c5] at H
            have c5b0 : (x3_1.toList == ([] : List UInt8)) = false := beq_eq_false_iff_ne.mpr c5
            have c5b1 : (x3_1.toList != ([] : List UInt8)) = true := bne_iff_ne.mpr c5
            by_cases c12 : x3_1.size + 1 ≤ 9223372036854775807
            · rw [if_pos c12] at H
              have c12b0 := eq_true c12
              have c12b1 : decide (x3_1.size + 1 ≤ 9223372036854775807) = true := decide_eq_true c12
              try have c12b2 : (9223372036854775807 < x3_1.size + 1) = False := eq_false (Nat.not_lt.2 c12)
              replace H := Option.bind_eq_some_iff.mp H
              obtain ⟨t132, A130, H⟩ := H
              replace H : (if 0 ≤ x4_1 then (if x4_1 < (t132.length : Int) then (if (x3_1 ++ (⟨#[32]⟩ : ByteArray)).size + (rdOf ByteArray.empty t132 x4_1).size ≤ 9223372036854775807 then (postchaiseref01_Text.l0 k1 a0 ((x3_1 ++ (⟨#[32]⟩ : ByteArray)) ++ (rdOf ByteArray.empty t132 x4_1)) (wrap64 (x4_1 + 1))) else (none)) else (none)) else (none)) = some r := H
              have A13 := Aside0.mk A130
              clear A130
              by_cases c14 : 0 ≤ x4_1
              · rw [if_pos c14] at H
                have c14b0 : decide (0 ≤ x4_1) = true := decide_eq_true c14
                clear c14
                by_cases c15 : x4_1 < (t132.length : Int)
                · rw [if_pos c15] at H
                  have c15b0 : decide (x4_1 < (t132.length : Int)) = true := decide_eq_true c15
                  clear c15
                  by_cases c16 : (x3_1 ++ (⟨#[32]⟩ : ByteArray)).size + (rdOf ByteArray.empty t132 x4_1).size ≤ 9223372036854775807
                  · rw [if_pos c16] at H
                    have c16b0 := eq_true c16
                    have c16b1 : decide ((x3_1 ++ (⟨#[32]⟩ : ByteArray)).size + (rdOf ByteArray.empty t132 x4_1).size ≤ 9223372036854775807) = true := decide_eq_true c16
                    try have c16b2 : (9223372036854775807 < (x3_1 ++ (⟨#[32]⟩ : ByteArray)).size + (rdOf ByteArray.empty t132 x4_1).size) = False := eq_false (Nat.not_lt.2 c16)
                    have H' := Aside0.mk H
                    clear H
                    go_wp2_with (first | ((with_reducible refine gate_callee (f := 13) rfl ?_); refine goesL_ (some 11) rfl rfl Tryd.func13 (by kernel_rfl) rfl #[.int .u8 a0, .int .i64 x4_1] rfl (by (try simp only [List.map_toArray, List.map_cons, List.map_nil]); first | done | rfl | (simp only [List.length_drop, List.length_take]; rfl)) ?_; (with_reducible refine (postchaiseref01_Bit.calls a0 x4_1 true _ A3.out).mono ?_); rintro e w' ⟨rfl, ⟨nd, rfl⟩⟩; refine ⟨_, rfl, ?_⟩) | ((with_reducible refine gate_callee (f := 14) rfl ?_); refine goesL_ (some 17) rfl rfl Tryd.func14 (by kernel_rfl) rfl #[] rfl (by (try simp only [List.map_toArray, List.map_cons, List.map_nil]); first | done | rfl | (simp only [List.length_drop, List.length_take]; rfl)) ?_; (with_reducible refine (postchaiseref01_Names.calls  t132 _ A13.out).mono ?_); rintro e w17 ⟨v133, rfl, ho0, hb⟩; refine ⟨_, rfl, ?_⟩; have n0_ := Aside0.mk (Kd.R_lower ho0 (below_size (by repeat (first | (with_reducible first | exact HB.out | apply below_alloc | apply pw_below_drewN | apply below_drew1) | exact HB.out)))); have n1_ := Aside0.mk (below_step (by repeat (first | (with_reducible first | exact HB.out | apply below_alloc | apply pw_below_drewN | apply below_drew1) | exact HB.out)) hb); clear HB; have HO134 := n0_; have HB := n1_; clear n0_ n1_; (try clear hb); (try clear hb2); (try clear hk); (try clear hi); (try clear ho0); obtain ⟨Ao18, co18, eo18⟩ := Kd.R_slice HO134.out; subst eo18; have p135 : 0 ≤ (x4_1 : Int) := of_decide_eq_true (by first | (with_reducible assumption) | assumption); have q135 : x4_1 < (t132.length : Int) := of_decide_eq_true (by first | (with_reducible assumption) | assumption); obtain ⟨ad135, e135, hx135_0⟩ := Kd.at_string (Kd.R_reads' HO134.out).2.2 x4_1 p135 q135; cases e135; replace p135 := eq_true p135; replace q135 := eq_true q135))
                    go_roundg k1
                    case measure => have := HK1.out; omega
                    case rel => exact ⟨((x3_1 ++ (⟨#[32]⟩ : ByteArray)) ++ (rdOf ByteArray.empty t132 x4_1)), (wrap64 (x4_1 + 1)), (by first | rfl | (simp; done) | (simp [*]; done)), (by first | rfl | (simp; done) | (simp [*]; done)), H', ⟨by have := HK1.out; omega⟩, ⟨by repeat (first | (with_reducible first | exact HB.out | apply below_alloc | apply pw_below_drewN | apply below_drew1) | exact HB.out)⟩⟩
                  · rw [if_neg c16] at H
                    exact absurd H (by simp)
                · rw [if_neg c15] at H
                  exact absurd H (by simp)
              · rw [if_neg c14] at H
                exact absurd H (by simp)
            · rw [if_neg c12] at H
              exact absurd H (by simp)
        · replace c4 := Bool.eq_false_iff.mpr c4
          subst c4
          have H1 : (postchaiseref01_Text.l0 k1 a0 x3_1 (wrap64 (x4_1 + 1))) = some r := by rw [if_neg (show ¬ (false = true) by decide)] at H; exact H
          clear H
          have H := H1
          clear H1
          have H' := Aside0.mk H
          clear H
          go_wp2_with (first | ((with_reducible refine gate_callee (f := 13) rfl ?_); refine goesL_ (some 11) rfl rfl Tryd.func13 (by kernel_rfl) rfl #[.int .u8 a0, .int .i64 x4_1] rfl (by (try simp only [List.map_toArray, List.map_cons, List.map_nil]); first | done | rfl | (simp only [List.length_drop, List.length_take]; rfl)) ?_; (with_reducible refine (postchaiseref01_Bit.calls a0 x4_1 false _ A3.out).mono ?_); rintro e w' ⟨rfl, ⟨nd, rfl⟩⟩; refine ⟨_, rfl, ?_⟩))
          go_roundg k1
          case measure => have := HK1.out; omega
          case rel => exact ⟨(x3_1), (wrap64 (x4_1 + 1)), (by first | rfl | (simp; done) | (simp [*]; done)), (by first | rfl | (simp; done) | (simp [*]; done)), H', ⟨by have := HK1.out; omega⟩, ⟨by repeat (first | (with_reducible first | exact HB.out | apply below_alloc | apply pw_below_drewN | apply below_drew1) | exact HB.out)⟩⟩
      · rw [if_neg c2] at H
        have c2b0 : decide (x4_1 < 5) = false := decide_eq_false c2
        clear c2
        by_cases c19 : 1 + x3_1.size ≤ 9223372036854775807
        · rw [if_pos c19] at H
          have c19b0 := eq_true c19
          have c19b1 : decide (1 + x3_1.size ≤ 9223372036854775807) = true := decide_eq_true c19
          try have c19b2 : (9223372036854775807 < 1 + x3_1.size) = False := eq_false (Nat.not_lt.2 c19)
          by_cases c20 : ((⟨#[40]⟩ : ByteArray) ++ x3_1).size + 1 ≤ 9223372036854775807
          · rw [if_pos c20] at H
            have c20b0 := eq_true c20
            have c20b1 : decide (((⟨#[40]⟩ : ByteArray) ++ x3_1).size + 1 ≤ 9223372036854775807) = true := decide_eq_true c20
            try have c20b2 : (9223372036854775807 < ((⟨#[40]⟩ : ByteArray) ++ x3_1).size + 1) = False := eq_false (Nat.not_lt.2 c20)
            obtain rfl := Option.some.inj H
            have zA : 1 + x3_1.size + 1 ≤ 9223372036854775807 := by have := c20; rw [ByteArray.size_append] at this; exact this
            have zB : ((⟨#[40]⟩ : ByteArray) ++ x3_1).size = 1 + x3_1.size := by rw [ByteArray.size_append]; rfl
            go_wp2
            go_ret
            exact ⟨by first | rfl | (simp [errW_none, errW_some] <;> rfl) | (simp [*, errW_none, errW_some] <;> rfl), by repeat (first | (with_reducible first | exact HB.out | apply below_alloc | apply pw_below_drewN | apply below_drew1) | exact HB.out)⟩
          · rw [if_neg c20] at H
            exact absurd H (by simp)
        · rw [if_neg c19] at H
          exact absurd H (by simp)

/-! ### flags_Set_Has: function 17 -/
def flags_Set_Has.f (a0 : Int) (a1 : Int) : Option (Bool) := some ((Go.bits .andNot .u8 (Go.bits .and .u8 a1 31) a0) == 0)
set_option maxHeartbeats 8000000 in
set_option maxRecDepth 100000 in
theorem flags_Set_Has.calls (a0 : Int) (a1 : Int) (r : Bool) (w : World) (h : flags_Set_Has.f a0 a1 = some r) :
    Calls Tryd.prog 17 #[.int .u8 a0, .int .u8 a1] w fun e w' => e = .returned (.bool r) ∧ Drawn0 w w' := by
  have H : (some ((Go.bits .andNot .u8 (Go.bits .and .u8 a1 31) a0) == 0)) = some r := h
  clear h
  obtain rfl := Option.some.inj H
  go_enter Tryd.func17, Tryd.ntmps17
  go_wp2
  go_ret
  exact ⟨by first | rfl | (simp; done) | (simp [*]; done), by repeat (first | exact Drawn0.refl _ | apply Drawn0.step)⟩

/-! ### flags_Set_Change: function 18 -/
def flags_Set_Change.f (a0 : Int) (a1 : Int) (a2 : Int) : Option (Int) := if a1 = 0 then (some (Go.bits .and .u8 a2 31)) else (if a1 = 1 then (some (Go.bits .and .u8 (Go.bits .or .u8 a0 a2) 31)) else (if a1 = 2 then (some (Go.bits .and .u8 (Go.bits .andNot .u8 a0 a2) 31)) else (some (Go.bits .and .u8 a0 31))))
set_option maxHeartbeats 8000000 in
set_option maxRecDepth 100000 in
theorem flags_Set_Change.calls (a0 : Int) (a1 : Int) (a2 : Int) (r : Int) (w : World) (h : flags_Set_Change.f a0 a1 a2 = some r) :
    Calls Tryd.prog 18 #[.int .u8 a0, .int .i64 a1, .int .u8 a2] w fun e w' => e = .returned (.int .u8 r) ∧ Drawn0 w w' := by
  have H : (if a1 = 0 then (some (Go.bits .and .u8 a2 31)) else (if a1 = 1 then (some (Go.bits .and .u8 (Go.bits .or .u8 a0 a2) 31)) else (if a1 = 2 then (some (Go.bits .and .u8 (Go.bits .andNot .u8 a0 a2) 31)) else (some (Go.bits .and .u8 a0 31))))) = some r := h
  clear h
  by_cases c4 : a1 = 0
  · rw [if_pos c4] at H
    have c4b0 : (a1 == 0) = true := beq_iff_eq.mpr c4
    have c4b1 : (a1 != 0) = false := bne_eq_false_iff_eq.mpr c4
    clear c4
    obtain rfl := Option.some.inj H
    go_enter Tryd.func18, Tryd.ntmps18
    go_wp2
    go_ret
    exact ⟨by first | rfl | (simp; done) | (simp [*]; done), by repeat (first | exact Drawn0.refl _ | apply Drawn0.step)⟩
  · rw [if_neg c4] at H
    have c4b0 : (a1 == 0) = false := beq_eq_false_iff_ne.mpr c4
    have c4b1 : (a1 != 0) = true := bne_iff_ne.mpr c4
    by_cases c5 : a1 = 1
    · rw [if_pos c5] at H
      have c5b0 : (a1 == 1) = true := beq_iff_eq.mpr c5
      have c5b1 : (a1 != 1) = false := bne_eq_false_iff_eq.mpr c5
      clear c5
      obtain rfl := Option.some.inj H
      go_enter Tryd.func18, Tryd.ntmps18
      go_wp2
      go_ret
      exact ⟨by first | rfl | (simp; done) | (simp [*]; done), by repeat (first | exact Drawn0.refl _ | apply Drawn0.step)⟩
    · rw [if_neg c5] at H
      have c5b0 : (a1 == 1) = false := beq_eq_false_iff_ne.mpr c5
      have c5b1 : (a1 != 1) = true := bne_iff_ne.mpr c5
      by_cases c6 : a1 = 2
      · rw [if_pos c6] at H
        have c6b0 : (a1 == 2) = true := beq_iff_eq.mpr c6
        have c6b1 : (a1 != 2) = false := bne_eq_false_iff_eq.mpr c6
        clear c6
        obtain rfl := Option.some.inj H
        go_enter Tryd.func18, Tryd.ntmps18
        go_wp2
        go_ret
        exact ⟨by first | rfl | (simp; done) | (simp [*]; done), by repeat (first | exact Drawn0.refl _ | apply Drawn0.step)⟩
      · rw [if_neg c6] at H
        have c6b0 : (a1 == 2) = false := beq_eq_false_iff_ne.mpr c6
        have c6b1 : (a1 != 2) = true := bne_iff_ne.mpr c6
        obtain rfl := Option.some.inj H
        go_enter Tryd.func18, Tryd.ntmps18
        go_wp2
        go_ret
        exact ⟨by first | rfl | (simp; done) | (simp [*]; done), by repeat (first | exact Drawn0.refl _ | apply Drawn0.step)⟩

/-! ### postchaiseref01_Change: function 19 -/
mutual
def postchaiseref01_Change.l0 : Nat → Int → Int → Int → Int → Int → Option (Int)
  | 0, _, _, _, _, _ => none
  | k + 1, x0, x1, x2, x7, x8 => if x8 < 5 then ((postchaiseref01_Bit.f x0 x8).bind fun t136 => ((postchaiseref01_Bit.f x2 x8).bind fun t137 => (if x1 = 0 then (postchaiseref01_Change.j1 k x0 x1 x2 x7 x8 t136 t137 t137) else (postchaiseref01_Change.j1 k x0 x1 x2 x7 x8 t136 t137 t136)))) else (some x7)
def postchaiseref01_Change.j1 : Nat → Int → Int → Int → Int → Int → Bool → Bool → Bool → Option (Int)
  | 0, _, _, _, _, _, _, _, _ => none
  | k + 1, x0, x1, x2, x7, x8, x9, x10, x11 => if x1 = 1 then (if x9 = true then (postchaiseref01_Change.j2 k x0 x1 x2 x7 x8 x9 x10 true) else (postchaiseref01_Change.j2 k x0 x1 x2 x7 x8 x9 x10 x10)) else (postchaiseref01_Change.j2 k x0 x1 x2 x7 x8 x9 x10 x11)
def postchaiseref01_Change.j2 : Nat → Int → Int → Int → Int → Int → Bool → Bool → Bool → Option (Int)
  | 0, _, _, _, _, _, _, _, _ => none
  | k + 1, x0, x1, x2, x7, x8, x9, x10, x11 => if x1 = 2 then (if x9 = true then (if x10 = true then (postchaiseref01_Change.l0 k x0 x1 x2 x7 (wrap64 (x8 + 1))) else (if 0 ≤ x8 then (postchaiseref01_Change.l0 k x0 x1 x2 ((x7 + (shl .u8 1 x8)) % 256) (wrap64 (x8 + 1))) else (none))) else (postchaiseref01_Change.l0 k x0 x1 x2 x7 (wrap64 (x8 + 1)))) else (if x11 = true then (if 0 ≤ x8 then (postchaiseref01_Change.l0 k x0 x1 x2 ((x7 + (shl .u8 1 x8)) % 256) (wrap64 (x8 + 1))) else (none)) else (postchaiseref01_Change.l0 k x0 x1 x2 x7 (wrap64 (x8 + 1))))
end
def postchaiseref01_Change.f (k : Nat) (a0 : Int) (a1 : Int) (a2 : Int) : Option (Int) := postchaiseref01_Change.l0 k a0 a1 a2 0 0
theorem postchaiseref01_Change.mono_l : ∀ k, (∀ y0 y1 y2 y3 y4, LeO (postchaiseref01_Change.l0 k y0 y1 y2 y3 y4) (postchaiseref01_Change.l0 (k + 1) y0 y1 y2 y3 y4)) ∧ (∀ y0 y1 y2 y3 y4 y5 y6 y7, LeO (postchaiseref01_Change.j1 k y0 y1 y2 y3 y4 y5 y6 y7) (postchaiseref01_Change.j1 (k + 1) y0 y1 y2 y3 y4 y5 y6 y7)) ∧ (∀ y0 y1 y2 y3 y4 y5 y6 y7, LeO (postchaiseref01_Change.j2 k y0 y1 y2 y3 y4 y5 y6 y7) (postchaiseref01_Change.j2 (k + 1) y0 y1 y2 y3 y4 y5 y6 y7))
  | 0 => ⟨fun _ _ _ _ _ r h => by simp [postchaiseref01_Change.l0] at h, fun _ _ _ _ _ _ _ _ r h => by simp [postchaiseref01_Change.j1] at h, fun _ _ _ _ _ _ _ _ r h => by simp [postchaiseref01_Change.j2] at h⟩
  | k + 1 => by
    obtain ⟨ih0, ih1, ih2⟩ := postchaiseref01_Change.mono_l k
    refine ⟨?_, ?_, ?_⟩
    · intro y0 y1 y2 y3 y4
      unfold postchaiseref01_Change.l0
      repeat' first
      | (with_reducible exact ih0 _ _ _ _ _)
      | (with_reducible exact ih1 _ _ _ _ _ _ _ _)
      | (with_reducible exact ih2 _ _ _ _ _ _ _ _)
      | (with_reducible exact LeO.refl _)
      | (with_reducible exact LeO.none _)
      | (with_reducible refine LeO.ite ?_ ?_)
      | (with_reducible refine LeO.bind ?_ (fun _ => ?_))
      | exact ih0 _ _ _ _ _
      | exact ih1 _ _ _ _ _ _ _ _
      | exact ih2 _ _ _ _ _ _ _ _
      | exact LeO.none _
      | refine LeO.ite ?_ ?_
      | refine LeO.bind ?_ (fun _ => ?_)
    · intro y0 y1 y2 y3 y4 y5 y6 y7
      unfold postchaiseref01_Change.j1
      repeat' first
      | (with_reducible exact ih0 _ _ _ _ _)
      | (with_reducible exact ih1 _ _ _ _ _ _ _ _)
      | (with_reducible exact ih2 _ _ _ _ _ _ _ _)
      | (with_reducible exact LeO.refl _)
      | (with_reducible exact LeO.none _)
      | (with_reducible refine LeO.ite ?_ ?_)
      | (with_reducible refine LeO.bind ?_ (fun _ => ?_))
      | exact ih0 _ _ _ _ _
      | exact ih1 _ _ _ _ _ _ _ _
      | exact ih2 _ _ _ _ _ _ _ _
      | exact LeO.none _
      | refine LeO.ite ?_ ?_
      | refine LeO.bind ?_ (fun _ => ?_)
    · intro y0 y1 y2 y3 y4 y5 y6 y7
      unfold postchaiseref01_Change.j2
      repeat' first
      | (with_reducible exact ih0 _ _ _ _ _)
      | (with_reducible exact ih1 _ _ _ _ _ _ _ _)
      | (with_reducible exact ih2 _ _ _ _ _ _ _ _)
      | (with_reducible exact LeO.refl _)
      | (with_reducible exact LeO.none _)
      | (with_reducible refine LeO.ite ?_ ?_)
      | (with_reducible refine LeO.bind ?_ (fun _ => ?_))
      | exact ih0 _ _ _ _ _
      | exact ih1 _ _ _ _ _ _ _ _
      | exact ih2 _ _ _ _ _ _ _ _
      | exact LeO.none _
      | refine LeO.ite ?_ ?_
      | refine LeO.bind ?_ (fun _ => ?_)
theorem postchaiseref01_Change.mono : ∀ a0 a1 a2 k, LeO (postchaiseref01_Change.f k a0 a1 a2) (postchaiseref01_Change.f (k + 1) a0 a1 a2) := by
  intro a0 a1 a2 k
  obtain ⟨ih0, ih1, ih2⟩ := postchaiseref01_Change.mono_l k
  unfold postchaiseref01_Change.f
  repeat' first
      | (with_reducible exact ih0 _ _ _ _ _)
      | (with_reducible exact ih1 _ _ _ _ _ _ _ _)
      | (with_reducible exact ih2 _ _ _ _ _ _ _ _)
      | (with_reducible exact LeO.refl _)
      | (with_reducible exact LeO.none _)
      | (with_reducible refine LeO.ite ?_ ?_)
      | (with_reducible refine LeO.bind ?_ (fun _ => ?_))
      | exact ih0 _ _ _ _ _
      | exact ih1 _ _ _ _ _ _ _ _
      | exact ih2 _ _ _ _ _ _ _ _
      | exact LeO.none _
      | refine LeO.ite ?_ ?_
      | refine LeO.bind ?_ (fun _ => ?_)
set_option maxHeartbeats 8000000 in
set_option maxRecDepth 100000 in
theorem postchaiseref01_Change.calls (k : Nat) (a0 : Int) (a1 : Int) (a2 : Int) (r : Int) (w : World) (h : postchaiseref01_Change.f k a0 a1 a2 = some r) :
    Calls Tryd.prog 19 #[.int .u8 a0, .int .i64 a1, .int .u8 a2] w fun e w' => e = .returned (.int .u8 r) ∧ Drawn0 w w' := by
  have H : (postchaiseref01_Change.l0 k a0 a1 a2 0 0) = some r := h
  clear h
  have H' := Aside0.mk H
  clear H
  go_enter Tryd.func19, Tryd.ntmps19
  go_wp2
  go_loopg [7, 8] k (fun kq v7 v8 w' => ∃ (x7_1 : Int) (x8_1 : Int), v7 = .int .u8 x7_1 ∧ v8 = .int .i64 x8_1 ∧ Aside0 (postchaiseref01_Change.l0 kq a0 a1 a2 x7_1 x8_1 = some r) ∧ Aside0 (kq ≤ k) ∧ Drawn0 w w')
  case atStart => exact ⟨(0), (0), (by first | rfl | (simp; done) | (simp [*]; done)), (by first | rfl | (simp; done) | (simp [*]; done)), H', ⟨Nat.le_refl _⟩, by repeat (first | exact Drawn0.refl _ | apply Drawn0.step)⟩
  case round =>
    clear H'
    try clear c1
    try clear p2
    obtain ⟨x7_1, x8_1, rfl, rfl, HA, HK1, ⟨m1, rfl⟩⟩ := hrel
    cases gk with
    | zero => exact absurd HA.out (by simp [postchaiseref01_Change.l0])
    | succ k1 =>
      have H := HA.out
      clear HA
      simp only [postchaiseref01_Change.l0] at H
      by_cases c4 : x8_1 < 5
      · rw [if_pos c4] at H
        have c4b0 : decide (x8_1 < 5) = true := decide_eq_true c4
        clear c4
        replace H := Option.bind_eq_some_iff.mp H
        obtain ⟨t136, A50, H⟩ := H
        replace H : ((postchaiseref01_Bit.f a2 x8_1).bind fun t137 => (if a1 = 0 then (postchaiseref01_Change.j1 k1 a0 a1 a2 x7_1 x8_1 t136 t137 t137) else (postchaiseref01_Change.j1 k1 a0 a1 a2 x7_1 x8_1 t136 t137 t136))) = some r := H
        have A5 := Aside0.mk A50
        clear A50
        replace H := Option.bind_eq_some_iff.mp H
        obtain ⟨t137, A60, H⟩ := H
        replace H : (if a1 = 0 then (postchaiseref01_Change.j1 k1 a0 a1 a2 x7_1 x8_1 t136 t137 t137) else (postchaiseref01_Change.j1 k1 a0 a1 a2 x7_1 x8_1 t136 t137 t136)) = some r := H
        have A6 := Aside0.mk A60
        clear A60
        have HC7 := Aside0.mk H
        clear H
        go_upto_if 24 with (first | ((with_reducible refine gate_callee (f := 13) rfl ?_); refine goesL_ (some 18) rfl rfl Tryd.func13 (by kernel_rfl) rfl #[.int .u8 a0, .int .i64 x8_1] rfl (by (try simp only [List.map_toArray, List.map_cons, List.map_nil]); first | done | rfl | (simp only [List.length_drop, List.length_take]; rfl)) ?_; (with_reducible refine (postchaiseref01_Bit.calls a0 x8_1 t136 _ A5.out).mono ?_); rintro e w' ⟨rfl, ⟨nd, rfl⟩⟩; refine ⟨_, rfl, ?_⟩) | ((with_reducible refine gate_callee (f := 13) rfl ?_); refine goesL_ (some 21) rfl rfl Tryd.func13 (by kernel_rfl) rfl #[.int .u8 a2, .int .i64 x8_1] rfl (by (try simp only [List.map_toArray, List.map_cons, List.map_nil]); first | done | rfl | (simp only [List.length_drop, List.length_take]; rfl)) ?_; (with_reducible refine (postchaiseref01_Bit.calls a2 x8_1 t137 _ A6.out).mono ?_); rintro e w' ⟨rfl, ⟨nd, rfl⟩⟩; refine ⟨_, rfl, ?_⟩))
        (try simp only [Act.put, List.setIfInBounds_toArray, List.set_cons_zero, List.set_cons_succ])
        go_cut [11] (fun v11 wc => ∃ (kq : Nat) (x11_6 : Bool), v11 = .bool x11_6 ∧ Aside0 (postchaiseref01_Change.j1 kq a0 a1 a2 x7_1 x8_1 t136 t137 x11_6 = some r) ∧ Aside0 (kq ≤ k1) ∧ Drawn0 w wc)
        case first =>
          have H := HC7.out
          clear HC7
          by_cases c8 : a1 = 0
          · rw [if_pos c8] at H
            have c8b0 : (a1 == 0) = true := beq_iff_eq.mpr c8
            have c8b1 : (a1 != 0) = false := bne_eq_false_iff_eq.mpr c8
            clear c8
            (first | rw [c8b0] | (simp only [i64_w, i32_w]; rw [c8b0]) | skip)
            have H' := Aside0.mk H
            clear H
            go_wp2
            go_meet
            case rel => exact ⟨_, (t137), (by first | rfl | (simp; done) | (simp [*]; done)), H', ⟨by have := HK1.out; first | omega | exact Nat.le_refl _⟩, by repeat (first | exact Drawn0.refl _ | apply Drawn0.step)⟩
          · rw [if_neg c8] at H
            have c8b0 : (a1 == 0) = false := beq_eq_false_iff_ne.mpr c8
            have c8b1 : (a1 != 0) = true := bne_iff_ne.mpr c8
            (first | rw [c8b0] | (simp only [i64_w, i32_w]; rw [c8b0]) | skip)
            have H' := Aside0.mk H
            clear H
            go_wp2
            go_meet
            case rel => exact ⟨_, (t136), (by first | rfl | (simp; done) | (simp [*]; done)), H', ⟨by have := HK1.out; first | omega | exact Nat.le_refl _⟩, by repeat (first | exact Drawn0.refl _ | apply Drawn0.step)⟩
        case rest =>
          clear HC7
          try clear c1
          try clear p2
          try clear c4
          try clear c4b0
          try clear c8
          try clear c8b0
          try clear c8b1
          try clear p2
          obtain ⟨kq, x11_6, rfl, HA, HJ6, ⟨mc6, rfl⟩⟩ := hcut
          cases kq with
          | zero => exact absurd HA.out (by simp [postchaiseref01_Change.j1])
          | succ kj6 =>
            have H := HA.out
            clear HA
            simp only [postchaiseref01_Change.j1] at H
            have HC9 := Aside0.mk H
            clear H
            go_upto_if 27 with (fail)
            go_cut [11] (fun v11 wc => ∃ (kq : Nat) (x11_8 : Bool), v11 = .bool x11_8 ∧ Aside0 (postchaiseref01_Change.j2 kq a0 a1 a2 x7_1 x8_1 t136 t137 x11_8 = some r) ∧ Aside0 (kq ≤ kj6) ∧ Drawn0 w wc)
            case first =>
              have H := HC9.out
              clear HC9
              by_cases c10 : a1 = 1
              · rw [if_pos c10] at H
                have c10b0 : (a1 == 1) = true := beq_iff_eq.mpr c10
                have c10b1 : (a1 != 1) = false := bne_eq_false_iff_eq.mpr c10
                clear c10
                (first | rw [c10b0] | (simp only [i64_w, i32_w]; rw [c10b0]) | skip)
                by_cases c11 : t136 = true
                · subst c11
                  have H1 : (postchaiseref01_Change.j2 kj6 a0 a1 a2 x7_1 x8_1 true t137 true) = some r := by rw [if_pos rfl] at H; exact H
                  clear H
                  have H := H1
                  clear H1
                  have H' := Aside0.mk H
                  clear H
                  go_wp2
                  go_meet
                  case rel => exact ⟨_, (true), (by first | rfl | (simp; done) | (simp [*]; done)), H', ⟨by have := HK1.out; have := HJ6.out; first | omega | exact Nat.le_refl _⟩, by repeat (first | exact Drawn0.refl _ | apply Drawn0.step)⟩
                · replace c11 := Bool.eq_false_iff.mpr c11
                  subst c11
                  have H1 : (postchaiseref01_Change.j2 kj6 a0 a1 a2 x7_1 x8_1 false t137 t137) = some r := by rw [if_neg (show ¬ (false = true) by decide)] at H; exact H
                  clear H
                  have H := H1
                  clear H1
                  have H' := Aside0.mk H
                  clear H
                  go_wp2
                  go_meet
                  case rel => exact ⟨_, (t137), (by first | rfl | (simp; done) | (simp [*]; done)), H', ⟨by have := HK1.out; have := HJ6.out; first | omega | exact Nat.le_refl _⟩, by repeat (first | exact Drawn0.refl _ | apply Drawn0.step)⟩
              · rw [if_neg c10] at H
                have c10b0 : (a1 == 1) = false := beq_eq_false_iff_ne.mpr c10
                have c10b1 : (a1 != 1) = true := bne_iff_ne.mpr c10
                (first | rw [c10b0] | (simp only [i64_w, i32_w]; rw [c10b0]) | skip)
                have H' := Aside0.mk H
                clear H
                go_wp2
                go_meet
                case rel => exact ⟨_, (x11_6), (by first | rfl | (simp; done) | (simp [*]; done)), H', ⟨by have := HK1.out; have := HJ6.out; first | omega | exact Nat.le_refl _⟩, by repeat (first | exact Drawn0.refl _ | apply Drawn0.step)⟩
            case rest =>
              clear HC9
              try clear c1
              try clear p2
              try clear c4
              try clear c4b0
              try clear c6
              try clear c8
              try clear c8b0
              try clear c8b1
              try clear c10
              try clear c10b0
              try clear c10b1
              try clear c11
              try clear p2
              obtain ⟨kq, x11_8, rfl, HA, HJ8, ⟨mc8, rfl⟩⟩ := hcut
              cases kq with
              | zero => exact absurd HA.out (by simp [postchaiseref01_Change.j2])
              | succ kj8 =>
                have H := HA.out
                clear HA
                simp only [postchaiseref01_Change.j2] at H
                by_cases c12 : a1 = 2
                · rw [if_pos c12] at H
                  have c12b0 : (a1 == 2) = true := beq_iff_eq.mpr c12
                  have c12b1 : (a1 != 2) = false := bne_eq_false_iff_eq.mpr c12
                  clear c12
                  by_cases c13 : t136 = true
                  · subst c13
                    have H1 : (if t137 = true then (postchaiseref01_Change.l0 kj8 a0 a1 a2 x7_1 (wrap64 (x8_1 + 1))) else (if 0 ≤ x8_1 then (postchaiseref01_Change.l0 kj8 a0 a1 a2 ((x7_1 + (shl .u8 1 x8_1)) % 256) (wrap64 (x8_1 + 1))) else (none))) = some r := by rw [if_pos rfl] at H; exact H
                    clear H
                    have H := H1
                    clear H1
                    by_cases c14 : t137 = true
                    · subst c14
                      have H1 : (postchaiseref01_Change.l0 kj8 a0 a1 a2 x7_1 (wrap64 (x8_1 + 1))) = some r := by rw [if_pos rfl] at H; exact H
                      clear H
                      have H := H1
                      clear H1
                      have H' := Aside0.mk H
                      clear H
                      go_wp2
                      go_roundg kj8
                      case measure => have := HK1.out; have := HJ6.out; have := HJ8.out; omega
                      case rel => exact ⟨(x7_1), (wrap64 (x8_1 + 1)), (by first | rfl | (simp; done) | (simp [*]; done)), (by first | rfl | (simp; done) | (simp [*]; done)), H', ⟨by have := HK1.out; have := HJ6.out; have := HJ8.out; omega⟩, by repeat (first | exact Drawn0.refl _ | apply Drawn0.step)⟩
                    · replace c14 := Bool.eq_false_iff.mpr c14
                      subst c14
                      have H1 : (if 0 ≤ x8_1 then (postchaiseref01_Change.l0 kj8 a0 a1 a2 ((x7_1 + (shl .u8 1 x8_1)) % 256) (wrap64 (x8_1 + 1))) else (none)) = some r := by rw [if_neg (show ¬ (false = true) by decide)] at H; exact H
                      clear H
                      have H := H1
                      clear H1
                      by_cases c15 : 0 ≤ x8_1
                      · rw [if_pos c15] at H
                        have c15b0 := eq_true c15
                        have c15b1 : decide (0 ≤ x8_1) = true := decide_eq_true c15
                        clear c15
                        obtain ⟨ji16, hji16⟩ : ∃ j_ : Int, (shl .u8 1 x8_1) = j_ := ⟨_, rfl⟩
                        replace H : (postchaiseref01_Change.l0 kj8 a0 a1 a2 ((x7_1 + (ji16)) % 256) (wrap64 (x8_1 + 1))) = some r := by first | (rw [hji16] at H; exact H) | (simp only [hji16] at H ⊢; exact H)
                        have hji16_ : (IntKind.u8.wrap (1 * 2 ^ min x8_1.toNat 8)) = ji16 := hji16
                        have hji16z : x8_1 ≤ 8 → (IntKind.u8.wrap (1 * 2 ^ x8_1.toNat)) = ji16 := shl_small hji16
                        have hji16u : (IntKind.u8.wrap (2 ^ min x8_1.toNat 8)) = ji16 := by have h_ := hji16_; rw [Int.one_mul] at h_; exact h_
                        have hji16v : x8_1 ≤ 8 → (IntKind.u8.wrap (2 ^ x8_1.toNat)) = ji16 := fun hle_ => by have h_ := hji16z hle_; rw [Int.one_mul] at h_; exact h_
                        have H' := Aside0.mk H
                        clear H
                        go_wp2
                        go_roundg kj8
                        case measure => have := HK1.out; have := HJ6.out; have := HJ8.out; omega
                        case rel => exact ⟨((x7_1 + (ji16)) % 256), (wrap64 (x8_1 + 1)), (by first | rfl | (simp; done) | (simp only [← hji16] <;> (first | rfl | simp)) | (simp [*]; done)), (by first | rfl | (simp; done) | (simp [*]; done)), H', ⟨by have := HK1.out; have := HJ6.out; have := HJ8.out; omega⟩, by repeat (first | exact Drawn0.refl _ | apply Drawn0.step)⟩
                      · rw [if_neg c15] at H
                        exact absurd H (by simp)
                  · replace c13 := Bool.eq_false_iff.mpr c13
                    subst c13
                    have H1 : (postchaiseref01_Change.l0 kj8 a0 a1 a2 x7_1 (wrap64 (x8_1 + 1))) = some r := by rw [if_neg (show ¬ (false = true) by decide)] at H; exact H
                    clear H
                    have H := H1
                    clear H1
                    have H' := Aside0.mk H
                    clear H
                    go_wp2
                    go_roundg kj8
                    case measure => have := HK1.out; have := HJ6.out; have := HJ8.out; omega
                    case rel => exact ⟨(x7_1), (wrap64 (x8_1 + 1)), (by first | rfl | (simp; done) | (simp [*]; done)), (by first | rfl | (simp; done) | (simp [*]; done)), H', ⟨by have := HK1.out; have := HJ6.out; have := HJ8.out; omega⟩, by repeat (first | exact Drawn0.refl _ | apply Drawn0.step)⟩
                · rw [if_neg c12] at H
                  have c12b0 : (a1 == 2) = false := beq_eq_false_iff_ne.mpr c12
                  have c12b1 : (a1 != 2) = true := bne_iff_ne.mpr c12
                  by_cases c17 : x11_8 = true
                  · subst c17
                    have H1 : (if 0 ≤ x8_1 then (postchaiseref01_Change.l0 kj8 a0 a1 a2 ((x7_1 + (shl .u8 1 x8_1)) % 256) (wrap64 (x8_1 + 1))) else (none)) = some r := by rw [if_pos rfl] at H; exact H
                    clear H
                    have H := H1
                    clear H1
                    by_cases c18 : 0 ≤ x8_1
                    · rw [if_pos c18] at H
                      have c18b0 := eq_true c18
                      have c18b1 : decide (0 ≤ x8_1) = true := decide_eq_true c18
                      clear c18
                      obtain ⟨ji19, hji19⟩ : ∃ j_ : Int, (shl .u8 1 x8_1) = j_ := ⟨_, rfl⟩
                      replace H : (postchaiseref01_Change.l0 kj8 a0 a1 a2 ((x7_1 + (ji19)) % 256) (wrap64 (x8_1 + 1))) = some r := by first | (rw [hji19] at H; exact H) | (simp only [hji19] at H ⊢; exact H)
                      have hji19_ : (IntKind.u8.wrap (1 * 2 ^ min x8_1.toNat 8)) = ji19 := hji19
                      have hji19z : x8_1 ≤ 8 → (IntKind.u8.wrap (1 * 2 ^ x8_1.toNat)) = ji19 := shl_small hji19
                      have hji19u : (IntKind.u8.wrap (2 ^ min x8_1.toNat 8)) = ji19 := by have h_ := hji19_; rw [Int.one_mul] at h_; exact h_
                      have hji19v : x8_1 ≤ 8 → (IntKind.u8.wrap (2 ^ x8_1.toNat)) = ji19 := fun hle_ => by have h_ := hji19z hle_; rw [Int.one_mul] at h_; exact h_
                      have H' := Aside0.mk H
                      clear H
                      go_wp2
                      go_roundg kj8
                      case measure => have := HK1.out; have := HJ6.out; have := HJ8.out; omega
                      case rel => exact ⟨((x7_1 + (ji19)) % 256), (wrap64 (x8_1 + 1)), (by first | rfl | (simp; done) | (simp only [← hji19] <;> (first | rfl | simp)) | (simp [*]; done)), (by first | rfl | (simp; done) | (simp [*]; done)), H', ⟨by have := HK1.out; have := HJ6.out; have := HJ8.out; omega⟩, by repeat (first | exact Drawn0.refl _ | apply Drawn0.step)⟩
                    · rw [if_neg c18] at H
                      exact absurd H (by simp)
                  · replace c17 := Bool.eq_false_iff.mpr c17
                    subst c17
                    have H1 : (postchaiseref01_Change.l0 kj8 a0 a1 a2 x7_1 (wrap64 (x8_1 + 1))) = some r := by rw [if_neg (show ¬ (false = true) by decide)] at H; exact H
                    clear H
                    have H := H1
                    clear H1
                    have H' := Aside0.mk H
                    clear H
                    go_wp2
                    go_roundg kj8
                    case measure => have := HK1.out; have := HJ6.out; have := HJ8.out; omega
                    case rel => exact ⟨(x7_1), (wrap64 (x8_1 + 1)), (by first | rfl | (simp; done) | (simp [*]; done)), (by first | rfl | (simp; done) | (simp [*]; done)), H', ⟨by have := HK1.out; have := HJ6.out; have := HJ8.out; omega⟩, by repeat (first | exact Drawn0.refl _ | apply Drawn0.step)⟩
      · rw [if_neg c4] at H
        have c4b0 : decide (x8_1 < 5) = false := decide_eq_false c4
        clear c4
        obtain rfl := Option.some.inj H
        go_wp2
        go_ret
        exact ⟨by first | rfl | (simp; done) | (simp [*]; done), by repeat (first | exact Drawn0.refl _ | apply Drawn0.step)⟩

-- NOT PRINTED: function 4 (postchaiselaw01_FlagsTells)

-- NOT PRINTED: function 5 (postchaiselaw01_FlagsBack)

end Go.Proofs.YtahbnpkhkhdmaaaDoor.PFl
