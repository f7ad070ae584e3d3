/- Contracts of plain functions, written by the kit's print for this claim (key Tk), of which this text keeps those that are used. -/
import Derived.Test.YtphaemaccdddfaaDoorQTk0
import Derived.Test.YtphaemaccdddfaaDoorTkLib
import Derived.Test.YtphaemaccdddfaaDoorQTq1
namespace Go.Proofs.YtphaemaccdddfaaDoor.PTk
open Go.RowKit Go.Proofs.YtphaemaccdddfaaDoorW.PrintWords Go.Proofs.YtphaemaccdddfaaDoorW.PrintLast Go.Proofs.YtphaemaccdddfaaDoorW.PrintMore
attribute [local go_sem] max2_int min2_int max_two min_two max_three min_three max_four min_four   -- for this text's walks alone
set_option linter.unusedVariables false
set_option linter.unusedSimpArgs false

/-! ### postchaiseref12_Quote: function 29 -/
mutual
def postchaiseref12_Quote.j0 : Nat → ByteArray → Bool → Option (ByteArray)
  | 0, _, _ => none
  | k + 1, x0, x14 => if x14 = true then (some x0) else (postchaiseref12_Quote.l0 k x0 (⟨#[34]⟩ : ByteArray) (decide ((x0.size : Int) ≤ 100)) 0)
def postchaiseref12_Quote.l0 : Nat → ByteArray → ByteArray → Bool → Int → Option (ByteArray)
  | 0, _, _, _, _ => none
  | k + 1, x0, x3, x4, x5 => if x5 < (x0.size : Int) then (postchaiseref12_Quote.j2 k x0 x3 x4 x5 x4) else (postchaiseref12_Quote.j2 k x0 x3 x4 x5 false)
def postchaiseref12_Quote.j2 : Nat → ByteArray → ByteArray → Bool → Int → Bool → Option (ByteArray)
  | 0, _, _, _, _, _ => none
  | k + 1, x0, x3, x4, x5, x25 => if x25 = true then (if 0 ≤ x5 then (if x5 < (x0.size : Int) then (if (bt x0 x5) = 13 then (postchaiseref12_Quote.j3 k x0 x3 x4 x5 true) else (postchaiseref12_Quote.j3 k x0 x3 x4 x5 ((bt x0 x5) == 10))) else (none)) else (none)) else (if x4 = true then (if x3.size + 1 ≤ 9223372036854775807 then (some (x3 ++ (⟨#[34]⟩ : ByteArray))) else (none)) else ((postchaiseref02_Num.f k (x0.size : Int)).bind fun t316 => (if 1 + t316.size ≤ 9223372036854775807 then (if ((⟨#[123]⟩ : ByteArray) ++ t316).size + 3 ≤ 9223372036854775807 then (if (((⟨#[123]⟩ : ByteArray) ++ t316) ++ (⟨#[125, 13, 10]⟩ : ByteArray)).size + x0.size ≤ 9223372036854775807 then (some ((((⟨#[123]⟩ : ByteArray) ++ t316) ++ (⟨#[125, 13, 10]⟩ : ByteArray)) ++ x0)) else (none)) else (none)) else (none))))
def postchaiseref12_Quote.j3 : Nat → ByteArray → ByteArray → Bool → Int → Bool → Option (ByteArray)
  | 0, _, _, _, _, _ => none
  | k + 1, x0, x3, x4, x5, x37 => if x37 = true then (if 0 ≤ x5 then (if x5 < (x0.size : Int) then (if (bt x0 x5) = 34 then (if x3.size + 1 ≤ 9223372036854775807 then (if x5 ≤ (wrap64 (x5 + 1)) then (if (wrap64 (x5 + 1)) ≤ (x0.size : Int) then (if (x3 ++ (⟨#[92]⟩ : ByteArray)).size + (x0.extract (x5 : Int).toNat ((wrap64 (x5 + 1)) : Int).toNat).size ≤ 9223372036854775807 then (postchaiseref12_Quote.l0 k x0 ((x3 ++ (⟨#[92]⟩ : ByteArray)) ++ (x0.extract (x5 : Int).toNat ((wrap64 (x5 + 1)) : Int).toNat)) false (wrap64 (x5 + 1))) else (none)) else (none)) else (none)) else (none)) else (if (bt x0 x5) = 92 then (if x3.size + 1 ≤ 9223372036854775807 then (if x5 ≤ (wrap64 (x5 + 1)) then (if (wrap64 (x5 + 1)) ≤ (x0.size : Int) then (if (x3 ++ (⟨#[92]⟩ : ByteArray)).size + (x0.extract (x5 : Int).toNat ((wrap64 (x5 + 1)) : Int).toNat).size ≤ 9223372036854775807 then (postchaiseref12_Quote.l0 k x0 ((x3 ++ (⟨#[92]⟩ : ByteArray)) ++ (x0.extract (x5 : Int).toNat ((wrap64 (x5 + 1)) : Int).toNat)) false (wrap64 (x5 + 1))) else (none)) else (none)) else (none)) else (none)) else (if x5 ≤ (wrap64 (x5 + 1)) then (if (wrap64 (x5 + 1)) ≤ (x0.size : Int) then (if x3.size + (x0.extract (x5 : Int).toNat ((wrap64 (x5 + 1)) : Int).toNat).size ≤ 9223372036854775807 then (postchaiseref12_Quote.l0 k x0 (x3 ++ (x0.extract (x5 : Int).toNat ((wrap64 (x5 + 1)) : Int).toNat)) false (wrap64 (x5 + 1))) else (none)) else (none)) else (none)))) else (none)) else (none)) else (if 0 ≤ x5 then (if x5 < (x0.size : Int) then (if (bt x0 x5) = 34 then (if x3.size + 1 ≤ 9223372036854775807 then (if x5 ≤ (wrap64 (x5 + 1)) then (if (wrap64 (x5 + 1)) ≤ (x0.size : Int) then (if (x3 ++ (⟨#[92]⟩ : ByteArray)).size + (x0.extract (x5 : Int).toNat ((wrap64 (x5 + 1)) : Int).toNat).size ≤ 9223372036854775807 then (postchaiseref12_Quote.l0 k x0 ((x3 ++ (⟨#[92]⟩ : ByteArray)) ++ (x0.extract (x5 : Int).toNat ((wrap64 (x5 + 1)) : Int).toNat)) x4 (wrap64 (x5 + 1))) else (none)) else (none)) else (none)) else (none)) else (if (bt x0 x5) = 92 then (if x3.size + 1 ≤ 9223372036854775807 then (if x5 ≤ (wrap64 (x5 + 1)) then (if (wrap64 (x5 + 1)) ≤ (x0.size : Int) then (if (x3 ++ (⟨#[92]⟩ : ByteArray)).size + (x0.extract (x5 : Int).toNat ((wrap64 (x5 + 1)) : Int).toNat).size ≤ 9223372036854775807 then (postchaiseref12_Quote.l0 k x0 ((x3 ++ (⟨#[92]⟩ : ByteArray)) ++ (x0.extract (x5 : Int).toNat ((wrap64 (x5 + 1)) : Int).toNat)) x4 (wrap64 (x5 + 1))) else (none)) else (none)) else (none)) else (none)) else (if x5 ≤ (wrap64 (x5 + 1)) then (if (wrap64 (x5 + 1)) ≤ (x0.size : Int) then (if x3.size + (x0.extract (x5 : Int).toNat ((wrap64 (x5 + 1)) : Int).toNat).size ≤ 9223372036854775807 then (postchaiseref12_Quote.l0 k x0 (x3 ++ (x0.extract (x5 : Int).toNat ((wrap64 (x5 + 1)) : Int).toNat)) x4 (wrap64 (x5 + 1))) else (none)) else (none)) else (none)))) else (none)) else (none))
end
def postchaiseref12_Quote.f (k : Nat) (a0 : ByteArray) : Option (ByteArray) := if a0.toList = ([] : List UInt8) then (postchaiseref12_Quote.j0 k a0 false) else ((postchaiseref12_row.f k a0 0).bind fun t315 => (postchaiseref12_Quote.j0 k a0 (t315 == (a0.size : Int))))
theorem postchaiseref12_Quote.mono_l : ∀ k, (∀ y0 y1, LeO (postchaiseref12_Quote.j0 k y0 y1) (postchaiseref12_Quote.j0 (k + 1) y0 y1)) ∧ (∀ y0 y1 y2 y3, LeO (postchaiseref12_Quote.l0 k y0 y1 y2 y3) (postchaiseref12_Quote.l0 (k + 1) y0 y1 y2 y3)) ∧ (∀ y0 y1 y2 y3 y4, LeO (postchaiseref12_Quote.j2 k y0 y1 y2 y3 y4) (postchaiseref12_Quote.j2 (k + 1) y0 y1 y2 y3 y4)) ∧ (∀ y0 y1 y2 y3 y4, LeO (postchaiseref12_Quote.j3 k y0 y1 y2 y3 y4) (postchaiseref12_Quote.j3 (k + 1) y0 y1 y2 y3 y4))
  | 0 => ⟨fun _ _ r h => by simp [postchaiseref12_Quote.j0] at h, fun _ _ _ _ r h => by simp [postchaiseref12_Quote.l0] at h, fun _ _ _ _ _ r h => by simp [postchaiseref12_Quote.j2] at h, fun _ _ _ _ _ r h => by simp [postchaiseref12_Quote.j3] at h⟩
  | k + 1 => by
    obtain ⟨ih0, ih1, ih2, ih3⟩ := postchaiseref12_Quote.mono_l k
    refine ⟨?_, ?_, ?_, ?_⟩
    · intro y0 y1
      unfold postchaiseref12_Quote.j0
      repeat' first
      | (with_reducible exact ih0 _ _)
      | (with_reducible exact ih1 _ _ _ _)
      | (with_reducible exact ih2 _ _ _ _ _)
      | (with_reducible exact ih3 _ _ _ _ _)
      | (with_reducible exact postchaiseref02_Num.mono _ _)
      | (with_reducible exact postchaiseref12_row.mono _ _ _)
      | (with_reducible exact LeO.refl _)
      | (with_reducible exact LeO.none _)
      | (with_reducible refine LeO.ite ?_ ?_)
      | (with_reducible refine LeO.bind ?_ (fun _ => ?_))
      | exact ih0 _ _
      | exact ih1 _ _ _ _
      | exact ih2 _ _ _ _ _
      | exact ih3 _ _ _ _ _
      | exact postchaiseref02_Num.mono _ _
      | exact postchaiseref12_row.mono _ _ _
      | exact LeO.none _
      | refine LeO.ite ?_ ?_
      | refine LeO.bind ?_ (fun _ => ?_)
    · intro y0 y1 y2 y3
      unfold postchaiseref12_Quote.l0
      repeat' first
      | (with_reducible exact ih0 _ _)
      | (with_reducible exact ih1 _ _ _ _)
      | (with_reducible exact ih2 _ _ _ _ _)
      | (with_reducible exact ih3 _ _ _ _ _)
      | (with_reducible exact postchaiseref02_Num.mono _ _)
      | (with_reducible exact postchaiseref12_row.mono _ _ _)
      | (with_reducible exact LeO.refl _)
      | (with_reducible exact LeO.none _)
      | (with_reducible refine LeO.ite ?_ ?_)
      | (with_reducible refine LeO.bind ?_ (fun _ => ?_))
      | exact ih0 _ _
      | exact ih1 _ _ _ _
      | exact ih2 _ _ _ _ _
      | exact ih3 _ _ _ _ _
      | exact postchaiseref02_Num.mono _ _
      | exact postchaiseref12_row.mono _ _ _
      | exact LeO.none _
      | refine LeO.ite ?_ ?_
      | refine LeO.bind ?_ (fun _ => ?_)
    · intro y0 y1 y2 y3 y4
      unfold postchaiseref12_Quote.j2
      repeat' first
      | (with_reducible exact ih0 _ _)
      | (with_reducible exact ih1 _ _ _ _)
      | (with_reducible exact ih2 _ _ _ _ _)
      | (with_reducible exact ih3 _ _ _ _ _)
      | (with_reducible exact postchaiseref02_Num.mono _ _)
      | (with_reducible exact postchaiseref12_row.mono _ _ _)
      | (with_reducible exact LeO.refl _)
      | (with_reducible exact LeO.none _)
      | (with_reducible refine LeO.ite ?_ ?_)
      | (with_reducible refine LeO.bind ?_ (fun _ => ?_))
      | exact ih0 _ _
      | exact ih1 _ _ _ _
      | exact ih2 _ _ _ _ _
      | exact ih3 _ _ _ _ _
      | exact postchaiseref02_Num.mono _ _
      | exact postchaiseref12_row.mono _ _ _
      | exact LeO.none _
      | refine LeO.ite ?_ ?_
      | refine LeO.bind ?_ (fun _ => ?_)
    · intro y0 y1 y2 y3 y4
      unfold postchaiseref12_Quote.j3
      repeat' first
      | (with_reducible exact ih0 _ _)
      | (with_reducible exact ih1 _ _ _ _)
      | (with_reducible exact ih2 _ _ _ _ _)
      | (with_reducible exact ih3 _ _ _ _ _)
      | (with_reducible exact postchaiseref02_Num.mono _ _)
      | (with_reducible exact postchaiseref12_row.mono _ _ _)
      | (with_reducible exact LeO.refl _)
      | (with_reducible exact LeO.none _)
      | (with_reducible refine LeO.ite ?_ ?_)
      | (with_reducible refine LeO.bind ?_ (fun _ => ?_))
      | exact ih0 _ _
      | exact ih1 _ _ _ _
      | exact ih2 _ _ _ _ _
      | exact ih3 _ _ _ _ _
      | exact postchaiseref02_Num.mono _ _
      | exact postchaiseref12_row.mono _ _ _
      | exact LeO.none _
      | refine LeO.ite ?_ ?_
      | refine LeO.bind ?_ (fun _ => ?_)
theorem postchaiseref12_Quote.mono : ∀ a0 k, LeO (postchaiseref12_Quote.f k a0) (postchaiseref12_Quote.f (k + 1) a0) := by
  intro a0 k
  obtain ⟨ih0, ih1, ih2, ih3⟩ := postchaiseref12_Quote.mono_l k
  unfold postchaiseref12_Quote.f
  repeat' first
      | (with_reducible exact ih0 _ _)
      | (with_reducible exact ih1 _ _ _ _)
      | (with_reducible exact ih2 _ _ _ _ _)
      | (with_reducible exact ih3 _ _ _ _ _)
      | (with_reducible exact postchaiseref02_Num.mono _ _)
      | (with_reducible exact postchaiseref12_row.mono _ _ _)
      | (with_reducible exact LeO.refl _)
      | (with_reducible exact LeO.none _)
      | (with_reducible refine LeO.ite ?_ ?_)
      | (with_reducible refine LeO.bind ?_ (fun _ => ?_))
      | exact ih0 _ _
      | exact ih1 _ _ _ _
      | exact ih2 _ _ _ _ _
      | exact ih3 _ _ _ _ _
      | exact postchaiseref02_Num.mono _ _
      | exact postchaiseref12_row.mono _ _ _
      | exact LeO.none _
      | refine LeO.ite ?_ ?_
      | refine LeO.bind ?_ (fun _ => ?_)
set_option maxHeartbeats 8000000 in
set_option maxRecDepth 100000 in
theorem postchaiseref12_Quote.calls (k : Nat) (a0 : ByteArray) (r : ByteArray) (w : World) (h : postchaiseref12_Quote.f k a0 = some r) :
    Calls Tryd.prog 29 #[.string a0] w fun e w' => e = .returned (.string r) ∧ Drawn0 w w' := by
  have H : (if a0.toList = ([] : List UInt8) then (postchaiseref12_Quote.j0 k a0 false) else ((postchaiseref12_row.f k a0 0).bind fun t315 => (postchaiseref12_Quote.j0 k a0 (t315 == (a0.size : Int))))) = some r := h
  clear h
  have HC2 := Aside0.mk H
  clear H
  go_enter Tryd.func29, Tryd.ntmps29
  go_upto_region 1 with (fail)
  go_cut [14] (fun v14 wc => ∃ (kq : Nat) (x14_1 : Bool), v14 = .bool x14_1 ∧ Aside0 (postchaiseref12_Quote.j0 kq a0 x14_1 = some r) ∧ Aside0 (kq ≤ k) ∧ Drawn0 w wc)
  case first =>
    have H := HC2.out
    clear HC2
    by_cases c3 : a0.toList = ([] : List UInt8)
    · rw [if_pos c3] at H
      have c3b0 : (a0.toList == ([] : List UInt8)) = true := beq_iff_eq.mpr c3
      have c3b1 : (a0.toList != ([] : List UInt8)) = false := bne_eq_false_iff_eq.mpr c3
      clear c3
      (first | rw [c3b0] | (simp only [i64_w, i32_w]; rw [c3b0]) | skip)
      have H' := Aside0.mk H
      clear H
      go_wp2
      go_meet
      case rel => exact ⟨_, (false), (by first | rfl | (simp; done) | (simp [*]; done)), H', ⟨by first | omega | exact Nat.le_refl _⟩, by repeat (first | exact Drawn0.refl _ | apply Drawn0.step)⟩
    · rw [if_neg c3] at H
      have c3b0 : (a0.toList == ([] : List UInt8)) = false := beq_eq_false_iff_ne.mpr c3
      have c3b1 : (a0.toList != ([] : List UInt8)) = true := bne_iff_ne.mpr c3
      (first | rw [c3b0] | (simp only [i64_w, i32_w]; rw [c3b0]) | skip)
      replace H := Option.bind_eq_some_iff.mp H
      obtain ⟨t315, A40, H⟩ := H
      replace H : (postchaiseref12_Quote.j0 k a0 (t315 == (a0.size : Int))) = some r := H
      have A4 := Aside0.mk A40
      clear A40
      have H' := Aside0.mk H
      clear H
      go_wp2_with (first | (go_at_call 53; (with_reducible refine (postchaiseref12_row.calls k a0 0 t315 _ A4.out).mono ?_); rintro e w' ⟨rfl, ⟨nd, rfl⟩⟩))
      go_meet
      case rel => exact ⟨_, ((t315 == (a0.size : Int))), (by first | rfl | (simp; done) | (simp [*]; done)), H', ⟨by first | omega | exact Nat.le_refl _⟩, by repeat (first | exact Drawn0.refl _ | apply Drawn0.step)⟩
  case rest =>
    clear HC2
    try clear c2
    try clear p2
    try clear c3
    try clear c3b0
    try clear c3b1
    obtain ⟨kq, x14_1, rfl, HA, HJ1, ⟨mc1, rfl⟩⟩ := hcut
    cases kq with
    | zero => exact absurd HA.out (by simp [postchaiseref12_Quote.j0])
    | succ kj1 =>
      have H := HA.out
      clear HA
      simp only [postchaiseref12_Quote.j0] at H
      by_cases c5 : x14_1 = true
      · subst c5
        have H1 : (some a0) = some r := by rw [if_pos rfl] at H; exact H
        clear H
        have H := H1
        clear H1
        obtain rfl := Option.some.inj H
        go_wp2
        go_ret
        exact ⟨by first | rfl | (simp; done) | (simp [*]; done), by repeat (first | exact Drawn0.refl _ | apply Drawn0.step)⟩
      · replace c5 := Bool.eq_false_iff.mpr c5
        subst c5
        have H1 : (postchaiseref12_Quote.l0 kj1 a0 (⟨#[34]⟩ : ByteArray) (decide ((a0.size : Int) ≤ 100)) 0) = some r := by rw [if_neg (show ¬ (false = true) by decide)] at H; exact H
        clear H
        have H := H1
        clear H1
        have H' := Aside0.mk H
        clear H
        go_wp2
        go_loopg [3, 4, 5] kj1 (fun kq v3 v4 v5 w' => ∃ (x3_2 : ByteArray) (x4_2 : Bool) (x5_2 : Int), v3 = .string x3_2 ∧ v4 = .bool x4_2 ∧ v5 = .int .i64 x5_2 ∧ Aside0 (postchaiseref12_Quote.l0 kq a0 x3_2 x4_2 x5_2 = some r) ∧ Aside0 (kq ≤ kj1) ∧ Drawn0 w w')
        case atStart => exact ⟨((⟨#[34]⟩ : ByteArray)), (decide ((a0.size : Int) ≤ 100)), (0), (by first | rfl | (simp; done) | (simp [*]; done)), (by first | rfl | (simp; done) | (simp [*]; done)), (by first | rfl | (simp; done) | (simp [*]; done)), H', ⟨Nat.le_refl _⟩, by repeat (first | exact Drawn0.refl _ | apply Drawn0.step)⟩
        case round =>
          clear H'
          try clear c1
          try clear c2
          try clear p2
          try clear c3
          try clear c3b0
          try clear c3b1
          try clear c5
          try clear p2
          obtain ⟨x3_2, x4_2, x5_2, rfl, rfl, rfl, HA, HK2, ⟨m2, rfl⟩⟩ := hrel
          cases gk with
          | zero => exact absurd HA.out (by simp [postchaiseref12_Quote.l0])
          | succ k2 =>
            have H := HA.out
            clear HA
            simp only [postchaiseref12_Quote.l0] at H
            have HC6 := Aside0.mk H
            clear H
            go_upto_region 6 with (fail)
            go_cut [25] (fun v25 wc => ∃ (kq : Nat) (x25_5 : Bool), v25 = .bool x25_5 ∧ Aside0 (postchaiseref12_Quote.j2 kq a0 x3_2 x4_2 x5_2 x25_5 = some r) ∧ Aside0 (kq ≤ k2) ∧ Drawn0 w wc)
            case first =>
              have H := HC6.out
              clear HC6
              by_cases c7 : x5_2 < (a0.size : Int)
              · rw [if_pos c7] at H
                have c7b0 : decide (x5_2 < (a0.size : Int)) = true := decide_eq_true c7
                clear c7
                (first | rw [c7b0] | (simp only [i64_w, i32_w]; rw [c7b0]) | skip)
                have H' := Aside0.mk H
                clear H
                go_wp2
                go_meet
                case rel => exact ⟨_, (x4_2), (by first | rfl | (simp; done) | (simp [*]; done)), H', ⟨by have := HJ1.out; have := HK2.out; first | omega | exact Nat.le_refl _⟩, by repeat (first | exact Drawn0.refl _ | apply Drawn0.step)⟩
              · rw [if_neg c7] at H
                have c7b0 : decide (x5_2 < (a0.size : Int)) = false := decide_eq_false c7
                clear c7
                (first | rw [c7b0] | (simp only [i64_w, i32_w]; rw [c7b0]) | skip)
                have H' := Aside0.mk H
                clear H
                go_wp2
                go_meet
                case rel => exact ⟨_, (false), (by first | rfl | (simp; done) | (simp [*]; done)), H', ⟨by have := HJ1.out; have := HK2.out; first | omega | exact Nat.le_refl _⟩, by repeat (first | exact Drawn0.refl _ | apply Drawn0.step)⟩
            case rest =>
              clear HC6
              try clear c1
              try clear c2
              try clear p2
              try clear c3
              try clear c3b0
              try clear c3b1
              try clear c5
              try clear c7
              try clear c7b0
              try clear p2
              obtain ⟨kq, x25_5, rfl, HA, HJ5, ⟨mc5, rfl⟩⟩ := hcut
              cases kq with
              | zero => exact absurd HA.out (by simp [postchaiseref12_Quote.j2])
              | succ kj5 =>
                have H := HA.out
                clear HA
                simp only [postchaiseref12_Quote.j2] at H
                by_cases c8 : x25_5 = true
                · subst c8
                  have H1 : (if 0 ≤ x5_2 then (if x5_2 < (a0.size : Int) then (if (bt a0 x5_2) = 13 then (postchaiseref12_Quote.j3 kj5 a0 x3_2 x4_2 x5_2 true) else (postchaiseref12_Quote.j3 kj5 a0 x3_2 x4_2 x5_2 ((bt a0 x5_2) == 10))) else (none)) else (none)) = some r := by rw [if_pos rfl] at H; exact H
                  clear H
                  have H := H1
                  clear H1
                  have HC9 := Aside0.mk H
                  clear H
                  go_upto_region 8 with (fail)
                  go_cut [37] (fun v37 wc => ∃ (kq : Nat) (x37_8 : Bool), v37 = .bool x37_8 ∧ Aside0 (postchaiseref12_Quote.j3 kq a0 x3_2 x4_2 x5_2 x37_8 = some r) ∧ Aside0 (kq ≤ kj5) ∧ Drawn0 w wc)
                  case first =>
                    have H := HC9.out
                    clear HC9
                    by_cases c10 : 0 ≤ x5_2
                    · rw [if_pos c10] at H
                      have c10b0 : decide (0 ≤ x5_2) = true := decide_eq_true c10
                      clear c10
                      (first | rw [c10b0] | (simp only [i64_w, i32_w]; rw [c10b0]) | skip)
                      by_cases c11 : x5_2 < (a0.size : Int)
                      · rw [if_pos c11] at H
                        have c11b0 : decide (x5_2 < (a0.size : Int)) = true := decide_eq_true c11
                        clear c11
                        by_cases c13 : (bt a0 x5_2) = 13
                        · rw [if_pos c13] at H
                          have c13b0 : ((bt a0 x5_2) == 13) = true := beq_iff_eq.mpr c13
                          have c13b1 : ((bt a0 x5_2) != 13) = false := bne_eq_false_iff_eq.mpr c13
                          clear c13
                          have H' := Aside0.mk H
                          clear H
                          have p12 : 0 ≤ (x5_2 : Int) := of_decide_eq_true (by first | (with_reducible assumption) | assumption)
                          have q12 : x5_2 < (a0.size : Int) := of_decide_eq_true (by first | (with_reducible assumption) | assumption)
                          have hx12 := bt_at a0 x5_2
                          replace p12 := eq_true p12
                          replace q12 := eq_true q12
                          go_wp2
                          go_meet
                          case rel => exact ⟨_, (true), (by first | rfl | (simp; done) | (simp [*]; done)), H', ⟨by have := HJ1.out; have := HK2.out; have := HJ5.out; first | omega | exact Nat.le_refl _⟩, by repeat (first | exact Drawn0.refl _ | apply Drawn0.step)⟩
                        · rw [if_neg c13] at H
                          have c13b0 : ((bt a0 x5_2) == 13) = false := beq_eq_false_iff_ne.mpr c13
                          have c13b1 : ((bt a0 x5_2) != 13) = true := bne_iff_ne.mpr c13
                          have H' := Aside0.mk H
                          clear H
                          have p12 : 0 ≤ (x5_2 : Int) := of_decide_eq_true (by first | (with_reducible assumption) | assumption)
                          have q12 : x5_2 < (a0.size : Int) := of_decide_eq_true (by first | (with_reducible assumption) | assumption)
                          have hx12 := bt_at a0 x5_2
                          replace p12 := eq_true p12
                          replace q12 := eq_true q12
                          have p14 : 0 ≤ (x5_2 : Int) := of_decide_eq_true (by first | (with_reducible assumption) | assumption)
                          have q14 : x5_2 < (a0.size : Int) := of_decide_eq_true (by first | (with_reducible assumption) | assumption)
                          have hx14 := bt_at a0 x5_2
                          replace p14 := eq_true p14
                          replace q14 := eq_true q14
                          go_wp2
                          go_meet
                          case rel => exact ⟨_, (((bt a0 x5_2) == 10)), (by first | rfl | (simp; done) | (simp [*]; done)), H', ⟨by have := HJ1.out; have := HK2.out; have := HJ5.out; first | omega | exact Nat.le_refl _⟩, by repeat (first | exact Drawn0.refl _ | apply Drawn0.step)⟩
                      · rw [if_neg c11] at H
                        exact absurd H (by simp)
                    · rw [if_neg c10] at H
                      exact absurd H (by simp)
                  case rest =>
                    clear HC9
                    try clear c1
                    try clear p1
                    try clear q1
                    try clear hx1
                    try clear c2
                    try clear p2
                    try clear c3
                    try clear c3b0
                    try clear c3b1
                    try clear c5
                    try clear c7
                    try clear c7b0
                    try clear c8
                    try clear c10
                    try clear c10b0
                    try clear c11
                    try clear c11b0
                    try clear p12
                    try clear q12
                    try clear hx12
                    try clear c13
                    try clear c13b0
                    try clear c13b1
                    try clear p14
                    try clear q14
                    try clear hx14
                    try clear p12
                    try clear p14
                    try clear p2
                    try clear q12
                    try clear q14
                    obtain ⟨kq, x37_8, rfl, HA, HJ8, ⟨mc8, rfl⟩⟩ := hcut
                    cases kq with
                    | zero => exact absurd HA.out (by simp [postchaiseref12_Quote.j3])
                    | succ kj8 =>
                      have H := HA.out
                      clear HA
                      simp only [postchaiseref12_Quote.j3] at H
                      by_cases c15 : x37_8 = true
                      · subst c15
                        have H1 : (if 0 ≤ x5_2 then (if x5_2 < (a0.size : Int) then (if (bt a0 x5_2) = 34 then (if x3_2.size + 1 ≤ 9223372036854775807 then (if x5_2 ≤ (wrap64 (x5_2 + 1)) then (if (wrap64 (x5_2 + 1)) ≤ (a0.size : Int) then (if (x3_2 ++ (⟨#[92]⟩ : ByteArray)).size + (a0.extract (x5_2 : Int).toNat ((wrap64 (x5_2 + 1)) : Int).toNat).size ≤ 9223372036854775807 then (postchaiseref12_Quote.l0 kj8 a0 ((x3_2 ++ (⟨#[92]⟩ : ByteArray)) ++ (a0.extract (x5_2 : Int).toNat ((wrap64 (x5_2 + 1)) : Int).toNat)) false (wrap64 (x5_2 + 1))) else (none)) else (none)) else (none)) else (none)) else (if (bt a0 x5_2) = 92 then (if x3_2.size + 1 ≤ 9223372036854775807 then (if x5_2 ≤ (wrap64 (x5_2 + 1)) then (if (wrap64 (x5_2 + 1)) ≤ (a0.size : Int) then (if (x3_2 ++ (⟨#[92]⟩ : ByteArray)).size + (a0.extract (x5_2 : Int).toNat ((wrap64 (x5_2 + 1)) : Int).toNat).size ≤ 9223372036854775807 then (postchaiseref12_Quote.l0 kj8 a0 ((x3_2 ++ (⟨#[92]⟩ : ByteArray)) ++ (a0.extract (x5_2 : Int).toNat ((wrap64 (x5_2 + 1)) : Int).toNat)) false (wrap64 (x5_2 + 1))) else (none)) else (none)) else (none)) else (none)) else (if x5_2 ≤ (wrap64 (x5_2 + 1)) then (if (wrap64 (x5_2 + 1)) ≤ (a0.size : Int) then (if x3_2.size + (a0.extract (x5_2 : Int).toNat ((wrap64 (x5_2 + 1)) : Int).toNat).size ≤ 9223372036854775807 then (postchaiseref12_Quote.l0 kj8 a0 (x3_2 ++ (a0.extract (x5_2 : Int).toNat ((wrap64 (x5_2 + 1)) : Int).toNat)) false (wrap64 (x5_2 + 1))) else (none)) else (none)) else (none)))) else (none)) else (none)) = some r := by rw [if_pos rfl] at H; exact H
                        clear H
                        have H := H1
                        clear H1
                        by_cases c16 : 0 ≤ x5_2
                        · rw [if_pos c16] at H
                          have c16b0 : decide (0 ≤ x5_2) = true := decide_eq_true c16
                          clear c16
                          by_cases c17 : x5_2 < (a0.size : Int)
                          · rw [if_pos c17] at H
                            have c17b0 : decide (x5_2 < (a0.size : Int)) = true := decide_eq_true c17
                            clear c17
                            by_cases c19 : (bt a0 x5_2) = 34
                            · rw [if_pos c19] at H
                              have c19b0 : ((bt a0 x5_2) == 34) = true := beq_iff_eq.mpr c19
                              have c19b1 : ((bt a0 x5_2) != 34) = false := bne_eq_false_iff_eq.mpr c19
                              clear c19
                              by_cases c20 : x3_2.size + 1 ≤ 9223372036854775807
                              · rw [if_pos c20] at H
                                have c20b0 := eq_true c20
                                have c20b1 : decide (x3_2.size + 1 ≤ 9223372036854775807) = true := decide_eq_true c20
                                try have c20b2 : (9223372036854775807 < x3_2.size + 1) = False := eq_false (Nat.not_lt.2 c20)
                                have c21b0 := eq_true (of_decide_eq_true (by first | (with_reducible assumption) | assumption) : 0 ≤ x5_2)
                                by_cases c22 : x5_2 ≤ (wrap64 (x5_2 + 1))
                                · rw [if_pos c22] at H
                                  have c22b0 := eq_true c22
                                  have c22b1 : decide (x5_2 ≤ (wrap64 (x5_2 + 1))) = true := decide_eq_true c22
                                  by_cases c23 : (wrap64 (x5_2 + 1)) ≤ (a0.size : Int)
                                  · rw [if_pos c23] at H
                                    have c23b0 := eq_true c23
                                    have c23b1 : decide ((wrap64 (x5_2 + 1)) ≤ (a0.size : Int)) = true := decide_eq_true c23
                                    by_cases c24 : (x3_2 ++ (⟨#[92]⟩ : ByteArray)).size + (a0.extract (x5_2 : Int).toNat ((wrap64 (x5_2 + 1)) : Int).toNat).size ≤ 9223372036854775807
                                    · rw [if_pos c24] at H
                                      have c24b0 := eq_true c24
                                      have c24b1 : decide ((x3_2 ++ (⟨#[92]⟩ : ByteArray)).size + (a0.extract (x5_2 : Int).toNat ((wrap64 (x5_2 + 1)) : Int).toNat).size ≤ 9223372036854775807) = true := decide_eq_true c24
                                      try have c24b2 : (9223372036854775807 < (x3_2 ++ (⟨#[92]⟩ : ByteArray)).size + (a0.extract (x5_2 : Int).toNat ((wrap64 (x5_2 + 1)) : Int).toNat).size) = False := eq_false (Nat.not_lt.2 c24)
                                      try (have c24b4 := c24; simp [ByteArray.size_append] at c24b4; have c24b5 := eq_false (Nat.not_lt.2 c24b4))
                                      try have c24b3 : (9223372036854775807 < (x3_2 ++ (⟨#[92]⟩ : ByteArray)).size + ((((wrap64 (x5_2 + 1)) : Int)).toNat - ((x5_2 : Int)).toNat)) = False := eq_false (by have h_ := c24; have z0_ : (((wrap64 (x5_2 + 1)) : Int)) ≤ ((a0).size : Int) := of_decide_eq_true (by assumption); simp only [ByteArray.size_extract] at h_; omega)
                                      have H' := Aside0.mk H
                                      clear H
                                      have p18 : 0 ≤ (x5_2 : Int) := of_decide_eq_true (by first | (with_reducible assumption) | assumption)
                                      have q18 : x5_2 < (a0.size : Int) := of_decide_eq_true (by first | (with_reducible assumption) | assumption)
                                      have hx18 := bt_at a0 x5_2
                                      replace p18 := eq_true p18
                                      replace q18 := eq_true q18
                                      go_wp2
                                      go_roundg kj8
                                      case measure => have := HJ1.out; have := HK2.out; have := HJ5.out; have := HJ8.out; omega
                                      case rel => exact ⟨((x3_2 ++ (⟨#[92]⟩ : ByteArray)) ++ (a0.extract (x5_2 : Int).toNat ((wrap64 (x5_2 + 1)) : Int).toNat)), (false), (wrap64 (x5_2 + 1)), (by first | rfl | (simp; done) | (simp [*]; done)), (by first | rfl | (simp; done) | (simp [*]; done)), (by first | rfl | (simp; done) | (simp [*]; done)), H', ⟨by have := HJ1.out; have := HK2.out; have := HJ5.out; have := HJ8.out; omega⟩, by repeat (first | exact Drawn0.refl _ | apply Drawn0.step)⟩
                                    · rw [if_neg c24] at H
                                      exact absurd H (by simp)
                                  · rw [if_neg c23] at H
                                    exact absurd H (by simp)
                                · rw [if_neg c22] at H
                                  exact absurd H (by simp)
                              · rw [if_neg c20] at H
                                exact absurd H (by simp)
                            · rw [if_neg c19] at H
                              have c19b0 : ((bt a0 x5_2) == 34) = false := beq_eq_false_iff_ne.mpr c19
                              have c19b1 : ((bt a0 x5_2) != 34) = true := bne_iff_ne.mpr c19
                              by_cases c26 : (bt a0 x5_2) = 92
                              · rw [if_pos c26] at H
                                have c26b0 : ((bt a0 x5_2) == 92) = true := beq_iff_eq.mpr c26
                                have c26b1 : ((bt a0 x5_2) != 92) = false := bne_eq_false_iff_eq.mpr c26
                                clear c26
                                by_cases c27 : x3_2.size + 1 ≤ 9223372036854775807
                                · rw [if_pos c27] at H
                                  have c27b0 := eq_true c27
                                  have c27b1 : decide (x3_2.size + 1 ≤ 9223372036854775807) = true := decide_eq_true c27
                                  try have c27b2 : (9223372036854775807 < x3_2.size + 1) = False := eq_false (Nat.not_lt.2 c27)
                                  have c28b0 := eq_true (of_decide_eq_true (by first | (with_reducible assumption) | assumption) : 0 ≤ x5_2)
                                  by_cases c29 : x5_2 ≤ (wrap64 (x5_2 + 1))
                                  · rw [if_pos c29] at H
                                    have c29b0 := eq_true c29
                                    have c29b1 : decide (x5_2 ≤ (wrap64 (x5_2 + 1))) = true := decide_eq_true c29
                                    by_cases c30 : (wrap64 (x5_2 + 1)) ≤ (a0.size : Int)
                                    · rw [if_pos c30] at H
                                      have c30b0 := eq_true c30
                                      have c30b1 : decide ((wrap64 (x5_2 + 1)) ≤ (a0.size : Int)) = true := decide_eq_true c30
                                      by_cases c31 : (x3_2 ++ (⟨#[92]⟩ : ByteArray)).size + (a0.extract (x5_2 : Int).toNat ((wrap64 (x5_2 + 1)) : Int).toNat).size ≤ 9223372036854775807
                                      · rw [if_pos c31] at H
                                        have c31b0 := eq_true c31
                                        have c31b1 : decide ((x3_2 ++ (⟨#[92]⟩ : ByteArray)).size + (a0.extract (x5_2 : Int).toNat ((wrap64 (x5_2 + 1)) : Int).toNat).size ≤ 9223372036854775807) = true := decide_eq_true c31
                                        try have c31b2 : (9223372036854775807 < (x3_2 ++ (⟨#[92]⟩ : ByteArray)).size + (a0.extract (x5_2 : Int).toNat ((wrap64 (x5_2 + 1)) : Int).toNat).size) = False := eq_false (Nat.not_lt.2 c31)
                                        try (have c31b4 := c31; simp [ByteArray.size_append] at c31b4; have c31b5 := eq_false (Nat.not_lt.2 c31b4))
                                        try have c31b3 : (9223372036854775807 < (x3_2 ++ (⟨#[92]⟩ : ByteArray)).size + ((((wrap64 (x5_2 + 1)) : Int)).toNat - ((x5_2 : Int)).toNat)) = False := eq_false (by have h_ := c31; have z0_ : (((wrap64 (x5_2 + 1)) : Int)) ≤ ((a0).size : Int) := of_decide_eq_true (by assumption); simp only [ByteArray.size_extract] at h_; omega)
                                        have H' := Aside0.mk H
                                        clear H
                                        have p18 : 0 ≤ (x5_2 : Int) := of_decide_eq_true (by first | (with_reducible assumption) | assumption)
                                        have q18 : x5_2 < (a0.size : Int) := of_decide_eq_true (by first | (with_reducible assumption) | assumption)
                                        have hx18 := bt_at a0 x5_2
                                        replace p18 := eq_true p18
                                        replace q18 := eq_true q18
                                        have p25 : 0 ≤ (x5_2 : Int) := of_decide_eq_true (by first | (with_reducible assumption) | assumption)
                                        have q25 : x5_2 < (a0.size : Int) := of_decide_eq_true (by first | (with_reducible assumption) | assumption)
                                        have hx25 := bt_at a0 x5_2
                                        replace p25 := eq_true p25
                                        replace q25 := eq_true q25
                                        go_wp2
                                        go_roundg kj8
                                        case measure => have := HJ1.out; have := HK2.out; have := HJ5.out; have := HJ8.out; omega
                                        case rel => exact ⟨((x3_2 ++ (⟨#[92]⟩ : ByteArray)) ++ (a0.extract (x5_2 : Int).toNat ((wrap64 (x5_2 + 1)) : Int).toNat)), (false), (wrap64 (x5_2 + 1)), (by first | rfl | (simp; done) | (simp [*]; done)), (by first | rfl | (simp; done) | (simp [*]; done)), (by first | rfl | (simp; done) | (simp [*]; done)), H', ⟨by have := HJ1.out; have := HK2.out; have := HJ5.out; have := HJ8.out; omega⟩, by repeat (first | exact Drawn0.refl _ | apply Drawn0.step)⟩
                                      · rw [if_neg c31] at H
                                        exact absurd H (by simp)
                                    · rw [if_neg c30] at H
                                      exact absurd H (by simp)
                                  · rw [if_neg c29] at H
                                    exact absurd H (by simp)
                                · rw [if_neg c27] at H
                                  exact absurd H (by simp)
                              · rw [if_neg c26] at H
                                have c26b0 : ((bt a0 x5_2) == 92) = false := beq_eq_false_iff_ne.mpr c26
                                have c26b1 : ((bt a0 x5_2) != 92) = true := bne_iff_ne.mpr c26
                                have c32b0 := eq_true (of_decide_eq_true (by first | (with_reducible assumption) | assumption) : 0 ≤ x5_2)
                                by_cases c33 : x5_2 ≤ (wrap64 (x5_2 + 1))
                                · rw [if_pos c33] at H
                                  have c33b0 := eq_true c33
                                  have c33b1 : decide (x5_2 ≤ (wrap64 (x5_2 + 1))) = true := decide_eq_true c33
                                  by_cases c34 : (wrap64 (x5_2 + 1)) ≤ (a0.size : Int)
                                  · rw [if_pos c34] at H
                                    have c34b0 := eq_true c34
                                    have c34b1 : decide ((wrap64 (x5_2 + 1)) ≤ (a0.size : Int)) = true := decide_eq_true c34
                                    by_cases c35 : x3_2.size + (a0.extract (x5_2 : Int).toNat ((wrap64 (x5_2 + 1)) : Int).toNat).size ≤ 9223372036854775807
                                    · rw [if_pos c35] at H
                                      have c35b0 := eq_true c35
                                      have c35b1 : decide (x3_2.size + (a0.extract (x5_2 : Int).toNat ((wrap64 (x5_2 + 1)) : Int).toNat).size ≤ 9223372036854775807) = true := decide_eq_true c35
                                      try have c35b2 : (9223372036854775807 < x3_2.size + (a0.extract (x5_2 : Int).toNat ((wrap64 (x5_2 + 1)) : Int).toNat).size) = False := eq_false (Nat.not_lt.2 c35)
                                      try have c35b3 : (9223372036854775807 < x3_2.size + ((((wrap64 (x5_2 + 1)) : Int)).toNat - ((x5_2 : Int)).toNat)) = False := eq_false (by have h_ := c35; have z0_ : (((wrap64 (x5_2 + 1)) : Int)) ≤ ((a0).size : Int) := of_decide_eq_true (by assumption); simp only [ByteArray.size_extract] at h_; omega)
                                      have H' := Aside0.mk H
                                      clear H
                                      have p18 : 0 ≤ (x5_2 : Int) := of_decide_eq_true (by first | (with_reducible assumption) | assumption)
                                      have q18 : x5_2 < (a0.size : Int) := of_decide_eq_true (by first | (with_reducible assumption) | assumption)
                                      have hx18 := bt_at a0 x5_2
                                      replace p18 := eq_true p18
                                      replace q18 := eq_true q18
                                      have p25 : 0 ≤ (x5_2 : Int) := of_decide_eq_true (by first | (with_reducible assumption) | assumption)
                                      have q25 : x5_2 < (a0.size : Int) := of_decide_eq_true (by first | (with_reducible assumption) | assumption)
                                      have hx25 := bt_at a0 x5_2
                                      replace p25 := eq_true p25
                                      replace q25 := eq_true q25
                                      go_wp2
                                      go_roundg kj8
                                      case measure => have := HJ1.out; have := HK2.out; have := HJ5.out; have := HJ8.out; omega
                                      case rel => exact ⟨(x3_2 ++ (a0.extract (x5_2 : Int).toNat ((wrap64 (x5_2 + 1)) : Int).toNat)), (false), (wrap64 (x5_2 + 1)), (by first | rfl | (simp; done) | (simp [*]; done)), (by first | rfl | (simp; done) | (simp [*]; done)), (by first | rfl | (simp; done) | (simp [*]; done)), H', ⟨by have := HJ1.out; have := HK2.out; have := HJ5.out; have := HJ8.out; omega⟩, by repeat (first | exact Drawn0.refl _ | apply Drawn0.step)⟩
                                    · rw [if_neg c35] at H
                                      exact absurd H (by simp)
                                  · rw [if_neg c34] at H
                                    exact absurd H (by simp)
                                · rw [if_neg c33] at H
                                  exact absurd H (by simp)
                          · rw [if_neg c17] at H
                            exact absurd H (by simp)
                        · rw [if_neg c16] at H
                          exact absurd H (by simp)
                      · replace c15 := Bool.eq_false_iff.mpr c15
                        subst c15
                        have H1 : (if 0 ≤ x5_2 then (if x5_2 < (a0.size : Int) then (if (bt a0 x5_2) = 34 then (if x3_2.size + 1 ≤ 9223372036854775807 then (if x5_2 ≤ (wrap64 (x5_2 + 1)) then (if (wrap64 (x5_2 + 1)) ≤ (a0.size : Int) then (if (x3_2 ++ (⟨#[92]⟩ : ByteArray)).size + (a0.extract (x5_2 : Int).toNat ((wrap64 (x5_2 + 1)) : Int).toNat).size ≤ 9223372036854775807 then (postchaiseref12_Quote.l0 kj8 a0 ((x3_2 ++ (⟨#[92]⟩ : ByteArray)) ++ (a0.extract (x5_2 : Int).toNat ((wrap64 (x5_2 + 1)) : Int).toNat)) x4_2 (wrap64 (x5_2 + 1))) else (none)) else (none)) else (none)) else (none)) else (if (bt a0 x5_2) = 92 then (if x3_2.size + 1 ≤ 9223372036854775807 then (if x5_2 ≤ (wrap64 (x5_2 + 1)) then (if (wrap64 (x5_2 + 1)) ≤ (a0.size : Int) then (if (x3_2 ++ (⟨#[92]⟩ : ByteArray)).size + (a0.extract (x5_2 : Int).toNat ((wrap64 (x5_2 + 1)) : Int).toNat).size ≤ 9223372036854775807 then (postchaiseref12_Quote.l0 kj8 a0 ((x3_2 ++ (⟨#[92]⟩ : ByteArray)) ++ (a0.extract (x5_2 : Int).toNat ((wrap64 (x5_2 + 1)) : Int).toNat)) x4_2 (wrap64 (x5_2 + 1))) else (none)) else (none)) else (none)) else (none)) else (if x5_2 ≤ (wrap64 (x5_2 + 1)) then (if (wrap64 (x5_2 + 1)) ≤ (a0.size : Int) then (if x3_2.size + (a0.extract (x5_2 : Int).toNat ((wrap64 (x5_2 + 1)) : Int).toNat).size ≤ 9223372036854775807 then (postchaiseref12_Quote.l0 kj8 a0 (x3_2 ++ (a0.extract (x5_2 : Int).toNat ((wrap64 (x5_2 + 1)) : Int).toNat)) x4_2 (wrap64 (x5_2 + 1))) else (none)) else (none)) else (none)))) else (none)) else (none)) = some r := by rw [if_neg (show ¬ (false = true) by decide)] at H; exact H
                        clear H
                        have H := H1
                        clear H1
                        by_cases c36 : 0 ≤ x5_2
                        · rw [if_pos c36] at H
                          have c36b0 : decide (0 ≤ x5_2) = true := decide_eq_true c36
                          clear c36
                          by_cases c37 : x5_2 < (a0.size : Int)
                          · rw [if_pos c37] at H
                            have c37b0 : decide (x5_2 < (a0.size : Int)) = true := decide_eq_true c37
                            clear c37
                            by_cases c39 : (bt a0 x5_2) = 34
                            · rw [if_pos c39] at H
                              have c39b0 : ((bt a0 x5_2) == 34) = true := beq_iff_eq.mpr c39
                              have c39b1 : ((bt a0 x5_2) != 34) = false := bne_eq_false_iff_eq.mpr c39
                              clear c39
                              by_cases c40 : x3_2.size + 1 ≤ 9223372036854775807
                              · rw [if_pos c40] at H
                                have c40b0 := eq_true c40
                                have c40b1 : decide (x3_2.size + 1 ≤ 9223372036854775807) = true := decide_eq_true c40
                                try have c40b2 : (9223372036854775807 < x3_2.size + 1) = False := eq_false (Nat.not_lt.2 c40)
                                have c41b0 := eq_true (of_decide_eq_true (by first | (with_reducible assumption) | assumption) : 0 ≤ x5_2)
                                by_cases c42 : x5_2 ≤ (wrap64 (x5_2 + 1))
                                · rw [if_pos c42] at H
                                  have c42b0 := eq_true c42
                                  have c42b1 : decide (x5_2 ≤ (wrap64 (x5_2 + 1))) = true := decide_eq_true c42
                                  by_cases c43 : (wrap64 (x5_2 + 1)) ≤ (a0.size : Int)
                                  · rw [if_pos c43] at H
                                    have c43b0 := eq_true c43
                                    have c43b1 : decide ((wrap64 (x5_2 + 1)) ≤ (a0.size : Int)) = true := decide_eq_true c43
                                    by_cases c44 : (x3_2 ++ (⟨#[92]⟩ : ByteArray)).size + (a0.extract (x5_2 : Int).toNat ((wrap64 (x5_2 + 1)) : Int).toNat).size ≤ 9223372036854775807
                                    · rw [if_pos c44] at H
                                      have c44b0 := eq_true c44
                                      have c44b1 : decide ((x3_2 ++ (⟨#[92]⟩ : ByteArray)).size + (a0.extract (x5_2 : Int).toNat ((wrap64 (x5_2 + 1)) : Int).toNat).size ≤ 9223372036854775807) = true := decide_eq_true c44
                                      try have c44b2 : (9223372036854775807 < (x3_2 ++ (⟨#[92]⟩ : ByteArray)).size + (a0.extract (x5_2 : Int).toNat ((wrap64 (x5_2 + 1)) : Int).toNat).size) = False := eq_false (Nat.not_lt.2 c44)
                                      try (have c44b4 := c44; simp [ByteArray.size_append] at c44b4; have c44b5 := eq_false (Nat.not_lt.2 c44b4))
                                      try have c44b3 : (9223372036854775807 < (x3_2 ++ (⟨#[92]⟩ : ByteArray)).size + ((((wrap64 (x5_2 + 1)) : Int)).toNat - ((x5_2 : Int)).toNat)) = False := eq_false (by have h_ := c44; have z0_ : (((wrap64 (x5_2 + 1)) : Int)) ≤ ((a0).size : Int) := of_decide_eq_true (by assumption); simp only [ByteArray.size_extract] at h_; omega)
                                      have H' := Aside0.mk H
                                      clear H
                                      have p38 : 0 ≤ (x5_2 : Int) := of_decide_eq_true (by first | (with_reducible assumption) | assumption)
                                      have q38 : x5_2 < (a0.size : Int) := of_decide_eq_true (by first | (with_reducible assumption) | assumption)
                                      have hx38 := bt_at a0 x5_2
                                      replace p38 := eq_true p38
                                      replace q38 := eq_true q38
                                      go_wp2
                                      go_roundg kj8
                                      case measure => have := HJ1.out; have := HK2.out; have := HJ5.out; have := HJ8.out; omega
                                      case rel => exact ⟨((x3_2 ++ (⟨#[92]⟩ : ByteArray)) ++ (a0.extract (x5_2 : Int).toNat ((wrap64 (x5_2 + 1)) : Int).toNat)), (x4_2), (wrap64 (x5_2 + 1)), (by first | rfl | (simp; done) | (simp [*]; done)), (by first | rfl | (simp; done) | (simp [*]; done)), (by first | rfl | (simp; done) | (simp [*]; done)), H', ⟨by have := HJ1.out; have := HK2.out; have := HJ5.out; have := HJ8.out; omega⟩, by repeat (first | exact Drawn0.refl _ | apply Drawn0.step)⟩
                                    · rw [if_neg c44] at H
                                      exact absurd H (by simp)
                                  · rw [if_neg c43] at H
                                    exact absurd H (by simp)
                                · rw [if_neg c42] at H
                                  exact absurd H (by simp)
                              · rw [if_neg c40] at H
                                exact absurd H (by simp)
                            · rw [if_neg c39] at H
                              have c39b0 : ((bt a0 x5_2) == 34) = false := beq_eq_false_iff_ne.mpr c39
                              have c39b1 : ((bt a0 x5_2) != 34) = true := bne_iff_ne.mpr c39
                              by_cases c46 : (bt a0 x5_2) = 92
                              · rw [if_pos c46] at H
                                have c46b0 : ((bt a0 x5_2) == 92) = true := beq_iff_eq.mpr c46
                                have c46b1 : ((bt a0 x5_2) != 92) = false := bne_eq_false_iff_eq.mpr c46
                                clear c46
                                by_cases c47 : x3_2.size + 1 ≤ 9223372036854775807
                                · rw [if_pos c47] at H
                                  have c47b0 := eq_true c47
                                  have c47b1 : decide (x3_2.size + 1 ≤ 9223372036854775807) = true := decide_eq_true c47
                                  try have c47b2 : (9223372036854775807 < x3_2.size + 1) = False := eq_false (Nat.not_lt.2 c47)
                                  have c48b0 := eq_true (of_decide_eq_true (by first | (with_reducible assumption) | assumption) : 0 ≤ x5_2)
                                  by_cases c49 : x5_2 ≤ (wrap64 (x5_2 + 1))
                                  · rw [if_pos c49] at H
                                    have c49b0 := eq_true c49
                                    have c49b1 : decide (x5_2 ≤ (wrap64 (x5_2 + 1))) = true := decide_eq_true c49
                                    by_cases c50 : (wrap64 (x5_2 + 1)) ≤ (a0.size : Int)
                                    · rw [if_pos c50] at H
                                      have c50b0 := eq_true c50
                                      have c50b1 : decide ((wrap64 (x5_2 + 1)) ≤ (a0.size : Int)) = true := decide_eq_true c50
                                      by_cases c51 : (x3_2 ++ (⟨#[92]⟩ : ByteArray)).size + (a0.extract (x5_2 : Int).toNat ((wrap64 (x5_2 + 1)) : Int).toNat).size ≤ 9223372036854775807
                                      · rw [if_pos c51] at H
                                        have c51b0 := eq_true c51
                                        have c51b1 : decide ((x3_2 ++ (⟨#[92]⟩ : ByteArray)).size + (a0.extract (x5_2 : Int).toNat ((wrap64 (x5_2 + 1)) : Int).toNat).size ≤ 9223372036854775807) = true := decide_eq_true c51
                                        try have c51b2 : (9223372036854775807 < (x3_2 ++ (⟨#[92]⟩ : ByteArray)).size + (a0.extract (x5_2 : Int).toNat ((wrap64 (x5_2 + 1)) : Int).toNat).size) = False := eq_false (Nat.not_lt.2 c51)
                                        try (have c51b4 := c51; simp [ByteArray.size_append] at c51b4; have c51b5 := eq_false (Nat.not_lt.2 c51b4))
                                        try have c51b3 : (9223372036854775807 < (x3_2 ++ (⟨#[92]⟩ : ByteArray)).size + ((((wrap64 (x5_2 + 1)) : Int)).toNat - ((x5_2 : Int)).toNat)) = False := eq_false (by have h_ := c51; have z0_ : (((wrap64 (x5_2 + 1)) : Int)) ≤ ((a0).size : Int) := of_decide_eq_true (by assumption); simp only [ByteArray.size_extract] at h_; omega)
                                        have H' := Aside0.mk H
                                        clear H
                                        have p38 : 0 ≤ (x5_2 : Int) := of_decide_eq_true (by first | (with_reducible assumption) | assumption)
                                        have q38 : x5_2 < (a0.size : Int) := of_decide_eq_true (by first | (with_reducible assumption) | assumption)
                                        have hx38 := bt_at a0 x5_2
                                        replace p38 := eq_true p38
                                        replace q38 := eq_true q38
                                        have p45 : 0 ≤ (x5_2 : Int) := of_decide_eq_true (by first | (with_reducible assumption) | assumption)
                                        have q45 : x5_2 < (a0.size : Int) := of_decide_eq_true (by first | (with_reducible assumption) | assumption)
                                        have hx45 := bt_at a0 x5_2
                                        replace p45 := eq_true p45
                                        replace q45 := eq_true q45
                                        go_wp2
                                        go_roundg kj8
                                        case measure => have := HJ1.out; have := HK2.out; have := HJ5.out; have := HJ8.out; omega
                                        case rel => exact ⟨((x3_2 ++ (⟨#[92]⟩ : ByteArray)) ++ (a0.extract (x5_2 : Int).toNat ((wrap64 (x5_2 + 1)) : Int).toNat)), (x4_2), (wrap64 (x5_2 + 1)), (by first | rfl | (simp; done) | (simp [*]; done)), (by first | rfl | (simp; done) | (simp [*]; done)), (by first | rfl | (simp; done) | (simp [*]; done)), H', ⟨by have := HJ1.out; have := HK2.out; have := HJ5.out; have := HJ8.out; omega⟩, by repeat (first | exact Drawn0.refl _ | apply Drawn0.step)⟩
                                      · rw [if_neg c51] at H
                                        exact absurd H (by simp)
                                    · rw [if_neg c50] at H
                                      exact absurd H (by simp)
                                  · rw [if_neg c49] at H
                                    exact absurd H (by simp)
                                · rw [if_neg c47] at H
                                  exact absurd H (by simp)
                              · rw [if_neg c46] at H
                                have c46b0 : ((bt a0 x5_2) == 92) = false := beq_eq_false_iff_ne.mpr c46
                                have c46b1 : ((bt a0 x5_2) != 92) = true := bne_iff_ne.mpr c46
                                have c52b0 := eq_true (of_decide_eq_true (by first | (with_reducible assumption) | assumption) : 0 ≤ x5_2)
                                by_cases c53 : x5_2 ≤ (wrap64 (x5_2 + 1))
                                · rw [if_pos c53] at H
                                  have c53b0 := eq_true c53
                                  have c53b1 : decide (x5_2 ≤ (wrap64 (x5_2 + 1))) = true := decide_eq_true c53
                                  by_cases c54 : (wrap64 (x5_2 + 1)) ≤ (a0.size : Int)
                                  · rw [if_pos c54] at H
                                    have c54b0 := eq_true c54
                                    have c54b1 : decide ((wrap64 (x5_2 + 1)) ≤ (a0.size : Int)) = true := decide_eq_true c54
                                    by_cases c55 : x3_2.size + (a0.extract (x5_2 : Int).toNat ((wrap64 (x5_2 + 1)) : Int).toNat).size ≤ 9223372036854775807
                                    · rw [if_pos c55] at H
                                      have c55b0 := eq_true c55
                                      have c55b1 : decide (x3_2.size + (a0.extract (x5_2 : Int).toNat ((wrap64 (x5_2 + 1)) : Int).toNat).size ≤ 9223372036854775807) = true := decide_eq_true c55
                                      try have c55b2 : (9223372036854775807 < x3_2.size + (a0.extract (x5_2 : Int).toNat ((wrap64 (x5_2 + 1)) : Int).toNat).size) = False := eq_false (Nat.not_lt.2 c55)
                                      try have c55b3 : (9223372036854775807 < x3_2.size + ((((wrap64 (x5_2 + 1)) : Int)).toNat - ((x5_2 : Int)).toNat)) = False := eq_false (by have h_ := c55; have z0_ : (((wrap64 (x5_2 + 1)) : Int)) ≤ ((a0).size : Int) := of_decide_eq_true (by assumption); simp only [ByteArray.size_extract] at h_; omega)
                                      have H' := Aside0.mk H
                                      clear H
                                      have p38 : 0 ≤ (x5_2 : Int) := of_decide_eq_true (by first | (with_reducible assumption) | assumption)
                                      have q38 : x5_2 < (a0.size : Int) := of_decide_eq_true (by first | (with_reducible assumption) | assumption)
                                      have hx38 := bt_at a0 x5_2
                                      replace p38 := eq_true p38
                                      replace q38 := eq_true q38
                                      have p45 : 0 ≤ (x5_2 : Int) := of_decide_eq_true (by first | (with_reducible assumption) | assumption)
                                      have q45 : x5_2 < (a0.size : Int) := of_decide_eq_true (by first | (with_reducible assumption) | assumption)
                                      have hx45 := bt_at a0 x5_2
                                      replace p45 := eq_true p45
                                      replace q45 := eq_true q45
                                      go_wp2
                                      go_roundg kj8
                                      case measure => have := HJ1.out; have := HK2.out; have := HJ5.out; have := HJ8.out; omega
                                      case rel => exact ⟨(x3_2 ++ (a0.extract (x5_2 : Int).toNat ((wrap64 (x5_2 + 1)) : Int).toNat)), (x4_2), (wrap64 (x5_2 + 1)), (by first | rfl | (simp; done) | (simp [*]; done)), (by first | rfl | (simp; done) | (simp [*]; done)), (by first | rfl | (simp; done) | (simp [*]; done)), H', ⟨by have := HJ1.out; have := HK2.out; have := HJ5.out; have := HJ8.out; omega⟩, by repeat (first | exact Drawn0.refl _ | apply Drawn0.step)⟩
                                    · rw [if_neg c55] at H
                                      exact absurd H (by simp)
                                  · rw [if_neg c54] at H
                                    exact absurd H (by simp)
                                · rw [if_neg c53] at H
                                  exact absurd H (by simp)
                          · rw [if_neg c37] at H
                            exact absurd H (by simp)
                        · rw [if_neg c36] at H
                          exact absurd H (by simp)
                · replace c8 := Bool.eq_false_iff.mpr c8
                  subst c8
                  have H1 : (if x4_2 = true then (if x3_2.size + 1 ≤ 9223372036854775807 then (some (x3_2 ++ (⟨#[34]⟩ : ByteArray))) else (none)) else ((postchaiseref02_Num.f kj5 (a0.size : Int)).bind fun t316 => (if 1 + t316.size ≤ 9223372036854775807 then (if ((⟨#[123]⟩ : ByteArray) ++ t316).size + 3 ≤ 9223372036854775807 then (if (((⟨#[123]⟩ : ByteArray) ++ t316) ++ (⟨#[125, 13, 10]⟩ : ByteArray)).size + a0.size ≤ 9223372036854775807 then (some ((((⟨#[123]⟩ : ByteArray) ++ t316) ++ (⟨#[125, 13, 10]⟩ : ByteArray)) ++ a0)) else (none)) else (none)) else (none)))) = some r := by rw [if_neg (show ¬ (false = true) by decide)] at H; exact H
                  clear H
                  have H := H1
                  clear H1
                  by_cases c56 : x4_2 = true
                  · subst c56
                    have H1 : (if x3_2.size + 1 ≤ 9223372036854775807 then (some (x3_2 ++ (⟨#[34]⟩ : ByteArray))) else (none)) = some r := by rw [if_pos rfl] at H; exact H
                    clear H
                    have H := H1
                    clear H1
                    by_cases c57 : x3_2.size + 1 ≤ 9223372036854775807
                    · rw [if_pos c57] at H
                      have c57b0 := eq_true c57
                      have c57b1 : decide (x3_2.size + 1 ≤ 9223372036854775807) = true := decide_eq_true c57
                      try have c57b2 : (9223372036854775807 < x3_2.size + 1) = False := eq_false (Nat.not_lt.2 c57)
                      obtain rfl := Option.some.inj H
                      go_wp2
                      go_ret
                      exact ⟨by first | rfl | (simp; done) | (simp [*]; done), by repeat (first | exact Drawn0.refl _ | apply Drawn0.step)⟩
                    · rw [if_neg c57] at H
                      exact absurd H (by simp)
                  · replace c56 := Bool.eq_false_iff.mpr c56
                    subst c56
                    have H1 : ((postchaiseref02_Num.f kj5 (a0.size : Int)).bind fun t316 => (if 1 + t316.size ≤ 9223372036854775807 then (if ((⟨#[123]⟩ : ByteArray) ++ t316).size + 3 ≤ 9223372036854775807 then (if (((⟨#[123]⟩ : ByteArray) ++ t316) ++ (⟨#[125, 13, 10]⟩ : ByteArray)).size + a0.size ≤ 9223372036854775807 then (some ((((⟨#[123]⟩ : ByteArray) ++ t316) ++ (⟨#[125, 13, 10]⟩ : ByteArray)) ++ a0)) else (none)) else (none)) else (none))) = some r := by rw [if_neg (show ¬ (false = true) by decide)] at H; exact H
                    clear H
                    have H := H1
                    clear H1
                    replace H := Option.bind_eq_some_iff.mp H
                    obtain ⟨t316, A580, H⟩ := H
                    replace H : (if 1 + t316.size ≤ 9223372036854775807 then (if ((⟨#[123]⟩ : ByteArray) ++ t316).size + 3 ≤ 9223372036854775807 then (if (((⟨#[123]⟩ : ByteArray) ++ t316) ++ (⟨#[125, 13, 10]⟩ : ByteArray)).size + a0.size ≤ 9223372036854775807 then (some ((((⟨#[123]⟩ : ByteArray) ++ t316) ++ (⟨#[125, 13, 10]⟩ : ByteArray)) ++ a0)) else (none)) else (none)) else (none)) = some r := H
                    have A58 := Aside0.mk A580
                    clear A580
                    by_cases c59 : 1 + t316.size ≤ 9223372036854775807
                    · rw [if_pos c59] at H
                      have c59b0 := eq_true c59
                      have c59b1 : decide (1 + t316.size ≤ 9223372036854775807) = true := decide_eq_true c59
                      try have c59b2 : (9223372036854775807 < 1 + t316.size) = False := eq_false (Nat.not_lt.2 c59)
                      by_cases c60 : ((⟨#[123]⟩ : ByteArray) ++ t316).size + 3 ≤ 9223372036854775807
                      · rw [if_pos c60] at H
                        have c60b0 := eq_true c60
                        have c60b1 : decide (((⟨#[123]⟩ : ByteArray) ++ t316).size + 3 ≤ 9223372036854775807) = true := decide_eq_true c60
                        try have c60b2 : (9223372036854775807 < ((⟨#[123]⟩ : ByteArray) ++ t316).size + 3) = False := eq_false (Nat.not_lt.2 c60)
                        try have c60b6 : (9223372036854775807 < 1 + t316.size + 3) = False := eq_false (Nat.not_lt.2 (by have h_ := c60; simp only [ByteArray.size_append] at h_; exact h_))
                        try (have c60b4 := c60; simp [ByteArray.size_append] at c60b4; have c60b5 := eq_false (Nat.not_lt.2 c60b4))
                        by_cases c61 : (((⟨#[123]⟩ : ByteArray) ++ t316) ++ (⟨#[125, 13, 10]⟩ : ByteArray)).size + a0.size ≤ 9223372036854775807
                        · rw [if_pos c61] at H
                          have c61b0 := eq_true c61
                          have c61b1 : decide ((((⟨#[123]⟩ : ByteArray) ++ t316) ++ (⟨#[125, 13, 10]⟩ : ByteArray)).size + a0.size ≤ 9223372036854775807) = true := decide_eq_true c61
                          try have c61b2 : (9223372036854775807 < (((⟨#[123]⟩ : ByteArray) ++ t316) ++ (⟨#[125, 13, 10]⟩ : ByteArray)).size + a0.size) = False := eq_false (Nat.not_lt.2 c61)
                          try have c61b6 : (9223372036854775807 < 1 + t316.size + 3 + a0.size) = False := eq_false (Nat.not_lt.2 (by have h_ := c61; simp only [ByteArray.size_append] at h_; exact h_))
                          try (have c61b4 := c61; simp [ByteArray.size_append] at c61b4; have c61b5 := eq_false (Nat.not_lt.2 c61b4))
                          obtain rfl := Option.some.inj H
                          go_wp2_with (first | ((with_reducible refine gate_callee (f := 54) rfl ?_); refine goesL_ (some 63) rfl rfl Tryd.func54 (by kernel_rfl) rfl #[.int .u64 (a0.size : Int)] rfl (by (try simp only [List.map_toArray, List.map_cons, List.map_nil]); first | done | rfl | (simp only [List.length_drop, List.length_take]; rfl)) ?_; (with_reducible refine (postchaiseref02_Num.calls kj5 (a0.size : Int) t316 _ A58.out).mono ?_); rintro e w' ⟨rfl, ⟨nd, rfl⟩⟩; refine ⟨_, rfl, ?_⟩))
                          go_ret
                          exact ⟨by first | rfl | (simp; done) | (simp [*]; done), by repeat (first | exact Drawn0.refl _ | apply Drawn0.step)⟩
                        · rw [if_neg c61] at H
                          exact absurd H (by simp)
                      · rw [if_neg c60] at H
                        exact absurd H (by simp)
                    · rw [if_neg c59] at H
                      exact absurd H (by simp)


end Go.Proofs.YtphaemaccdddfaaDoor.PTk
