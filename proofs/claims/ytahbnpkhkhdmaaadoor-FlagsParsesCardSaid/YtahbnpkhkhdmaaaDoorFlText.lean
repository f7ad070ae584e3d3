/- The reference's Text and Change against the program's, in plain Lean. No condition but those that each bears. -/
import Derived.Test.YtahbnpkhkhdmaaaDoorFlAwake
import Derived.Test.YtahbnpkhkhdmaaaDoorQFl3
set_option linter.unusedVariables false
set_option linter.unusedSimpArgs false
namespace Go.Proofs.YtahbnpkhkhdmaaaDoor
open Go.RowKit Go.Shelf PFl Go.Proofs.YtahbnpkhkhdmaaaDoorW.PrintWords Go.Proofs.YtahbnpkhkhdmaaaDoorW.PrintLast Go.Proofs.YtahbnpkhkhdmaaaDoorW.PrintMore
def textC : Nat → Int → ByteArray → Int → Option (ByteArray)
  | 0, _, _, _ => none
  | k + 1, x0, x3, x4 => if x4 < 5 then ((postchaiseref01_Bit.f x0 x4).bind fun t127 => (if t127 = true then (if x3.data.toList = ([] : List UInt8) then ((postchaiseref01_Names.f).bind fun t128 => (if 0 ≤ x4 then (if x4 < (t128.length : Int) then (if x3.size + (rdOf ByteArray.empty t128 x4).size ≤ 9223372036854775807 then (textC k x0 (x3 ++ (rdOf ByteArray.empty t128 x4)) (wrap64 (x4 + 1))) else (none)) else (none)) else (none))) else (if x3.size + 1 ≤ 9223372036854775807 then ((postchaiseref01_Names.f).bind fun t132 => (if 0 ≤ x4 then (if x4 < (t132.length : Int) then (if (x3 ++ (⟨#[32]⟩ : ByteArray)).size + (rdOf ByteArray.empty t132 x4).size ≤ 9223372036854775807 then (textC k x0 ((x3 ++ (⟨#[32]⟩ : ByteArray)) ++ (rdOf ByteArray.empty t132 x4)) (wrap64 (x4 + 1))) else (none)) else (none)) else (none))) else (none))) else (textC k x0 x3 (wrap64 (x4 + 1))))) else (if 1 + x3.size ≤ 9223372036854775807 then (if ((⟨#[40]⟩ : ByteArray) ++ x3).size + 1 ≤ 9223372036854775807 then (some (((⟨#[40]⟩ : ByteArray) ++ x3) ++ (⟨#[41]⟩ : ByteArray))) else (none)) else (none))
theorem text_eq : ∀ (k : Nat) (a : Int) (x : ByteArray) (i : Int), postchaiseref01_Text.l0 k a x i = textC k a x i
  | 0, _, _, _ => rfl
  | k + 1, a, x, i => by
    unfold postchaiseref01_Text.l0 textC
    simp only [ByteArray.toList_eq, text_eq k]
theorem text_all : (List.range 256).all (fun s => decide (textC 30 (s : Int) ⟨#[]⟩ 0 = some (strOf (s : Int)))) = true := by kernel_rfl
theorem text_at {s : Int} (h0 : 0 ≤ s) (h1 : s < 256) : postchaiseref01_Text.f 30 s = some (strOf s) := by
  have := List.all_eq_true.1 text_all s.toNat (by simp; omega)
  have e : ((s.toNat : Nat) : Int) = s := by omega
  rw [e] at this
  unfold postchaiseref01_Text.f
  rw [text_eq]
  exact of_decide_eq_true this
end Go.Proofs.YtahbnpkhkhdmaaaDoor
