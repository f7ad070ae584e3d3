/- strings.SplitSeq at a separator of one byte: the iterator's contract. No condition but those that each contract bears. -/
import Derived.Test.YtahbnpkhkhdmaaaDoorRangeS
import Derived.Test.YtahbnpkhkhdmaaaDoorFlShelf
import Derived.Test.YtahbnpkhkhdmaaaDoorRows
import Derived.Lib.IndexLaws
import Derived.WalkMore
set_option linter.unusedVariables false
set_option linter.unusedSimpArgs false
namespace Go.Proofs.YtahbnpkhkhdmaaaDoor
open Go.RowKit Go.Shelf
attribute [local go_sem] Oper.semAt_some
/-- A text's parts between the bytes c. -/
def splitN (c : UInt8) : List UInt8 → List (List UInt8)
  | [] => [[]]
  | b :: l => if b = c then [] :: splitN c l else match splitN c l with
    | p :: ps => (b :: p) :: ps
    | [] => [[b]]
theorem splitN_ne (c : UInt8) (l : List UInt8) : splitN c l ≠ [] := by
  cases l with
  | nil => exact fun h => by cases h
  | cons b l =>
    unfold splitN
    split
    · exact fun h => by cases h
    · split <;> exact fun h => by cases h
theorem splitN_none {c : UInt8} : ∀ {l : List UInt8}, Lib.indexByte l c = -1 → splitN c l = [l]
  | [], _ => rfl
  | b :: l, h => by
    unfold Lib.indexByte at h
    by_cases hb : (b == c) = true
    · rw [if_pos hb] at h; omega
    · rw [if_neg hb] at h
      have hbc : b ≠ c := fun e => hb (by rw [e]; simp)
      have hge := Lib.indexByte_ge l c
      by_cases h2 : (Lib.indexByte l c == -1) = true
      · have := splitN_none (l := l) (by simpa using h2)
        unfold splitN
        rw [if_neg hbc, this]
      · rw [if_neg h2] at h
        have : Lib.indexByte l c ≠ -1 := by simpa using h2
        omega
theorem splitN_some {c : UInt8} : ∀ {l : List UInt8} {i : Nat}, Lib.indexByte l c = i → i < l.length ∧ splitN c l = l.take i :: splitN c (l.drop (i + 1))
  | [], i, h => by exfalso; have h2 : (-1 : Int) = (i : Int) := h; omega
  | b :: l, i, h => by
    unfold Lib.indexByte at h
    by_cases hb : (b == c) = true
    · rw [if_pos hb] at h
      have hbc : b = c := by simpa using hb
      obtain rfl : i = 0 := by omega
      refine ⟨by simp, ?_⟩
      show splitN c (b :: l) = [] :: splitN c l
      conv => lhs; unfold splitN
      rw [if_pos hbc]
    · rw [if_neg hb] at h
      have hbc : b ≠ c := fun e => hb (by rw [e]; simp)
      have hge := Lib.indexByte_ge l c
      by_cases h2 : (Lib.indexByte l c == -1) = true
      · rw [if_pos h2] at h; omega
      · rw [if_neg h2] at h
        have h3 : Lib.indexByte l c ≠ -1 := by simpa using h2
        have h7 : (1 : Int) ≤ (i : Int) := by omega
        obtain ⟨j, hj⟩ : ∃ j, i = j + 1 := ⟨i - 1, by omega⟩
        have h6 : Lib.indexByte l c = (j : Int) := by rw [hj] at h; have : ((j + 1 : Nat) : Int) = (j : Int) + 1 := by omega
                                                      omega
        subst hj
        obtain ⟨h4, h5⟩ := splitN_some (l := l) (i := j) h6
        refine ⟨by simp; omega, ?_⟩
        conv => lhs; unfold splitN
        rw [if_neg hbc, h5]
        rfl
/-- The parts, as strings. -/
def parts (c : UInt8) (s : ByteArray) : List ByteArray := (splitN c s.data.toList).map fun l => ⟨l.toArray⟩
theorem parts_none {c : UInt8} {s : ByteArray} (h : Lib.indexByte s.data.toList c = -1) : parts c s = [s] := by
  unfold parts
  rw [splitN_none h]
  simp
theorem parts_some {c : UInt8} {s : ByteArray} {i : Nat} (h : Lib.indexByte s.data.toList c = i) : i < s.size ∧ parts c s = s.extract 0 i :: parts c (s.extract (i + 1) s.size) := by
  obtain ⟨h1, h2⟩ := splitN_some h
  have hl : s.data.toList.length = s.size := by simp
  refine ⟨by omega, ?_⟩
  have e1 : (s.extract 0 i).data.toList = s.data.toList.take i := by simp [ByteArray.data_extract]
  have e2 : (s.extract (i + 1) s.size).data.toList = s.data.toList.drop (i + 1) := by
    simp [ByteArray.data_extract]
    rw [List.take_of_length_le (by simp)]
  unfold parts
  rw [h2, e2, List.map_cons, ← e1]
end Go.Proofs.YtahbnpkhkhdmaaaDoor
