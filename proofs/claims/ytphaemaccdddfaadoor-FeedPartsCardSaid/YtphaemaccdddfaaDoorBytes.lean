/- Bytes in a block of a function's own, turned one by one. No condition but those that each contract bears. -/
import Derived.Test.YtphaemaccdddfaaDoorTouch
import Derived.Test.YtphaemaccdddfaaDoorRows
import Derived.WalkKit
import Derived.Below
import Derived.ProofKit
import Derived.Shelf.Abstract
import Derived.OwnWalk
import Derived.Deep.Draws
import Derived.LoopTactic
import Derived.Lib.ConvBytes
import Derived.Laws.IdiomStrings
set_option linter.unusedVariables false
set_option linter.unusedSimpArgs false
namespace Go.Proofs.YtphaemaccdddfaaDoor
open Go.RowKit Go.Shelf
/-- Bytes in a block of the function's own. -/
structure BytesAt (w wr : World) (b : Nat) (l : List UInt8) : Prop where
  cell : ∀ j (hj : j < l.length), wr.cell? ⟨b, j, none⟩ = some (.int .u8 ((l[j].toNat : Nat) : Int))
  free : ∀ j, j < l.length → wr.frozen? ⟨b, j, none⟩ = false
  ge : w.heap.size ≤ b
  below : Below w.heap.size w wr
theorem bytes_new (w : World) (s : ByteArray) : BytesAt w (Lib.bytesWorld w 5 s) w.heap.size s.data.toList := by
  have hsz : s.data.toList.length = s.size := by simp
  refine ⟨fun j hj => ?_, fun j hj => ?_, Nat.le_refl _, ⟨rfl, rfl, rfl, by rw [Lib.bytesWorld_size]; omega, fun k hk => Lib.bytesWorld_at_old w _ s k hk⟩⟩
  · rw [Lib.bytesWorld_cell w _ s j (by omega), List.getD_eq_getElem?_getD, List.getElem?_eq_getElem hj]; rfl
  · unfold World.frozen?
    rw [Lib.bytesWorld_at_new]
    show (decide (_ ≤ j) && decide (j < _)) = false
    have : (Lib.bytesCells w 5 s).size ≥ s.size := by simp [Lib.bytesCells]
    rw [decide_eq_false (by omega)]; rfl
theorem BytesAt.of {w wr : World} {b : Nat} {l l' : List UInt8} (h : BytesAt w wr b l) (e : l' = l) : BytesAt w wr b l' := e ▸ h
/-- The first k letters are turned by f. -/
def mapK (f : UInt8 → UInt8) (l : List UInt8) (k : Nat) : List UInt8 := (l.take k).map f ++ l.drop k
theorem mapK_length (f : UInt8 → UInt8) (l : List UInt8) (k : Nat) : (mapK f l k).length = l.length := by
  unfold mapK; rw [List.length_append, List.length_map, List.length_take, List.length_drop]; omega
theorem mapK_get (f : UInt8 → UInt8) (l : List UInt8) (k j : Nat) (hj : j < l.length) : (mapK f l k)[j]? = some (if j < k then f l[j] else l[j]) := by
  unfold mapK
  by_cases h : j < k
  · rw [List.getElem?_append_left (by simp; omega), List.getElem?_map, List.getElem?_take, if_pos h, List.getElem?_eq_getElem hj, if_pos h]; rfl
  · rw [List.getElem?_append_right (by simp; omega), List.getElem?_drop, if_neg h, List.length_map, List.length_take]
    by_cases h2 : k ≤ l.length
    · rw [Nat.min_eq_left h2, show k + (j - k) = j by omega, List.getElem?_eq_getElem hj]
    · omega
theorem BytesAt.sameM {f : UInt8 → UInt8} {w wr : World} {b : Nat} {l : List UInt8} {k : Nat} (h : BytesAt w wr b (mapK f l k)) (hk : k < l.length) (e : f l[k] = l[k]) : BytesAt w wr b (mapK f l (k + 1)) := by
  refine ⟨fun j hj => ?_, fun j hj => h.free j (by rw [mapK_length] at hj ⊢; exact hj), h.ge, h.below⟩
  have hj' : j < l.length := by rwa [mapK_length] at hj
  have h1 := h.cell j (by rw [mapK_length]; exact hj')
  rw [h1]
  have e1 : (mapK f l k)[j]'(by rw [mapK_length]; exact hj') = if j < k then f l[j] else l[j] := Option.some.inj ((List.getElem?_eq_getElem _).symm.trans (mapK_get f l k j hj'))
  have e2 : (mapK f l (k + 1))[j] = if j < k + 1 then f l[j] else l[j] := Option.some.inj ((List.getElem?_eq_getElem _).symm.trans (mapK_get f l (k + 1) j hj'))
  rw [e1, e2]
  by_cases h2 : j = k
  · subst h2; rw [if_neg (by omega), if_pos (by omega), e]
  · by_cases h3 : j < k
    · rw [if_pos h3, if_pos (by omega)]
    · rw [if_neg h3, if_neg (by omega)]
theorem BytesAt.putM {f : UInt8 → UInt8} {w wr : World} {b : Nat} {l : List UInt8} {k : Nat} (h : BytesAt w wr b (mapK f l k)) (hk : k < l.length) : BytesAt w (wr.setCell ⟨b, k, none⟩ (.int .u8 ((f l[k]).toNat : Nat))) b (mapK f l (k + 1)) := by
  refine ⟨fun j hj => ?_, fun j hj => by rw [World.frozen?_setCell]; exact h.free j (by rw [mapK_length] at hj ⊢; exact hj), h.ge, h.below.setCell h.ge _⟩
  have hj' : j < l.length := by rwa [mapK_length] at hj
  have e2 : (mapK f l (k + 1))[j] = if j < k + 1 then f l[j] else l[j] := Option.some.inj ((List.getElem?_eq_getElem _).symm.trans (mapK_get f l (k + 1) j hj'))
  rw [e2, setCell_get _ _ _ _ _ _ (h.cell k (by rw [mapK_length]; exact hk))]
  by_cases h2 : k = j
  · subst h2; rw [if_pos rfl, if_pos (by omega)]
  · rw [if_neg h2, h.cell j (by rw [mapK_length]; exact hj')]
    have e1 : (mapK f l k)[j]'(by rw [mapK_length]; exact hj') = if j < k then f l[j] else l[j] := Option.some.inj ((List.getElem?_eq_getElem _).symm.trans (mapK_get f l k j hj'))
    rw [e1]
    by_cases h3 : j < k
    · rw [if_pos h3, if_pos (by omega)]
    · rw [if_neg h3, if_neg (by omega)]
end Go.Proofs.YtphaemaccdddfaaDoor
