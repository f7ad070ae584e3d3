/- Package flags: lower. No condition but those that each contract bears. -/
import Derived.Test.YtahbnpkhkhdmaaaDoorTouch
import Derived.Test.YtahbnpkhkhdmaaaDoorRows
import Derived.WalkKit
import Derived.Below
import Derived.ProofKit
import Derived.Shelf.Abstract
import Derived.OwnWalk
import Derived.Deep.Draws
import Derived.LoopTactic
import Derived.Lib.ConvBytes
import Derived.Laws.IdiomStrings
set_option linter.unusedVariables false
set_option linter.unusedSimpArgs false
namespace Go.Proofs.YtahbnpkhkhdmaaaDoor
open Go.RowKit Go.Shelf
def lowB (c : UInt8) : UInt8 := if 65 ≤ c.toNat ∧ c.toNat ≤ 90 then UInt8.ofNat (c.toNat + 32) else c
def lowS (s : ByteArray) : ByteArray := ⟨(s.data.toList.map lowB).toArray⟩
/-- Bytes in a block of the function's own. -/
structure BytesAt (w wr : World) (b : Nat) (l : List UInt8) : Prop where
  cell : ∀ j (hj : j < l.length), wr.cell? ⟨b, j, none⟩ = some (.int .u8 ((l[j].toNat : Nat) : Int))
  free : ∀ j, j < l.length → wr.frozen? ⟨b, j, none⟩ = false
  ge : w.heap.size ≤ b
  below : Below w.heap.size w wr
theorem bytes_new (w : World) (s : ByteArray) : BytesAt w (Lib.bytesWorld w 5 s) w.heap.size s.data.toList := by
  have hsz : s.data.toList.length = s.size := by simp
  refine ⟨fun j hj => ?_, fun j hj => ?_, Nat.le_refl _, ⟨rfl, rfl, rfl, by rw [Lib.bytesWorld_size]; omega, fun k hk => Lib.bytesWorld_at_old w _ s k hk⟩⟩
  · rw [Lib.bytesWorld_cell w _ s j (by omega), List.getD_eq_getElem?_getD, List.getElem?_eq_getElem hj]; rfl
  · unfold World.frozen?
    rw [Lib.bytesWorld_at_new]
    show (decide (_ ≤ j) && decide (j < _)) = false
    have : (Lib.bytesCells w 5 s).size ≥ s.size := by simp [Lib.bytesCells]
    rw [decide_eq_false (by omega)]; rfl
/-- The first k letters are small. -/
def lowK (l : List UInt8) (k : Nat) : List UInt8 := (l.take k).map lowB ++ l.drop k
theorem lowK_length (l : List UInt8) (k : Nat) : (lowK l k).length = l.length := by
  unfold lowK; rw [List.length_append, List.length_map, List.length_take, List.length_drop]; omega
theorem lowK_get (l : List UInt8) (k j : Nat) (hj : j < l.length) : (lowK l k)[j]? = some (if j < k then lowB l[j] else l[j]) := by
  unfold lowK
  by_cases h : j < k
  · rw [List.getElem?_append_left (by simp; omega), List.getElem?_map, List.getElem?_take, if_pos h, List.getElem?_eq_getElem hj, if_pos h]; rfl
  · rw [List.getElem?_append_right (by simp; omega), List.getElem?_drop, if_neg h, List.length_map, List.length_take]
    by_cases h2 : k ≤ l.length
    · rw [Nat.min_eq_left h2, show k + (j - k) = j by omega, List.getElem?_eq_getElem hj]
    · omega
theorem BytesAt.of {w wr : World} {b : Nat} {l l' : List UInt8} (h : BytesAt w wr b l) (e : l' = l) : BytesAt w wr b l' := e ▸ h
theorem low_byte (c : UInt8) : ((lowB c).toNat : Int) = if 65 ≤ (c.toNat : Int) ∧ (c.toNat : Int) ≤ 90 then (c.toNat : Int) + 32 else (c.toNat : Int) := by
  unfold lowB
  by_cases h : 65 ≤ c.toNat ∧ c.toNat ≤ 90
  · rw [if_pos h, if_pos (by omega)]
    have : (UInt8.ofNat (c.toNat + 32)).toNat = c.toNat + 32 := by rw [UInt8.toNat_ofNat']; omega
    rw [this]; omega
  · rw [if_neg h, if_neg (by omega)]
theorem BytesAt.same {w wr : World} {b : Nat} {l : List UInt8} {k : Nat} (h : BytesAt w wr b (lowK l k)) (hk : k < l.length) (e : lowB l[k] = l[k]) : BytesAt w wr b (lowK l (k + 1)) := by
  refine ⟨fun j hj => ?_, fun j hj => h.free j (by rw [lowK_length] at hj ⊢; exact hj), h.ge, h.below⟩
  have hj' : j < l.length := by rwa [lowK_length] at hj
  have h1 := h.cell j (by rw [lowK_length]; exact hj')
  rw [h1]
  have e1 : (lowK l k)[j]'(by rw [lowK_length]; exact hj') = if j < k then lowB l[j] else l[j] := Option.some.inj ((List.getElem?_eq_getElem _).symm.trans (lowK_get l k j hj'))
  have e2 : (lowK l (k + 1))[j] = if j < k + 1 then lowB l[j] else l[j] := Option.some.inj ((List.getElem?_eq_getElem _).symm.trans (lowK_get l (k + 1) j hj'))
  rw [e1, e2]
  by_cases h2 : j = k
  · subst h2; rw [if_neg (by omega), if_pos (by omega), e]
  · by_cases h3 : j < k
    · rw [if_pos h3, if_pos (by omega)]
    · rw [if_neg h3, if_neg (by omega)]
theorem BytesAt.put {w wr : World} {b : Nat} {l : List UInt8} {k : Nat} (h : BytesAt w wr b (lowK l k)) (hk : k < l.length) : BytesAt w (wr.setCell ⟨b, k, none⟩ (.int .u8 ((lowB l[k]).toNat : Nat))) b (lowK l (k + 1)) := by
  refine ⟨fun j hj => ?_, fun j hj => by rw [World.frozen?_setCell]; exact h.free j (by rw [lowK_length] at hj ⊢; exact hj), h.ge, h.below.setCell h.ge _⟩
  have hj' : j < l.length := by rwa [lowK_length] at hj
  have e2 : (lowK l (k + 1))[j] = if j < k + 1 then lowB l[j] else l[j] := Option.some.inj ((List.getElem?_eq_getElem _).symm.trans (lowK_get l (k + 1) j hj'))
  rw [e2, setCell_get _ _ _ _ _ _ (h.cell k (by rw [lowK_length]; exact hk))]
  by_cases h2 : k = j
  · subst h2; rw [if_pos rfl, if_pos (by omega)]
  · rw [if_neg h2, h.cell j (by rw [lowK_length]; exact hj')]
    have e1 : (lowK l k)[j]'(by rw [lowK_length]; exact hj') = if j < k then lowB l[j] else l[j] := Option.some.inj ((List.getElem?_eq_getElem _).symm.trans (lowK_get l k j hj'))
    rw [e1]
    by_cases h3 : j < k
    · rw [if_pos h3, if_pos (by omega)]
    · rw [if_neg h3, if_neg (by omega)]
set_option maxRecDepth 100000 in
set_option maxHeartbeats 1000000 in
theorem lower_any (s : ByteArray) (w : World) (hs : s.size ≤ 140737488351232) :
    Calls Tryd.prog 52 #[.string s] w fun e w' => e = .returned (.string (lowS s)) ∧ Below w.heap.size w w' := by
  have hsz : s.data.toList.length = s.size := by simp
  have hk := Lib.run_convert_string_bytes (P := Tryd.prog) w 9 87 5 s Tryd.underlying9 Tryd.underlying87 Tryd.underlying5
  have hB := bytes_new w s
  obtain ⟨w1, hw1⟩ : ∃ w1, Lib.bytesWorld w 5 s = w1 := ⟨_, rfl⟩
  obtain ⟨cap, hcap⟩ : ∃ cap, grownCap w s.size 0 5 = cap := ⟨_, rfl⟩
  rw [hw1] at hk hB
  rw [hcap] at hk
  obtain ⟨b, hb⟩ : ∃ b, w.heap.size = b := ⟨_, rfl⟩
  have HB : Hd (BytesAt w w1 b (lowK s.data.toList 0)) := ⟨by rw [← hb]; exact hB.of rfl⟩
  rw [hb] at hk
  have HN : Hd _ := ⟨hb⟩
  clear hw1 hcap hB hb
  go_enter Tryd.func52, Tryd.ntmps52
  go_wp2
  clear hk
  have hsb : s.size ≤ 140737488351232 := hs
  go_loopw [10] (fun i wr => ∃ k : Nat, k ≤ s.size ∧ i = .int .i64 k ∧ Hd (BytesAt w wr b (lowK s.data.toList k))) (fun i _ => s.size - (intOf i).toNat)
  case atStart => exact ⟨0, Nat.zero_le _, rfl, HB⟩
  case round =>
    obtain ⟨k, hk, rfl, HR⟩ := hrel
    clear HB
    by_cases hlt : k < s.size
    · have hlk : k < s.data.toList.length := by omega
      have c0 := HR.out.cell k (by rw [lowK_length]; exact hlk)
      have f0 := HR.out.free k (by rw [lowK_length]; exact hlk)
      have e1 : (lowK s.data.toList k)[k]'(by rw [lowK_length]; exact hlk) = s.data.toList[k] := by
        have := Option.some.inj ((List.getElem?_eq_getElem (l := lowK s.data.toList k) (i := k) (by rw [lowK_length]; exact hlk)).symm.trans (lowK_get s.data.toList k k hlk))
        rw [if_neg (by omega)] at this
        exact this
      rw [e1] at c0
      have hlow := low_byte s.data.toList[k]
      have hput := HR.out.put hlk
      have hsame := HR.out.same hlk
      obtain ⟨ch, hch⟩ : ∃ ch, s.data.toList[k] = ch := ⟨_, rfl⟩
      rw [hch] at c0 hlow hput hsame
      have hz255 : (ch.toNat : Int) ≤ 255 := by have := ch.toNat_lt; omega
      have hz0 : (0 : Int) ≤ (ch.toNat : Int) := by omega
      obtain ⟨z, hz⟩ : ∃ z : Int, (ch.toNat : Int) = z := ⟨_, rfl⟩
      rw [hz] at c0 hlow hz255 hz0
      have hlo : (0 : Int) ≤ (k : Int) := by omega
      have hhi : (k : Int) < (s.size : Int) := by omega
      by_cases hr : 65 ≤ z ∧ z ≤ 90
      · rw [if_pos hr] at hlow
        rw [hlow] at hput
        have HP : Hd _ := ⟨hput⟩
        obtain ⟨hr1, hr2⟩ := hr
        clear e1 hlow hput hsame hch hz
        go_wp2
        go_roundw
        case rel => exact ⟨k + 1, by omega, by go_num, ⟨by first | exact HP.out | (have h3 := HP.out; rw [show z + 32 = z + 97 - 65 by omega] at h3; exact h3)⟩⟩
        case measure => simp [intOf]; omega
      · rw [if_neg hr] at hlow
        have heq : lowB ch = ch := by
          apply UInt8.toNat_inj.1
          omega
        have HP : Hd _ := ⟨hsame heq⟩
        clear e1 hlow hput hsame hch hz heq
        by_cases hr1 : 65 ≤ z
        · have hr2 : ¬ z ≤ 90 := fun e => hr ⟨hr1, e⟩
          clear hr
          go_wp2
          go_roundw
          case rel => exact ⟨k + 1, by omega, by go_num, HP⟩
          case measure => simp [intOf]; omega
        · clear hr
          go_wp2
          go_roundw
          case rel => exact ⟨k + 1, by omega, by go_num, HP⟩
          case measure => simp [intOf]; omega
    · obtain rfl : k = s.size := by omega
      have hl : lowK s.data.toList s.size = s.data.toList.map lowB := by
        unfold lowK
        rw [← hsz, List.take_length, List.drop_length, List.append_nil]
      rw [hl] at HR
      have hlen : (s.data.toList.map lowB).length = s.size := by rw [List.length_map, hsz]
      have hback := run_convert_bytes_back (P := Tryd.prog) wr 87 9 5 ⟨b, 0, none⟩ cap (s.data.toList.map lowB) Tryd.underlying87 Tryd.underlying5 Tryd.underlying9 (fun j hj => by
        rw [add_off, Nat.zero_add]
        exact HR.out.cell j hj)
      rw [hlen] at hback
      go_wp2
      go_ret
      exact ⟨rfl, HN.out ▸ HR.out.below⟩
end Go.Proofs.YtahbnpkhkhdmaaaDoor
