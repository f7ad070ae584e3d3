/- Package flags: the names' variable, flag. No condition but those that each contract bears. -/
import Derived.Test.YtahbnpkhkhdmaaaDoorFlLower
set_option linter.unusedVariables false
set_option linter.unusedSimpArgs false
namespace Go.Proofs.YtahbnpkhkhdmaaaDoor
open Go.RowKit Go.Shelf
def names5 : List ByteArray := [⟨#[92, 65, 110, 115, 119, 101, 114, 101, 100]⟩, ⟨#[92, 70, 108, 97, 103, 103, 101, 100]⟩, ⟨#[92, 68, 101, 108, 101, 116, 101, 100]⟩, ⟨#[92, 83, 101, 101, 110]⟩, ⟨#[92, 68, 114, 97, 102, 116]⟩]
def name5 (i : Nat) : ByteArray := names5.getD i ⟨#[]⟩
/-- The variable that holds the flags' names. -/
structure NamesAt (W : World) (bn on cn : Nat) : Prop where
  v : W.cell? ⟨0, 0, none⟩ = some (.slice (some ⟨bn, on, none⟩) 5 cn)
  c : ∀ i, i < 5 → W.cell? ⟨bn, on + i, none⟩ = some (.string (name5 i))
theorem NamesAt.on {W W' : World} {bn on cn : Nat} (h : NamesAt W bn on cn) (hb : Below W.heap.size W W') : NamesAt W' bn on cn :=
  ⟨(hb.cell (p := ⟨_, 0, none⟩) (lt_of_cell h.v)).trans h.v, fun i hi => (hb.cell (p := ⟨bn, on + i, none⟩) (lt_of_cell (h.c i hi))).trans (h.c i hi)⟩
theorem name5_size (i : Nat) : (name5 i).size ≤ 9 := by
  unfold name5 names5
  match i with
  | 0 => decide
  | 1 => decide
  | 2 => decide
  | 3 => decide
  | 4 => decide
  | n + 5 => show (([] : List ByteArray).getD n ⟨#[]⟩).size ≤ 9; exact Nat.zero_le _
def hit (s : ByteArray) (i : Nat) : Bool := (lowS (name5 i)).toList == (lowS s).toList
/-- The first of five that is so; 5: none. -/
def first5 (p : Nat → Bool) : Nat := if p 0 then 0 else if p 1 then 1 else if p 2 then 2 else if p 3 then 3 else if p 4 then 4 else 5
def flagOf (s : ByteArray) : Int × Bool := match first5 (hit s) with
  | 0 => (1, true)
  | 1 => (2, true)
  | 2 => (4, true)
  | 3 => (8, true)
  | 4 => (16, true)
  | _ => (0, false)
theorem first5_at {p : Nat → Bool} {k : Nat} (hk : k < 5) (h : ∀ j, j < k → p j = false) (hp : p k = true) : first5 p = k := by
  unfold first5
  match k, hk with
  | 0, _ => rw [hp]; rfl
  | 1, _ => rw [h 0 (by omega), hp]; rfl
  | 2, _ => rw [h 0 (by omega), h 1 (by omega), hp]; rfl
  | 3, _ => rw [h 0 (by omega), h 1 (by omega), h 2 (by omega), hp]; rfl
  | 4, _ => rw [h 0 (by omega), h 1 (by omega), h 2 (by omega), h 3 (by omega), hp]; rfl
theorem flagOf_hit {s : ByteArray} {k : Nat} (hk : k < 5) (h : ∀ j, j < k → hit s j = false) (hp : hit s k = true) : flagOf s = ((2 : Int) ^ k % 256, true) := by
  unfold flagOf
  rw [first5_at hk h hp]
  match k, hk with
  | 0, _ => rfl
  | 1, _ => rfl
  | 2, _ => rfl
  | 3, _ => rfl
  | 4, _ => rfl
theorem first5_none {p : Nat → Bool} (h : ∀ j, j < 5 → p j = false) : first5 p = 5 := by
  unfold first5
  rw [h 0 (by omega), h 1 (by omega), h 2 (by omega), h 3 (by omega), h 4 (by omega)]; rfl
theorem flagOf_none {s : ByteArray} (h : ∀ j, j < 5 → hit s j = false) : flagOf s = (0, false) := by
  unfold flagOf
  rw [first5_none h]; rfl
def FlagPost (s : ByteArray) (w : World) (e : Ending) (w' : World) : Prop := e = .returned (.tuple #[.int .u8 (flagOf s).1, .bool (flagOf s).2]) ∧ Below w.heap.size w w'
set_option maxRecDepth 100000 in
set_option maxHeartbeats 1000000 in
theorem flag_any (s : ByteArray) (w : World) (hs : s.size ≤ 140737488351232) {bn on cn : Nat} (hN : NamesAt w bn on cn) :
    Calls Tryd.prog 35 #[.string s] w (FlagPost s w) := by
  have n0 := hN.v
  have HN : Hd _ := ⟨hN⟩
  have HL : Hd (∀ (s : ByteArray) (w : World), s.size ≤ 140737488351232 → Calls Tryd.prog 52 #[.string s] w fun e w' => e = .returned (.string (lowS s)) ∧ Hd (Below w.heap.size w w')) := ⟨fun s w h => (lower_any s w h).mono (fun _ _ h => ⟨h.1, ⟨h.2⟩⟩)⟩
  clear hN
  go_enter Tryd.func35, Tryd.ntmps35
  go_wp2_with fail
  clear n0
  go_loopw [8] (fun i wr => ∃ k : Nat, k ≤ 5 ∧ i = .int .i64 k ∧ Hd (Below w.heap.size w wr ∧ ∀ j, j < k → hit s j = false)) (fun i _ => 5 - (intOf i).toNat)
  case atStart => exact ⟨0, Nat.zero_le _, rfl, ⟨Below.refl _ _, fun j hj => absurd hj (Nat.not_lt_zero j)⟩⟩
  case round =>
    obtain ⟨k, hk, rfl, HR⟩ := hrel
    by_cases hlt : k < 5
    · have c0 := (HN.out.on HR.out.1).c k hlt
      have hsz := name5_size k
      have hlo : (0 : Int) ≤ (k : Int) := by omega
      have hhi : (k : Int) < 5 := by omega
      obtain ⟨nm, hnm⟩ : ∃ nm, name5 k = nm := ⟨_, rfl⟩
      rw [hnm] at c0 hsz
      have HNm : Hd _ := ⟨hnm⟩
      clear hnm
      cases hh : hit s k with
      | true =>
        have h1 : ((lowS nm).toList == (lowS s).toList) = true := by rw [← HNm.out]; exact hh
        have HH : Hd _ := ⟨hh⟩
        clear hh
        go_wp2_with (first
          | (go_at_call 52; have hx := HL.out nm wr (by omega); (with_reducible refine hx.mono ?_); clear hx; rintro e w2 ⟨rfl, HB2⟩)
          | (go_at_call 52; have hx := HL.out s w2 hs; (with_reducible refine hx.mono ?_); clear hx; rintro e w3 ⟨rfl, HB3⟩))
        go_ret2
        exact ⟨by rw [flagOf_hit hlt HR.out.2 HH.out]; rfl, HR.out.1.trans ((HB2.out.mono HR.out.1.size).trans (HB3.out.mono (Nat.le_trans HR.out.1.size HB2.out.size)))⟩
      | false =>
        have h1 : ((lowS nm).toList == (lowS s).toList) = false := by rw [← HNm.out]; exact hh
        have HH : Hd _ := ⟨hh⟩
        clear hh
        go_wp2_with (first
          | (go_at_call 52; have hx := HL.out nm wr (by omega); (with_reducible refine hx.mono ?_); clear hx; rintro e w2 ⟨rfl, HB2⟩)
          | (go_at_call 52; have hx := HL.out s w2 hs; (with_reducible refine hx.mono ?_); clear hx; rintro e w3 ⟨rfl, HB3⟩))
        go_roundw
        case rel => exact ⟨k + 1, by omega, by go_num, ⟨HR.out.1.trans ((HB2.out.mono HR.out.1.size).trans (HB3.out.mono (Nat.le_trans HR.out.1.size HB2.out.size))), fun j hj => by
          by_cases e : j = k
          · rw [e]; exact HH.out
          · exact HR.out.2 j (by omega)⟩⟩
        case measure => simp [intOf]; omega
    · obtain rfl : k = 5 := by omega
      go_wp2_with fail
      go_ret2
      exact ⟨by rw [flagOf_none HR.out.2]; rfl, HR.out.1⟩
end Go.Proofs.YtahbnpkhkhdmaaaDoor
