/- The law's lengths, and the chapter's example. No condition but those that each contract bears. -/
import Derived.Test.YthghndjfghdnnaaActStep
import Derived.Test.YthghndjfghdnnaaOpen
namespace Go.Proofs.Ythghndjfghdnnaa
open Go.RowKit
def lens (l : List Int) : List Int := l.map (fun x => x % 20)
theorem lens_take (l : List Int) (k : Nat) (h : k < l.length) : (lens (l.take (k + 1))) = lens (l.take k) ++ [nth l k % 20] := by
  unfold lens nth
  rw [List.take_succ_eq_append_getElem h, List.map_append, List.getD_eq_getElem?_getD, List.getElem?_eq_getElem h]; rfl
theorem lens_length (l : List Int) : (lens l).length = l.length := by simp [lens]
def LensPost (l : List Int) (w : World) (e : Ending) (w' : World) : Prop := ∃ v, e = .returned v ∧ w'.ownsRow w.heap.size 3 1 v l.length ((lens l).map (Value.int .i64)) ∧ Below w.heap.size w w'
theorem own_nil_ (W : World) (base : Nat) (e : TypeId) (size : Nat) : W.ownsRow base e size (.slice none 0 0) 0 [] := ⟨by simp, .inl ⟨rfl, rfl⟩⟩
theorem own_slice_ {w : World} {base n : Nat} {e : TypeId} {size : Nat} {v : Value} {xs : List Value} (h : w.ownsRow base e size v n xs) : ∃ A c, v = .slice A n c := by
  rcases h.2 with ⟨rfl, h0⟩ | ⟨g, cap, cur, hv, _⟩
  · exact ⟨none, 0, by rw [h0]⟩
  · exact ⟨_, _, hv⟩
set_option maxHeartbeats 1000000 in
theorem lengths_any (bx ox : Nat) (l : List Int) (cap : Nat) (w : World) (hl : l.length ≤ 10) (hx : bx < w.heap.size) (hc : ∀ i, i < l.length → w.cell? ⟨bx, ox + i, none⟩ = some (.int .u8 (nth l i))) (hb : ∀ i, i < l.length → 0 ≤ nth l i ∧ nth l i ≤ 255) :
    Calls Try.prog 9 #[.slice (some ⟨bx, ox, none⟩) l.length cap] w (LensPost l w) := by
  obtain ⟨i0, hi, hz0, hz1, hz2⟩ := info_parts info_int
  have HC : Hd _ := ⟨hc⟩
  have HB : Hd _ := ⟨hb⟩
  clear hc hb
  go_enter Try.func9, Try.ntmps9
  go_wp2_with fail
  go_loopw [3, 4] (fun v i wr => ∃ k : Nat, k ≤ l.length ∧ i = .int .i64 k ∧ wr.ownsRow w.heap.size 3 1 v k ((lens (l.take k)).map (Value.int .i64)) ∧ Below w.heap.size w wr) (fun _ i _ => l.length - (intOf i).toNat)
  case atStart => exact ⟨0, Nat.zero_le _, rfl, own_nil_ _ _ _ _, Below.refl _ _⟩
  case round =>
    obtain ⟨k, hk, rfl, hown, hB⟩ := hrel
    by_cases hlt : k < l.length
    · have hcell : wr.cell? ⟨bx, ox + k, none⟩ = some (.int .u8 (nth l k)) := (hB.cell (p := ⟨bx, ox + k, none⟩) hx).trans (HC.out k hlt)
      have hlo : (0 : Int) ≤ (k : Int) := by omega
      have hhi : (k : Int) < (l.length : Int) := by omega
      obtain ⟨hb0, hb1⟩ := HB.out k hlt
      have hsz := hB.size
      go_wp2_with (at_builtin; refine wpList_append_own _ rfl _ _ 23 rfl w.heap.size 3 i0 (.int .i64 0) 1 8 Try.underlying23 hi hz0 hz1 hz2 rfl (by decide) _ _ _ rfl (hown.alloc _) ⟨wr.heap.size, 0, none⟩ 1 1 [.int .i64 (nth l k % 20)] rfl rfl ?c1 ?c2 ?c3 ?c4 ?c5 ?_)
      case c1 => exact cell_one_new _ _ _
      case c2 => simp [Value.oneCell']
      case c3 => unfold maxLen; omega
      case c4 => omega
      case c5 => simp; omega
      intro v' w1 hown' hgrow _
      have hB' : Below w.heap.size w w1 := (hB.alloc hsz _).grown hgrow (by simp; omega) (fun k e => (hown.lt k e).1)
      have HO : Hd (w1.ownsRow w.heap.size 3 1 v' (k + 1) ((lens (l.take (k + 1))).map (Value.int .i64))) := ⟨by rw [lens_take l k hlt, List.map_append]; exact hown'⟩
      clear hown' hown
      go_wp2
      go_roundw
      case rel => exact ⟨k + 1, by omega, by go_num, HO.out, hB'⟩
      case measure => simp [intOf]; omega
    · obtain rfl : k = l.length := by omega
      rw [List.take_length] at hown
      have HO : Hd _ := ⟨hown⟩
      clear hown
      go_wp2
      go_ret
      exact ⟨_, rfl, HO.out, hB⟩
theorem lengths_nil (A : Option Addr) (cap : Nat) (w : World) : Calls Try.prog 9 #[.slice A 0 cap] w (LensPost [] w) := by
  go_enter Try.func9, Try.ntmps9
  go_wp2_with fail
  go_loopw [3, 4] (fun v i wr => i = .int .i64 0 ∧ v = .slice none 0 0 ∧ wr = w) (fun _ _ _ => 0)
  case atStart => exact ⟨rfl, rfl, rfl⟩
  case round =>
    obtain ⟨rfl, rfl, rfl⟩ := hrel
    go_wp2
    go_ret
    exact ⟨_, rfl, own_nil_ _ _ _ _, Below.refl _ _⟩
set_option maxHeartbeats 1000000 in
theorem actAwake (w : World) : Calls Try.prog 18 #[] w fun e w' => e = .returned (.bool true) ∧ Below w.heap.size w w' := by
  have hnil : LogAt (w.alloc (.cells #[.slice none 0 0] 23)) w.heap.size w.heap.size 0 [] none := ⟨_, World.cell?_alloc_at _ _ _ _ rfl, World.frozen?_alloc_at _ _ _ _ rfl, own_nil_ _ _ _ _, rfl⟩
  have HN : Hd _ := ⟨hnil⟩
  clear hnil
  go_enter Try.func18, Try.ntmps18
  go_wp2_with fail
  refine (steps_any w.heap.size 0 7 3 _).mono ?_
  rintro e w1 ⟨b, v, rfl, hb, ha, hn, hbl⟩
  simp only [World.size_alloc] at hb hn
  have hl1 : LogAt w1 w.heap.size w.heap.size 0 [] none := HN.out.below hbl
  have hsz := hbl.size
  simp only [World.size_alloc] at hsz
  have s1 := step_any w.heap.size w.heap.size 0 7 2 [] none b 0 v _ w1 ha hn (fun k hk => ⟨hk.2, by omega, by simp⟩) hl1 (by simp) (by omega) (by simp) (by omega) (by simp) (by omega) (by omega) (by omega)
  have S1 : Hd _ := ⟨s1⟩
  have ha0 : Hd _ := ⟨ha⟩
  clear s1 hn ha hl1
  go_wp2_with fail
  refine S1.out.mono ?_
  rintro e w2 ⟨v2, r2, rfl, ha2, hn2, hl2, hr2, ht2⟩
  have hbz := ha0.out.lt
  have q2 : some w.heap.size ≠ r2 ∧ some b ≠ r2 := by rcases hr2 with h | ⟨g, h, hg⟩ <;> rw [h] <;> refine ⟨fun e => by cases e <;> omega, fun e => by cases e <;> omega⟩
  have s2 := step_any w.heap.size w.heap.size 0 7 1 _ r2 b (0 + 1) v2 _ w2 ha2 hn2 (fun k hk => ⟨by omega, by omega, hk.2⟩) hl2 (by simp) (by have := ht2.size; omega) q2.1 (by omega) q2.2 (by omega) (by omega) (by omega)
  have S2 : Hd _ := ⟨s2⟩
  have R2 : Hd _ := ⟨hr2⟩
  have hsz2 := ht2.size
  have hb2 := ha2.lt
  clear s2 hn2 ha2 hl2 hr2 S1
  go_wp2_with fail
  refine S2.out.mono ?_
  rintro e w3 ⟨v3, r3, rfl, ha3, hn3, hl3, hr3, ht3⟩
  have q3 : some w.heap.size ≠ r3 ∧ some b ≠ r3 := by
    rcases hr3 with h | ⟨g, h, hg⟩
    · rw [h]; exact q2
    · rw [h]; refine ⟨fun e => by cases e; omega, fun e => by cases e; omega⟩
  have s3 := step_any w.heap.size w.heap.size 0 7 0 _ r3 b (0 + 1 + 1) v3 _ w3 ha3 hn3 (fun k hk => ⟨by omega, by omega, hk.2⟩) hl3 (by simp) (by have := ht3.size; omega) q3.1 (by omega) q3.2 (by omega) (by omega) (by omega)
  have S3 : Hd _ := ⟨s3⟩
  have R3 : Hd _ := ⟨hr3⟩
  have hsz3 := ht3.size
  clear s3 hn3 ha3 hl3 hr3 S2
  go_wp2_with fail
  refine S3.out.mono ?_
  rintro e w4 ⟨v4, r4, rfl, ha4, hn4, hl4, hr4, ht4⟩
  clear S3
  rcases hn4 with ⟨_, rfl⟩ | ⟨h, _⟩
  · obtain ⟨vl, hvl, hfl, hol, _⟩ := hl4
    obtain ⟨Al, cl, rfl⟩ := own_slice_ hol
    have HA : Hd _ := ⟨ha4⟩
    clear ha4 hol
    go_wp2_with (first | (go_at_call 17; refine (count_any b _ _ _ HA.out).mono ?_; rintro e w' ⟨rfl, rfl⟩) | (go_at_call 15; refine (over_yes b _ _ HA.out).mono ?_; rintro e w' ⟨rfl, rfl⟩))
    go_ret
    have hT : Below w.heap.size w w4 := by
      have b1 : Below w.heap.size w w1 := ((Below.refl _ w).alloc (Nat.le_refl _) _).trans (hbl.mono (by simp))
      have z : ∀ (r : Option Nat) (k : Nat), (r = none ∨ ∃ g, r = some g ∧ w.heap.size ≤ g) → k < w.heap.size → ¬ (k = b ∨ k = w.heap.size ∨ some k = r) := by
        rintro r k hr hk (e | e | e)
        · omega
        · omega
        · rcases hr with rfl | ⟨g, rfl, hg⟩
          · cases e
          · cases e; omega
      have g2 : r2 = none ∨ ∃ g, r2 = some g ∧ w.heap.size ≤ g := R2.out.imp id (fun ⟨g, h, hg⟩ => ⟨g, h, by omega⟩)
      have g3 : r3 = none ∨ ∃ g, r3 = some g ∧ w.heap.size ≤ g := by
        rcases R3.out with h | ⟨g, h, hg⟩
        · rw [h]; exact g2
        · exact .inr ⟨g, h, by omega⟩
      exact ((b1.trans (ht2.below (by omega) (fun k hk => z none k (.inl rfl) hk))).trans (ht3.below (by omega) (fun k hk => z r2 k g2 hk))).trans (ht4.below (by omega) (fun k hk => z r3 k g3 hk))
    exact ⟨rfl, hT⟩
  · omega
end Go.Proofs.Ythghndjfghdnnaa
