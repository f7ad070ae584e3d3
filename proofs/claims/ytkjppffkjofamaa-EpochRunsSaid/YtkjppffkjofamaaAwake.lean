/- The law's awake: what the chapter's example says. No condition but those that each contract bears. -/
import Derived.Test.YtkjppffkjofamaaReady
set_option linter.unusedVariables false
set_option linter.unusedSimpArgs false
namespace Go.Proofs.Ytkjppffkjofamaa
open Go.RowKit Go.Shelf
/-- An epoch of one reader, of the law's own. -/
structure Aw0 (W0 w : World) (b bm bp now p : Nat) : Prop where
  ep : ∃ pins, EpAt w b bm bp 1 1 now pins ∧ pins 0 = p
  ge : W0.heap.size ≤ b ∧ W0.heap.size ≤ bm ∧ W0.heap.size ≤ bp
  below : Below W0.heap.size W0 w
/-- And a Limbo. -/
structure Aw (W0 w : World) (b bm bp now p lb : Nat) (ks : List (Int × Int)) : Prop where
  ep : Aw0 W0 w b bm bp now p
  lim : ∃ row, LimboAt w lb W0.heap.size ks row ∧ ∀ k, k = lb ∨ row = some k → k ≠ b ∧ k ≠ bm ∧ k ≠ bp
  ge : W0.heap.size ≤ lb
def isE (b bm bp : Nat) (k : Nat) : Prop := k = b ∨ k = bm ∨ k = bp
theorem Aw0.on {W0 w w' : World} {b bm bp now p now' p' : Nat} (h : Aw0 W0 w b bm bp now p) {pins : Nat → Nat} (hE : EpAt w' b bm bp 1 1 now' pins) (hp : pins 0 = p') (ht : Touch (isE b bm bp) w w') : Aw0 W0 w' b bm bp now' p' :=
  ⟨⟨pins, hE, hp⟩, h.ge, h.below.trans (ht.below h.below.size (fun k hk e => by have := h.ge; unfold isE at e; omega))⟩
theorem Aw.on {W0 w w' : World} {b bm bp now p now' p' lb : Nat} {ks : List (Int × Int)} (h : Aw W0 w b bm bp now p lb ks) (h2 : Aw0 W0 w' b bm bp now' p') (ht : Touch (isE b bm bp) w w') : Aw W0 w' b bm bp now' p' lb ks := by
  obtain ⟨row, hL, hr⟩ := h.lim
  have ne : ∀ k, k = lb ∨ row = some k → ¬ isE b bm bp k := fun k hk e => by obtain ⟨a1, a2, a3⟩ := hr k hk; exact e.elim a1 (fun e => e.elim a2 a3)
  refine ⟨h2, ⟨row, hL.of_blocks (ht.block lb hL.lt (ne lb (.inl rfl))) (fun k hk => ht.block k ?_ (ne k (.inr hk))), hr⟩, h.ge⟩
  obtain ⟨v, _, ho, hv⟩ := hL.v
  exact (owns_lt ho k (hv.trans hk)).2
theorem Aw0.below_on {W0 w w' : World} {b bm bp now p : Nat} (h : Aw0 W0 w b bm bp now p) (hb : Below w.heap.size w w') : Aw0 W0 w' b bm bp now p := by
  obtain ⟨pins, hE, hp⟩ := h.ep
  exact ⟨⟨pins, hE.of_blocks (hb.block _ hE.lt.1) (hb.block _ hE.lt.2.1) (hb.block _ hE.lt.2.2), hp⟩, h.ge, h.below.trans (hb.mono h.below.size)⟩
theorem aw_made (W0 : World) : Calls Try.prog 14 #[.int .i64 1] W0 fun e w' => ∃ b bm bp, e = .returned (.pointer (some ⟨b, 0, none⟩)) ∧ Hd (Aw0 W0 w' b bm bp 0 0) := by
  refine (made_any 1 W0 (by omega) (by omega)).mono ?_
  rintro e w' ⟨b, bm, bp, rfl, hge, hE, hB⟩
  exact ⟨b, bm, bp, rfl, ⟨⟨⟨_, hE, rfl⟩, hge, hB⟩⟩⟩
theorem aw_pin {W0 w : World} {b bm bp now p : Nat} (h : Aw0 W0 w b bm bp now p) (hn : now ≤ 10) : Calls Try.prog 22 #[.pointer (some ⟨b, 0, none⟩), .int .i64 0] w fun e w1 => ∃ ba, e = .returned (.pointer (some ⟨ba, 0, none⟩)) ∧ Hd (Calls Try.prog 24 #[.pointer (some ⟨ba, 0, none⟩)] w1 fun e w2 => e = .returned (.bool true) ∧ Hd (Aw0 W0 w2 b bm bp now (now + 1))) := by
  obtain ⟨pins, hE, hp⟩ := h.ep
  refine (pin_make hE 0 (by omega)).mono ?_
  intro e w1 hm
  obtain ⟨ba, rfl, hB, hC⟩ := pin_alone hE (by omega) (by omega) hm
  refine ⟨ba, rfl, ⟨hC.mono ?_⟩⟩
  rintro e w2 ⟨rfl, hE2, hT⟩
  exact ⟨rfl, ⟨h.on hE2 (if_pos rfl) hT⟩⟩
theorem aw_un {W0 w : World} {b bm bp now p lb : Nat} {ks : List (Int × Int)} (h : Aw W0 w b bm bp now p lb ks) (hn : now ≤ 10) : Calls Try.prog 23 #[.pointer (some ⟨b, 0, none⟩), .int .i64 0] w fun e w1 => ∃ ba, e = .returned (.pointer (some ⟨ba, 0, none⟩)) ∧ Hd (Calls Try.prog 24 #[.pointer (some ⟨ba, 0, none⟩)] w1 fun e w2 => e = .returned (.bool true) ∧ Hd (Aw W0 w2 b bm bp now 0 lb ks)) := by
  obtain ⟨pins, hE, hp⟩ := h.ep.ep
  refine (unpin_make hE 0 (by omega)).mono ?_
  intro e w1 hm
  obtain ⟨ba, rfl, hB, hC⟩ := un_alone hE (by omega) (by omega) hm
  refine ⟨ba, rfl, ⟨hC.mono ?_⟩⟩
  rintro e w2 ⟨rfl, hE2, hT⟩
  exact ⟨rfl, ⟨h.on (h.ep.on hE2 (if_pos rfl) hT) hT⟩⟩
theorem aw_moved {W0 w : World} {b bm bp now p lb : Nat} {ks : List (Int × Int)} (h : Aw W0 w b bm bp now p lb ks) (hn : now ≤ 10) : Calls Try.prog 25 #[.pointer (some ⟨b, 0, none⟩)] w fun e w2 => e = .returned (.bool (decide (p = 0 ∨ p = now + 1))) ∧ Aw W0 w2 b bm bp (if p = 0 ∨ p = now + 1 then now + 1 else now) p lb ks := by
  obtain ⟨pins, hE, hp⟩ := h.ep.ep
  have hm : mayMove 1 now pins = decide (p = 0 ∨ p = now + 1) := by
    unfold mayMove
    exact decide_eq_decide.2 ⟨fun e => hp ▸ e 0 (by omega), fun e k hk => by obtain rfl : k = 0 := (by omega); exact hp.symm ▸ e⟩
  refine (moved_any hE (by omega)).mono ?_
  rintro e w2 ⟨rfl, hE2, hT⟩
  rw [hm] at hE2 ⊢
  have e3 : (if decide (p = 0 ∨ p = now + 1) = true then now + 1 else now) = if p = 0 ∨ p = now + 1 then now + 1 else now := by
    by_cases e : p = 0 ∨ p = now + 1
    · rw [if_pos e, if_pos (decide_eq_true e)]
    · rw [if_neg e, if_neg (by simpa using e)]
  rw [e3] at hE2
  exact ⟨rfl, h.on (h.ep.on hE2 hp hT) hT⟩
theorem aw_m01 {W0 w : World} {b bm bp lb : Nat} {ks : List (Int × Int)} (h : Aw W0 w b bm bp 0 1 lb ks) : Calls Try.prog 25 #[.pointer (some ⟨b, 0, none⟩)] w fun e w2 => e = .returned (.bool true) ∧ Hd (Aw W0 w2 b bm bp 1 1 lb ks) :=
  (aw_moved h (by omega)).mono (fun e w2 h => ⟨h.1, ⟨h.2⟩⟩)
theorem aw_m11 {W0 w : World} {b bm bp lb : Nat} {ks : List (Int × Int)} (h : Aw W0 w b bm bp 1 1 lb ks) : Calls Try.prog 25 #[.pointer (some ⟨b, 0, none⟩)] w fun e w2 => e = .returned (.bool false) ∧ Hd (Aw W0 w2 b bm bp 1 1 lb ks) :=
  (aw_moved h (by omega)).mono (fun e w2 h => ⟨h.1, ⟨h.2⟩⟩)
theorem aw_m10 {W0 w : World} {b bm bp lb : Nat} {ks : List (Int × Int)} (h : Aw W0 w b bm bp 1 0 lb ks) : Calls Try.prog 25 #[.pointer (some ⟨b, 0, none⟩)] w fun e w2 => e = .returned (.bool true) ∧ Hd (Aw W0 w2 b bm bp 2 0 lb ks) :=
  (aw_moved h (by omega)).mono (fun e w2 h => ⟨h.1, ⟨h.2⟩⟩)
theorem aw_now {W0 w : World} {b bm bp now p lb : Nat} {ks : List (Int × Int)} (h : Aw W0 w b bm bp now p lb ks) : Calls Try.prog 20 #[.pointer (some ⟨b, 0, none⟩)] w fun e w2 => e = .returned (.int .u64 (now : Nat)) ∧ w = w2 := by
  obtain ⟨pins, hE, hp⟩ := h.ep.ep
  exact now_ep hE
theorem aw_n1 {W0 w : World} {b bm bp lb : Nat} {ks : List (Int × Int)} (h : Aw W0 w b bm bp 1 1 lb ks) : Calls Try.prog 20 #[.pointer (some ⟨b, 0, none⟩)] w fun e w2 => e = .returned (.int .u64 1) ∧ w = w2 := aw_now h
theorem aw_n2 {W0 w : World} {b bm bp lb : Nat} {ks : List (Int × Int)} (h : Aw W0 w b bm bp 2 0 lb ks) : Calls Try.prog 20 #[.pointer (some ⟨b, 0, none⟩)] w fun e w2 => e = .returned (.int .u64 2) ∧ w = w2 := aw_now h
theorem aw_len {W0 w : World} {b bm bp now p lb : Nat} (h : Aw W0 w b bm bp now p lb [(0, 7)]) : Calls Try.prog 9 #[.pointer (some ⟨lb, 0, none⟩)] w fun e w2 => e = .returned (.int .i64 1) ∧ w = w2 := by
  obtain ⟨row, hL, _⟩ := h.lim
  exact limbo_len hL
theorem aw_start {W0 w : World} {b bm bp now p : Nat} (h : Aw0 W0 w b bm bp now p) : Aw W0 (w.alloc (.cells #[.slice none 0 0] 25)) b bm bp now p w.heap.size [] := by
  have hz := h.below.size
  obtain ⟨pins, hE, hp⟩ := h.ep
  have l := hE.lt
  refine ⟨h.below_on ((Below.refl _ _).alloc (Nat.le_refl _) _), ⟨none, ⟨⟨_, heap_alloc_new w _, World.ownsRow_nil _ _ _ _, rfl⟩, fun e => by cases e⟩, fun k hk => ?_⟩, hz⟩
  rcases hk with rfl | e
  · exact ⟨by omega, by omega, by omega⟩
  · cases e
theorem LimboAt.down {W : World} {lb base base' : Nat} {ks : List (Int × Int)} {row : Option Nat} (h : LimboAt W lb base ks row) (hb : ∀ k, row = some k → base' ≤ k) : LimboAt W lb base' ks row := by
  obtain ⟨v, hv, ho, hr⟩ := h.v
  exact ⟨⟨v, hv, ownsRow_up ho (fun k hk => hb k (hr.symm.trans hk)), hr⟩, h.far⟩
theorem aw_add {W0 w : World} {b bm bp now p lb : Nat} (h : Aw W0 w b bm bp now p lb []) (w1 : World) (h1 : w1 = w.alloc (.cells #[.int .i64 7] 3)) (s : Nat) (hs : w.heap.size = s) : Calls Try.prog 8 #[.pointer (some ⟨lb, 0, none⟩), .int .u64 0, .slice (some ⟨s, 0, none⟩) 1 1] w1 fun e w2 => e = .returned (.tuple #[]) ∧ Hd (Aw W0 w2 b bm bp now p lb [(0, 7)]) := by
  subst h1
  subst hs
  obtain ⟨row, hL, hr⟩ := h.lim
  have hz := h.ep.below.size
  have hB : Below w.heap.size w (w.alloc (.cells #[.int .i64 7] 3)) := (Below.refl _ _).alloc (Nat.le_refl _) _
  obtain ⟨v, _, ho, hv⟩ := hL.v
  have hrl : ∀ k, row = some k → W0.heap.size ≤ k ∧ k < w.heap.size := fun k hk => owns_lt ho k (hv.trans hk)
  have hL1 : LimboAt (w.alloc (.cells #[.int .i64 7] 3)) lb W0.heap.size [] row := hL.of_blocks (hB.block _ hL.lt) (fun k hk => hB.block k (hrl k hk).2)
  have hlt := hL.lt
  refine (limbo_add hL1 (by simp; omega) 0 (some ⟨w.heap.size, 0, none⟩) 1 [7] (fun j hj => ?_) (fun ba oa e _ => ?_) (by simp)).mono ?_
  · obtain rfl : j = 0 := by simpa using hj
    exact ⟨_, _, rfl, blk_cell (heap_alloc_new w _) rfl⟩
  · cases e
    exact ⟨by simp, by omega, fun e => by have := hrl _ e; omega⟩
  · rintro e w2 ⟨rfl, ⟨row', hL2, hn⟩, hT⟩
    obtain ⟨pins, hE, hp⟩ := (h.ep.below_on hB).ep
    have l := hE.lt
    have hl0 := h.ep.ge
    have ne : ∀ k, isE b bm bp k → ¬ (k = lb ∨ some k = row) := fun k hk e => by
      obtain ⟨a1, a2, a3⟩ := hr k (e.imp id (fun e => e.symm))
      exact hk.elim a1 (fun e => e.elim a2 a3)
    have lE := (h.ep.ep.choose_spec.1).lt
    refine ⟨rfl, ⟨⟨⟨pins, hE.of_blocks (hT.block b l.1 (ne b (.inl rfl))) (hT.block bm l.2.1 (ne bm (.inr (.inl rfl)))) (hT.block bp l.2.2 (ne bp (.inr (.inr rfl)))), hp⟩, h.ep.ge, ?_⟩, ⟨row', hL2, fun k hk => ?_⟩, h.ge⟩⟩
    · exact (h.ep.below.trans (hB.mono hz)).trans (hT.below (by simp; omega) (fun k hk e => by
        rcases e with e | e
        · have := h.ge; omega
        · have := hrl k e.symm; omega))
    · rcases hk with hk | hk
      · exact hr k (.inl hk)
      · rcases hn with hn | ⟨g, hn, hg⟩
        · exact hr k (.inr (hn ▸ hk))
        · rw [hn] at hk; cases hk
          simp at hg
          exact ⟨by omega, by omega, by omega⟩
theorem aw_ready {W0 w : World} {b bm bp now p lb : Nat} {ks : List (Int × Int)} (h : Aw W0 w b bm bp now p lb ks) (hn : now ≤ 10) (hk : ks.length ≤ 10) : Calls Try.prog 12 #[.pointer (some ⟨lb, 0, none⟩), .int .u64 (now : Nat)] w fun e w2 => ∃ vo, e = .returned vo ∧ w2.ownsRow w.heap.size 3 1 vo (rdy ks now ks.length).length ((rdy ks now ks.length).map (Value.int .i64)) ∧ Aw W0 w2 b bm bp now p lb (lft ks now ks.length) := by
  obtain ⟨row, hL, hr⟩ := h.lim
  have hz := h.ep.below.size
  obtain ⟨pins, hE, hp⟩ := h.ep.ep
  have l := hE.lt
  have hl0 := h.ep.ge
  have hlb := h.ge
  have ne : ∀ k, isE b bm bp k → k ≠ lb := fun k hk e => by
    obtain ⟨a1, a2, a3⟩ := hr k (.inl e)
    exact hk.elim a1 (fun e => e.elim a2 a3)
  refine (limbo_ready hL (now : Nat) (by omega) (by omega) (by omega)).mono ?_
  rintro e w2 ⟨vo, row', rfl, ho, hL2, hT, _, _⟩
  have hrl : ∀ k, row' = some k → w.heap.size ≤ k := fun k hk => by obtain ⟨v, _, ho, hv⟩ := hL2.v; exact (owns_lt ho k (hv.trans hk)).1
  refine ⟨vo, rfl, ho, ⟨⟨pins, hE.of_blocks (hT.block b l.1 (ne b (.inl rfl))) (hT.block bm l.2.1 (ne bm (.inr (.inl rfl)))) (hT.block bp l.2.2 (ne bp (.inr (.inr rfl)))), hp⟩, h.ep.ge, h.ep.below.trans (hT.below hz (fun k hk e => by omega))⟩, ⟨row', hL2.down (fun k hk => by have := hrl k hk; omega), fun k hk => ?_⟩, h.ge⟩
  rcases hk with hk | hk
  · exact hr k (.inl hk)
  · have := hrl k hk; exact ⟨by omega, by omega, by omega⟩
theorem aw_r1 {W0 w : World} {b bm bp lb : Nat} (h : Aw W0 w b bm bp 1 1 lb [(0, 7)]) : Calls Try.prog 12 #[.pointer (some ⟨lb, 0, none⟩), .int .u64 1] w fun e w2 => ∃ A c, e = .returned (.slice A 0 c) ∧ Hd (Aw W0 w2 b bm bp 1 1 lb [(0, 7)]) := by
  refine (aw_ready h (by omega) (by simp)).mono ?_
  rintro e w2 ⟨vo, rfl, ho, hA⟩
  have h1 : rdy [(0, 7)] (1 : Nat) 1 = [] := by decide
  have h2 : lft [(0, 7)] (1 : Nat) 1 = [(0, 7)] := by decide
  rw [show [((0 : Int), (7 : Int))].length = 1 from rfl] at ho hA
  rw [h1] at ho
  rw [h2] at hA
  obtain ⟨A, c, rfl⟩ := ownsRow_slice ho
  exact ⟨A, c, rfl, ⟨hA⟩⟩
theorem aw_r2 {W0 w : World} {b bm bp lb : Nat} (h : Aw W0 w b bm bp 2 0 lb [(0, 7)]) : Calls Try.prog 12 #[.pointer (some ⟨lb, 0, none⟩), .int .u64 2] w fun e w2 => ∃ g c, e = .returned (.slice (some ⟨g, 0, none⟩) 1 c) ∧ w2.cell? ⟨g, 0, none⟩ = some (.int .i64 7) ∧ Hd (Aw W0 w2 b bm bp 2 0 lb []) := by
  refine (aw_ready h (by omega) (by simp)).mono ?_
  rintro e w2 ⟨vo, rfl, ho, hA⟩
  have h1 : rdy [(0, 7)] (2 : Nat) 1 = [7] := by decide
  have h2 : lft [(0, 7)] (2 : Nat) 1 = [] := by decide
  rw [show [((0 : Int), (7 : Int))].length = 1 from rfl] at ho hA
  rw [h1] at ho
  rw [h2] at hA
  rcases ho.2 with ⟨_, h0⟩ | ⟨g, cap, cur, rfl, hb, hg, h3, _, hc, ht⟩
  · cases h0
  · refine ⟨g, cap, rfl, ?_, ⟨hA⟩⟩
    have h4 : (cur.toList.take (1 * 1))[0]? = some (.int .i64 7) := by
      have : [(7 : Int)].length = 1 := rfl
      rw [this] at ht
      rw [ht]; rfl
    rw [List.getElem?_take, if_pos (by omega), Array.getElem?_toList] at h4
    exact blk_cell hg h4
set_option maxRecDepth 100000 in
set_option maxHeartbeats 1000000 in
theorem awake_any (W0 : World) : Calls Try.prog 13 #[] W0 fun e w' => e = .returned (.bool true) ∧ Below W0.heap.size W0 w' := by
  go_enter Try.func13, Try.ntmps13
  go_wp2_with (first
    | (go_at_call 14; refine (aw_made _).mono ?_; rintro e w1 ⟨b, bm, bp, rfl, HA⟩)
    | (go_at_call 22; have hx := aw_pin HA.out (by omega); (with_reducible refine hx.mono ?_); clear hx; rintro e w2 ⟨ba, rfl, HC⟩)
    | (go_at_call 24; refine HC.out.mono ?_; clear HC HA; rintro e w3 ⟨rfl, HA⟩)
    | (go_at_call 23; have hx := aw_un HA.out (by omega); (with_reducible refine hx.mono ?_); clear hx; rintro e w2 ⟨ba, rfl, HC⟩)
    | (go_at_call 8; refine (aw_add (aw_start HA.out) _ rfl _ (by simp)).mono ?_; clear HA; rintro e w3 ⟨rfl, HA⟩)
    | (go_at_call 25; have hx := aw_m01 HA.out; (with_reducible refine hx.mono ?_); clear hx; clear HA; rintro e w3 ⟨rfl, HA⟩)
    | (go_at_call 25; have hx := aw_m11 HA.out; (with_reducible refine hx.mono ?_); clear hx; clear HA; rintro e w3 ⟨rfl, HA⟩)
    | (go_at_call 25; have hx := aw_m10 HA.out; (with_reducible refine hx.mono ?_); clear hx; clear HA; rintro e w3 ⟨rfl, HA⟩)
    | (go_at_call 20; have hx := aw_n1 HA.out; (with_reducible refine hx.mono ?_); clear hx; rintro e w3 ⟨rfl, rfl⟩)
    | (go_at_call 20; have hx := aw_n2 HA.out; (with_reducible refine hx.mono ?_); clear hx; rintro e w3 ⟨rfl, rfl⟩)
    | (go_at_call 9; have hx := aw_len HA.out; (with_reducible refine hx.mono ?_); clear hx; rintro e w3 ⟨rfl, rfl⟩)
    | (go_at_call 12; have hx := aw_r1 HA.out; (with_reducible refine hx.mono ?_); clear hx; clear HA; rintro e w3 ⟨A, c, rfl, HA⟩)
    | (go_at_call 12; have hx := aw_r2 HA.out; (with_reducible refine hx.mono ?_); clear hx; clear HA; rintro e w3 ⟨g, c, rfl, hcell, HA⟩))
  go_ret
  exact ⟨rfl, HA.out.ep.below⟩
end Go.Proofs.Ytkjppffkjofamaa
