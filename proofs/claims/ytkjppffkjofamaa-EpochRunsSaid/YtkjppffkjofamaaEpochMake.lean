/- Package epoch: Pin and Unpin make acts. No condition but those that each contract bears. -/
import Derived.Test.YtkjppffkjofamaaEpochPin
import Derived.Test.YtkjppffkjofamaaDriveRest
set_option linter.unusedVariables false
set_option linter.unusedSimpArgs false
namespace Go.Proofs.Ytkjppffkjofamaa
open Go.RowKit Go.Shelf
@[go_sem] theorem eql_act_nil (w : World) : (binOp .eql 63 (.pointer none) (.pointer none)).run Try.prog w = .ok (.bool true) w := by kernel_rfl
theorem alloc3 (w : World) (x y z : Value) (tx ty tz : Nat) (W : World) (h : W = ((w.alloc (.cells #[x] tx)).alloc (.cells #[y] ty)).alloc (.cells #[z] tz)) :
    W.heap.size = w.heap.size + 3 ∧ Below w.heap.size w W ∧ W.cell? ⟨w.heap.size, 0, none⟩ = some x ∧ W.cell? ⟨w.heap.size + 1, 0, none⟩ = some y ∧ W.heap[w.heap.size + 1 + 1]? = some (.cells #[z] tz (0, 0)) ∧ KeepsOthers w W := by
  subst h
  refine ⟨by simp, (((Below.refl _ w).alloc (Nat.le_refl _) _).alloc (by simp) _).alloc (by simp; omega) _, ?_, ?_, ?_, ((KeepsOthers.alloc _ _).trans (KeepsOthers.alloc _ _)).trans (KeepsOthers.alloc _ _)⟩
  · simp [go_sem]
  · refine blk_cell (cs := #[y]) (t := ty) (i := 0) ?_ rfl
    rw [Below.heap_alloc _ _ _ (by simp)]
    have := heap_alloc_new (w.alloc (.cells #[x] tx)) (.cells #[y] ty)
    rw [World.size_alloc] at this; exact this
  · have := heap_alloc_new ((w.alloc (.cells #[x] tx)).alloc (.cells #[y] ty)) (.cells #[z] tz)
    rw [World.size_alloc, World.size_alloc] at this; exact this
def PinMade (W : World) (b who : Nat) (e : Ending) (w' : World) : Prop :=
  ∃ ba be bw bh, e = .returned (.pointer (some ⟨ba, 0, none⟩)) ∧ (W.heap.size ≤ be ∧ W.heap.size ≤ bw ∧ W.heap.size ≤ bh ∧ W.heap.size ≤ ba) ∧ (ba ≠ be ∧ ba ≠ bw ∧ ba ≠ bh) ∧ ActAt w' ba (.func (.func 42) #[] #[.pointer (some ⟨bh, 0, none⟩), .pointer (some ⟨be, 0, none⟩)]) 0 ∧ PinEnv w' be bw bh b who ∧ Below W.heap.size W w'
theorem pin_make {W : World} {b bm bp n wd now : Nat} {pins : Nat → Nat} (h : EpAt W b bm bp n wd now pins) (who : Nat) (hw : who < n) :
    Calls Try.prog 22 #[.pointer (some ⟨b, 0, none⟩), .int .i64 (who : Nat)] W (PinMade W b who) := by
  have HH : Hd (∀ X : World, Below W.heap.size W X → Calls Try.prog 35 #[.pointer (some ⟨b, 0, none⟩), .int .i64 (who : Nat)] X fun e w' => e = .returned (.bool true) ∧ X = w') := ⟨fun X hX => by
    have := has_ep (h.of_blocks (hX.block b h.lt.1) (hX.block bm h.lt.2.1) (hX.block bp h.lt.2.2)) (who : Int)
    rwa [decide_eq_true ⟨by omega, by omega⟩] at this⟩
  clear h
  go_enter Try.func22, Try.ntmps22
  go_wp2_with (first | (go_at_call 35; refine (HH.out _ (((Below.refl _ W).alloc (Nat.le_refl _) _).alloc (by simp) _)).mono ?_; rintro e w' ⟨rfl, rfl⟩) | (go_at_call 41; refine (actNew_any _ (.inr ⟨_, _, rfl⟩) _).mono ?_; rintro e w' ⟨ba, rfl, hb, ha, hbl, hs⟩))
  go_ret
  obtain ⟨z0, h60, hc0, hc1, hc2, _⟩ := alloc3 W _ _ _ _ _ _ _ rfl
  have hc3 := blk_cell hc2 (i := 0) rfl
  rw [z0] at hb hbl
  exact ⟨_, _, _, _, rfl, ⟨Nat.le_refl _, by omega, by omega, by omega⟩, ⟨by omega, by omega, by omega⟩, ha, ⟨(hbl.cell (p := ⟨W.heap.size, 0, none⟩) (by show W.heap.size < _; omega)).trans hc0, (hbl.cell (p := ⟨W.heap.size + 1, 0, none⟩) (by show W.heap.size + 1 < _; omega)).trans hc1, (hbl.cell (p := ⟨W.heap.size + 1 + 1, 0, none⟩) (by show W.heap.size + 1 + 1 < _; omega)).trans hc3⟩, h60.trans (hbl.mono (by omega))⟩
theorem pin_none {W : World} {b bm bp n wd now : Nat} {pins : Nat → Nat} (h : EpAt W b bm bp n wd now pins) (i : Int) (hi : ¬ (0 ≤ i ∧ i < n)) :
    Calls Try.prog 22 #[.pointer (some ⟨b, 0, none⟩), .int .i64 i] W fun e w' => e = .returned (.pointer none) ∧ Below W.heap.size W w' := by
  have HH : Hd (∀ X : World, Below W.heap.size W X → Calls Try.prog 35 #[.pointer (some ⟨b, 0, none⟩), .int .i64 i] X fun e w' => e = .returned (.bool false) ∧ X = w') := ⟨fun X hX => by
    have := has_ep (h.of_blocks (hX.block b h.lt.1) (hX.block bm h.lt.2.1) (hX.block bp h.lt.2.2)) i
    rwa [decide_eq_false hi] at this⟩
  clear h hi
  go_enter Try.func22, Try.ntmps22
  go_wp2_with (go_at_call 35; refine (HH.out _ (((Below.refl _ W).alloc (Nat.le_refl _) _).alloc (by simp) _)).mono ?_; rintro e w' ⟨rfl, rfl⟩)
  go_ret
  exact ⟨rfl, ((Below.refl _ W).alloc (Nat.le_refl _) _).alloc (by simp) _⟩
/-- What Unpin's closure holds. -/
structure UnpinEnv (W : World) (be bw b who : Nat) : Prop where
  e : W.cell? ⟨be, 0, none⟩ = some (.pointer (some ⟨b, 0, none⟩))
  w : W.cell? ⟨bw, 0, none⟩ = some (.int .i64 (who : Nat))
def UnpinMade (W : World) (b who : Nat) (e : Ending) (w' : World) : Prop :=
  ∃ ba be bw, e = .returned (.pointer (some ⟨ba, 0, none⟩)) ∧ (W.heap.size ≤ be ∧ W.heap.size ≤ bw ∧ W.heap.size ≤ ba) ∧ (ba ≠ be ∧ ba ≠ bw) ∧ ActAt w' ba (.func (.func 43) #[] #[.pointer (some ⟨be, 0, none⟩), .pointer (some ⟨bw, 0, none⟩)]) 0 ∧ UnpinEnv w' be bw b who ∧ Below W.heap.size W w'
theorem unpin_make {W : World} {b bm bp n wd now : Nat} {pins : Nat → Nat} (h : EpAt W b bm bp n wd now pins) (who : Nat) (hw : who < n) :
    Calls Try.prog 23 #[.pointer (some ⟨b, 0, none⟩), .int .i64 (who : Nat)] W (UnpinMade W b who) := by
  have HH : Hd (∀ X : World, Below W.heap.size W X → Calls Try.prog 35 #[.pointer (some ⟨b, 0, none⟩), .int .i64 (who : Nat)] X fun e w' => e = .returned (.bool true) ∧ X = w') := ⟨fun X hX => by
    have := has_ep (h.of_blocks (hX.block b h.lt.1) (hX.block bm h.lt.2.1) (hX.block bp h.lt.2.2)) (who : Int)
    rwa [decide_eq_true ⟨by omega, by omega⟩] at this⟩
  clear h
  go_enter Try.func23, Try.ntmps23
  go_wp2_with (first | (go_at_call 35; refine (HH.out _ (((Below.refl _ W).alloc (Nat.le_refl _) _).alloc (by simp) _)).mono ?_; rintro e w' ⟨rfl, rfl⟩) | (go_at_call 41; refine (actNew_any _ (.inr ⟨_, _, rfl⟩) _).mono ?_; rintro e w' ⟨ba, rfl, hb, ha, hbl, hs⟩))
  go_ret
  have z0 : ((W.alloc (.cells #[.pointer (some ⟨b, 0, none⟩)] 46)).alloc (.cells #[.int .i64 (who : Nat)] 3)).heap.size = W.heap.size + 2 := by simp
  have hc0 : ((W.alloc (.cells #[.pointer (some ⟨b, 0, none⟩)] 46)).alloc (.cells #[.int .i64 (who : Nat)] 3)).cell? ⟨W.heap.size, 0, none⟩ = some (.pointer (some ⟨b, 0, none⟩)) := by simp [go_sem]
  have hc1 : ((W.alloc (.cells #[.pointer (some ⟨b, 0, none⟩)] 46)).alloc (.cells #[.int .i64 (who : Nat)] 3)).cell? ⟨W.heap.size + 1, 0, none⟩ = some (.int .i64 (who : Nat)) := by
    refine blk_cell (cs := #[.int .i64 (who : Nat)]) (t := 3) (i := 0) ?_ rfl
    have := heap_alloc_new (W.alloc (.cells #[.pointer (some ⟨b, 0, none⟩)] 46)) (.cells #[.int .i64 (who : Nat)] 3)
    rw [World.size_alloc] at this
    exact this
  rw [z0] at hb hbl
  exact ⟨_, _, _, rfl, ⟨Nat.le_refl _, by omega, by omega⟩, ⟨by omega, by omega⟩, ha, ⟨(hbl.cell (p := ⟨W.heap.size, 0, none⟩) (by show W.heap.size < _; omega)).trans hc0, (hbl.cell (p := ⟨W.heap.size + 1, 0, none⟩) (by show W.heap.size + 1 < _; omega)).trans hc1⟩, (((Below.refl _ W).alloc (Nat.le_refl _) _).alloc (by simp) _).trans (hbl.mono (by omega))⟩
theorem unpin_none {W : World} {b bm bp n wd now : Nat} {pins : Nat → Nat} (h : EpAt W b bm bp n wd now pins) (i : Int) (hi : ¬ (0 ≤ i ∧ i < n)) :
    Calls Try.prog 23 #[.pointer (some ⟨b, 0, none⟩), .int .i64 i] W fun e w' => e = .returned (.pointer none) ∧ Below W.heap.size W w' := by
  have HH : Hd (∀ X : World, Below W.heap.size W X → Calls Try.prog 35 #[.pointer (some ⟨b, 0, none⟩), .int .i64 i] X fun e w' => e = .returned (.bool false) ∧ X = w') := ⟨fun X hX => by
    have := has_ep (h.of_blocks (hX.block b h.lt.1) (hX.block bm h.lt.2.1) (hX.block bp h.lt.2.2)) i
    rwa [decide_eq_false hi] at this⟩
  clear h hi
  go_enter Try.func23, Try.ntmps23
  go_wp2_with (go_at_call 35; refine (HH.out _ (((Below.refl _ W).alloc (Nat.le_refl _) _).alloc (by simp) _)).mono ?_; rintro e w' ⟨rfl, rfl⟩)
  go_ret
  exact ⟨rfl, ((Below.refl _ W).alloc (Nat.le_refl _) _).alloc (by simp) _⟩
theorem unpin_run {W : World} {b bm bp n wd now : Nat} {pins : Nat → Nat} (h : EpAt W b bm bp n wd now pins) (be bw who : Nat) (he : UnpinEnv W be bw b who) (hw : who < n) :
    Calls Try.prog 43 #[.pointer (some ⟨be, 0, none⟩), .pointer (some ⟨bw, 0, none⟩)] W fun e w' =>
      e = .returned .nilFunc ∧ EpAt w' b bm bp n wd now (putPin pins who 0) ∧ Touch (fun k => k = bm ∨ k = bp) W w' ∧ w'.heap.size = W.heap.size := by
  have c1 := he.e
  have c2 := he.w
  have HS : Hd _ := ⟨set_ep h who 0 hw (by omega)⟩
  clear he h
  go_enter Try.func43, Try.ntmps43
  go_wp2_with (go_at_call 38; refine HS.out.mono ?_; rintro e w2 ⟨rfl, hE, hT, hs⟩; have HE : Hd _ := ⟨hE⟩; have HT : Hd _ := ⟨hT⟩; clear hE hT)
  go_ret
  exact ⟨rfl, HE.out, HT.out, hs⟩
end Go.Proofs.Ytkjppffkjofamaa
