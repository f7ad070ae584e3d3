/- Package epoch: what an epoch is in the heap; has, Now, Pinned, set. No condition but those that each contract bears. -/
import Derived.Test.YtkjppffkjofamaaMemCore
import Derived.Test.YtkjppffkjofamaaDrive
import Derived.Deep.RegionHeld3
import Derived.Deep.RegionLaw
import Derived.Deep.DeepCutAuto
set_option linter.unusedVariables false
set_option linter.unusedSimpArgs false
namespace Go.Proofs.Ytkjppffkjofamaa
open Go.RowKit Go.Shelf
/-- An epoch: its own block b, its memory in bm, its readers' numbers in bp; n readers, its word wd. -/
structure EpAt (W : World) (b bm bp n wd now : Nat) (pins : Nat → Nat) : Prop where
  blk : W.heap[b]? = some (.cells #[.pointer (some ⟨bm, 0, none⟩), .int .i64 (wd : Nat), .int .u64 (now : Nat), .slice (some ⟨bp, 0, none⟩) n n] 91 (0, 0))
  pin : ∀ i, i < n → W.cell? ⟨bp, i, none⟩ = some (.int .u64 (pins i : Nat))
  free : ∀ i, W.frozen? ⟨bp, i, none⟩ = false
  mem : ∃ M : MemS, MemAt W bm M ∧ wd + 1 + n ≤ M.n ∧ M.words wd = (now : Int) ∧ ∀ i, i < n → M.words (wd + 1 + i) = (pins i : Int)
  n1 : 1 ≤ n
  n8 : n ≤ 8
  wd8 : wd ≤ 8192
  nowb : now ≤ 100000
  pinb : ∀ i, i < n → pins i ≤ 100001
  d1 : b ≠ bm
  d2 : b ≠ bp
  d3 : bm ≠ bp
theorem EpAt.lt {W : World} {b bm bp n wd now : Nat} {pins : Nat → Nat} (h : EpAt W b bm bp n wd now pins) : b < W.heap.size ∧ bm < W.heap.size ∧ bp < W.heap.size :=
  ⟨(Array.getElem?_eq_some_iff.1 h.blk).1, by obtain ⟨M, hm, _⟩ := h.mem; exact hm.lt, lt_of_cell (h.pin 0 h.n1)⟩
theorem EpAt.of_blocks {W W' : World} {b bm bp n wd now : Nat} {pins : Nat → Nat} (h : EpAt W b bm bp n wd now pins) (h1 : W'.heap[b]? = W.heap[b]?) (h2 : W'.heap[bm]? = W.heap[bm]?) (h3 : W'.heap[bp]? = W.heap[bp]?) : EpAt W' b bm bp n wd now pins :=
  ⟨h1.trans h.blk, fun i hi => (World.cell?_of_block (w := W) h3).trans (h.pin i hi), fun i => (World.frozen?_of_block (w := W) h3).trans (h.free i), by obtain ⟨M, hm, hr⟩ := h.mem; exact ⟨M, hm.of_cells h2, hr⟩, h.n1, h.n8, h.wd8, h.nowb, h.pinb, h.d1, h.d2, h.d3⟩
theorem has_ep {W : World} {b bm bp n wd now : Nat} {pins : Nat → Nat} (h : EpAt W b bm bp n wd now pins) (i : Int) :
    Calls Try.prog 35 #[.pointer (some ⟨b, 0, none⟩), .int .i64 i] W fun e w' => e = .returned (.bool (decide (0 ≤ i ∧ i < n))) ∧ W = w' := by
  have e3 : W.cell? ⟨b, 3, none⟩ = some (.slice (some ⟨bp, 0, none⟩) n n) := by simp [World.cell?, h.blk]
  clear h
  by_cases h0 : 0 ≤ i
  · by_cases h1 : i < n
    · rw [decide_eq_true ⟨h0, h1⟩]
      go_enter Try.func35, Try.ntmps35
      go_wp2
      go_ret
      exact ⟨rfl, rfl⟩
    · rw [decide_eq_false (fun e => h1 e.2)]
      go_enter Try.func35, Try.ntmps35
      go_wp2
      go_ret
      exact ⟨rfl, rfl⟩
  · rw [decide_eq_false (fun e => h0 e.1)]
    go_enter Try.func35, Try.ntmps35
    go_wp2
    go_ret
    exact ⟨rfl, rfl⟩
theorem now_ep {W : World} {b bm bp n wd now : Nat} {pins : Nat → Nat} (h : EpAt W b bm bp n wd now pins) :
    Calls Try.prog 20 #[.pointer (some ⟨b, 0, none⟩)] W fun e w' => e = .returned (.int .u64 (now : Nat)) ∧ W = w' := by
  have e2 : W.cell? ⟨b, 2, none⟩ = some (.int .u64 (now : Nat)) := by simp [World.cell?, h.blk]
  clear h
  go_enter Try.func20, Try.ntmps20
  go_wp2
  go_ret
  exact ⟨rfl, rfl⟩
theorem pinned_no {W : World} {b bm bp n wd now : Nat} {pins : Nat → Nat} (h : EpAt W b bm bp n wd now pins) (i : Int) (hi : ¬ (0 ≤ i ∧ i < n)) :
    Calls Try.prog 21 #[.pointer (some ⟨b, 0, none⟩), .int .i64 i] W fun e w' => e = .returned (.tuple #[.int .u64 0, .bool false]) ∧ W = w' := by
  have hh := has_ep h i
  rw [decide_eq_false hi] at hh
  have HH : Hd _ := ⟨hh⟩
  clear hh h
  go_enter Try.func21, Try.ntmps21
  go_wp2_with (go_at_call 35; refine HH.out.mono ?_; rintro e w' ⟨rfl, rfl⟩)
  go_ret2
  exact ⟨rfl, rfl⟩
theorem pinned_ep {W : World} {b bm bp n wd now : Nat} {pins : Nat → Nat} (h : EpAt W b bm bp n wd now pins) (i : Nat) (hi : i < n) :
    Calls Try.prog 21 #[.pointer (some ⟨b, 0, none⟩), .int .i64 (i : Nat)] W fun e w' => e = .returned (.tuple #[.int .u64 ((pins i - 1 : Nat) : Nat), .bool (decide (pins i ≠ 0))]) ∧ W = w' := by
  have hh := has_ep h i
  rw [decide_eq_true ⟨by omega, by omega⟩] at hh
  have e3 : W.cell? ⟨b, 3, none⟩ = some (.slice (some ⟨bp, 0, none⟩) n n) := by simp [World.cell?, h.blk]
  have ep := h.pin i hi
  have hb := h.pinb i hi
  have HH : Hd _ := ⟨hh⟩
  have hlo : (0 : Int) ≤ (i : Int) := by omega
  have hhi : (i : Int) < (n : Int) := by omega
  clear hh h
  by_cases h0 : pins i = 0
  · have hz : (((pins i : Nat) : Int) == 0) = true := by simp [h0]
    rw [decide_eq_false (fun e => e h0), show ((pins i - 1 : Nat) : Int) = 0 by omega]
    clear h0
    go_enter Try.func21, Try.ntmps21
    go_wp2_with (go_at_call 35; refine HH.out.mono ?_; rintro e w' ⟨rfl, rfl⟩)
    go_ret2
    exact ⟨rfl, rfl⟩
  · have hz : (((pins i : Nat) : Int) == 0) = false := beq_eq_false_iff_ne.2 (by omega)
    have hw : IntKind.u64.wrap (((pins i : Nat) : Int) - 1) = ((pins i - 1 : Nat) : Int) := by rw [IntKind.wrap_u64]; omega
    rw [decide_eq_true h0]
    have HW : Hd _ := ⟨hw⟩
    clear h0 hw
    go_enter Try.func21, Try.ntmps21
    go_wp2_with (go_at_call 35; refine HH.out.mono ?_; rintro e w' ⟨rfl, rfl⟩)
    go_ret2
    exact ⟨by simp [HW.out], rfl⟩
end Go.Proofs.Ytkjppffkjofamaa
