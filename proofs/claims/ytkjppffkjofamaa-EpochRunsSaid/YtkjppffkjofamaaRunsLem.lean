/- The law EpochRuns: lemmas on the law's step. No condition but those that each lemma bears. -/
import Derived.Test.YtkjppffkjofamaaRunsInv
import Derived.Test.YtkjppffkjofamaaRefReady
set_option linter.unusedVariables false
set_option linter.unusedSimpArgs false
namespace Go.Proofs.Ytkjppffkjofamaa
open Go.RowKit Go.Shelf
def ptrV (o : Option Nat) : Value := .pointer (o.map fun b => ⟨b, 0, none⟩)
def dcOf (X : Sy) : Nat → Nat → Value := fun i j =>
  match j with
  | 0 => .int .i64 (X.next i : Nat)
  | 1 => ptrV (X.act i)
  | 2 => ptrV (X.mov i)
  | 3 => .int .u8 (X.kind i : Nat)
  | 4 => .bool (X.pinned i)
  | 5 => .int .u64 (X.since i : Nat)
  | _ => .int .i64 (X.turn i : Nat)
def RS (W0 w : World) (I : Ids) (B : Nat) : Prop := ∃ X col now pins cur vg G mv, WS W0 w col I now pins cur (dcOf X) vg G mv ∧ INV I.n B now pins cur X G mv
def Run (W0 w : World) (I : Ids) (B who : Nat) : Prop := ∃ X col now pins cur vg G mv c, WS W0 w col I now pins cur (dcOf X) vg G mv ∧ INV I.n B now pins cur X G mv ∧ cur who = some c
theorem INV.mono {n B B' now mv : Nat} {pins : Nat → Nat} {cur : Nat → Option Cur} {X : Sy} {G : List Away} (h : INV n B now pins cur X G mv) (hb : B ≤ B') : INV n B' now pins cur X G mv :=
  ⟨h.mv, Nat.le_trans h.nt hb, h.link, fun i hi => Nat.le_trans (h.nx i hi) hb, fun i hi => Nat.le_trans (h.tn i hi) hb, h.kd, h.pin, fun i hi c hc => ⟨(h.cu i hi c hc).1, Nat.le_trans (h.cu i hi c hc).2.1 hb, (h.cu i hi c hc).2.2⟩, h.lk, Nat.le_trans h.gl hb, h.gg⟩
def StepPost (W0 : World) (I : Ids) (B : Nat) (e : Ending) (w' : World) : Prop := e = .returned (.bool true) ∧ RS W0 w' I (B + 3)
theorem dc_eq {X : Sy} {dc : Nat → Nat → Value} {n : Nat} (h : ∀ i, i < n → dc i 0 = .int .i64 (X.next i : Nat) ∧ dc i 1 = ptrV (X.act i) ∧ dc i 2 = ptrV (X.mov i) ∧ dc i 3 = .int .u8 (X.kind i : Nat) ∧ dc i 4 = .bool (X.pinned i) ∧ dc i 5 = .int .u64 (X.since i : Nat) ∧ dc i 6 = .int .i64 (X.turn i : Nat)) : ∀ i j, i < n → j < 7 → dcOf X i j = dc i j := by
  intro i j hi hj
  obtain ⟨h0, h1, h2, h3, h4, h5, h6⟩ := h i hi
  match j, hj with
  | 0, _ => exact h0.symm
  | 1, _ => exact h1.symm
  | 2, _ => exact h2.symm
  | 3, _ => exact h3.symm
  | 4, _ => exact h4.symm
  | 5, _ => exact h5.symm
  | 6, _ => exact h6.symm
/-- Behind the stores of what is begun. -/
def dcB (X : Sy) (who : Nat) (k : Int) : Nat → Nat → Value := upd2 (upd2 (dcOf X) who 3 (.int .u8 k)) who 0 (.int .i64 ((X.next who : Nat) + 1))
theorem cells_begun {W0 w : World} {col : Nat → Nat} {I : Ids} {now : Nat} {pins : Nat → Nat} {cur : Nat → Option Cur} {X : Sy} {vg : Value} {G : List Away} {mv who : Nat} {k : Int} (h : WS W0 w col I now pins cur (dcB X who k) vg G mv) (hw : who < I.n) (ha : X.act who = none) :
    w.cell? ⟨I.ball, who * 7 + 1, none⟩ = some (.pointer none) ∧ w.cell? ⟨I.ball, who * 7 + 2, none⟩ = some (ptrV (X.mov who)) ∧ w.cell? ⟨I.ball, who * 7 + 3, none⟩ = some (.int .u8 k) ∧ w.cell? ⟨I.ball, who * 7 + 4, none⟩ = some (.bool (X.pinned who)) ∧ w.cell? ⟨I.ball, who * 7 + 6, none⟩ = some (.int .i64 (X.turn who : Nat)) := by
  refine ⟨(h.num who 1 hw (by omega)).trans ?_, (h.num who 2 hw (by omega)).trans ?_, (h.num who 3 hw (by omega)).trans ?_, (h.num who 4 hw (by omega)).trans ?_, (h.num who 6 hw (by omega)).trans ?_⟩
  · simp [dcB, upd2, dcOf, ptrV, ha]
  · simp [dcB, upd2, dcOf]
  · simp [dcB, upd2]
  · simp [dcB, upd2, dcOf]
  · simp [dcB, upd2, dcOf]
theorem ws_live {W0 w : World} {col : Nat → Nat} {I : Ids} {now : Nat} {pins : Nat → Nat} {cur : Nat → Option Cur} {dc : Nat → Nat → Value} {vg : Value} {G : List Away} {mv i : Nat} {c : Cur} (h : WS W0 w col I now pins (setCur cur i (some c)) dc vg G mv) (hi : i < I.n) (hc : c.ph.isOver = false) :
    Calls Try.prog 28 #[.pointer (some ⟨c.ba, 0, none⟩)] w fun e w' => e = .returned (.bool false) ∧ w = w' := by
  have := ws_over h i hi c (if_pos rfl)
  rwa [hc] at this
def BegunP (W0 : World) (I : Ids) (X : Sy) (who : Nat) (k : Int) (now : Nat) (pins : Nat → Nat) (cur : Nat → Option Cur) (vg : Value) (G : List Away) (mv : Nat) (c : Cur) (w : World) : Prop := ∃ col, WS W0 w col I now pins (setCur cur who (some c)) (dcB X who k) vg G mv
theorem run_of {W0 w : World} {I : Ids} {X : Sy} {who now mv B k : Nat} {pins : Nat → Nat} {cur : Nat → Option Cur} {vg : Value} {G : List Away} {c : Cur} {dc : Nat → Nat → Value} {col : Nat → Nat} (pd : Bool) (tn : Nat) (mo : Option Nat) (h : WS W0 w col I now pins (setCur cur who (some c)) dc vg G mv) (hw : who < I.n)
    (hI : INV I.n B now pins cur X G mv) (hc : cur who = none) (hk3 : k ≤ 3) (hcc : c.c = 0) (hph : (k = 0 ∧ c.ph = .pin0 who) ∨ (k = 1 ∧ c.ph = .un who) ∨ (k = 2 ∧ c.ph = .adv ∧ c.m = false ∧ ∃ m, c.mv = some m ∧ mo = some m))
    (hpd : (pd = X.pinned who ∧ tn = X.turn who ∧ (k = 2 ∨ X.pinned who = false)) ∨ (pd = false ∧ tn = X.turn who + 1))
    (hdc : ∀ i, i < I.n → dc i 0 = .int .i64 (fset X.next who (X.next who + 1) i : Nat) ∧ dc i 1 = ptrV (fset X.act who (some c.ba) i) ∧ dc i 2 = ptrV (fset X.mov who mo i) ∧ dc i 3 = .int .u8 (fset X.kind who k i : Nat) ∧ dc i 4 = .bool (fset X.pinned who pd i) ∧ dc i 5 = .int .u64 (X.since i : Nat) ∧ dc i 6 = .int .i64 (fset X.turn who tn i : Nat)) : Run W0 w I (B + 1) who :=
  ⟨_, _, _, _, _, _, _, _, c, h.redc _ (dc_eq (X := { X with next := fset X.next who (X.next who + 1), kind := fset X.kind who k, act := fset X.act who (some c.ba), mov := fset X.mov who mo, pinned := fset X.pinned who pd, turn := fset X.turn who tn }) hdc), hI.begin who hw hc k c pd tn mo hk3 hcc hph hpd, if_pos rfl⟩
theorem info_away : (Try.prog.info? 87).map (fun i => (i.zero, i.size, i.bytes)) = some (some (.agg #[.int .u64 0, .slice none 0 0]), 2, 32) := by kernel_rfl
theorem gcs_snoc (n : Nat) (G : List Away) (g : Away) : gcs n (G ++ [g]) = gcs n G ++ [.int .u64 (g.ep : Nat), .slice (some ⟨g.blk, 0, none⟩) n g.cap] := by simp [gcs]
theorem WS.pushed {W0 w w1 : World} {col : Nat → Nat} {I : Ids} {now : Nat} {pins : Nat → Nat} {cur : Nat → Option Cur} {dc : Nat → Nat → Value} {vg : Value} {G : List Away} {mv : Nat} (h : WS W0 w col I now pins cur dc vg G mv) {base tb tc ep g cap : Nat} {zs : List Int} {turn : Nat → Int} {o : Obj} (hbase : ∀ k, col k ≠ 0 → k < base) (hb0 : W0.heap.size ≤ base)
    (ht : w.ownsRow base 3 1 (.slice (some ⟨tb, 0, none⟩) I.n tc) I.n (zs.map (Value.int .i64))) (hzl : zs.length = I.n) (hz : ∀ i, i < I.n → nth zs i = turn i)
    (hown : w1.ownsRow W0.heap.size 87 2 (.slice (some ⟨g, 0, none⟩) (G.length + 1) cap) (G.length + 1) (gcs I.n G ++ [.int .u64 (ep : Nat), .slice (some ⟨tb, 0, none⟩) I.n tc])) (hgrow : World.grownBy (w.alloc o).drew w1 vg.ownBlock) (hat : vg.ownBlock = some g ∨ g = w.heap.size + 1) :
    ∃ col', WS W0 (w1.setCell ⟨I.bw, 2, none⟩ (.slice (some ⟨g, 0, none⟩) (G.length + 1) cap)) col' I now pins cur dc (.slice (some ⟨g, 0, none⟩) (G.length + 1) cap) (G ++ [⟨ep, tb, tc, turn⟩]) mv := by
  have hsz := h.below.size
  obtain ⟨t1, t2⟩ := owns_lt ht tb rfl
  have ct : col tb = 0 := by
    by_cases e : col tb = 0
    · exact e
    · have := hbase tb e; omega
  have a2 : Below w.heap.size w (w.alloc o).drew := ((Below.refl w.heap.size w).alloc (Nat.le_refl _) o).drew
  have hs1 : w.heap.size + 1 ≤ w1.heap.size := by have := hgrow.size; have e : (w.alloc o).drew.heap.size = w.heap.size + 1 := by show (w.alloc o).heap.size = _; simp
                                                  omega
  have blk : ∀ j, j < w.heap.size → vg.ownBlock ≠ some j → w1.heap[j]? = w.heap[j]? := fun j hj hne => (hgrow.block j (by show j < (w.alloc o).heap.size; simp; omega) (fun e => hne e.symm)).trans (a2.block j hj)
  have far : ∀ k, col k ≠ 0 → col k ≠ 4 → w1.heap[k]? = w.heap[k]? := fun k h0 h4 => blk k (h.ge k h0).2 (fun e => h4 (h.cg k e))
  have gt : g ≠ tb := fun e => by
    rcases hat with e2 | e2
    · have := h.cg g e2; rw [e, ct] at this; omega
    · omega
  have gg : col g = 4 ∨ col g = 0 := by
    rcases hat with e2 | e2
    · exact .inl (h.cg g e2)
    · refine .inr ?_
      by_cases e : col g = 0
      · exact e
      · have := (h.ge g e).2; omega
  have hS : ∀ k, k ≠ I.bw → (w1.setCell ⟨I.bw, 2, none⟩ (.slice (some ⟨g, 0, none⟩) (G.length + 1) cap)).heap[k]? = w1.heap[k]? := fun k hk => Below.heap_setCell _ _ _ _ hk
  have hs2 : (w1.setCell ⟨I.bw, 2, none⟩ (.slice (some ⟨g, 0, none⟩) (G.length + 1) cap)).heap.size = w1.heap.size := by simp [World.setCell]
  obtain ⟨w2, hw2⟩ : ∃ w2, w2 = w1.setCell ⟨I.bw, 2, none⟩ (.slice (some ⟨g, 0, none⟩) (G.length + 1) cap) := ⟨_, rfl⟩
  have hbw : w2.heap[I.bw]? = some (.cells #[.pointer (some ⟨I.b, 0, none⟩), .slice (some ⟨I.ball, 0, none⟩) I.n I.n, .slice (some ⟨g, 0, none⟩) (G.length + 1) cap, .int .u64 (mv : Nat)] 51 (0, 0)) := by
    rw [hw2]
    simp [World.setCell, Array.getElem?_modify, (far I.bw (by rw [h.cw.1]; omega) (by rw [h.cw.1]; omega)).trans h.blk]
  have hB1 : Below W0.heap.size W0 w1 := (h.below.trans (a2.mono hsz)).trans ⟨hgrow.os, hgrow.tape, hgrow.output, hgrow.size, fun j hj => hgrow.block j (by show j < (w.alloc o).heap.size; simp; omega) (fun e => by have := owns_lt h.gone j e.symm; omega)⟩
  have hB2 : Below W0.heap.size W0 w2 := by rw [hw2]; exact hB1.setCell (h.ge I.bw (by rw [h.cw.1]; omega)).1 _
  rw [← hw2] at hS hs2 ⊢
  have nc : ∀ k x, col k = x → x ≠ 2 → k ≠ I.bw := fun k x hk hx e => by subst e; rw [h.cw.1] at hk; omega
  have far2 : ∀ k x, col k = x → x ≠ 0 → x ≠ 2 → x ≠ 4 → w2.heap[k]? = w.heap[k]? := fun k x hk h0 h2 h4 => (hS k (nc k x hk h2)).trans (far k (by rw [hk]; exact h0) (by rw [hk]; exact h4))
  have old : ∀ k x, col k = x → x ≠ 0 → x ≠ 4 → (fun k => if k = g then 4 else if k = tb then 5 else col k) k = x := fun k x hk h0 h4 => by
    show (if k = g then 4 else if k = tb then 5 else col k) = x
    rw [if_neg (fun e => by rw [e] at hk; rcases gg with e2 | e2 <;> omega), if_neg (fun e => by rw [e, ct] at hk; exact h0 hk.symm)]
    exact hk
  have hgl := owns_lt hown g rfl
  refine ⟨fun k => if k = g then 4 else if k = tb then 5 else col k, ⟨h.ep.of_blocks (far2 _ _ h.ce.1 (by omega) (by omega) (by omega)) (far2 _ _ h.ce.2.1 (by omega) (by omega) (by omega)) (far2 _ _ h.ce.2.2 (by omega) (by omega) (by omega)), ⟨old _ _ h.ce.1 (by omega) (by omega), old _ _ h.ce.2.1 (by omega) (by omega), old _ _ h.ce.2.2 (by omega) (by omega)⟩, ⟨old _ _ h.cw.1 (by omega) (by omega), old _ _ h.cw.2 (by omega) (by omega)⟩, hbw, fun i' j' hi' hj' => (World.cell?_of_block (w := w) (a := ⟨I.ball, i' * 7 + j', none⟩) (far2 _ _ h.cw.2 (by omega) (by omega) (by omega))).trans (h.num i' j' hi' hj'), fun o => (World.frozen?_of_block (w := w) (a := ⟨I.ball, o, none⟩) (far2 _ _ h.cw.2 (by omega) (by omega) (by omega))).trans (h.free o), fun i' hi' c hc => ?_, ?_, fun x hx => ?_, fun a ha => ?_, fun k hk => ?_, hB2⟩⟩
  · obtain ⟨p1, p2, p3⟩ := h.act i' hi' c hc
    refine ⟨p1.move (fun k hk => ⟨by have := hk.1; omega, old _ _ hk.2.1 (by omega) (by omega), hk.2.2⟩) (fun k hk => hk.1) (fun k ca t f hk _ => ?_), old _ _ p2 (by omega) (by omega), fun m hm => ⟨old _ _ (p3 m hm).1 (by omega) (by omega), (p3 m hm).2⟩⟩
    rcases hk with hk | rfl | hk
    · exact far2 _ _ hk.2.1 (by omega) (by omega) (by omega)
    · exact far2 _ _ p2 (by omega) (by omega) (by omega)
    · exact far2 _ _ (p3 k hk.symm).1 (by omega) (by omega) (by omega)
  · rw [List.length_append, gcs_snoc]
    refine ownsRow_of_block hown (fun k hk => hS k ?_)
    have hk : g = k := Option.some.inj hk
    subst hk
    intro e
    have := h.cw.1
    rw [← e] at this
    rcases gg with e2 | e2 <;> omega
  · have hx : g = x := Option.some.inj hx
    show (if x = g then 4 else if x = tb then 5 else col x) = 4
    rw [if_pos hx.symm]
  · rcases List.mem_append.1 ha with ha | ha
    · obtain ⟨q1, q2⟩ := h.turns a ha
      exact ⟨old _ _ q1 (by omega) (by omega), fun i hi => (World.cell?_of_block (w := w) (a := ⟨a.blk, i, none⟩) (far2 _ _ q1 (by omega) (by omega) (by omega))).trans (q2 i hi)⟩
    · obtain rfl := List.mem_singleton.1 ha
      refine ⟨?_, fun i hi => ?_⟩
      · show (if tb = g then 4 else if tb = tb then 5 else col tb) = 5
        rw [if_neg (Ne.symm gt), if_pos rfl]
      · show w2.cell? ⟨tb, i, none⟩ = some (.int .i64 (turn i))
        have e1 : w2.heap[tb]? = w.heap[tb]? := (hS tb (fun e => by have := h.cw.1; rw [← e, ct] at this; omega)).trans (blk tb t2 (fun e => by have := h.cg tb e; omega))
        rw [World.cell?_of_block (w := w) (a := ⟨tb, i, none⟩) e1, ← hz i hi]
        rw [← hzl] at ht
        obtain ⟨g', c', e, hcc⟩ := ints_row ht i (by omega)
        cases e
        exact hcc
  · have hk : (if k = g then 4 else if k = tb then 5 else col k) ≠ 0 := hk
    rw [hs2]
    by_cases e : k = g
    · subst e; exact hgl
    · rw [if_neg e] at hk
      by_cases e2 : k = tb
      · subst e2; exact ⟨by omega, by omega⟩
      · rw [if_neg e2] at hk
        have := h.ge k hk
        exact ⟨this.1, by omega⟩
theorem frozen_grown {w w1 : World} {o : Obj} {own : Option Nat} {b i : Nat} (hg : World.grownBy (w.alloc o).drew w1 own) (hb : b < w.heap.size) (hn : own ≠ some b) : w1.frozen? ⟨b, i, none⟩ = w.frozen? ⟨b, i, none⟩ := by
  have a2 : Below w.heap.size w (w.alloc o).drew := ((Below.refl w.heap.size w).alloc (Nat.le_refl _) o).drew
  exact World.frozen?_of_block (w := w) ((hg.block b (by show b < (w.alloc o).heap.size; simp; omega) (fun e => hn e.symm)).trans (a2.block b hb))
theorem cell_grown {w w1 : World} {o : Obj} {own : Option Nat} {b i : Nat} (hg : World.grownBy (w.alloc o).drew w1 own) (hb : b < w.heap.size) (hn : own ≠ some b) : w1.cell? ⟨b, i, none⟩ = w.cell? ⟨b, i, none⟩ := by
  have a2 : Below w.heap.size w (w.alloc o).drew := ((Below.refl w.heap.size w).alloc (Nat.le_refl _) o).drew
  exact World.cell?_of_block (w := w) ((hg.block b (by show b < (w.alloc o).heap.size; simp; omega) (fun e => hn e.symm)).trans (a2.block b hb))
theorem INV.live {n B now mv i : Nat} {pins : Nat → Nat} {cur : Nat → Option Cur} {X : Sy} {G : List Away} {c : Cur} (h : INV n B now pins cur X G mv) (hi : i < n) (hc : cur i = some c) (hk : X.kind i = 2) : c.m = false ∧ ∃ m, c.mv = some m ∧ X.mov i = some m := by
  have q := (h.cu i hi c hc).2.2
  unfold KindOk at q
  cases e : c.ph with
  | over => rw [e] at q; exact q.elim
  | pin0 who => rw [e] at q; have := q.2; omega
  | pin1 who nv => rw [e] at q; have := q.2; omega
  | pin2 who nv => rw [e] at q; have := q.2.1; omega
  | un who => rw [e] at q; have := q.2; omega
  | adv => rw [e] at q; exact q.2
  | look k nv => rw [e] at q; exact q.2
theorem over_iff {ph : Ph} : ph.isOver = false ↔ ph ≠ .over := by
  cases ph <;> simp [Ph.isOver]
theorem WS.drop {W0 w : World} {col : Nat → Nat} {I : Ids} {now : Nat} {pins : Nat → Nat} {cur : Nat → Option Cur} {dc : Nat → Nat → Value} {vg : Value} {G : List Away} {mv i : Nat} {c : Cur} (h : WS W0 w col I now pins (setCur cur i (some c)) dc vg G mv) : WS W0 w col I now pins (setCur cur i none) dc vg G mv :=
  h.recur _ (fun j _ d hd => by
    unfold setCur at hd ⊢
    by_cases e : j = i
    · rw [if_pos e] at hd; cases hd
    · rw [if_neg e] at hd ⊢; exact .inl hd)
theorem blk4_set3 {w : World} {b : Nat} {a0 a1 a2 a3 : Value} {t : Nat} {f : Nat × Nat} (h : w.heap[b]? = some (.cells #[a0, a1, a2, a3] t f)) (v : Value) : (w.setCell ⟨b, 3, none⟩ v).heap[b]? = some (.cells #[a0, a1, a2, v] t f) := by
  simp [World.setCell, Array.getElem?_modify, h]
/-- While a row of turns is made. -/
structure TB (W0 W1 w : World) (col : Nat → Nat) (I : Ids) (now : Nat) (pins : Nat → Nat) (cur : Nat → Option Cur) (X : Sy) (who : Nat) (vg : Value) (G : List Away) (mv : Nat) (j : Nat) (tv : Value) : Prop where
  ws : WS W0 w col I now pins cur (dcB X who 3) vg G mv
  row : w.ownsRow W1.heap.size 3 1 tv j (((List.range j).map fun i => if X.pinned i then (X.turn i : Int) else -1).map (Value.int .i64))
  le : W1.heap.size ≤ w.heap.size
theorem TB.push {W0 W1 w w1 : World} {col : Nat → Nat} {I : Ids} {now : Nat} {pins : Nat → Nat} {cur : Nat → Option Cur} {X : Sy} {who : Nat} {vg : Value} {G : List Away} {mv j g cap : Nat} {tv : Value} {o : Obj} {x : Int} (h : TB W0 W1 w col I now pins cur X who vg G mv j tv) (hcol : ∀ k, col k ≠ 0 → k < W1.heap.size) (hw0 : W0.heap.size ≤ W1.heap.size) (hx : x = if X.pinned j then (X.turn j : Int) else -1)
    (hown : w1.ownsRow W1.heap.size 3 1 (.slice (some ⟨g, 0, none⟩) (j + 1) cap) (j + 1) (((List.range j).map fun i => if X.pinned i then (X.turn i : Int) else -1).map (Value.int .i64) ++ [.int .i64 x])) (hgrow : World.grownBy (w.alloc o) w1 tv.ownBlock) :
    TB W0 W1 w1 col I now pins cur X who vg G mv (j + 1) (.slice (some ⟨g, 0, none⟩) (j + 1) cap) := by
  have hz := h.ws.below.size
  have a2 : Below w.heap.size w (w.alloc o) := (Below.refl w.heap.size w).alloc (Nat.le_refl _) o
  have far : ∀ k, k < w.heap.size → tv.ownBlock ≠ some k → w1.heap[k]? = w.heap[k]? := fun k hk hne => (hgrow.block k (by simp; omega) (fun e => hne e.symm)).trans (a2.block k hk)
  refine ⟨h.ws.keep (fun k hk => far k (h.ws.ge k hk).2 (fun e => ?_)) (by have := hgrow.size; simp at this; omega) ((h.ws.below.trans (a2.mono hz)).trans ⟨hgrow.os, hgrow.tape, hgrow.output, hgrow.size, fun k hk => hgrow.block k (by simp; omega) (fun e => ?_)⟩), ?_, by have := hgrow.size; have := h.le; simp at *; omega⟩
  · have := hcol k hk; have := owns_lt h.row k e; omega
  · have := owns_lt h.row k e.symm; omega
  · rw [List.range_succ, List.map_append, List.map_append]
    rw [hx] at hown
    exact hown
end Go.Proofs.Ytkjppffkjofamaa
