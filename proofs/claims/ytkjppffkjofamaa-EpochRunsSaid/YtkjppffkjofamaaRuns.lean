/- The law EpochRuns: how what it keeps lies in memory. No condition but those that each lemma bears. -/
import Derived.Test.YtkjppffkjofamaaAloneLaw
set_option linter.unusedVariables false
set_option linter.unusedSimpArgs false
namespace Go.Proofs.Ytkjppffkjofamaa
open Go.RowKit Go.Shelf
/-- An act under way: its block, what is handed back with it, did it move, its phase, its steps. -/
structure Cur where
  ba : Nat
  mv : Option Nat
  m : Bool
  ph : Ph
  c : Nat
/-- What was taken away: at which epoch, and a row of turns. -/
structure Away where
  ep : Nat
  blk : Nat
  cap : Nat
  turn : Nat → Int
structure Ids where
  bw : Nat
  b : Nat
  bm : Nat
  bp : Nat
  ball : Nat
  n : Nat
def FF (w : World) (col : Nat → Nat) (i : Nat) (c : Cur) : Nat → Prop := fun k => k < w.heap.size ∧ col k = 10 + i ∧ k ≠ c.ba ∧ some k ≠ c.mv
def gcs (n : Nat) (G : List Away) : List Value := G.flatMap fun g => [.int .u64 (g.ep : Nat), .slice (some ⟨g.blk, 0, none⟩) n g.cap]
/-- The law's world in memory. Each block that is its own has a colour: 1 the epoch's, 2 the world's, 3 the readers', 4 the row of what was taken away, 5 a row of turns, 10 + i those of reader i's acts. -/
structure WS (W0 w : World) (col : Nat → Nat) (I : Ids) (now : Nat) (pins : Nat → Nat) (cur : Nat → Option Cur) (dc : Nat → Nat → Value) (vg : Value) (G : List Away) (mv : Nat) : Prop where
  ep : EpAt w I.b I.bm I.bp I.n 1 now pins
  ce : col I.b = 1 ∧ col I.bm = 1 ∧ col I.bp = 1
  cw : col I.bw = 2 ∧ col I.ball = 3
  blk : w.heap[I.bw]? = some (.cells #[.pointer (some ⟨I.b, 0, none⟩), .slice (some ⟨I.ball, 0, none⟩) I.n I.n, vg, .int .u64 (mv : Nat)] 51 (0, 0))
  num : ∀ i j, i < I.n → j < 7 → w.cell? ⟨I.ball, i * 7 + j, none⟩ = some (dc i j)
  free : ∀ o, w.frozen? ⟨I.ball, o, none⟩ = false
  act : ∀ i, i < I.n → ∀ c, cur i = some c → PhAt w I.b c.ba c.mv c.m c.ph c.c (FF w col i c) ∧ col c.ba = 10 + i ∧ ∀ mv, c.mv = some mv → col mv = 10 + i ∧ mv ≠ c.ba
  gone : w.ownsRow W0.heap.size 87 2 vg G.length (gcs I.n G)
  cg : ∀ x, vg.ownBlock = some x → col x = 4
  turns : ∀ g, g ∈ G → col g.blk = 5 ∧ ∀ i, i < I.n → w.cell? ⟨g.blk, i, none⟩ = some (.int .i64 (g.turn i))
  ge : ∀ k, col k ≠ 0 → W0.heap.size ≤ k ∧ k < w.heap.size
  below : Below W0.heap.size W0 w
variable {W0 w w' : World} {col : Nat → Nat} {I : Ids} {now : Nat} {pins : Nat → Nat} {cur : Nat → Option Cur} {dc : Nat → Nat → Value} {vg : Value} {G : List Away} {mv : Nat}
/-- What touches no block of its own leaves it. -/
theorem WS.keep (h : WS W0 w col I now pins cur dc vg G mv) (hW : ∀ k, col k ≠ 0 → w'.heap[k]? = w.heap[k]?) (hs : w.heap.size ≤ w'.heap.size) (hb : Below W0.heap.size W0 w') : WS W0 w' col I now pins cur dc vg G mv := by
  have n1 : col I.b ≠ 0 := by rw [h.ce.1]; omega
  have n2 : col I.bm ≠ 0 := by rw [h.ce.2.1]; omega
  have n3 : col I.bp ≠ 0 := by rw [h.ce.2.2]; omega
  have n4 : col I.bw ≠ 0 := by rw [h.cw.1]; omega
  have n5 : col I.ball ≠ 0 := by rw [h.cw.2]; omega
  refine ⟨h.ep.of_blocks (hW _ n1) (hW _ n2) (hW _ n3), h.ce, h.cw, (hW _ n4).trans h.blk, fun i j hi hj => (World.cell?_of_block (w := w) (a := ⟨I.ball, i * 7 + j, none⟩) (hW _ n5)).trans (h.num i j hi hj), fun o => (World.frozen?_of_block (w := w) (a := ⟨I.ball, o, none⟩) (hW _ n5)).trans (h.free o), fun i hi c hc => ?_, ownsRow_of_block h.gone (fun k hk => hW k (by rw [h.cg k hk]; omega)), h.cg, fun g hg => ⟨(h.turns g hg).1, fun i hi => (World.cell?_of_block (w := w) (a := ⟨g.blk, i, none⟩) (hW _ (by rw [(h.turns g hg).1]; omega))).trans ((h.turns g hg).2 i hi)⟩, fun k hk => ⟨(h.ge k hk).1, Nat.lt_of_lt_of_le (h.ge k hk).2 hs⟩, hb⟩
  obtain ⟨p1, p2, p3⟩ := h.act i hi c hc
  refine ⟨p1.move (fun k hk => ⟨Nat.lt_of_lt_of_le hk.1 hs, hk.2⟩) (fun k hk => hk.1) (fun k ca t f hk _ => hW k ?_), p2, p3⟩
  rcases hk with hk | rfl | hk
  · rw [hk.2.1]; omega
  · rw [p2]; omega
  · rw [(p3 k hk.symm).1]; omega
/-- New colours for what has none. -/
theorem WS.paint (h : WS W0 w col I now pins cur dc vg G mv) (col' : Nat → Nat) (hold : ∀ k, col k ≠ 0 → col' k = col k) (hnew : ∀ k, col' k ≠ 0 → col k ≠ 0 ∨ (W0.heap.size ≤ k ∧ k < w.heap.size)) : WS W0 w col' I now pins cur dc vg G mv := by
  have e : ∀ k x, col k = x → x ≠ 0 → col' k = x := fun k x hk hx => (hold k (by rw [hk]; exact hx)).trans hk
  refine ⟨h.ep, ⟨e _ _ h.ce.1 (by omega), e _ _ h.ce.2.1 (by omega), e _ _ h.ce.2.2 (by omega)⟩, ⟨e _ _ h.cw.1 (by omega), e _ _ h.cw.2 (by omega)⟩, h.blk, h.num, h.free, fun i hi c hc => ?_, h.gone, fun x hx => e _ _ (h.cg x hx) (by omega), fun g hg => ⟨e _ _ (h.turns g hg).1 (by omega), (h.turns g hg).2⟩, fun k hk => ?_, h.below⟩
  · obtain ⟨p1, p2, p3⟩ := h.act i hi c hc
    exact ⟨p1.move (fun k hk => ⟨hk.1, e _ _ hk.2.1 (by omega), hk.2.2⟩) (fun k hk => hk.1) (fun k ca t f _ _ => rfl), e _ _ p2 (by omega), fun mv hmv => ⟨e _ _ (p3 mv hmv).1 (by omega), (p3 mv hmv).2⟩⟩
  · rcases hnew k hk with hk | hk
    · exact h.ge k hk
    · exact hk
theorem WS.recur (h : WS W0 w col I now pins cur dc vg G mv) (cur' : Nat → Option Cur) (hc : ∀ i, i < I.n → ∀ c, cur' i = some c → cur i = some c ∨ (PhAt w I.b c.ba c.mv c.m c.ph c.c (FF w col i c) ∧ col c.ba = 10 + i ∧ ∀ mv, c.mv = some mv → col mv = 10 + i ∧ mv ≠ c.ba)) : WS W0 w col I now pins cur' dc vg G mv :=
  ⟨h.ep, h.ce, h.cw, h.blk, h.num, h.free, fun i hi c e => (hc i hi c e).elim (fun e => h.act i hi c e) id, h.gone, h.cg, h.turns, h.ge, h.below⟩
def upd2 (dc : Nat → Nat → Value) (i j : Nat) (v : Value) : Nat → Nat → Value := fun i' j' => if i' = i ∧ j' = j then v else dc i' j'
theorem seven {i j i' j' : Nat} (hj : j < 7) (hj' : j' < 7) (h : i * 7 + j = i' * 7 + j') : i = i' ∧ j = j' := by omega
/-- A reader's field is stored. -/
theorem WS.put (h : WS W0 w col I now pins cur dc vg G mv) (i j : Nat) (hi : i < I.n) (hj : j < 7) (v : Value) : WS W0 (w.setCell ⟨I.ball, i * 7 + j, none⟩ v) col I now pins cur (upd2 dc i j v) vg G mv := by
  have hW : ∀ k, k ≠ I.ball → (w.setCell ⟨I.ball, i * 7 + j, none⟩ v).heap[k]? = w.heap[k]? := fun k hk => Below.heap_setCell _ _ _ _ hk
  have hs : (w.setCell ⟨I.ball, i * 7 + j, none⟩ v).heap.size = w.heap.size := by simp [World.setCell]
  have nc : ∀ k x, col k = x → x ≠ 3 → k ≠ I.ball := fun k x hk hx e => by subst e; rw [h.cw.2] at hk; omega
  refine ⟨h.ep.of_blocks (hW _ (nc _ _ h.ce.1 (by omega))) (hW _ (nc _ _ h.ce.2.1 (by omega))) (hW _ (nc _ _ h.ce.2.2 (by omega))), h.ce, h.cw, (hW _ (nc _ _ h.cw.1 (by omega))).trans h.blk, fun i' j' hi' hj' => ?_, fun o => by rw [World.frozen?_setCell]; exact h.free o, fun i' hi' c hc => ?_, ownsRow_of_block h.gone (fun k hk => hW k (nc _ _ (h.cg k hk) (by omega))), h.cg, fun g hg => ⟨(h.turns g hg).1, fun i hi => (World.cell?_of_block (w := w) (a := ⟨g.blk, i, none⟩) (hW _ (nc _ _ (h.turns g hg).1 (by omega)))).trans ((h.turns g hg).2 i hi)⟩, fun k hk => by rw [hs]; exact h.ge k hk, h.below.setCell (h.ge I.ball (by rw [h.cw.2]; omega)).1 _⟩
  · rw [setCell_get _ _ _ _ _ _ (h.num i j hi hj)]
    unfold upd2
    by_cases e : i * 7 + j = i' * 7 + j'
    · obtain ⟨rfl, rfl⟩ := seven hj hj' e
      rw [if_pos rfl, if_pos ⟨rfl, rfl⟩]
    · rw [if_neg e, if_neg (fun x => e (by rw [x.1, x.2]))]
      exact h.num i' j' hi' hj'
  · obtain ⟨p1, p2, p3⟩ := h.act i' hi' c hc
    refine ⟨p1.move (fun k hk => ⟨by rw [hs]; exact hk.1, hk.2⟩) (fun k hk => hk.1) (fun k ca t f hk _ => hW k ?_), p2, p3⟩
    rcases hk with hk | rfl | hk
    · exact nc _ _ hk.2.1 (by omega)
    · exact nc _ _ p2 (by omega)
    · exact nc _ _ (p3 k hk.symm).1 (by omega)
theorem WS.redc (h : WS W0 w col I now pins cur dc vg G mv) (dc' : Nat → Nat → Value) (e : ∀ i j, i < I.n → j < 7 → dc' i j = dc i j) : WS W0 w col I now pins cur dc' vg G mv :=
  ⟨h.ep, h.ce, h.cw, h.blk, fun i j hi hj => by rw [e i j hi hj]; exact h.num i j hi hj, h.free, h.act, h.gone, h.cg, h.turns, h.ge, h.below⟩
/-- The world's own cells are stored. -/
theorem WS.own (h : WS W0 w col I now pins cur dc vg G mv) (j : Nat) (v : Value) (vg' : Value) (mv' : Nat) (G' : List Away)
    (hv : (w.setCell ⟨I.bw, j, none⟩ v).heap[I.bw]? = some (.cells #[.pointer (some ⟨I.b, 0, none⟩), .slice (some ⟨I.ball, 0, none⟩) I.n I.n, vg', .int .u64 (mv' : Nat)] 51 (0, 0)))
    (hg : w.ownsRow W0.heap.size 87 2 vg' G'.length (gcs I.n G')) (hcg : ∀ x, vg'.ownBlock = some x → col x = 4) (ht : ∀ g, g ∈ G' → col g.blk = 5 ∧ ∀ i, i < I.n → w.cell? ⟨g.blk, i, none⟩ = some (.int .i64 (g.turn i))) : WS W0 (w.setCell ⟨I.bw, j, none⟩ v) col I now pins cur dc vg' G' mv' := by
  have hW : ∀ k, k ≠ I.bw → (w.setCell ⟨I.bw, j, none⟩ v).heap[k]? = w.heap[k]? := fun k hk => Below.heap_setCell _ _ _ _ hk
  have hs : (w.setCell ⟨I.bw, j, none⟩ v).heap.size = w.heap.size := by simp [World.setCell]
  have nc : ∀ k x, col k = x → x ≠ 2 → k ≠ I.bw := fun k x hk hx e => by subst e; rw [h.cw.1] at hk; omega
  refine ⟨h.ep.of_blocks (hW _ (nc _ _ h.ce.1 (by omega))) (hW _ (nc _ _ h.ce.2.1 (by omega))) (hW _ (nc _ _ h.ce.2.2 (by omega))), h.ce, h.cw, hv, fun i' j' hi' hj' => (World.cell?_of_block (w := w) (a := ⟨I.ball, i' * 7 + j', none⟩) (hW _ (nc _ _ h.cw.2 (by omega)))).trans (h.num i' j' hi' hj'), fun o => by rw [World.frozen?_setCell]; exact h.free o, fun i' hi' c hc => ?_, ownsRow_of_block hg (fun k hk => hW k (nc _ _ (hcg k hk) (by omega))), hcg, fun g hg => ⟨(ht g hg).1, fun i hi => (World.cell?_of_block (w := w) (a := ⟨g.blk, i, none⟩) (hW _ (nc _ _ (ht g hg).1 (by omega)))).trans ((ht g hg).2 i hi)⟩, fun k hk => by rw [hs]; exact h.ge k hk, h.below.setCell (h.ge I.bw (by rw [h.cw.1]; omega)).1 _⟩
  obtain ⟨p1, p2, p3⟩ := h.act i' hi' c hc
  refine ⟨p1.move (fun k hk => ⟨by rw [hs]; exact hk.1, hk.2⟩) (fun k hk => hk.1) (fun k ca t f hk _ => hW k ?_), p2, p3⟩
  rcases hk with hk | rfl | hk
  · exact nc _ _ hk.2.1 (by omega)
  · exact nc _ _ p2 (by omega)
  · exact nc _ _ (p3 k hk.symm).1 (by omega)
def setCur (cur : Nat → Option Cur) (i : Nat) (c : Option Cur) : Nat → Option Cur := fun j => if j = i then c else cur j
/-- New blocks are given to reader i. -/
def painted (col : Nat → Nat) (a b x : Nat) : Nat → Nat := fun k => if a ≤ k ∧ k < b then x else col k
theorem WS.grow (h : WS W0 w col I now pins cur dc vg G mv) (hb : Below w.heap.size w w') (x : Nat) : WS W0 w' (painted col w.heap.size w'.heap.size x) I now pins cur dc vg G mv := by
  have hz := h.below.size
  refine (h.keep (w' := w') (fun k hk => hb.block k (h.ge k hk).2) hb.size (h.below.trans (hb.mono hz))).paint _ (fun k hk => ?_) (fun k hk => ?_)
  · have := (h.ge k hk).2
    exact if_neg (by omega)
  · unfold painted at hk
    by_cases e : w.heap.size ≤ k ∧ k < w'.heap.size
    · exact .inr ⟨by omega, e.2⟩
    · rw [if_neg e] at hk; exact .inl hk
theorem painted_new {col : Nat → Nat} {a b x k : Nat} (h1 : a ≤ k) (h2 : k < b) : painted col a b x k = x := if_pos ⟨h1, h2⟩
/-- A new act of reader i. -/
theorem WS.begin (h : WS W0 w col I now pins cur dc vg G mv) (hb : Below w.heap.size w w') (i : Nat) (c : Cur) {F : Nat → Prop} (hP : PhAt w' I.b c.ba c.mv c.m c.ph c.c F) (hF : ∀ k, F k → w.heap.size ≤ k) (ha : w.heap.size ≤ c.ba) (hFa : ¬ F c.ba) (hv : ∀ mv, c.mv = some mv → w.heap.size ≤ mv ∧ ¬ F mv ∧ mv ≠ c.ba) :
    WS W0 w' (painted col w.heap.size w'.heap.size (10 + i)) I now pins (setCur cur i (some c)) dc vg G mv := by
  refine (h.grow hb (10 + i)).recur _ (fun j hj d hd => ?_)
  unfold setCur at hd
  by_cases e : j = i
  · rw [if_pos e] at hd
    cases hd
    subst e
    have hla : c.ba < w'.heap.size := by obtain ⟨⟨v, hA, _⟩, _, _⟩ := hP; exact hA.lt
    refine .inr ⟨hP.move (fun k hk => ⟨hP.lt k hk, painted_new (hF k hk) (hP.lt k hk), fun e => hFa (e ▸ hk), fun e => (hv k e.symm).2.1 hk⟩) (fun k hk => hk.1) (fun _ _ _ _ _ _ => rfl), painted_new ha hla, fun mv e => ⟨painted_new (hv mv e).1 (hP.mv.lt mv e), (hv mv e).2.2⟩⟩
  · rw [if_neg e] at hd
    exact .inl hd
theorem ws_pin (h : WS W0 w col I now pins cur dc vg G mv) (i : Nat) (hi : i < I.n) :
    Calls Try.prog 22 #[.pointer (some ⟨I.b, 0, none⟩), .int .i64 (i : Nat)] w fun e w1 => ∃ ba, e = .returned (.pointer (some ⟨ba, 0, none⟩)) ∧ Hd (∃ col', WS W0 w1 col' I now pins (setCur cur i (some ⟨ba, none, false, .pin0 i, 0⟩)) dc vg G mv) := by
  refine (pin_make h.ep i hi).mono ?_
  rintro e w1 ⟨ba, be, bw, bh, rfl, ⟨g1, g2, g3, g4⟩, ⟨y1, y2, y3⟩, hA, hE, hB⟩
  exact ⟨ba, rfl, ⟨_, h.begin hB i ⟨ba, none, false, .pin0 i, 0⟩ (F := fun k => k = be ∨ k = bw ∨ k = bh) ⟨⟨_, hA, ⟨be, bw, bh, rfl, ⟨.inl rfl, .inr (.inl rfl), .inr (.inr rfl)⟩, hE⟩⟩, fun mv e => (by cases e), by rintro k (rfl | rfl | rfl); exact lt_of_cell hE.e; exact lt_of_cell hE.w; exact lt_of_cell hE.h⟩
    (by rintro k (rfl | rfl | rfl) <;> assumption) g4 (by rintro (e | e | e); exact y1 e; exact y2 e; exact y3 e) (fun mv e => by cases e)⟩⟩
theorem ws_un (h : WS W0 w col I now pins cur dc vg G mv) (i : Nat) (hi : i < I.n) :
    Calls Try.prog 23 #[.pointer (some ⟨I.b, 0, none⟩), .int .i64 (i : Nat)] w fun e w1 => ∃ ba, e = .returned (.pointer (some ⟨ba, 0, none⟩)) ∧ Hd (∃ col', WS W0 w1 col' I now pins (setCur cur i (some ⟨ba, none, false, .un i, 0⟩)) dc vg G mv) := by
  refine (unpin_make h.ep i hi).mono ?_
  rintro e w1 ⟨ba, be, bw, rfl, ⟨g1, g2, g4⟩, ⟨y1, y2⟩, hA, hE, hB⟩
  exact ⟨ba, rfl, ⟨_, h.begin hB i ⟨ba, none, false, .un i, 0⟩ (F := fun k => k = be ∨ k = bw) ⟨⟨_, hA, ⟨be, bw, rfl, ⟨.inl rfl, .inr rfl⟩, hE⟩⟩, fun mv e => (by cases e), by rintro k (rfl | rfl); exact lt_of_cell hE.e; exact lt_of_cell hE.w⟩
    (by rintro k (rfl | rfl) <;> assumption) g4 (by rintro (e | e); exact y1 e; exact y2 e) (fun mv e => by cases e)⟩⟩
theorem ws_adv (h : WS W0 w col I now pins cur dc vg G mv) (i : Nat) (hi : i < I.n) :
    Calls Try.prog 30 #[.pointer (some ⟨I.b, 0, none⟩)] w fun e w1 => ∃ m ba, e = .returned (.pointer (some ⟨m, 0, none⟩)) ∧ Hd (∃ col', WS W0 w1 col' I now pins (setCur cur i (some ⟨ba, some m, false, .adv, 0⟩)) dc vg G mv) ∧ w1.cell? ⟨m, 0, none⟩ = some (.pointer (some ⟨ba, 0, none⟩)) ∧ m ≠ I.ball := by
  refine (adv_make w I.b).mono ?_
  rintro e w1 ⟨m, ba, be, bl, bv, rfl, ⟨g1, g2, g3, g4, g5⟩, ⟨y1, y2, y3, y4, y5, y6, y7⟩, hA, hE, hV, hB⟩
  have := (h.ge I.ball (by rw [h.cw.2]; omega)).2
  exact ⟨m, ba, rfl, ⟨_, h.begin hB i ⟨ba, some m, false, .adv, 0⟩ (F := fun k => k = be ∨ k = bl ∨ k = bv) ⟨⟨_, hA, ⟨be, bl, bv, m, rfl, rfl, ⟨.inl rfl, .inr (.inl rfl), .inr (.inr rfl)⟩, hE⟩⟩, fun mv' e => (by cases e; exact hV), by rintro k (rfl | rfl | rfl); exact lt_of_cell hE.e; exact lt_of_cell hE.l; exact lt_of_cell hE.v⟩
    (by rintro k (rfl | rfl | rfl) <;> assumption) g5 (by rintro (e | e | e); exact y2 e; exact y3 e; exact y4 e) (fun mv' e => by cases e; exact ⟨g1, by rintro (e | e | e); exact y5 e; exact y6 e; exact y7 e, fun e => y1 e.symm⟩)⟩, blk_cell (show w1.heap[m]? = _ from hV) (i := 0) rfl, by omega⟩
theorem ws_over (h : WS W0 w col I now pins cur dc vg G mv) (i : Nat) (hi : i < I.n) (c : Cur) (hc : cur i = some c) :
    Calls Try.prog 28 #[.pointer (some ⟨c.ba, 0, none⟩)] w fun e w' => e = .returned (.bool c.ph.isOver) ∧ w = w' := (h.act i hi c hc).1.over
theorem ws_moved (h : WS W0 w col I now pins cur dc vg G mv) (i : Nat) (hi : i < I.n) (c : Cur) (hc : cur i = some c) (m : Nat) (hm : c.mv = some m) :
    Calls Try.prog 32 #[.pointer (some ⟨m, 0, none⟩)] w fun e w' => e = .returned (.bool c.m) ∧ w = w' := moved_mv w m c.ba c.m ((h.act i hi c hc).1.mv m hm)
def Cur.next (c : Cur) (n now : Nat) (pins : Nat → Nat) : Cur := ⟨c.ba, c.mv, c.ph.movedOf n now c.m, c.ph.next n now pins, c.c + 1⟩
theorem ws_step (h : WS W0 w col I now pins cur dc vg G mv) (i : Nat) (hi : i < I.n) (c : Cur) (hc : cur i = some c) (hok : c.ph.ok I.n now) (hno : c.ph ≠ .over) (hb : now + 1 ≤ 100000) (hcc : c.c ≤ 100000) :
    Calls Try.prog 31 #[.pointer (some ⟨c.ba, 0, none⟩)] w fun e w' => e = .returned (.bool (c.next I.n now pins).ph.isOver) ∧ Hd (∃ col', WS W0 w' col' I (c.ph.nowOf I.n now) (c.ph.pinsOf pins) (setCur cur i (some (c.next I.n now pins))) dc vg G mv) := by
  obtain ⟨p1, p2, p3⟩ := h.act i hi c hc
  have hd : Apart I.b I.bm I.bp c.ba c.mv (FF w col i c) := by
    refine ⟨fun e => ?_, fun e => ?_, fun e => ?_, fun e => e.2.2.1 rfl, ⟨fun e => ?_, fun e => ?_, fun e => ?_⟩, fun m hm => ⟨fun e => e.2.2.2 hm.symm, fun e => ?_, fun e => ?_, fun e => ?_, (p3 m hm).2⟩⟩
    · have := e.2.1; rw [h.ce.1] at this; omega
    · have := e.2.1; rw [h.ce.2.1] at this; omega
    · have := e.2.1; rw [h.ce.2.2] at this; omega
    · rw [e, h.ce.1] at p2; omega
    · rw [e, h.ce.2.1] at p2; omega
    · rw [e, h.ce.2.2] at p2; omega
    · have := (p3 m hm).1; rw [e, h.ce.1] at this; omega
    · have := (p3 m hm).1; rw [e, h.ce.2.1] at this; omega
    · have := (p3 m hm).1; rw [e, h.ce.2.2] at this; omega
  refine (phase_step h.ep p1 hd hok hno hb hcc).mono ?_
  rintro e w' ⟨rfl, hE, hP, hT⟩
  have hz := h.below.size
  have hs := hT.size
  -- blocks of any other colour stand
  have far : ∀ k, col k ≠ 0 → col k ≠ 1 → col k ≠ 10 + i → w'.heap[k]? = w.heap[k]? := fun k h0 h1 h2 => hT.block k (h.ge k h0).2 (by
    rintro (rfl | rfl | rfl | rfl | e)
    · exact h1 h.ce.1
    · exact h1 h.ce.2.1
    · exact h1 h.ce.2.2
    · exact h2 p2
    · exact h2 (p3 k e.symm).1)
  have hB : Below W0.heap.size W0 w' := h.below.trans (hT.below hz (by
    rintro k hk (rfl | rfl | rfl | rfl | e)
    · have := (h.ge I.b (by rw [h.ce.1]; omega)).1; omega
    · have := (h.ge I.bm (by rw [h.ce.2.1]; omega)).1; omega
    · have := (h.ge I.bp (by rw [h.ce.2.2]; omega)).1; omega
    · have := (h.ge c.ba (by rw [p2]; omega)).1; omega
    · have := (h.ge k (by rw [(p3 k e.symm).1]; omega)).1; omega))
  have ol : ∀ k, col k ≠ 0 → painted col w.heap.size w'.heap.size (10 + i) k = col k := fun k hk => if_neg (by have := (h.ge k hk).2; omega)
  have olx : ∀ k x, col k = x → x ≠ 0 → painted col w.heap.size w'.heap.size (10 + i) k = x := fun k x hk hx => (ol k (by rw [hk]; exact hx)).trans hk
  refine ⟨rfl, ⟨painted col w.heap.size w'.heap.size (10 + i), ⟨hE, ⟨olx _ _ h.ce.1 (by omega), olx _ _ h.ce.2.1 (by omega), olx _ _ h.ce.2.2 (by omega)⟩, ⟨olx _ _ h.cw.1 (by omega), olx _ _ h.cw.2 (by omega)⟩, (far _ (by rw [h.cw.1]; omega) (by rw [h.cw.1]; omega) (by rw [h.cw.1]; omega)).trans h.blk, fun i' j hi' hj => (World.cell?_of_block (w := w) (a := ⟨I.ball, i' * 7 + j, none⟩) (far _ (by rw [h.cw.2]; omega) (by rw [h.cw.2]; omega) (by rw [h.cw.2]; omega))).trans (h.num i' j hi' hj), fun o => (World.frozen?_of_block (w := w) (a := ⟨I.ball, o, none⟩) (far _ (by rw [h.cw.2]; omega) (by rw [h.cw.2]; omega) (by rw [h.cw.2]; omega))).trans (h.free o), fun i' hi' d hd => ?_, ownsRow_of_block h.gone (fun k hk => far k (by rw [h.cg k hk]; omega) (by rw [h.cg k hk]; omega) (by rw [h.cg k hk]; omega)), fun x hx => olx _ _ (h.cg x hx) (by omega), fun g hg => ⟨olx _ _ (h.turns g hg).1 (by omega), fun i' hi' => (World.cell?_of_block (w := w) (a := ⟨g.blk, i', none⟩) (far _ (by rw [(h.turns g hg).1]; omega) (by rw [(h.turns g hg).1]; omega) (by rw [(h.turns g hg).1]; omega))).trans ((h.turns g hg).2 i' hi')⟩, fun k hk => ?_, hB⟩⟩⟩
  · unfold setCur at hd
    by_cases e : i' = i
    · rw [if_pos e] at hd
      cases hd
      subst e
      refine ⟨hP.move (fun k hk => ?_) (fun k hk => hk.1) (fun _ _ _ _ _ _ => rfl), olx _ _ p2 (by omega), fun m hm => ⟨olx _ _ (p3 m hm).1 (by omega), (p3 m hm).2⟩⟩
      rcases hk with hk | hk
      · exact ⟨Nat.lt_of_lt_of_le hk.1 hs, olx _ _ hk.2.1 (by omega), hk.2.2⟩
      · refine ⟨hk.2, painted_new hk.1 hk.2, fun e => ?_, fun e => ?_⟩
        · have e : k = c.ba := e
          have := (h.ge c.ba (by rw [p2]; omega)).2; omega
        · have e : some k = c.mv := e
          have := (h.ge k (by rw [(p3 k e.symm).1]; omega)).2; omega
    · rw [if_neg e] at hd
      obtain ⟨q1, q2, q3⟩ := h.act i' hi' d hd
      refine ⟨q1.move (fun k hk => ⟨Nat.lt_of_lt_of_le hk.1 hs, olx _ _ hk.2.1 (by omega), hk.2.2⟩) (fun k hk => hk.1) (fun k ca t f hk _ => ?_), olx _ _ q2 (by omega), fun m hm => ⟨olx _ _ (q3 m hm).1 (by omega), (q3 m hm).2⟩⟩
      have hk2 : col k = 10 + i' := by
        rcases hk with hk | rfl | hk
        · exact hk.2.1
        · exact q2
        · exact (q3 k hk.symm).1
      exact far k (by omega) (by omega) (by omega)
  · unfold painted at hk
    by_cases e : w.heap.size ≤ k ∧ k < w'.heap.size
    · exact ⟨by omega, e.2⟩
    · rw [if_neg e] at hk
      exact ⟨(h.ge k hk).1, Nat.lt_of_lt_of_le (h.ge k hk).2 hs⟩
end Go.Proofs.Ytkjppffkjofamaa
