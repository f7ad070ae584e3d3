/- Trees: TreeWalks, walked. No condition but those of the row. -/
import Derived.Test.YtkcnakaneiocjaaTrWs
set_option linter.unusedVariables false
set_option linter.unusedSimpArgs false
namespace Go.Proofs.Ytkcnakaneiocjaa.PTr
open Go.RowKit Go.Shelf Go.Proofs.YtkcnakaneiocjaaW.PrintWords Go.Proofs.YtkcnakaneiocjaaW.PrintLast Go.Proofs.YtkcnakaneiocjaaW.PrintMore
attribute [local go_sem] Oper.semAt_some wide_fn
attribute [local go_sem high] eqA41
attribute [local go_sem ↓ high] neq60 load60_fold
theorem w_keep {X0 X : World} {b : Nat} {o : Obj} (hX : Hd (Below X0.heap.size X0 X)) (h : Hd (X0.heap[b]? = some o)) : Hd (X.heap[b]? = some o) := ⟨(hX.out.block b (Array.getElem?_eq_some_iff.1 h.out).1).trans h.out⟩
theorem w_first {X0 w0 w1 X1 : World} {A1 : Option Addr} {N : List Nd} {o p : Obj} (h0 : Hd (Below X0.heap.size X0 w0)) (h1 : Hd (ShAt A1 N w1 ∧ Below w0.heap.size w0 w1)) (hX : (w1.alloc o).alloc p = X1) :
    Hd (Below X0.heap.size X0 X1 ∧ ShAt A1 N X1 ∧ X1.heap[w1.heap.size]? = some o ∧ X1.heap[w1.heap.size + 1]? = some p ∧ X0.heap.size ≤ w1.heap.size ∧ X1.heap.size = w1.heap.size + 2) := by
  subst hX
  have hb := h0.out.trans (h1.out.2.mono h0.out.size)
  refine ⟨below_alloc (below_alloc hb _) _, h1.out.1.on (below_alloc (below_alloc (Below.refl _ _) _) _), ?_, tr_new_at _ _ (by simp only [World.size_alloc]), hb.size, by simp only [World.size_alloc]⟩
  exact (Below.heap_alloc _ _ _ (by simp only [World.size_alloc]; omega)).trans (heap_alloc_new w1 _)
theorem w_rd {W X0 X1 w2 : World} {A : Option Addr} {l : List Rec} {P : Prop} (hI : Hd (InAt A l W)) (h0 : Hd (Below W.heap.size W X0)) (hA : Hd (Below X0.heap.size X0 X1 ∧ P)) (h2 : Hd (Below X1.heap.size X1 w2)) : RdAt A l w2 := by
  have a := h0.out.trans (hA.out.1.mono h0.out.size)
  exact (hI.out.on (a.trans (h2.out.mono a.size))).rd
theorem w_second {X1 w3 w4 : World} {o p : Obj} (h3 : Hd (Below X1.heap.size X1 w3)) (hw : (w3.alloc o).alloc p = w4) : Hd (Below X1.heap.size X1 w4 ∧ w4.heap[w3.heap.size]? = some o ∧ w4.heap[w3.heap.size + 1]? = some p ∧ X1.heap.size ≤ w3.heap.size ∧ w4.heap.size = w3.heap.size + 2) := by
  subst hw
  refine ⟨below_alloc (below_alloc h3.out _) _, ?_, tr_new_at _ _ (by simp only [World.size_alloc]), h3.out.size, by simp only [World.size_alloc]⟩
  exact (Below.heap_alloc _ _ _ (by simp only [World.size_alloc]; omega)).trans (heap_alloc_new w3 _)
theorem w_third {X1 w3 w4 W5 : World} {A1 : Option Addr} {N : List Nd} {root : Int} {o p : Obj} {P Q : Prop} (hA : Hd (P ∧ ShAt A1 N X1 ∧ Q)) (h4 : Hd (Below X1.heap.size X1 w4 ∧ w4.heap[w3.heap.size]? = some o ∧ w4.heap[w3.heap.size + 1]? = some p ∧ X1.heap.size ≤ w3.heap.size ∧ w4.heap.size = w3.heap.size + 2)) (hW : w4.alloc (.cells #[.int .i64 root] 3) = W5) :
    Hd (Below X1.heap.size X1 W5 ∧ W5.heap[w4.heap.size]? = some (.cells #[.int .i64 root] 3 (0, 0)) ∧ W5.heap[w3.heap.size]? = some o ∧ W5.heap[w3.heap.size + 1]? = some p ∧ ShB w4.heap.size A1 N W5 ∧ W5.heap.size = w4.heap.size + 1) := by
  subst hW
  obtain ⟨b1, b2, b3, b4, b5⟩ := h4.out
  have hb := below_alloc b1 (.cells #[.int .i64 root] 3)
  refine ⟨hb, heap_alloc_new w4 _, (Below.heap_alloc _ _ _ (by omega)).trans b2, (Below.heap_alloc _ _ _ (by omega)).trans b3, ⟨hA.out.2.1.on hb, fun g o hn e => ?_, by simp only [World.size_alloc]; omega⟩, by simp only [World.size_alloc]⟩
  obtain ⟨g', o', e', hlt, _⟩ := hA.out.2.1.cell hn
  rw [e] at e'
  cases e'
  omega
theorem w_b7 {X1 w1 w3 w4 W5 V : World} {o : Obj} {P Q R S T U : Prop} (hA : Hd (P ∧ Q ∧ X1.heap[w1.heap.size]? = some o ∧ R)) (h4 : Hd (S ∧ T ∧ U ∧ X1.heap.size ≤ w3.heap.size ∧ w4.heap.size = w3.heap.size + 2)) {B : Prop} (h5 : Hd (Below X1.heap.size X1 W5 ∧ B)) (hV : Below w4.heap.size W5 V) : V.heap[w1.heap.size]? = some o := by
  have h := hA.out.2.2.1
  have hlt := (Array.getElem?_eq_some_iff.1 h).1
  obtain ⟨_, _, _, h6, h7⟩ := h4.out
  exact (hV.block _ (by omega)).trans ((h5.out.1.block _ hlt).trans h)
theorem w_cell {a b : Int} (h : a = b) : (some (Obj.cells #[.int .i64 a] 3 (0, 0)) : Option Obj) = some (.cells #[.int .i64 b] 3 (0, 0)) := by rw [h]
theorem w_next {W5 V : World} {b : Nat} {v : Value} (h : Hd (Below b W5 V ∧ V.heap[b]? = some (.cells #[v] 3 (0, 0)))) (nq : Nat) (u : Value) (B : Nat) :
    KeepsFrom B V ((V.drewN nq).setCell ⟨b, 0, none⟩ u) ∧ Kp b V ((V.drewN nq).setCell ⟨b, 0, none⟩ u) ∧ Below b W5 ((V.drewN nq).setCell ⟨b, 0, none⟩ u) ∧ ((V.drewN nq).setCell ⟨b, 0, none⟩ u).heap[b]? = some (.cells #[u] 3 (0, 0)) := by
  have hd : (V.drewN nq).heap = V.heap := rfl
  have hne : ∀ k, k ≠ b → ((V.drewN nq).setCell ⟨b, 0, none⟩ u).heap[k]? = V.heap[k]? := fun k hk => (Below.heap_setCell _ _ _ _ hk).trans (by rw [hd])
  have hb : Below b V ((V.drewN nq).setCell ⟨b, 0, none⟩ u) := (pw_below_drewN (Below.refl b V) nq).setCell (p := ⟨b, 0, none⟩) (Nat.le_refl b) _
  refine ⟨⟨hb.size, fun k o _ hk hc => (hne k (fun e => ?_)).trans hk⟩, ⟨hb, fun k cs t m ht hk => (hne k (fun e => ?_)).trans hk⟩, h.out.1.trans hb, box_set (W := V.drewN nq) u h.out.2⟩
  · subst e; rw [h.out.2] at hk; cases hk; cases hc
  · subst e; rw [h.out.2] at hk; cases hk; rcases ht with h | h <;> exact absurd h (by decide)
theorem w_b0 {X0 X1 w3 w4 W5 V : World} {b : Nat} {o : Obj} {R S T U B : Prop} (hA : Hd (Below X0.heap.size X0 X1 ∧ R)) (h4 : Hd (S ∧ T ∧ U ∧ X1.heap.size ≤ w3.heap.size ∧ w4.heap.size = w3.heap.size + 2)) (h5 : Hd (Below X1.heap.size X1 W5 ∧ B)) (hV : Below w4.heap.size W5 V) (h : Hd (X0.heap[b]? = some o)) : V.heap[b]? = some o := by
  have hlt := (Array.getElem?_eq_some_iff.1 h.out).1
  have h1 := (hA.out.1.block _ hlt).trans h.out
  have hlt1 := (Array.getElem?_eq_some_iff.1 h1).1
  obtain ⟨_, _, _, h6, h7⟩ := h4.out
  exact (hV.block _ (by omega)).trans ((h5.out.1.block _ hlt1).trans h1)
theorem w_b8 {X1 w1 w3 w4 W5 V : World} {o : Obj} {P Q R S T U R' : Prop} (hA : Hd (P ∧ Q ∧ R ∧ X1.heap[w1.heap.size + 1]? = some o ∧ R')) (h4 : Hd (S ∧ T ∧ U ∧ X1.heap.size ≤ w3.heap.size ∧ w4.heap.size = w3.heap.size + 2)) {B : Prop} (h5 : Hd (Below X1.heap.size X1 W5 ∧ B)) (hV : Below w4.heap.size W5 V) : V.heap[w1.heap.size + 1]? = some o := by
  have h := hA.out.2.2.2.1
  have hlt := (Array.getElem?_eq_some_iff.1 h).1
  obtain ⟨_, _, _, h6, h7⟩ := h4.out
  exact (hV.block _ (by omega)).trans ((h5.out.1.block _ hlt).trans h)
theorem w_lt {X0 X1 w1 w3 w4 W5 V : World} {P Q R S T U B C : Prop} (hA : Hd (Below X0.heap.size X0 X1 ∧ P ∧ Q ∧ R ∧ X0.heap.size ≤ w1.heap.size ∧ X1.heap.size = w1.heap.size + 2)) (h4 : Hd (S ∧ T ∧ U ∧ X1.heap.size ≤ w3.heap.size ∧ w4.heap.size = w3.heap.size + 2)) (h5 : Hd (Below X1.heap.size X1 W5 ∧ B)) (hV : Hd (Below w4.heap.size W5 V ∧ C)) (hz : W5.heap.size = w4.heap.size + 1 := by assumption) :
    Hd (Below X0.heap.size X0 V ∧ X0.heap.size ≤ w1.heap.size ∧ w1.heap.size + 1 < w4.heap.size ∧ w4.heap.size < V.heap.size) := by
  obtain ⟨h1, _, _, _, h2, h3⟩ := hA.out
  obtain ⟨_, _, _, h6, h7⟩ := h4.out
  have h8 := hV.out.1.size
  refine ⟨(h1.trans (h5.out.1.mono h1.size)).trans (hV.out.1.mono (by omega)), h2, by omega, by omega⟩
theorem w_fourth {X0 w4 W5 V w6 W6 : World} {A1 : Option Addr} {N : List Nd} {o p q : Obj} {P Q R S T U : Prop} (hB : Hd (Below X0.heap.size X0 V ∧ P)) (hV : Hd (Below w4.heap.size W5 V ∧ Q)) (h5 : Hd (R ∧ S ∧ T ∧ U ∧ ShB w4.heap.size A1 N W5 ∧ W5.heap.size = w4.heap.size + 1))
    (hw : ((V.alloc o).alloc p).alloc q = w6) (h6 : w6 = W6) : Hd (Below V.heap.size V W6 ∧ W6.heap[V.heap.size]? = some o ∧ W6.heap[V.heap.size + 1]? = some p ∧ W6.heap[V.heap.size + 1 + 1]? = some q ∧ ShB V.heap.size A1 N W6 ∧ W6.heap.size = V.heap.size + 3) := by
  subst h6
  subst hw
  have hb := below_alloc (below_alloc (below_alloc (Below.refl V.heap.size V) o) p) q
  have hs := (h5.out.2.2.2.2.1.on hV.out.1)
  have hn := hs.n
  refine ⟨hb, ?_, ?_, tr_new_at _ _ (by simp only [World.size_alloc]), ⟨hs.at_.on hb, fun g o hn2 e => Nat.lt_of_lt_of_le (hs.lt g o hn2 e) hn, hb.size⟩, by simp only [World.size_alloc]⟩
  · exact (Below.heap_alloc _ _ _ (by simp only [World.size_alloc]; omega)).trans ((Below.heap_alloc _ _ _ (by simp only [World.size_alloc]; omega)).trans (heap_alloc_new V _))
  · exact (Below.heap_alloc _ _ _ (by simp only [World.size_alloc]; omega)).trans (tr_new_at _ _ (by simp only [World.size_alloc]))
theorem w_facts {W X0 V W2 Y : World} {P : Prop} {A : Option Addr} {n cap g m i : Nat} {most s0 s1 : Int} {s2 : ByteArray} (h0 : Hd (Below W.heap.size W X0)) (hB : Hd (Below X0.heap.size X0 V ∧ P)) (hz : Hd (X0.heap.size = W.heap.size + 1 + 1 + 1))
    (h3 : Hd (X0.heap[W.heap.size]? = some (.cells #[.slice A n cap] 22 (0, 0)))) (h5 : Hd (X0.heap[W.heap.size + 1]? = some (.cells #[.int .u8 most] 5 (0, 0)))) (hV : Hd (Below V.heap.size V W2)) (h15 : W2.heap[V.heap.size]? = some (.cells #[.int .i64 (i : Int)] 3 (0, 0)))
    (hZ : Hd (g < W.heap.size ∧ W.cell? ⟨g, m, none⟩ = some (.int .u32 s0) ∧ W.cell? ⟨g, m + 1, none⟩ = some (.int .u8 s1) ∧ W.cell? ⟨g, m + 2, none⟩ = some (.string s2))) (hY : Below W2.heap.size W2 Y) :
    Y.cell? ⟨V.heap.size, 0, none⟩ = some (.int .i64 (i : Int)) ∧ Y.frozen? ⟨V.heap.size, 0, none⟩ = false ∧ Y.cell? ⟨W.heap.size, 0, none⟩ = some (.slice A n cap) ∧ Y.cell? ⟨W.heap.size + 1, 0, none⟩ = some (.int .u8 most) ∧
      Y.cell? ⟨g, m, none⟩ = some (.int .u32 s0) ∧ Y.cell? ⟨g, m + 1, none⟩ = some (.int .u8 s1) ∧ Y.cell? ⟨g, m + 2, none⟩ = some (.string s2) := by
  have e15 := (hY.block _ (Array.getElem?_eq_some_iff.1 h15).1).trans h15
  have hVY := hV.out.trans (hY.mono hV.out.size)
  have hXY := hB.out.1.trans (hVY.mono hB.out.1.size)
  have hWY := h0.out.trans (hXY.mono h0.out.size)
  have e3 := (hXY.block _ (Array.getElem?_eq_some_iff.1 h3.out).1).trans h3.out
  have e5 := (hXY.block _ (Array.getElem?_eq_some_iff.1 h5.out).1).trans h5.out
  obtain ⟨zl, y0, y1, y2⟩ := hZ.out
  exact ⟨(box_cell e15).1, (box_cell e15).2, (box_cell e3).1, (box_cell e5).1, (hWY.cell (p := ⟨g, m, none⟩) zl).trans y0, (hWY.cell (p := ⟨g, m + 1, none⟩) zl).trans y1, (hWY.cell (p := ⟨g, m + 2, none⟩) zl).trans y2⟩
theorem w_cut {F : Fence} {n : Nat} {P : Program} {c : Code} {Q : Exit → Act → World → Prop} {a0 : Act} {w0 : World} {C : World → Prop} (A : Act) (h : c.wpIn F n P (fun e a w => e = .normal ∧ a = A ∧ C w) a0 w0) (hQ : ∀ w, C w → Q .normal A w) : c.wpIn F n P Q a0 w0 :=
  wpIn_mono h fun e a w ⟨h1, h2, h3⟩ => by subst h1; subst h2; exact hQ w h3
theorem w_next2 {W6 W2 w9 : World} {b : Nat} {v : Value} {P : Prop} (h : Hd (Below b W6 W2 ∧ W2.heap[b]? = some (.cells #[v] 3 (0, 0)) ∧ P)) (h9 : Hd (Below W2.heap.size W2 w9)) (u : Value) (B : Nat) :
    KeepsFrom B W2 (w9.setCell ⟨b, 0, none⟩ u) ∧ Kp b W2 (w9.setCell ⟨b, 0, none⟩ u) ∧ Below b W6 (w9.setCell ⟨b, 0, none⟩ u) ∧ (w9.setCell ⟨b, 0, none⟩ u).heap[b]? = some (.cells #[u] 3 (0, 0)) := by
  have hlt := (Array.getElem?_eq_some_iff.1 h.out.2.1).1
  have hne : ∀ k o, k ≠ b → W2.heap[k]? = some o → (w9.setCell ⟨b, 0, none⟩ u).heap[k]? = some o := fun k o hk ho => (Below.heap_setCell _ _ _ _ hk).trans ((h9.out.block k (Array.getElem?_eq_some_iff.1 ho).1).trans ho)
  have hb : Below b W2 (w9.setCell ⟨b, 0, none⟩ u) := (h9.out.mono (Nat.le_of_lt hlt)).setCell (p := ⟨b, 0, none⟩) (Nat.le_refl b) _
  refine ⟨⟨hb.size, fun k o _ hk hc => hne k o (fun e => ?_) hk⟩, ⟨hb, fun k cs t m ht hk => hne k _ (fun e => ?_) hk⟩, h.out.1.trans hb, box_set u ((h9.out.block b hlt).trans h.out.2.1)⟩
  · subst e; rw [h.out.2.1] at hk; cases hk; cases hc
  · subst e; rw [h.out.2.1] at hk; cases hk; rcases ht with h | h <;> exact absurd h (by decide)
theorem w_end {X0 V W6 X : World} {b3 b5 b6 : Nat} {o3 o5 o6 : Obj} {P : Prop} (hB : Hd (Below X0.heap.size X0 V ∧ P)) (h1 : Below V.heap.size V W6) (h2 : Below V.heap.size W6 X) (h3 : Hd (X0.heap[b3]? = some o3)) (h5 : Hd (X0.heap[b5]? = some o5)) (h6 : Hd (X0.heap[b6]? = some o6)) : X.heap[b3]? = some o3 ∧ X.heap[b5]? = some o5 ∧ X.heap[b6]? = some o6 := by
  have h := hB.out.1.trans ((h1.trans h2).mono hB.out.1.size)
  exact ⟨(h.block _ (Array.getElem?_eq_some_iff.1 h3.out).1).trans h3.out, (h.block _ (Array.getElem?_eq_some_iff.1 h5.out).1).trans h5.out, (h.block _ (Array.getElem?_eq_some_iff.1 h6.out).1).trans h6.out⟩
theorem w_done {W X0 w1 w4 V W6 X w9 : World} {v6 : Value} {D1 D2 : Nat} (h0 : Hd (Below W.heap.size W X0)) (hz : Hd (X0.heap.size = W.heap.size + 1 + 1 + 1)) (hB : Hd (Below X0.heap.size X0 V ∧ X0.heap.size ≤ w1.heap.size ∧ w1.heap.size + 1 < w4.heap.size ∧ w4.heap.size < V.heap.size))
    (h1 : Below V.heap.size V W6) (h2 : Below V.heap.size W6 X) (h9 : Hd (Below X.heap.size X w9)) (hX6 : Hd (X.heap[W.heap.size + 1 + 1]? = some (.cells #[v6] 4 (0, 0)))) (hD1 : Hd (V.heap[D1]? = some (.deferred (some [])))) (hd1 : D1 = w4.heap.size + 1) (hD2 : Hd (X.heap[D2]? = some (.deferred (some [])))) (hd2 : D2 = V.heap.size + 3) :
    Marks (W.heap.size + 3) (w9.setCell ⟨W.heap.size + 1 + 1, 0, none⟩ (.bool true)) [{ target := .collected (V.heap.size + 3), args := #[] }, { target := .collected (w4.heap.size + 1), args := #[] }] ∧ (w9.setCell ⟨W.heap.size + 1 + 1, 0, none⟩ (.bool true)).heap[W.heap.size + 1 + 1]? = some (.cells #[.bool true] 4 (0, 0)) ∧ Below W.heap.size W (w9.setCell ⟨W.heap.size + 1 + 1, 0, none⟩ (.bool true)) := by
  subst hd1
  subst hd2
  obtain ⟨b0, b1, b2, b3⟩ := hB.out
  have hz' := hz.out
  have hVX := h1.trans h2
  have hD1X := (hVX.block _ (Array.getElem?_eq_some_iff.1 hD1.out).1).trans hD1.out
  have k1 := (h9.out.block _ (Array.getElem?_eq_some_iff.1 hD1X).1).trans hD1X
  have k2 := (h9.out.block _ (Array.getElem?_eq_some_iff.1 hD2.out).1).trans hD2.out
  have k6 := (h9.out.block _ (Array.getElem?_eq_some_iff.1 hX6.out).1).trans hX6.out
  have e : ∀ k, k ≠ W.heap.size + 1 + 1 → (w9.setCell ⟨W.heap.size + 1 + 1, 0, none⟩ (.bool true)).heap[k]? = w9.heap[k]? := fun k hk => Below.heap_setCell _ _ _ _ hk
  have hb : Below W.heap.size W w9 := by
    have a := h0.out.trans (b0.mono h0.out.size)
    have b := a.trans (hVX.mono a.size)
    exact b.trans (h9.out.mono b.size)
  refine ⟨⟨fun d hd => ?_, List.pairwise_cons.2 ⟨fun d hd he => ?_, List.pairwise_singleton _ _⟩⟩, box_set _ k6, hb.setCell (p := ⟨W.heap.size + 1 + 1, 0, none⟩) (show W.heap.size ≤ W.heap.size + 1 + 1 by omega) _⟩
  · rcases List.mem_cons.1 hd with rfl | hd
    · exact ⟨_, rfl, by omega, (e _ (by omega)).trans k2⟩
    · rw [List.mem_singleton.1 hd]
      exact ⟨_, rfl, by omega, (e _ (by omega)).trans k1⟩
  · rw [List.mem_singleton.1 hd] at he
    injection he with he
    omega
set_option maxRecDepth 100000 in
set_option maxHeartbeats 8000000 in
theorem walks_any (W : World) (A : Option Addr) (cap : Nat) (l : List Rec) (hin : InAt A l W) (hu : ∀ x ∈ l, 0 ≤ x.f0 ∧ x.f0 < 4294967296) (hcap : l.length ≤ cap) (gap : Int) (g0 : 0 ≤ gap) (g1 : gap < 256) (most : Int) (m0 : 0 ≤ most) (m1 : most < 256) :
    Calls Try.prog 5 #[.slice A l.length cap, .int .u8 gap, .int .u8 most] W fun e w' => e = .returned (.bool true) ∧ Hd (Below W.heap.size W w') := by
  obtain ⟨r, hr, hgr⟩ := great_f l 120 (by decide) 400 (by decide)
  have HGr : Hd (∀ X, Below W.heap.size W X → Calls Try.prog 6 #[.slice A l.length cap, .int .i64 120] X fun e w' => e = .returned (.bool r) ∧ Hd (Below X.heap.size X w')) := ⟨fun X hX => (postchaiselaw07_great.calls 400 A cap l 120 r X (hin.on hX).c hcap hr).mono fun e w' h => ⟨h.1, ⟨h.2.below⟩⟩⟩
  obtain ⟨X0, hX0⟩ : ∃ X, ((W.alloc (.cells #[.slice A l.length cap] 22)).alloc (.cells #[.int .u8 most] 5)).alloc (.cells #[.bool false] 4) = X := ⟨_, rfl⟩
  have HB0 : Hd (Below W.heap.size W X0) := ⟨by rw [← hX0]; exact below_alloc (below_alloc (below_alloc (Below.refl _ _) _) _) _⟩
  have HZ0 : Hd (X0.heap.size = W.heap.size + 1 + 1 + 1) := ⟨by rw [← hX0]; simp⟩
  have H3 : Hd (X0.heap[W.heap.size]? = some (.cells #[.slice A l.length cap] 22 (0, 0))) := ⟨by
    rw [← hX0]
    exact (Below.heap_alloc _ _ _ (by simp only [World.size_alloc]; omega)).trans ((Below.heap_alloc _ _ _ (by simp only [World.size_alloc]; omega)).trans (heap_alloc_new W _))⟩
  have H5 : Hd (X0.heap[W.heap.size + 1]? = some (.cells #[.int .u8 most] 5 (0, 0))) := ⟨by
    rw [← hX0]
    exact (Below.heap_alloc _ _ _ (by simp only [World.size_alloc]; omega)).trans (tr_new_at _ _ (by simp only [World.size_alloc]))⟩
  have H6 : Hd (X0.heap[W.heap.size + 1 + 1]? = some (.cells #[.bool false] 4 (0, 0))) := ⟨by
    rw [← hX0]
    exact tr_new_at _ _ (by simp only [World.size_alloc])⟩
  obtain ⟨c0, f0⟩ := box_cell H3.out
  refine (callsIn_wide (n := 24)).1 ?_
  refine callsIn_of_wp_marks Try.func5 rfl trivial ?_ rfl
  simp only [Try.ntmps5, List.size_toArray, List.length_cons, List.length_nil, Nat.reduceAdd, Nat.reduceSub, Array.replicate_succ, Array.replicate_zero, List.push_toArray, List.append_toArray, List.nil_append, List.cons_append]
  cases r with
  | true =>
    clear hin hr hgr
    gi_wp2_with (first
      | ((try rw [hX0]); (with_reducible refine CallsIn.mono (callsIn_wide.2 (HGr.out X0 HB0.out)) ?_); rintro e w0 ⟨rfl, HD0⟩; obtain ⟨c6, f6⟩ := box_cell (w_keep HD0 H6).out)
      | fail)
    have h6 := box_set (.bool true) (w_keep HD0 H6).out
    refine leaves_marks (B := W.heap.size + 3) _ _ (Marks.nil _ _) fun W' hs => ⟨_, results_1 rfl _ _ _ _ rfl (ld_bl (hs.cells _ _ _ _ h6)), rfl, ⟨?_⟩⟩
    have hb := (HB0.out.trans (HD0.out.mono HB0.out.size)).setCell (p := ⟨W.heap.size + 1 + 1, 0, none⟩) (show W.heap.size ≤ W.heap.size + 1 + 1 by omega) (.bool true)
    exact hb.trans (hs.touch.below hb.size (fun k hk e => by omega))
  | false =>
    obtain ⟨hln, hinc⟩ := hgr rfl
    clear hr hgr
    obtain ⟨p, hp, hp2⟩ : ∃ p : Nat, gap % 9 = (p : Int) ∧ p ≤ 1000 := ⟨(gap % 9).toNat, by omega, by omega⟩
    obtain ⟨m, hm, hm2⟩ : ∃ m : Nat, gap % 2 = (m : Int) ∧ m ≤ 1000 := ⟨(gap % 2).toNat, by omega, by omega⟩
    have hT := (stand_good (W := W) cap l hin.rd (by omega) hin.c hcap hu hinc p hp2 m hm2).1
    have hS : ∀ w0, Below W.heap.size W w0 → _ := fun w0 h0 => (stand_good (W := w0) cap l (hin.on h0).rd (by omega) (hin.on h0).c hcap hu hinc p hp2 m hm2).2
    have hWk := isWalk_good l hu hinc p m
    obtain ⟨N, hN⟩ : ∃ N, treeN l p m = N := ⟨_, rfl⟩
    obtain ⟨root, hroot⟩ : ∃ root, rootOf l p = root := ⟨_, rfl⟩
    obtain ⟨hgt, hhgt⟩ : ∃ hgt, hgtOf l m = hgt := ⟨_, rfl⟩
    simp only [hN, hroot, hhgt] at hT hS hWk
    have HSt : Hd (∀ w0, Below W.heap.size W w0 → Calls Try.prog 7 #[.slice A l.length cap, .int .i64 (p : Int), .int .i64 (m : Int)] w0 fun e w' => ∃ A' c', e = .returned (.tuple #[.slice A' N.length c', .agg #[.int .i64 root, .int .i64 (hgt : Int)]]) ∧ Hd (ShAt A' N w' ∧ Below w0.heap.size w0 w')) := ⟨hS⟩
    have HT := Hd.mk hT
    have HW := Hd.mk hWk
    have HM := Hd.mk (And.intro hp hm)
    have HI := Hd.mk hin
    have HL := Hd.mk hln
    clear hS hN hroot hhgt hT hin hp hp2 hm hm2 hinc hWk hu
    have HF := Hd.mk (iter2_nil 29)
    gi_wp2_with (first
      | ((try rw [hX0]); (with_reducible refine CallsIn.mono (callsIn_wide.2 (HGr.out X0 HB0.out)) ?_); rintro e w0 ⟨rfl, HD0⟩; obtain ⟨c3, f3⟩ := box_cell (w_keep HD0 H3).out)
      | (rw [HM.out.1, HM.out.2]; (with_reducible refine CallsIn.mono (callsIn_wide.2 (HSt.out w0 (HB0.out.trans (HD0.out.mono HB0.out.size)))) ?_); rintro e w1 ⟨A1, c1, rfl, HD1⟩
         obtain ⟨X1, hX1⟩ : ∃ X, (w1.alloc (.cells #[.slice A1 N.length c1] 25)).alloc (.cells #[.int .i64 root, .int .i64 (hgt : Int)] 27) = X := ⟨_, rfl⟩
         have HA := w_first HD0 HD1 hX1
         obtain ⟨d3, e3⟩ := box_cell (w_keep ⟨HA.out.1⟩ H3).out
         obtain ⟨d7, e7⟩ := box_cell HA.out.2.2.1
         have d8 : X1.cell? ⟨w1.heap.size + 1, 0, none⟩ = some (.int .i64 root) := blk_cell HA.out.2.2.2.1 0
         have d9 : X1.cell? ⟨w1.heap.size + 1, 1, none⟩ = some (.int .i64 (hgt : Int)) := blk_cell HA.out.2.2.2.1 1)
      | ((with_reducible refine CallsIn.mono (callsIn_wide.2 (all_rd (w := X1) HT.out.len c1 HW.out.dep HW.out.recs HA.out.2.1 (Nat.le_trans HL.out (by decide)))) ?_); rintro e w2 ⟨A2, c2, rfl, HD2⟩
         have HB2 : Hd (Below X1.heap.size X1 w2) := ⟨HD2.out.2⟩
         obtain ⟨k3, l3⟩ := box_cell (w_keep HB2 (w_keep ⟨HA.out.1⟩ H3)).out)
      | ((with_reducible refine CallsIn.mono (callsIn_wide.2 (same_any w2 A2 A l c2 cap HD2.out.1 (w_rd HI HB0 HA HB2) (Nat.le_trans HL.out (by decide)))) ?_); rintro e w3 ⟨rfl, HD3⟩
         have HB3 : Hd (Below X1.heap.size X1 w3) := ⟨HB2.out.trans (HD3.out.mono HB2.out.size)⟩
         obtain ⟨m7, n7⟩ := box_cell (w_keep HB3 ⟨HA.out.2.2.1⟩).out
         have m8 : w3.cell? ⟨w1.heap.size + 1, 0, none⟩ = some (.int .i64 root) := blk_cell (w_keep HB3 ⟨HA.out.2.2.2.1⟩).out 0
         have m9 : w3.cell? ⟨w1.heap.size + 1, 1, none⟩ = some (.int .i64 (hgt : Int)) := blk_cell (w_keep HB3 ⟨HA.out.2.2.2.1⟩).out 1)
      | ((with_reducible refine CallsIn.mono (callsIn_wide.2 (slots_mk root hgt A1 N.length c1 w3)) ?_); rintro e w4 ⟨rfl, hw4'⟩; have hw4 := hw4'.symm; clear hw4'
         have hfn := HF.out #[.pointer (some ⟨w3.heap.size + 1, 0, none⟩), .pointer (some ⟨w3.heap.size, 0, none⟩)]
         have HB4 := w_second HB3 hw4
         have r8 : w4.cell? ⟨w1.heap.size + 1, 0, none⟩ = some (.int .i64 root) := blk_cell (w_keep ⟨HB4.out.1⟩ ⟨HA.out.2.2.2.1⟩).out 0)
      | fail)
    obtain ⟨W5, hW5⟩ : ∃ X, w4.alloc (.cells #[.int .i64 root] 3) = X := ⟨_, rfl⟩
    have H5a := w_third HA HB4 hW5
    rw [hW5]
    have hSl : ∀ V, Below W5.heap.size W5 V → SlSt w4.heap.size (w3.heap.size + 1) w3.heap.size A1 N c1 root V := fun V hV =>
      ⟨blk_cell (w_keep ⟨hV⟩ ⟨H5a.out.2.2.2.1⟩).out 0, blk_cell (w_keep ⟨hV⟩ ⟨H5a.out.2.2.1⟩).out 0, H5a.out.2.2.2.2.1.on (hV.mono H5a.out.2.2.2.2.1.n)⟩
    have HSl := Hd.mk hSl
    have hz5 := H5a.out.2.2.2.2.2
    clear hSl hX0 hX1 hw4 hW5 c0 f0 c3 f3 d3 e3 d7 e7 d8 d9 k3 l3 m7 n7 m8 m9 r8 hfn HF HD2 HGr HSt HM
    refine wpIn_rangeFunc_can2 rfl (by omega) (gf := 29) (lb := #[.pointer (some ⟨w3.heap.size + 1, 0, none⟩), .pointer (some ⟨w3.heap.size, 0, none⟩)]) rfl trivial
      (enters_of Try.func29 (by kernel_rfl) rfl) (slots_can 23 w4.heap.size (w3.heap.size + 1) w3.heap.size A1 N HT.out.len c1 root hgt HW.out.dep) (fun _ _ _ => Kp.trans) (fun V k o o' => kp_put H5a.out.2.2.2.2.1.n V k o o') HSl.out (fun _ => rfl)
      (fun pre V => Below w4.heap.size W5 V ∧ V.heap[w4.heap.size]? = some (.cells #[.int .i64 (root + (pre.length : Int))] 3 (0, 0))) (fun c pre V => False)
      (fun pre X Y row hX hg hr => ⟨(hX.1).trans ((Below.refl _ X).grown hg (Nat.le_trans H5a.out.2.2.2.2.1.n hX.1.size) (fun k e => by have := (hr k e).1; omega)), (hg.block _ (Array.getElem?_eq_some_iff.1 hX.2).1 (fun e => by have := (hr _ e.symm).1; omega)).trans hX.2⟩)
      (fun c pre X Y row hX hg hr => hX)
      (fun pre X Y hX ht => ⟨hX.1.trans ⟨ht.os, ht.tape, ht.output, ht.size, fun k hk => ht.block k (by have := H5a.out.2.2.2.2.1.n; have := hX.1.size; omega) (fun e => e)⟩, (ht.block _ (Array.getElem?_eq_some_iff.1 hX.2).1 (fun e => e)).trans hX.2⟩)
      (fun c pre X Y hX ht => hX)
      ⟨Below.refl _ _, by rw [H5a.out.2.1]; simp⟩
      ?round ?done ?stop
    case round =>
      rintro l' pre x V hV hc
      obtain ⟨i, hi, rfl, hri⟩ := next_slot HW.out hc
      have HV := Hd.mk hV
      have HRi := Hd.mk hri
      have HIl := Hd.mk hi
      obtain ⟨n0, hn0⟩ : ∃ n0, N[i] = n0 := ⟨_, rfl⟩
      rw [hn0]
      have HN0 := Hd.mk hn0
      clear hV hri hc hn0
      dsimp only [encV]
      gi_wp2_with ((with_reducible refine gi_gate_store (t := 60) rfl ?_); refine gi_st60 rfl _ _ rfl _ (nArr n0) rfl rfl rfl (narr_size _) (narr_one _) ?_)
      have hle : w4.heap.size ≤ V.heap.size := Nat.le_trans H5a.out.2.2.2.2.1.n HV.out.1.size
      have hbV : Below V.heap.size V (V.alloc (.cells (nArr n0) 60)) := below_alloc (Below.refl _ _) _
      refine ⟨(KeepsOthers.alloc V _).from _, Kp.of hbV hle, ⟨HV.out.1.trans (hbV.mono hle), (Below.heap_alloc _ _ _ (Array.getElem?_eq_some_iff.1 HV.out.2).1).trans HV.out.2⟩, fun W2 hs hi2 => ?_⟩
      rw [HRi.out] at hi2
      have hnb := hs.2 _ _ _ _ (heap_alloc_new V (.cells (nArr n0) 60))
      obtain ⟨bn, hbn⟩ : ∃ bn, V.heap.size = bn := ⟨_, rfl⟩
      rw [hbn] at hnb ⊢
      obtain ⟨c12, f12⟩ := box_cell hi2.2
      obtain ⟨c7, f7⟩ := box_cell (w_b7 HA HB4 H5a hi2.1)
      obtain ⟨g, o, rfl, _, hcell⟩ := (H5a.out.2.2.2.2.1.on hi2.1).at_.cell (by have := HIl.out; omega)
      have ha : ∀ k, (load60 ⟨bn, 0, none⟩).run Try.prog (W2.drewN k) = .ok (.agg (nArr n0)) (W2.drewN k) := fun k => ld60 (W2.drewN k) bn 0 (nArr n0) (narr_size _) (nd_at hnb)
      have hb : ∀ k, (load60 ⟨g, o + i * 26, none⟩).run Try.prog (W2.drewN k) = .ok (.agg (nArr n0)) (W2.drewN k) := fun k => ld60 (W2.drewN k) g (o + i * 26) (nArr n0) (narr_size _) (fun j u hj => hcell i HIl.out j u (by rw [HN0.out]; simpa [nArr] using hj))
      have HI2 := Hd.mk hi2
      have q0 : (0 : Int) ≤ (i : Int) := by omega
      have q1 : (i : Int) < (N.length : Int) := by have := HIl.out; omega
      have q2 : (N.length : Int) ≤ 1000000 := by have := HT.out.len; omega
      have q3 : decide (N.length ≤ i) = false := decide_eq_false (by have := HIl.out; omega)
      have q4 : (N.length ≤ i) = False := eq_false (by have := HIl.out; omega)
      clear hs hi2 hnb hbn hcell hbV hle HV
      gi_wp2
      (first | simp only [Act.put, List.setIfInBounds_toArray, List.set_cons_succ, List.set_cons_zero] | skip)
      refine wpIn_region_quietR (by kernel_rfl) (by kernel_rfl) (by kernel_rfl) ?_
      repeat (gi_big_quiet_step (fail))
      refine wpQuietIn_nil ?_
      intro W3 hq
      obtain ⟨nq, hq2⟩ := hq
      subst hq2
      gi_wp2
      obtain ⟨h1, h2, h3, h4⟩ := w_next HI2 nq (.int .i64 ((i : Int) + 1)) W5.heap.size
      exact ⟨h1, h2, h3, by rw [h4, List.length_append, ← HRi.out]; exact w_cell (by simp; omega)⟩
    case done =>
      rintro D xs V rfl hxs hV hD
      have hcase := last_slot HW.out hxs
      obtain ⟨wv, hwv⟩ : ∃ wv, root + (xs.length : Int) = wv := ⟨_, rfl⟩
      rw [hwv] at hcase hV
      obtain ⟨c12, f12⟩ := box_cell hV.2
      obtain ⟨c3, f3⟩ := box_cell (w_b0 HA HB4 H5a hV.1 H3)
      obtain ⟨c5, f5⟩ := box_cell (w_b0 HA HB4 H5a hV.1 H5)
      obtain ⟨c7, f7⟩ := box_cell (w_b7 HA HB4 H5a hV.1)
      have c8 : V.cell? ⟨w1.heap.size + 1, 0, none⟩ = some (.int .i64 root) := blk_cell (w_b8 HA HB4 H5a hV.1) 0
      have c9 : V.cell? ⟨w1.heap.size + 1, 1, none⟩ = some (.int .i64 (hgt : Int)) := blk_cell (w_b8 HA HB4 H5a hV.1) 1
      have HV := Hd.mk hV
      have HDD := Hd.mk hD
      have HB5 := w_lt HA HB4 H5a HV
      have l8 : w1.heap.size + 1 < V.heap.size := by have := HB5.out.2; omega
      have l7 : w1.heap.size < V.heap.size := by omega
      have l3 : W.heap.size < V.heap.size := by have := HB5.out.2; have := HZ0.out; omega
      have l5 : W.heap.size + 1 < V.heap.size := by have := HB5.out.2; have := HZ0.out; omega
      clear hxs hV hD hwv
      rcases hcase with ⟨h0, rfl⟩ | ⟨h0, rfl⟩
      · subst h0
        have k1 : min (0 : Int) (most + 1) = 0 := by omega
        gi_wp2_with (first
          | ((with_reducible refine CallsIn.mono (callsIn_wide.2 (walk_mk root hgt A1 N.length c1 (V.alloc (.cells #[.int .i64 0] 3)))) ?_); rintro e w6 ⟨rfl, hw6'⟩; have hw6 := hw6'.symm; clear hw6')
          | fail)
        obtain ⟨W6, hW6⟩ : ∃ X, w6 = X := ⟨_, rfl⟩
        have HE := w_fourth HB5 HV H5a hw6 hW6
        rw [hW6]
        have hSl2 : ∀ X, Below W6.heap.size W6 X → WkSt V.heap.size (V.heap.size + 1) (V.heap.size + 1 + 1) A1 N c1 root (hgt : Int) X := fun X hX =>
          ⟨blk_cell (w_keep ⟨hX⟩ ⟨HE.out.2.2.1⟩).out 0, blk_cell (w_keep ⟨hX⟩ ⟨HE.out.2.2.1⟩).out 1, blk_cell (w_keep ⟨hX⟩ ⟨HE.out.2.2.2.1⟩).out 0, HE.out.2.2.2.2.1.on (hX.mono HE.out.2.2.2.2.1.n)⟩
        have HSl2 := Hd.mk hSl2
        clear hSl2 hw6 hW6
        have hz6 := HE.out.2.2.2.2.2
        refine wpIn_rangeFunc_can2 rfl (by omega) (gf := 31) (lb := #[.pointer (some ⟨V.heap.size + 1, 0, none⟩), .pointer (some ⟨V.heap.size + 1 + 1, 0, none⟩)]) rfl trivial
          (enters_of Try.func31 (by kernel_rfl) rfl) (walk_can 23 V.heap.size (V.heap.size + 1) (V.heap.size + 1 + 1) (by omega) A1 N HT.out.len c1 root (hgt : Int) hgt HW.out.dep) (fun _ _ _ => Kp.trans) (fun X k o o' => kp_put HE.out.2.2.2.2.1.n X k o o') HSl2.out (fun _ => rfl)
          (fun pre X => Below V.heap.size W6 X ∧ X.heap[V.heap.size]? = some (.cells #[.int .i64 0] 3 (0, 0))) (fun c pre X => False)
          (fun pre X Y row hX hg hr => ⟨(hX.1).trans ((Below.refl _ X).grown hg (Nat.le_trans HE.out.2.2.2.2.1.n hX.1.size) (fun k e => by have := (hr k e).1; omega)), (hg.block _ (Array.getElem?_eq_some_iff.1 hX.2).1 (fun e => by have := (hr _ e.symm).1; omega)).trans hX.2⟩)
          (fun c pre X Y row hX hg hr => hX)
          (fun pre X Y hX ht => ⟨hX.1.trans ⟨ht.os, ht.tape, ht.output, ht.size, fun k hk => ht.block k (by have := HE.out.2.2.2.2.1.n; have := hX.1.size; omega) (fun e => e)⟩, (ht.block _ (Array.getElem?_eq_some_iff.1 hX.2).1 (fun e => e)).trans hX.2⟩)
          (fun c pre X Y hX ht => hX)
          ⟨Below.refl _ _, HE.out.2.1⟩
          ?round3 ?done3 ?stop3
        case round3 =>
          rintro l' pre x X hX hc
          rw [HW.out.recs] at hc
          obtain ⟨hi, _⟩ := next_rec hc
          exact absurd hi (Nat.not_lt_zero _)
        case done3 =>
          rintro D2 ys X rfl hys hX hD2
          obtain ⟨c15, f15⟩ := box_cell hX.2
          obtain ⟨x3, x5, x6⟩ := w_end HB5 HE.out.1 hX.1 H3 H5 H6
          obtain ⟨x3, _⟩ := box_cell x3
          obtain ⟨x5, _⟩ := box_cell x5
          have HX := Hd.mk hX
          have HX6 := Hd.mk x6
          have HD2 := Hd.mk hD2
          clear hX x6 hD2
          gi_wp2_with (first
            | ((with_reducible refine CallsIn.mono (callsIn_wide.2 (awake_any X)) ?_); rintro e w9 ⟨rfl, HB9⟩; obtain ⟨y6, g6⟩ := box_cell (w_keep HB9 HX6).out)
            | fail)
          all_goals
            obtain ⟨hM, h6, hBw⟩ := w_done HB0 HZ0 HB5 HE.out.1 HX.out.1 HB9 HX6 HDD hz5 HD2 hz6
            exact leaves_marks (B := W.heap.size + 3) _ _ hM fun W' hs => ⟨_, results_1 rfl _ _ _ _ rfl (ld_bl (hs.cells _ _ _ _ h6)), rfl, ⟨hBw.trans (hs.touch.below hBw.size (fun k hk e => by omega))⟩⟩
        case stop3 =>
          rintro D2 c pre X rfl - hF hD2
          exact hF.elim
      · have hl0 : 0 < l.length := List.length_pos_iff.2 h0
        have q1 : (0 : Int) < (l.length : Int) := by omega
        have q2 : (l.length = 0) = False := eq_false (by omega)
        have q3 : ((l.length : Int) = 0) = False := eq_false (by omega)
        have q4 : ((l.length : Int) == 0) = false := by simp; omega
        have HL0 := Hd.mk hl0
        clear h0 hl0
        gi_wp2_with (first
          | ((with_reducible refine CallsIn.mono (callsIn_wide.2 (walk_mk root hgt A1 N.length c1 (V.alloc (.cells #[.int .i64 0] 3)))) ?_); rintro e w6 ⟨rfl, hw6'⟩; have hw6 := hw6'.symm; clear hw6')
          | fail)
        obtain ⟨W6, hW6⟩ : ∃ X, w6 = X := ⟨_, rfl⟩
        have HE := w_fourth HB5 HV H5a hw6 hW6
        rw [hW6]
        have hSl2 : ∀ X, Below W6.heap.size W6 X → WkSt V.heap.size (V.heap.size + 1) (V.heap.size + 1 + 1) A1 N c1 root (hgt : Int) X := fun X hX =>
          ⟨blk_cell (w_keep ⟨hX⟩ ⟨HE.out.2.2.1⟩).out 0, blk_cell (w_keep ⟨hX⟩ ⟨HE.out.2.2.1⟩).out 1, blk_cell (w_keep ⟨hX⟩ ⟨HE.out.2.2.2.1⟩).out 0, HE.out.2.2.2.2.1.on (hX.mono HE.out.2.2.2.2.1.n)⟩
        have HSl2 := Hd.mk hSl2
        clear hSl2 hw6 hW6
        have hz6 := HE.out.2.2.2.2.2
        refine wpIn_rangeFunc_can2 rfl (by omega) (gf := 31) (lb := #[.pointer (some ⟨V.heap.size + 1, 0, none⟩), .pointer (some ⟨V.heap.size + 1 + 1, 0, none⟩)]) rfl trivial
          (enters_of Try.func31 (by kernel_rfl) rfl) (walk_can 23 V.heap.size (V.heap.size + 1) (V.heap.size + 1 + 1) (by omega) A1 N HT.out.len c1 root (hgt : Int) hgt HW.out.dep) (fun _ _ _ => Kp.trans) (fun X k o o' => kp_put HE.out.2.2.2.2.1.n X k o o') HSl2.out (fun _ => rfl)
          (fun pre X => Below V.heap.size W6 X ∧ X.heap[V.heap.size]? = some (.cells #[.int .i64 (pre.length : Int)] 3 (0, 0)) ∧ (pre.length : Int) ≤ most) (fun c pre X => c = .exit 2 ∧ Below V.heap.size W6 X ∧ X.heap[V.heap.size]? = some (.cells #[.int .i64 (pre.length : Int)] 3 (0, 0)) ∧ (pre.length : Int) = most + 1 ∧ pre.length ≤ l.length)
          (fun pre X Y row hX hg hr => ⟨(hX.1).trans ((Below.refl _ X).grown hg (Nat.le_trans HE.out.2.2.2.2.1.n hX.1.size) (fun k e => by have := (hr k e).1; omega)), (hg.block _ (Array.getElem?_eq_some_iff.1 hX.2.1).1 (fun e => by have := (hr _ e.symm).1; omega)).trans hX.2.1, hX.2.2⟩)
          (fun c pre X Y row hX hg hr => ⟨hX.1, (hX.2.1).trans ((Below.refl _ X).grown hg (Nat.le_trans HE.out.2.2.2.2.1.n hX.2.1.size) (fun k e => by have := (hr k e).1; omega)), (hg.block _ (Array.getElem?_eq_some_iff.1 hX.2.2.1).1 (fun e => by have := (hr _ e.symm).1; omega)).trans hX.2.2.1, hX.2.2.2⟩)
          (fun pre X Y hX ht => ⟨hX.1.trans ⟨ht.os, ht.tape, ht.output, ht.size, fun k hk => ht.block k (by have := HE.out.2.2.2.2.1.n; have := hX.1.size; omega) (fun e => e)⟩, (ht.block _ (Array.getElem?_eq_some_iff.1 hX.2.1).1 (fun e => e)).trans hX.2.1, hX.2.2⟩)
          (fun c pre X Y hX ht => ⟨hX.1, hX.2.1.trans ⟨ht.os, ht.tape, ht.output, ht.size, fun k hk => ht.block k (by have := HE.out.2.2.2.2.1.n; have := hX.2.1.size; omega) (fun e => e)⟩, (ht.block _ (Array.getElem?_eq_some_iff.1 hX.2.2.1).1 (fun e => e)).trans hX.2.2.1, hX.2.2.2⟩)
          ⟨Below.refl _ _, HE.out.2.1, by simpa using m0⟩
          ?round2 ?done2 ?stop2
        case round2 =>
          rintro l' pre x X hX hc
          rw [HW.out.recs] at hc
          obtain ⟨hi, hx⟩ := next_rec hc
          obtain ⟨g, o, rfl, hgl, hce⟩ := HI.out.rd.cell (by omega)
          obtain ⟨z0, z1, z2⟩ := hce pre.length hi
          rw [hx] at z0 z1 z2
          obtain ⟨s0, s1, s2⟩ := x
          clear hx
          have HX := Hd.mk hX
          have HIl := Hd.mk hi
          have HZ := Hd.mk (And.intro hgl (And.intro z0 (And.intro z1 z2)))
          dsimp only [encR, recA] at z0 z1 z2 ⊢
          clear hX hc hi hgl hce z0 z1 z2
          gi_wp2
          have hle : V.heap.size ≤ X.heap.size := Nat.le_trans HE.out.2.2.2.2.1.n HX.out.1.size
          have hbX : Below X.heap.size X (X.alloc (.cells #[.int .u32 s0, .int .u8 s1, .string s2] 33)) := below_alloc (Below.refl _ _) _
          refine ⟨(KeepsOthers.alloc X _).from _, Kp.of hbX hle, ⟨HX.out.1.trans (hbX.mono hle), (Below.heap_alloc _ _ _ (Array.getElem?_eq_some_iff.1 HX.out.2.1).1).trans HX.out.2.1, HX.out.2.2⟩, ?_⟩
          intro W2 hs
          intro hi2a hi2b hi2c
          have hi2 := And.intro hi2a (And.intro hi2b hi2c)
          clear hi2a hi2b hi2c
          have hnb := hs.2 _ _ _ _ (heap_alloc_new X (.cells #[.int .u32 s0, .int .u8 s1, .string s2] 33))
          obtain ⟨bn, hbn⟩ : ∃ bn, X.heap.size = bn := ⟨_, rfl⟩
          rw [hbn] at hnb ⊢
          obtain ⟨i, hpi⟩ : ∃ i, pre.length = i := ⟨_, rfl⟩
          have HPi := Hd.mk hpi
          simp only [hpi] at HZ hi2 HIl
          have hVW : Below V.heap.size V W2 := HE.out.1.trans hi2.1
          have HVW := Hd.mk hVW
          obtain ⟨r0, r1, r2, _, _, _⟩ := rec_cells (r := ⟨s0, s1, s2⟩) hnb
          have HFx := Hd.mk (fun (Y : World) (hY : Below W2.heap.size W2 Y) => w_facts HB0 HB5 HZ0 H3 H5 HVW hi2.2.1 HZ hY)
          obtain ⟨c15, f15, x3, x5, z0, z1, z2⟩ := HFx.out W2 (Below.refl _ _)
          have HI2 := Hd.mk hi2
          have q0' : (0 : Int) ≤ (i : Int) := by omega
          have q1' : (i : Int) < (l.length : Int) := by have := HIl.out; omega
          have q2' : (l.length : Int) ≤ 120 := by have := HL.out; omega
          have q3' : decide (l.length ≤ i) = false := decide_eq_false (by have := HIl.out; omega)
          have q4' : (l.length ≤ i) = False := eq_false (by have := HIl.out; omega)
          clear hs hi2 hnb hbn hbX hle HX hpi hVW
          gi_wp2
          apply w_cut (C := fun w => Below W2.heap.size W2 w)
          case h =>
            gi_region_with (first
              | ((with_reducible refine CallsIn.mono (CallsIn.inRound l' (callsIn_wide.2 (postchaiselaw07_Back.calls s0 s1 s2 s0 s1 s2 _ rfl))) ?_); rintro e w9 ⟨rfl, hb9⟩; have HX9 : Hd (Below W2.heap.size W2 w9) := ⟨all_x (by repeat (first | (with_reducible exact Below.refl _ _) | apply below_alloc | apply below_drew1 | apply pw_below_drewN)) hb9⟩; clear hb9; obtain ⟨c15, f15, x3, x5, z0, z1, z2⟩ := HFx.out w9 HX9.out)
              | fail)
            all_goals exact ⟨rfl, rfl, HX9.out⟩
          case hQ =>
            intro w9 hw9
            obtain ⟨c15, f15, x3, x5, z0, z1, z2⟩ := HFx.out w9 hw9
            have HX9 := Hd.mk hw9
            clear hw9 z0 z1 z2 x3 r0 r1 r2
            by_cases hm : most < (i : Int) + 1
            · have k1 : decide (most < (i : Int) + 1) = true := decide_eq_true hm
              have HMm := Hd.mk hm
              clear hm
              gi_wp2
              obtain ⟨h1, h2, h3, h4⟩ := w_next2 HI2 HX9 (.int .i64 ((i : Int) + 1)) (V.heap.size + 3)
              have hmm := HMm.out
              have hle2 := HI2.out.2.2
              have hil := HIl.out
              exact ⟨h1, rfl, h3, by rw [h4, List.length_append, HPi.out]; exact w_cell (by simp), by rw [List.length_append, HPi.out]; simp; omega, by rw [List.length_append, HPi.out]; simp; omega⟩
            · have k1 : decide (most < (i : Int) + 1) = false := decide_eq_false hm
              have HMm := Hd.mk hm
              clear hm
              gi_wp2
              obtain ⟨h1, h2, h3, h4⟩ := w_next2 HI2 HX9 (.int .i64 ((i : Int) + 1)) (V.heap.size + 3)
              have hmm := HMm.out
              exact ⟨h1, h2, h3, by rw [h4, List.length_append, HPi.out]; exact w_cell (by simp), by rw [List.length_append, HPi.out]; simp; omega⟩
        case done2 =>
          rintro D2 ys X rfl hys hX hD2
          rw [HW.out.recs] at hys
          subst hys
          obtain ⟨c15, f15⟩ := box_cell hX.2.1
          obtain ⟨x3, x5, x6⟩ := w_end HB5 HE.out.1 hX.1 H3 H5 H6
          obtain ⟨x3, _⟩ := box_cell x3
          obtain ⟨x5, _⟩ := box_cell x5
          have HX := Hd.mk hX
          have HX6 := Hd.mk x6
          have HD2 := Hd.mk hD2
          have k1 : min (ys.length : Int) (most + 1) = (ys.length : Int) := by have := hX.2.2; omega
          clear hX x6 hD2
          gi_wp2_with (first
            | ((with_reducible refine CallsIn.mono (callsIn_wide.2 (awake_any X)) ?_); rintro e w9 ⟨rfl, HB9⟩; obtain ⟨y6, g6⟩ := box_cell (w_keep HB9 HX6).out)
            | fail)
          all_goals
            obtain ⟨hM, h6, hBw⟩ := w_done HB0 HZ0 HB5 HE.out.1 HX.out.1 HB9 HX6 HDD hz5 HD2 hz6
            exact leaves_marks (B := W.heap.size + 3) _ _ hM fun W' hs => ⟨_, results_1 rfl _ _ _ _ rfl (ld_bl (hs.cells _ _ _ _ h6)), rfl, ⟨hBw.trans (hs.touch.below hBw.size (fun k hk e => by omega))⟩⟩
        case stop2 =>
          rintro D2 c pre X rfl - ⟨rfl, hX1, hX2, hX3, hX4⟩ hD2
          obtain ⟨c15, f15⟩ := box_cell hX2
          obtain ⟨x3, x5, x6⟩ := w_end HB5 HE.out.1 hX1 H3 H5 H6
          obtain ⟨x3, _⟩ := box_cell x3
          obtain ⟨x5, _⟩ := box_cell x5
          have HX := Hd.mk (And.intro hX1 hX2)
          have HX6 := Hd.mk x6
          have HD2 := Hd.mk hD2
          have k1 : min (l.length : Int) (most + 1) = (pre.length : Int) := by omega
          clear hX1 hX2 hX3 hX4 x6 hD2
          gi_wp2_with (first
            | ((with_reducible refine CallsIn.mono (callsIn_wide.2 (awake_any X)) ?_); rintro e w9 ⟨rfl, HB9⟩; obtain ⟨y6, g6⟩ := box_cell (w_keep HB9 HX6).out)
            | fail)
          all_goals
            obtain ⟨hM, h6, hBw⟩ := w_done HB0 HZ0 HB5 HE.out.1 HX.out.1 HB9 HX6 HDD hz5 HD2 hz6
            exact leaves_marks (B := W.heap.size + 3) _ _ hM fun W' hs => ⟨_, results_1 rfl _ _ _ _ rfl (ld_bl (hs.cells _ _ _ _ h6)), rfl, ⟨hBw.trans (hs.touch.below hBw.size (fun k hk e => by omega))⟩⟩
    case stop =>
      rintro D c pre V rfl - hF hD
      exact hF.elim
theorem treeWalks_any (w : World) (A : Option Addr) (len cap : Nat) (l : List (Int × Int × ByteArray)) (hr : Recs RRec 3 w A len l) (hc : len ≤ cap) (hb : len * 24 ≤ 140737488351232) (gap : Int) (wg : (Lit.int .u8 gap).wf = true) (most : Int) (wm : (Lit.int .u8 most).wf = true) :
    Calls Try.prog 5 #[.slice A len cap, .int .u8 gap, .int .u8 most] w fun e w' => e = .returned (.bool true) ∧ Below w.heap.size w w' := by
  obtain ⟨hi, hu, hl⟩ := recs_in hr
  have e : (l.map toRec).length = len := by rw [List.length_map, hl]
  have h := walks_any w A cap (l.map toRec) hi hu (by omega) gap (w_u8 wg).1 (w_u8 wg).2 most (w_u8 wm).1 (w_u8 wm).2
  rw [e] at h
  exact h.mono fun e w' x => ⟨x.1, x.2.out⟩
end Go.Proofs.Ytkcnakaneiocjaa.PTr
