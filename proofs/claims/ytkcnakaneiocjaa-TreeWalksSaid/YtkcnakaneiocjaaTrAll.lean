/- Trees: All, all messages of a tree, walked. No condition but those that each contract bears. -/
import Derived.Test.YtkcnakaneiocjaaTrWalk
import Derived.Test.YtkcnakaneiocjaaTrBuild1
import Derived.Test.YtkcnakaneiocjaaRange
import Derived.Maps.AppendAt
import Derived.Stop.RegionWithIn
set_option linter.unusedVariables false
set_option linter.unusedSimpArgs false
namespace Go.Proofs.Ytkcnakaneiocjaa.PTr
open Go.RowKit Go.Shelf Go.Proofs.YtkcnakaneiocjaaW.PrintWords Go.Proofs.YtkcnakaneiocjaaW.PrintLast Go.Proofs.YtkcnakaneiocjaaW.PrintMore
attribute [local go_sem] Oper.semAt_some wide_fn
theorem row_keep {W W' : World} {base : Nat} {e : TypeId} {size : Nat} {v : Value} {k : Nat} {xs : List Value} (h : W.ownsRow base e size v k xs)
    (hb : ∀ (j : Nat) (c : Array Value) (t : TypeId) (f : Nat × Nat), base ≤ j → W.heap[j]? = some (Obj.cells c t f) → W'.heap[j]? = some (Obj.cells c t f)) : W'.ownsRow base e size v k xs := by
  obtain ⟨h1, h2⟩ := h
  refine ⟨h1, ?_⟩
  rcases h2 with h2 | ⟨g, cap, cur, e1, e2, e3, e4⟩
  · exact .inl h2
  · exact .inr ⟨g, cap, cur, e1, e2, hb _ _ _ _ e2 e3, e4⟩
theorem row_ne {W : World} {base : Nat} {e : TypeId} {size : Nat} {v : Value} {k : Nat} {xs : List Value} (h : W.ownsRow base e size v k xs) {j : Nat} {o : Obj} (hj : W.heap[j]? = some o) (hno : ∀ cur, o ≠ .cells cur e (0, 0)) :
    v.ownBlock ≠ some j := by
  rcases h.2 with ⟨rfl, _⟩ | ⟨g, cap, cur, rfl, _, hgb, _⟩
  · simp [Value.ownBlock]
  · intro e'
    have : g = j := by simpa [Value.ownBlock] using e'
    subst this; rw [hgb] at hj; cases hj; exact hno cur rfl
theorem row_lt {W : World} {base : Nat} {e : TypeId} {size : Nat} {v : Value} {k : Nat} {xs : List Value} (h : W.ownsRow base e size v k xs) {j : Nat} (hj : v.ownBlock = some j) : base ≤ j := by
  rcases h.2 with ⟨rfl, _⟩ | ⟨g, cap, cur, rfl, hb, hgb, _⟩
  · simp [Value.ownBlock] at hj
  · have : g = j := by simpa [Value.ownBlock] using hj
    omega
theorem box_cell {W : World} {B : Nat} {v : Value} {t : TypeId} (h : W.heap[B]? = some (.cells #[v] t (0, 0))) : W.cell? ⟨B, 0, none⟩ = some v ∧ W.frozen? ⟨B, 0, none⟩ = false := by
  constructor <;> simp [World.cell?, World.frozen?, h]
theorem box_set {W : World} {B : Nat} {v : Value} {t : TypeId} (v' : Value) (h : W.heap[B]? = some (.cells #[v] t (0, 0))) : (W.setCell ⟨B, 0, none⟩ v').heap[B]? = some (.cells #[v'] t (0, 0)) := by
  obtain ⟨hlt, hk⟩ := Array.getElem?_eq_some_iff.1 h
  show (W.heap.modify B _)[B]? = _
  rw [Array.getElem?_eq_getElem (by rw [Array.size_modify]; exact hlt), Array.getElem_modify_self, hk]
  rfl
theorem grown_set (W : World) (b : Nat) (v : Value) : W.grownBy (W.setCell ⟨b, 0, none⟩ v) (some b) :=
  ⟨rfl, rfl, rfl, by simp [World.setCell], fun k _ hk => Below.heap_setCell _ _ _ k (fun e => hk (by rw [e]))⟩
theorem iter_nil (g : Nat) (lb : Array Value) (W : World) : (binOp .eql 62 (.func (.func g) #[] lb) .nilFunc).run Try.prog W = .ok (.bool false) W := by
  have h : (Op.equal 62 (.func (.func g) #[] lb) .nilFunc).run Try.prog W = .ok false W := by
    have key : ∀ d, (Op.equalIn (d + 1) 62 (.func (.func g) #[] lb) .nilFunc).run Try.prog W = .ok false W := fun d => by
      unfold Op.equalIn
      simp [go_sem, Try.underlying62]
    exact key 9999
  simp [binOp, go_sem, h]
/-- What All keeps between two rounds. -/
structure AllAt (w : World) (most : Int) (pre : List Rec) (V : World) : Prop where
  below : Below w.heap.size w V
  c5 : V.heap[w.heap.size + 1]? = some (.cells #[.int .i64 most] 3 (0, 0))
  c6 : V.heap[w.heap.size + 2]? = some (.cells #[.slice none 0 0] 22 (0, 0))
  c7 : V.heap[w.heap.size + 3]? = some (.cells #[.bool false] 4 (0, 0))
  box : ∃ v, V.heap[w.heap.size + 6]? = some (.cells #[v] 22 (0, 0)) ∧ V.ownsRow (w.heap.size + 7) 41 3 v pre.length (recc pre) ∧ (v = .slice none 0 0 ↔ pre = [])
theorem AllAt.keep {w : World} {most : Int} {pre : List Rec} {V X : World} (h : AllAt w most pre V) (hw : Below w.heap.size V X)
    (hb : ∀ (j : Nat) (c : Array Value) (t : TypeId) (f : Nat × Nat), w.heap.size ≤ j → V.heap[j]? = some (Obj.cells c t f) → X.heap[j]? = some (Obj.cells c t f)) : AllAt w most pre X := by
  obtain ⟨v, h1, h2, h3⟩ := h.box
  exact ⟨h.below.trans hw, hb _ _ _ _ (by omega) h.c5, hb _ _ _ _ (by omega) h.c6, hb _ _ _ _ (by omega) h.c7, v, hb _ _ _ _ (by omega) h1, row_keep h2 (fun j c t f hj => hb j c t f (by omega)), h3⟩
theorem AllAt.new {w : World} {most : Int} {pre : List Rec} {V X : World} (h : AllAt w most pre V) (hb : Below V.heap.size V X) : AllAt w most pre X :=
  h.keep (hb.mono h.below.size) fun j c t f _ hj => (hb.block j (Array.getElem?_eq_some_iff.1 hj).1).trans hj
/-- Behind append of messages the walk stands still. -/
def app22 (ty : TypeId) (args : Array Value) : Sem Next := do pure (.value (← Builtin.append_ #[22, 22] ty args))
theorem app22_fold (ty : TypeId) (cs : Array Bool) (args : Array Value) : builtin .append #[22, 22] ty cs args = app22 ty args := rfl
attribute [local go_sem ↓ high] app22_fold
theorem app22_run (Y : World) (ty : TypeId) (base : Nat) (A' : Option Addr) (k c' : Nat) (xs : List Value) (hown : Y.ownsRow base 41 3 (.slice A' k c') k xs) (g : Nat) (x : Rec) (hg : Y.heap[g]? = some (.cells #[.int .u32 x.f0, .int .u8 x.f1, .string x.f2] 41 (0, 0))) (hk : k ≤ 1000000) (hb : base ≤ Y.heap.size) :
    ∃ g6 c6 w6, (app22 ty #[.slice A' k c', .slice (some ⟨g, 0, none⟩) 1 1]).run Try.prog Y = .ok (.value (.slice (some ⟨g6, 0, none⟩) (k + 1) c6)) w6 ∧ Hd (w6.ownsRow base 41 3 (.slice (some ⟨g6, 0, none⟩) (k + 1) c6) (k + 1) (xs ++ [.int .u32 x.f0, .int .u8 x.f1, .string x.f2])) ∧ Hd (Y.grownBy w6 (Value.slice A' k c').ownBlock) := by
  obtain ⟨i1, hi1, hy0, hy1, hy2⟩ := inf_parts info41
  obtain ⟨v6, w6, hrun, h1, h2, h3⟩ := run_append_own (P := Try.prog) Y base 22 ty 41 i1 _ 3 24 Try.underlying22 hi1 hy0 hy1 hy2 rfl (by decide) (.slice A' k c') k xs hown ⟨g, 0, none⟩ 1 1 [.int .u32 x.f0, .int .u8 x.f1, .string x.f2] rfl (World.news_of_block (cs := #[.int .u32 x.f0, .int .u8 x.f1, .string x.f2]) (t := 41) (fr := (0, 0)) hg) (by simp [Value.oneCell']) (by unfold maxLen; omega) (by omega) hb
  have hw := h1.2
  rcases hw with ⟨_, h0⟩ | ⟨g6, c6, cu, rfl, _⟩
  · exact absurd h0 (by omega)
  · refine ⟨g6, c6, w6, ?_, ⟨h1⟩, ⟨h2⟩⟩
    unfold app22
    rw [Sem.run_bind, hrun]
    rfl
theorem all_x {W Y X : World} (h : Below W.heap.size W Y) (h2 : Below Y.heap.size Y X) : Below W.heap.size W X := h.trans (h2.mono h.size)
theorem all_row {V w3 : World} {base k : Nat} {v : Value} {xs : List Value} {o : Obj} (hr : Hd (V.ownsRow base 41 3 v k xs)) (hb : Hd (Below V.heap.size V w3)) {m : Nat} (_ : m < w3.heap.size) : (w3.alloc o).ownsRow base 41 3 v k xs :=
  row_keep hr.out fun j c t f _ hj => ((below_alloc hb.out o).block j (Array.getElem?_eq_some_iff.1 hj).1).trans hj
theorem all_box {V w3 w6 : World} {b base k : Nat} {v : Value} {xs : List Value} {o : Obj} (hr : Hd (V.ownsRow base 41 3 v k xs)) (hv : Hd (V.heap[b]? = some (.cells #[v] 22 (0, 0)))) (hb : Hd (Below V.heap.size V w3)) (hg : Hd ((w3.alloc o).grownBy w6 v.ownBlock)) : w6.heap[b]? = some (.cells #[v] 22 (0, 0)) := by
  have h1 := ((below_alloc hb.out o).block b (Array.getElem?_eq_some_iff.1 hv.out).1).trans hv.out
  exact (hg.out.block b (Array.getElem?_eq_some_iff.1 h1).1 (fun e => row_ne hr.out hv.out (fun cur e => by cases e) e.symm)).trans h1
theorem all_step {w V w3 w6 : World} {most : Int} {pre : List Rec} {x : Rec} {A' : Option Addr} {c' g6 c6 : Nat} {o : Obj} (hV : Hd (AllAt w most pre V)) (hr : Hd (V.ownsRow (w.heap.size + 7) 41 3 (.slice A' pre.length c') pre.length (recc pre)))
    (hv : Hd (V.heap[w.heap.size + 6]? = some (.cells #[.slice A' pre.length c'] 22 (0, 0)))) (hb : Hd (Below V.heap.size V w3)) (ho : Hd (w6.ownsRow (w.heap.size + 7) 41 3 (.slice (some ⟨g6, 0, none⟩) (pre.length + 1) c6) (pre.length + 1) (recc pre ++ [.int .u32 x.f0, .int .u8 x.f1, .string x.f2])))
    (hg : Hd ((w3.alloc o).grownBy w6 (Value.slice A' pre.length c').ownBlock)) :
    KeepsFrom (w.heap.size + 7) V (w6.setCell ⟨w.heap.size + 6, 0, none⟩ (.slice (some ⟨g6, 0, none⟩) (pre.length + 1) c6)) ∧ Kp w.heap.size V (w6.setCell ⟨w.heap.size + 6, 0, none⟩ (.slice (some ⟨g6, 0, none⟩) (pre.length + 1) c6)) ∧ AllAt w most (pre ++ [x]) (w6.setCell ⟨w.heap.size + 6, 0, none⟩ (.slice (some ⟨g6, 0, none⟩) (pre.length + 1) c6)) := by
  have hbY : Below V.heap.size V (w3.alloc o) := below_alloc hb.out o
  have key : ∀ k u, V.heap[k]? = some u → (∀ cur, u ≠ .cells cur 41 (0, 0)) → k ≠ w.heap.size + 6 → (w6.setCell ⟨w.heap.size + 6, 0, none⟩ (.slice (some ⟨g6, 0, none⟩) (pre.length + 1) c6)).heap[k]? = some u := fun k u hk hu hne => by
    have h1 := (hbY.block k (Array.getElem?_eq_some_iff.1 hk).1).trans hk
    have h2 := (hg.out.block k (Array.getElem?_eq_some_iff.1 h1).1 (fun e => row_ne hr.out hk hu e.symm)).trans h1
    exact (Below.heap_setCell _ _ _ _ hne).trans h2
  have hsz : V.heap.size ≤ (w6.setCell ⟨w.heap.size + 6, 0, none⟩ (.slice (some ⟨g6, 0, none⟩) (pre.length + 1) c6)).heap.size := by
    have h1 := hbY.size
    have h2 := hg.out.size
    simp only [World.setCell, Array.size_modify] at *
    omega
  have hbl : Below w.heap.size V (w6.setCell ⟨w.heap.size + 6, 0, none⟩ (.slice (some ⟨g6, 0, none⟩) (pre.length + 1) c6)) :=
    ((hbY.mono hV.out.below.size).grown hg.out (by have := hV.out.below.size; have := hbY.size; omega) (fun k e => by have := row_lt hr.out e; omega)).setCell (p := ⟨w.heap.size + 6, 0, none⟩) (show w.heap.size ≤ w.heap.size + 6 by omega) _
  refine ⟨⟨hsz, fun k u hk hu hc => key k u hu (fun cur e => by subst e; cases hc) (by omega)⟩, ⟨hbl, fun k cs t m ht hk => key k _ hk (fun cur e => ?_) (fun e => ?_)⟩, ?_⟩
  · cases e
    rcases ht with h | h <;> exact absurd h (by decide)
  · subst e
    rw [hv.out] at hk
    cases hk
    rcases ht with h | h <;> exact absurd h (by decide)
  · refine ⟨hV.out.below.trans hbl, key _ _ hV.out.c5 (fun cur e => by cases e) (by omega), key _ _ hV.out.c6 (fun cur e => by cases e) (by omega), key _ _ hV.out.c7 (fun cur e => by cases e) (by omega), _, box_set _ (all_box hr hv hb hg), ?_, by simp⟩
    rw [List.length_append, recc_append]
    exact row_keep ho.out fun j c t f hj h => (Below.heap_setCell _ _ _ _ (by show j ≠ w.heap.size + 6; omega)).trans h
theorem results_2 {P : Program} {fn : Func} {p q : Tmp} {ty tz : TypeId} (h : fn.results = #[.cell p ty, .cell q tz]) (tmps : Array Value) (w : World) (g k : Nat) (v u : Value) (hp : tmps.getD p undef = .pointer (some ⟨g, 0, none⟩)) (hq : tmps.getD q undef = .pointer (some ⟨k, 0, none⟩))
    (hl : (loadVar ty ⟨g, 0, none⟩).run P w = .ok v w) (hm : (loadVar tz ⟨k, 0, none⟩).run P w = .ok u w) : (results fn tmps).run P w = .ok (.tuple #[v, u]) w := by
  have hp' : tmps[p]?.getD undef = .pointer (some ⟨g, 0, none⟩) := by simpa using hp
  have hq' : tmps[q]?.getD undef = .pointer (some ⟨k, 0, none⟩) := by simpa using hq
  simp [results, h, hp', hq', asAddr, Result.andThen, Sem.run_bind, Sem.run_pure, hl, hm]
theorem all_end {w V : World} {most : Int} {L : List Rec} {A' : Option Addr} {c' D : Nat} {o o' : Obj} (hV : Hd (AllAt w most L V)) (hr : Hd (V.ownsRow (w.heap.size + 7) 41 3 (.slice A' L.length c') L.length (recc L))) (hD : Hd (V.heap[D]? = some o)) (hz : D = w.heap.size + 7) (ho : o.isCells = false := by rfl) :
    ((V.setCell ⟨w.heap.size + 1 + 1, 0, none⟩ (.slice A' L.length c')).setCell ⟨w.heap.size + 1 + 1 + 1, 0, none⟩ (.bool true)).heap[D]? = some o ∧
    (((V.setCell ⟨w.heap.size + 1 + 1, 0, none⟩ (.slice A' L.length c')).setCell ⟨w.heap.size + 1 + 1 + 1, 0, none⟩ (.bool true)).putObj D o').heap[w.heap.size + 1 + 1]? = some (.cells #[.slice A' L.length c'] 22 (0, 0)) ∧
    (((V.setCell ⟨w.heap.size + 1 + 1, 0, none⟩ (.slice A' L.length c')).setCell ⟨w.heap.size + 1 + 1 + 1, 0, none⟩ (.bool true)).putObj D o').heap[w.heap.size + 1 + 1 + 1]? = some (.cells #[.bool true] 4 (0, 0)) ∧
    (((V.setCell ⟨w.heap.size + 1 + 1, 0, none⟩ (.slice A' L.length c')).setCell ⟨w.heap.size + 1 + 1 + 1, 0, none⟩ (.bool true)).putObj D o').ownsRow (w.heap.size + 7) 41 3 (.slice A' L.length c') L.length (recc L) ∧
    Below w.heap.size w (((V.setCell ⟨w.heap.size + 1 + 1, 0, none⟩ (.slice A' L.length c')).setCell ⟨w.heap.size + 1 + 1 + 1, 0, none⟩ (.bool true)).putObj D o') := by
  have hk : ∀ k, k ≠ w.heap.size + 1 + 1 → k ≠ w.heap.size + 1 + 1 + 1 → ((V.setCell ⟨w.heap.size + 1 + 1, 0, none⟩ (.slice A' L.length c')).setCell ⟨w.heap.size + 1 + 1 + 1, 0, none⟩ (.bool true)).heap[k]? = V.heap[k]? := fun k h1 h2 => (Below.heap_setCell _ _ _ _ h2).trans (Below.heap_setCell _ _ _ _ h1)
  have hDX := (hk D (by omega) (by omega)).trans hD.out
  refine ⟨hDX, (World.putObj_heap_other (by omega)).trans ((Below.heap_setCell _ _ _ _ (by show w.heap.size + 1 + 1 ≠ w.heap.size + 1 + 1 + 1; omega)).trans (box_set _ hV.out.c6)), (World.putObj_heap_other (by omega)).trans (box_set _ ((Below.heap_setCell _ _ _ _ (by show w.heap.size + 1 + 1 + 1 ≠ w.heap.size + 1 + 1; omega)).trans hV.out.c7)), ?_, ?_⟩
  · refine row_keep hr.out fun j c t f hj h => ?_
    have hne : j ≠ D := fun e => by subst e; rw [hD.out] at h; cases h; cases ho
    exact (World.putObj_heap_other hne).trans ((hk j (by omega) (by omega)).trans h)
  · refine ((hV.out.below.setCell (p := ⟨w.heap.size + 1 + 1, 0, none⟩) (show w.heap.size ≤ w.heap.size + 1 + 1 by omega) _).setCell (p := ⟨w.heap.size + 1 + 1 + 1, 0, none⟩) (show w.heap.size ≤ w.heap.size + 1 + 1 + 1 by omega) _).trans ⟨rfl, rfl, rfl, by simp [World.putObj], fun k hk => World.putObj_heap_other (by omega)⟩
theorem ld_sl {w : World} {g : Nat} {v : Value} {t : TypeId} (h : w.heap[g]? = some (.cells #[v] t (0, 0))) : (loadVar 22 ⟨g, 0, none⟩).run Try.prog w = .ok v w := by
  have hc := (box_cell h).1
  simp [go_sem, hc, Try.underlying22]
theorem ld_bl {w : World} {g : Nat} {v : Value} {t : TypeId} (h : w.heap[g]? = some (.cells #[v] t (0, 0))) : (loadVar 4 ⟨g, 0, none⟩).run Try.prog w = .ok v w := by
  have hc := (box_cell h).1
  simp [go_sem, hc, Try.underlying4]
set_option maxRecDepth 100000 in
set_option maxHeartbeats 4000000 in
theorem all_any (w : World) (A : Option Addr) (N : List Nd) (hN : N.length ≤ 1000000) (cap : Nat) (root hgt : Int) (h : Nat) (hD : Dep N h root) (hS : ShAt A N w) (most : Int) (hm : (recsOf (vis N h root)).length ≤ most + 1) (hm2 : most ≤ 1000000) :
    Calls Try.prog 18 #[.iface 25 (.slice A N.length cap), .agg #[.int .i64 root, .int .i64 hgt], .int .i64 most] w fun e w' =>
      ∃ v, e = .returned (.tuple #[v, .bool true]) ∧ Hd (w'.ownsRow (w.heap.size + 7) 41 3 v (recsOf (vis N h root)).length (recc (recsOf (vis N h root))) ∧ Below w.heap.size w w') := by
  have HS : Hd (ShB w.heap.size A N w) := ⟨hS, fun g o hn e => by obtain ⟨g', o', e', hlt, _⟩ := hS.cell hn; rw [e] at e'; cases e'; exact hlt, Nat.le_refl _⟩
  have hfn := iter_nil 31 #[.pointer (some ⟨w.heap.size + 1 + 1 + 1 + 1, 0, none⟩), .pointer (some ⟨w.heap.size + 1 + 1 + 1 + 1 + 1, 0, none⟩)]
  clear hS
  refine (callsIn_wide (n := 20)).1 ?_
  refine callsIn_of_wp_marks Try.func18 rfl trivial ?_ rfl
  simp only [Try.ntmps18, List.size_toArray, List.length_cons, List.length_nil, Nat.reduceAdd, Nat.reduceSub, Array.replicate_succ, Array.replicate_zero, List.push_toArray, List.append_toArray, List.nil_append, List.cons_append]
  gi_wp2_with (first
    | ((with_reducible refine CallsIn.mono (callsIn_wide.2 (walk_mk root hgt A N.length cap ((((w.alloc (.cells #[.int .i64 root, .int .i64 hgt] 27)).alloc (.cells #[.int .i64 most] 3)).alloc (.cells #[.slice none 0 0] 22)).alloc (.cells #[.bool false] 4)))) ?_); rintro e w2 ⟨rfl, rfl⟩)
    | fail)
  clear hfn
  obtain ⟨W1, hW1⟩ : ∃ X, ((((((w.alloc (.cells #[.int .i64 root, .int .i64 hgt] 27)).alloc (.cells #[.int .i64 most] 3)).alloc (.cells #[.slice none 0 0] 22)).alloc (.cells #[.bool false] 4)).alloc (.cells #[.int .i64 root, .int .i64 hgt] 27)).alloc (.cells #[.iface 25 (.slice A N.length cap)] 74)).alloc (.cells #[.slice none 0 0] 22) = X := ⟨_, rfl⟩
  have hb1 : Below w.heap.size w W1 := by rw [← hW1]; exact below_alloc (below_alloc (below_alloc (below_alloc (below_alloc (below_alloc (below_alloc (Below.refl _ _) _) _) _) _) _) _) _
  have hz1 : W1.heap.size = w.heap.size + 7 := by rw [← hW1]; simp
  have hcs : W1.heap[w.heap.size + 1]? = some (.cells #[.int .i64 most] 3 (0, 0)) ∧ W1.heap[w.heap.size + 2]? = some (.cells #[.slice none 0 0] 22 (0, 0)) ∧ W1.heap[w.heap.size + 3]? = some (.cells #[.bool false] 4 (0, 0)) ∧ W1.heap[w.heap.size + 4]? = some (.cells #[.int .i64 root, .int .i64 hgt] 27 (0, 0)) ∧ W1.heap[w.heap.size + 5]? = some (.cells #[.iface 25 (.slice A N.length cap)] 74 (0, 0)) ∧ W1.heap[w.heap.size + 6]? = some (.cells #[.slice none 0 0] 22 (0, 0)) := by
    rw [← hW1]
    refine ⟨?_, ?_, ?_, ?_, ?_, ?_⟩
    · iterate 5 (refine (Below.heap_alloc _ _ _ (by simp only [World.size_alloc]; omega)).trans ?_)
      exact tr_new_at _ _ (by simp only [World.size_alloc] <;> omega)
    · iterate 4 (refine (Below.heap_alloc _ _ _ (by simp only [World.size_alloc]; omega)).trans ?_)
      exact tr_new_at _ _ (by simp only [World.size_alloc] <;> omega)
    · iterate 3 (refine (Below.heap_alloc _ _ _ (by simp only [World.size_alloc]; omega)).trans ?_)
      exact tr_new_at _ _ (by simp only [World.size_alloc] <;> omega)
    · iterate 2 (refine (Below.heap_alloc _ _ _ (by simp only [World.size_alloc]; omega)).trans ?_)
      exact tr_new_at _ _ (by simp only [World.size_alloc] <;> omega)
    · iterate 1 (refine (Below.heap_alloc _ _ _ (by simp only [World.size_alloc]; omega)).trans ?_)
      exact tr_new_at _ _ (by simp only [World.size_alloc] <;> omega)
    · exact tr_new_at _ _ (by simp only [World.size_alloc] <;> omega)
  obtain ⟨k1, k2, k3, k4, k5, k6⟩ := hcs
  rw [hW1]
  have hSt : ∀ V, Below W1.heap.size W1 V → WkSt w.heap.size (w.heap.size + 1 + 1 + 1 + 1) (w.heap.size + 1 + 1 + 1 + 1 + 1) A N cap root hgt V := fun V hV =>
    ⟨blk_cell ((hV.block _ (by omega)).trans k4) 0, blk_cell ((hV.block _ (by omega)).trans k4) 1, blk_cell ((hV.block _ (by omega)).trans k5) 0, (HS.out.on hb1).on (hV.mono (by omega))⟩
  have H0 : AllAt w most [] W1 := ⟨hb1, k1, k2, k3, _, k6, ⟨rfl, .inl ⟨rfl, rfl⟩⟩, by simp⟩
  clear k1 k2 k3 k4 k5 k6 hW1 hb1
  refine wpIn_rangeFunc_can rfl (by omega) (gf := 31) (lb := #[.pointer (some ⟨w.heap.size + 1 + 1 + 1 + 1, 0, none⟩), .pointer (some ⟨w.heap.size + 1 + 1 + 1 + 1 + 1, 0, none⟩)]) rfl trivial
    (enters_of Try.func31 (by kernel_rfl) rfl) (walk_can 19 w.heap.size (w.heap.size + 1 + 1 + 1 + 1) (w.heap.size + 1 + 1 + 1 + 1 + 1) (by omega) A N hN cap root hgt h hD) (fun _ _ _ => Kp.trans) (fun V k o o' => kp_put (by omega) V k o o') hSt (fun _ => rfl)
    (fun pre V => AllAt w most pre V) (fun c pre V => False)
    (fun pre X Y row hX hg hr => hX.keep ((Below.refl _ X).grown hg hX.below.size (fun k e => by have := (hr k e).1; omega)) (fun j c t f hj hc => (hg.block j (Array.getElem?_eq_some_iff.1 hc).1 (fun e => by
      obtain ⟨_, o, ho, hn⟩ := hr j e.symm
      rw [hc] at ho; cases ho; cases hn)).trans hc))
    (fun c pre X Y row hX hg hr => hX)
    (fun pre X Y hX ht => hX.new ⟨ht.os, ht.tape, ht.output, ht.size, fun k hk => ht.block k hk (fun e => e)⟩)
    (fun c pre X Y hX ht => hX)
    H0
    (fun x a V => ∃ b, V.heap[b]? = some (.cells (recA x) 33 (0, 0)) ∧ a = { tmps := #[.iface 25 (.slice A N.length cap), .agg #[.int .i64 root, .int .i64 hgt], .int .i64 most, undef, .pointer (some ⟨w.heap.size, 0, none⟩), .pointer (some ⟨w.heap.size + 1, 0, none⟩), .pointer (some ⟨w.heap.size + 2, 0, none⟩), .pointer (some ⟨w.heap.size + 3, 0, none⟩), .func (.func 31) #[] #[.pointer (some ⟨w.heap.size + 4, 0, none⟩), .pointer (some ⟨w.heap.size + 5, 0, none⟩)], .pointer (some ⟨w.heap.size + 6, 0, none⟩), .pointer (some ⟨b, 0, none⟩), .agg #[.int .i64 root, .int .i64 hgt], .iface 25 (.slice A N.length cap), .func (.func 31) #[] #[.pointer (some ⟨w.heap.size + 4, 0, none⟩), .pointer (some ⟨w.heap.size + 5, 0, none⟩)], .func (.func 31) #[] #[.pointer (some ⟨w.heap.size + 4, 0, none⟩), .pointer (some ⟨w.heap.size + 5, 0, none⟩)], .bool false, .func (.func 31) #[] #[.pointer (some ⟨w.heap.size + 4, 0, none⟩), .pointer (some ⟨w.heap.size + 5, 0, none⟩)], .agg (recA x), undef, undef, undef, undef, undef, undef, undef, undef, undef, undef], defers := [] })
    ?ax ?assign ?body ?done ?stop
  case ax =>
    rintro ⟨x, a⟩ X Y row ⟨b, hb, ha⟩ hg hr
    refine ⟨b, (hg.block _ (Array.getElem?_eq_some_iff.1 hb).1 (fun e => ?_)).trans hb, ha⟩
    obtain ⟨_, o, ho, hn⟩ := hr b e.symm
    rw [hb] at ho; cases ho; cases hn
  case assign =>
    rintro l' pre x V hV hc
    have HV := Hd.mk hV
    clear hV hc
    dsimp only [encR, recA]
    gi_wp2
    have hle : w.heap.size ≤ V.heap.size := HV.out.below.size
    have hbV : Below V.heap.size V (V.alloc (.cells (recA x) 33)) := below_alloc (Below.refl _ _) _
    exact ⟨(KeepsOthers.alloc V _).from _, Kp.of hbV hle, HV.out.new hbV, V.heap.size, heap_alloc_new V _, rfl⟩
  case body =>
    rintro l' pre x a V hV hc ⟨b, hb, rfl⟩
    obtain ⟨v, hv, hrow, hnil⟩ := hV.box
    obtain ⟨A', c', rfl⟩ : ∃ A' c', v = .slice A' pre.length c' := by
      rcases hrow.2 with ⟨e1, e2⟩ | ⟨g, cp, cu, e1, _⟩
      · exact ⟨none, 0, by rw [e1, e2]⟩
      · exact ⟨_, _, e1⟩
    have hlen : (pre.length : Int) ≤ most := by
      obtain ⟨post, hp⟩ := hc
      rw [hp] at hm
      simp only [List.length_append, List.length_cons] at hm
      omega
    have q1 : decide (most < (pre.length : Int)) = false := decide_eq_false (by omega)
    obtain ⟨c0, f0⟩ := box_cell hv
    obtain ⟨r0, r1, r2, _, _, _⟩ := rec_cells hb
    have c5 := (box_cell hV.c5).1
    obtain ⟨i1, hi1, hy0, hy1, hy2⟩ := inf_parts info41
    have HV := Hd.mk hV
    have HR := Hd.mk hrow
    have Hv := Hd.mk hv
    have HL := Hd.mk hlen
    have hvl := (Array.getElem?_eq_some_iff.1 hv).1
    clear hV hrow hv hnil hc hb hlen hm
    gi_wp2
    gi_region_with (first
      | ((with_reducible refine CallsIn.mono (CallsIn.inRound l' (callsIn_wide.2 (postchaiselaw07_Back.calls x.f0 x.f1 x.f2 x.f0 x.f1 x.f2 _ rfl))) ?_); rintro e w3 ⟨rfl, hb3⟩; have HB3 : Hd (Below V.heap.size V w3) := ⟨all_x (by repeat (first | (with_reducible exact Below.refl _ _) | apply below_alloc | apply below_drew1 | apply pw_below_drewN)) hb3⟩; clear hb3
         obtain ⟨c3, f3⟩ := box_cell ((HB3.out.block _ hvl).trans Hv.out)
         have hvl3 : w.heap.size + 6 < w3.heap.size := Nat.lt_of_lt_of_le hvl HB3.out.size
         obtain ⟨g6, c6, w6, hrun, HO6, HG6⟩ := app22_run (w3.alloc (.cells #[.int .u32 x.f0, .int .u8 x.f1, .string x.f2] 41)) 22 (w.heap.size + 7) A' pre.length c' (recc pre) (all_row HR HB3 hvl3) w3.heap.size x (heap_alloc_new w3 _) (by have := HL.out; omega) (by simp; omega)
         obtain ⟨c7, f7⟩ := box_cell (all_box HR Hv HB3 HG6))
      | fail)
    all_goals gi_wp2
    all_goals exact hz1 ▸ all_step HV HR Hv HB3 HO6 HG6
  case done =>
    rintro D xs V rfl rfl hV hD
    obtain ⟨v, hv, hrow, hnil⟩ := hV.box
    obtain ⟨A', c', rfl⟩ : ∃ A' c', v = .slice A' (recsOf (vis N h root)).length c' := by
      rcases hrow.2 with ⟨e1, e2⟩ | ⟨g, cp, cu, e1, _⟩
      · exact ⟨none, 0, by rw [e1, e2]⟩
      · exact ⟨_, _, e1⟩
    obtain ⟨c9, f9⟩ : V.cell? ⟨w.heap.size + 1 + 1 + 1 + 1 + 1 + 1, 0, none⟩ = _ ∧ V.frozen? ⟨w.heap.size + 1 + 1 + 1 + 1 + 1 + 1, 0, none⟩ = _ := box_cell hv
    obtain ⟨c6, f6⟩ : V.cell? ⟨w.heap.size + 1 + 1, 0, none⟩ = _ ∧ V.frozen? ⟨w.heap.size + 1 + 1, 0, none⟩ = _ := box_cell hV.c6
    obtain ⟨c7, f7⟩ : V.cell? ⟨w.heap.size + 1 + 1 + 1, 0, none⟩ = _ ∧ V.frozen? ⟨w.heap.size + 1 + 1 + 1, 0, none⟩ = _ := box_cell hV.c7
    have HV := Hd.mk hV
    have HR := Hd.mk hrow
    have HD := Hd.mk hD
    clear hV hrow hv hnil hD
    gi_wp2
    obtain ⟨hDX, h6, h7, hR, hB⟩ := all_end HV HR HD hz1
    refine ⟨by simp, .inl ⟨_, _, rfl, run_takeDeferred hDX, ?_⟩⟩
    exact ⟨_, results_2 rfl _ _ _ _ _ _ rfl rfl (ld_sl h6) (ld_bl h7), _, rfl, ⟨hR, hB⟩⟩
  case stop =>
    rintro D c pre V rfl - hF hD
    exact hF.elim
end Go.Proofs.Ytkcnakaneiocjaa.PTr
