/- Trees: nodes, a shelf of them in memory, what stands in a slot. No condition but those that each contract bears. -/
import Derived.Test.YtkcnakaneiocjaaQTr2
import Derived.Test.YtkcnakaneiocjaaOpen
import Derived.Laws.Tables
import Derived.Laws.Rows
import Derived.Laws.ResultCell
set_option linter.unusedVariables false
set_option linter.unusedSimpArgs false
namespace Go.Proofs.Ytkcnakaneiocjaa.PTr
open Go.RowKit Go.Proofs.YtkcnakaneiocjaaW.PrintWords Go.Proofs.YtkcnakaneiocjaaW.PrintLast Go.Proofs.YtkcnakaneiocjaaW.PrintMore
/-- A node of the program's. -/
structure Nd where
  kind : Int
  cnt : Int
  kid : Nat → Int
  rc : S41
def Nd.zero : Nd := ⟨0, 0, fun _ => 0, ⟨0, 0, ⟨#[]⟩⟩⟩
def ncells (n : Nd) : List Value := [.int .u8 n.kind, .int .i64 n.cnt, .int .i64 (n.kid 0), .int .i64 (n.kid 1), .int .i64 (n.kid 2), .int .i64 (n.kid 3), .int .i64 (n.kid 4), .int .i64 (n.kid 5), .int .i64 (n.kid 6), .int .i64 (n.kid 7), .int .i64 (n.kid 8), .int .i64 (n.kid 9), .int .i64 (n.kid 10), .int .i64 (n.kid 11), .int .i64 (n.kid 12), .int .i64 (n.kid 13), .int .i64 (n.kid 14), .int .i64 (n.kid 15), .int .u32 n.rc.f0, .int .u8 n.rc.f1, .string n.rc.f2, .int .i64 0, .int .i64 0, .int .u32 0, .int .u32 0, .int .u64 0]
def nArr (n : Nd) : Array Value := (ncells n).toArray
/-- Nodes in memory, in a row that is read. -/
structure ShAt (A : Option Addr) (N : List Nd) (W : World) : Prop where
  cell : 0 < N.length → ∃ g o, A = some ⟨g, o, none⟩ ∧ g < W.heap.size ∧ ∀ i (hi : i < N.length) j u, (ncells N[i])[j]? = some u → W.cell? ⟨g, o + i * 26 + j, none⟩ = some u
theorem ShAt.on {A : Option Addr} {N : List Nd} {W X : World} (h : ShAt A N W) (hb : Below W.heap.size W X) : ShAt A N X := ⟨fun hn => by
  obtain ⟨g, o, h1, h2, h3⟩ := h.cell hn
  exact ⟨g, o, h1, Nat.lt_of_lt_of_le h2 hb.size, fun i hi j u hu => (hb.cell (p := ⟨g, o + i * 26 + j, none⟩) h2).trans (h3 i hi j u hu)⟩⟩
def atN (N : List Nd) (slot : Int) : Nd × Bool := if 0 ≤ slot then (match N[slot.toNat]? with
  | some n => if n.kind = 0 then (Nd.zero, false) else (n, true)
  | none => (Nd.zero, false)) else (Nd.zero, false)
theorem narr_size (n : Nd) : (nArr n).size = 26 := rfl
theorem narr_one (n : Nd) : (nArr n).all (·.oneCell') = true := by unfold nArr ncells; simp [Value.oneCell']
theorem info60 : (Try.prog.info? 60).map (·.size) = some 26 := by kernel_rfl
theorem setRow_alloc (w : World) (Z cs : Array Value) (t : TypeId) : (w.alloc (.cells Z t)).setRow w.heap.size cs = w.alloc (.cells cs t) := by
  unfold World.setRow World.alloc
  congr 1
  apply Array.ext
  · simp
  · intro i h1 h2
    simp only [Array.getElem_modify, Array.getElem_push]
    by_cases h : w.heap.size = i
    · subst h
      simp
    · have hi : i < w.heap.size := by simp at h1; omega
      simp [h, hi]
/-- A new variable of nodes is written whole. -/
theorem st60 (w : World) (Z cs : Array Value) (hZ : Z.size = 26) (hc : cs.size = 26) (h1 : cs.all (·.oneCell') = true) : (storeVar 60 ⟨w.heap.size, 0, none⟩ (.agg cs)).run Try.prog (w.alloc (.cells Z 60)) = .ok () (w.alloc (.cells cs 60)) := by
  have := run_storeVar_row (P := Try.prog) (w.alloc (.cells Z 60)) w.heap.size 60 60 Z cs (heap_alloc_new w _) (by rw [hc]; exact info60) (by omega) h1
  rw [this, setRow_alloc]
/-- A node is read whole. -/
theorem ld60 (X : World) (g o : Nat) (cs : Array Value) (hc : cs.size = 26) (h : ∀ j u, cs[j]? = some u → X.cell? ⟨g, o + j, none⟩ = some u) : (loadVar 60 ⟨g, o, none⟩).run Try.prog X = .ok (.agg cs) X := by
  have hl : (loadCells ⟨g, o, none⟩ cs.toList.length).run Try.prog X = .ok cs.toList.toArray X :=
    run_loadCells_list (P := Try.prog) X ⟨g, o, none⟩ cs.toList (fun j v hv => by
      have hadd : (⟨g, o, none⟩ : Addr).add j = ⟨g, o + j, none⟩ := by unfold Addr.add; split <;> simp_all
      rw [hadd]
      exact h j v (by simpa using hv))
  have hi := info60
  cases hq : Try.prog.info? 60 with
  | none => rw [hq] at hi; cases hi
  | some i =>
    have hs : i.size = cs.size := by rw [hq] at hi; simp at hi; omega
    have hagg : (isAgg 60).run Try.prog X = .ok true X := by
      unfold isAgg
      rw [Sem.run_bind, run_underlying Try.underlying60 X]
      rfl
    simp only [Array.length_toList, Array.toArray_toList] at hl
    simp [loadVar, Sem.run_bind, hagg, sizeOf, typeInfo, hq, hs, hl]
theorem res_node {fn : Func} {p u : Tmp} (h : fn.results = #[.cell p 60, .tmp u]) (tmps : Array Value) (w : World) (g : Nat) (cs : Array Value) (bb : Bool) (hc : cs.size = 26) (hp : tmps.getD p undef = .pointer (some ⟨g, 0, none⟩)) (hu : tmps.getD u undef = .bool bb)
    (hg : w.heap[g]? = some (.cells cs 60 (0, 0))) : (results fn tmps).run Try.prog w = .ok (.tuple #[.agg cs, .bool bb]) w := by
  have hl := ld60 w g 0 cs hc (fun j u hj => by rw [Nat.zero_add, World.cell?, hg]; exact hj)
  rw [results_cell_tmp h, hp, hu]
  simp [asAddr, Result.andThen, hl, Sem.run_pure]
theorem gate_store {P : Program} {ops : Array Oper} {Q : Exit → Act → World → Prop} {o : Oper} {rest : List Oper} {a : Act} {w : World} {t : TypeId} {x y : Operand} (_ : o.op = .store t x y) (h : wpList P ops Q (o :: rest) a w) : wpList P ops Q (o :: rest) a w := h
theorem gate_load {P : Program} {ops : Array Oper} {Q : Exit → Act → World → Prop} {o : Oper} {rest : List Oper} {a : Act} {w : World} {t : TypeId} {x : Operand} (_ : o.op = .load t x) (h : wpList P ops Q (o :: rest) a w) : wpList P ops Q (o :: rest) a w := h
/-- A new variable of nodes is written whole: at the operation. -/
theorem wp_st60 {ops : Array Oper} {rest : List Oper} {o : Oper} {a : Act} {w : World} {Q : Exit → Act → World → Prop} (hgd : o.guard = none) (x y : Operand) (ho : o.op = .store 60 x y)
    (Z cs : Array Value) (hx : a.eval x = .pointer (some ⟨w.heap.size, 0, none⟩)) (hy : a.eval y = .agg cs) (hZ : Z.size = 26) (hc : cs.size = 26) (h1 : cs.all (·.oneCell') = true)
    (h : wpList Try.prog ops Q rest (a.put o.dst undef) (w.alloc (.cells cs 60))) : wpList Try.prog ops Q (o :: rest) a (w.alloc (.cells Z 60)) :=
  wpList_store_row hgd 60 x y ho w.heap.size cs hx hy 60 Z (heap_alloc_new w _) (by rw [hc]; exact info60) (by omega) h1 (by rw [setRow_alloc]; exact h)
theorem wp_ld60 {ops : Array Oper} {rest : List Oper} {o : Oper} {a : Act} {w : World} {Q : Exit → Act → World → Prop} (hgd : o.guard = none) (x : Operand) (ho : o.op = .load 60 x)
    (g f : Nat) (cs : Array Value) (hx : a.eval x = .pointer (some ⟨g, f, none⟩)) (hc : cs.size = 26) (hcell : ∀ j u, cs[j]? = some u → w.cell? ⟨g, f + j, none⟩ = some u)
    (h : wpList Try.prog ops Q rest (a.put o.dst (.agg cs)) w) : wpList Try.prog ops Q (o :: rest) a w :=
  wpList_plain hgd fun _ hK => by
    have hr := ld60 w g f cs hc hcell
    unfold Oper.wp execOp
    simp only [ho, hx, Instr.loadAt, Instr.sureAddr, Sem.run_bind, Sem.run_pure, Result.andThen_ok, hr]
    exact hK _ _ h
theorem method_at (n : Nat) (v : Value) (W : World) : (method (n + 1) 25 v "At").run Try.prog W = .ok (48, v) W := by kernel_rfl
end Go.Proofs.Ytkcnakaneiocjaa.PTr
