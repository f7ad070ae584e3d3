/- Trees: the document's nodes in memory. No condition but those that each lemma bears. -/
import Derived.Test.YtkcnakaneiocjaaTrBuildP
import Derived.Deep.MidRow
import Derived.Maps.AppendAt
set_option linter.unusedVariables false
set_option linter.unusedSimpArgs false
namespace Go.Proofs.Ytkcnakaneiocjaa.PTr
open Go.RowKit Go.Proofs.YtkcnakaneiocjaaW.PrintWords Go.Proofs.YtkcnakaneiocjaaW.PrintLast Go.Proofs.YtkcnakaneiocjaaW.PrintMore
def rcells (n : Rn) : List Value := [.bool n.leaf, .int .i64 n.cnt, .int .i64 (n.kid 0), .int .i64 (n.kid 1), .int .i64 (n.kid 2), .int .i64 (n.kid 3), .int .i64 (n.kid 4), .int .i64 (n.kid 5), .int .i64 (n.kid 6), .int .i64 (n.kid 7), .int .i64 (n.kid 8), .int .i64 (n.kid 9), .int .i64 (n.kid 10), .int .i64 (n.kid 11), .int .i64 (n.kid 12), .int .i64 (n.kid 13), .int .i64 (n.kid 14), .int .i64 (n.kid 15), .int .u32 n.rc.f0, .int .u8 n.rc.f1, .string n.rc.f2]
def rArr (n : Rn) : Array Value := (rcells n).toArray
theorem rarr_size (n : Rn) : (rArr n).size = 21 := rfl
theorem rcells_len (n : Rn) : (rcells n).length = 21 := rfl
theorem rcells_one (n : Rn) : ∀ u ∈ rcells n, u.oneCell' = true := by unfold rcells; simp [Value.oneCell']
theorem rarr_one (n : Rn) : (rArr n).all (·.oneCell') = true := by unfold rArr rcells; simp [Value.oneCell']
def rowc (L : List Rn) : List Value := L.flatMap rcells
theorem rowc_append (L M : List Rn) : rowc (L ++ M) = rowc L ++ rowc M := by unfold rowc; rw [List.flatMap_append]
theorem rowc_one (n : Rn) : rowc [n] = rcells n := by unfold rowc; simp
theorem rowc_len : ∀ (L : List Rn), (rowc L).length = L.length * 21
  | [] => rfl
  | n :: L => by
    show (rcells n ++ rowc L).length = _
    rw [List.length_append, rcells_len, rowc_len L, List.length_cons]
    omega
theorem info71 : (Try.prog.info? 71).map (fun i => (i.zero, i.size, i.bytes)) = some (some (.agg (rArr ⟨false, 0, fun _ => 0, rc0⟩)), 21, 168) := by kernel_rfl
theorem info41 : (Try.prog.info? 41).map (fun i => (i.zero, i.size, i.bytes)) = some (some (.agg #[.int .u32 0, .int .u8 0, .string ⟨#[]⟩]), 3, 24) := by kernel_rfl
theorem size71 : (Try.prog.info? 71).map (·.size) = some 21 := by kernel_rfl
theorem inf_parts {t : TypeId} {z : Value} {n k : Nat} (h : (Try.prog.info? t).map (fun i => (i.zero, i.size, i.bytes)) = some (some z, n, k)) : ∃ i, Try.prog.info? t = some i ∧ i.zero = some z ∧ i.size = n ∧ i.bytes = k := by
  cases hi : Try.prog.info? t with
  | none => rw [hi] at h; cases h
  | some i => rw [hi] at h; simp only [Option.map_some, Option.some.injEq, Prod.mk.injEq] at h; exact ⟨i, rfl, h.1, h.2.1, h.2.2⟩
theorem wp_st71 {ops : Array Oper} {rest : List Oper} {o : Oper} {a : Act} {w : World} {Q : Exit → Act → World → Prop} (hgd : o.guard = none) (x y : Operand) (ho : o.op = .store 71 x y)
    (Z cs : Array Value) (hx : a.eval x = .pointer (some ⟨w.heap.size, 0, none⟩)) (hy : a.eval y = .agg cs) (hZ : Z.size = 21) (hc : cs.size = 21) (h1 : cs.all (·.oneCell') = true)
    (h : wpList Try.prog ops Q rest (a.put o.dst undef) (w.alloc (.cells cs 71))) : wpList Try.prog ops Q (o :: rest) a (w.alloc (.cells Z 71)) :=
  wpList_store_row hgd 71 x y ho w.heap.size cs hx hy 71 Z (heap_alloc_new w _) (by rw [hc]; exact size71) (by omega) h1 (by rw [setRow_alloc]; exact h)
theorem wp_ld71 {ops : Array Oper} {rest : List Oper} {o : Oper} {a : Act} {w : World} {Q : Exit → Act → World → Prop} (hgd : o.guard = none) (x : Operand) (ho : o.op = .load 71 x)
    (g : Nat) (n : Rn) (hx : a.eval x = .pointer (some ⟨g, 0, none⟩)) (hg : w.heap[g]? = some (.cells (rArr n) 71 (0, 0)))
    (h : wpList Try.prog ops Q rest (a.put o.dst (.agg (rArr n))) w) : wpList Try.prog ops Q (o :: rest) a w :=
  wpList_load_row hgd 71 x ho g hx 71 (rArr n) (0, 0) _ hg Try.underlying71 rfl (by rw [rarr_size]; exact size71) h
/-- Cells of a row of one's own are written. -/
def setSeg (xs : List Value) (o : Nat) : List Value → List Value
  | [] => xs
  | v :: vs => setSeg (xs.set o v) (o + 1) vs
theorem own_setCells {base : Nat} {e : TypeId} {sz g n cap : Nat} : ∀ (vs : List Value) (o : Nat) (w : World) (xs : List Value), w.ownsRow base e sz (.slice (some ⟨g, 0, none⟩) n cap) n xs → (w.setCells g o vs).ownsRow base e sz (.slice (some ⟨g, 0, none⟩) n cap) n (setSeg xs o vs) ∧ w.grownBy (w.setCells g o vs) (some g)
  | [], o, w, xs, h => ⟨h, ⟨rfl, rfl, rfl, Nat.le_refl _, fun _ _ _ => rfl⟩⟩
  | v :: vs, o, w, xs, h => by
    obtain ⟨h1, h2⟩ := h.stored o v
    obtain ⟨h3, h4⟩ := own_setCells vs (o + 1) _ _ h1
    exact ⟨h3, ⟨h4.os.trans h2.os, h4.tape.trans h2.tape, h4.output.trans h2.output, Nat.le_trans h2.size h4.size, fun k hk hn => (h4.block k (Nat.lt_of_lt_of_le hk h2.size) hn).trans (h2.block k hk hn)⟩⟩
theorem setSeg_eq : ∀ (vs a b c : List Value), b.length = vs.length → setSeg (a ++ (b ++ c)) a.length vs = a ++ (vs ++ c)
  | [], a, [], c, _ => rfl
  | v :: vs, a, x :: b, c, h => by
    show setSeg ((a ++ (x :: b ++ c)).set a.length v) (a.length + 1) vs = _
    have e : (a ++ (x :: b ++ c)).set a.length v = (a ++ [v]) ++ (b ++ c) := by
      rw [List.set_append_right _ _ (Nat.le_refl _), Nat.sub_self]
      simp
    rw [e, show a.length + 1 = (a ++ [v]).length by simp, setSeg_eq vs (a ++ [v]) b c (by simpa using h)]
    simp
theorem row_put (pre post : List Rn) (x y : Rn) : setSeg (rowc (pre ++ x :: post)) (pre.length * 21) (rcells y) = rowc (pre ++ y :: post) := by
  have e : ∀ z : Rn, rowc (pre ++ z :: post) = rowc pre ++ (rcells z ++ rowc post) := fun z => by
    rw [rowc_append]; rfl
  rw [e, e, ← rowc_len pre]
  exact setSeg_eq (rcells y) (rowc pre) (rcells x) (rowc post) rfl
end Go.Proofs.Ytkcnakaneiocjaa.PTr
