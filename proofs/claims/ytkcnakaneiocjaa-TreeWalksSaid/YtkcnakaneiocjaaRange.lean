/- A range over a function whose body changes what the iterator reads: the iterator may use the caller's invariant (a law of this session's own over the kit's wpIn_rangeFunc, roundIn_of_wpIn); and the marks that many such loops leave. General: no program in sight. -/
import Derived.RangeFuncNested
import Derived.RangeFuncLeaves
import Derived.Test.YtkcnakaneiocjaaTouch
set_option linter.unusedVariables false
set_option linter.unusedSimpArgs false
namespace Go.Proofs.Ytkcnakaneiocjaa
open Go.RowKit
/-- The body goes on, at xs. -/
def onward {α : Type} (B : Nat) (I : List α → World → Prop) (xs : List α) (W : World) : Exit → Act → World → Prop
  | .normal, _, W' => KeepsFrom B W W' ∧ I xs W'
  | _, _, _ => False
/-- The iterator's word: it hears the caller's invariant I, hands over what 'Can' allows, and ends at some xs of S. -/
def SeqHears {α : Type} (F : Fence) (n : Nat) (P : Program) (g : Nat) (lb : Array Value) (encs : α → Array Value) (I : List α → World → Prop) (Can : List α → α → Prop) (S : List α → Prop) : Prop :=
  ∀ (l : Nat) (J : List α → World → Prop) (W : World), (∀ pre W, J pre W → I pre W) → J [] W →
    (∀ pre x W1, J pre W1 → Can pre x → YieldAt F (n - 1) P l (encs x) W1 fun e W' => e = .returned (.bool true) ∧ J (pre ++ [x]) W') →
    CallsIn F n P g (#[.func (.yield l) #[] #[]] ++ lb) W fun e W' => (∃ v, e = .returned v) ∧ ∃ xs, S xs ∧ J xs W'
variable {F : Fence} {n : Nat} {P : Program}
theorem wpIn_rangeFunc_hears {α : Type} {g : Operand} {ps : Array Tmp} {assign body : Code} {Q : Exit → Act → World → Prop} {a : Act} {w : World}
    (hro : F.round = none) (h1 : 1 ≤ n) {gf : Nat} {lb : Array Value} (hg : a.eval g = .func (.func gf) #[] lb) (hFg : F.fn gf) (eg : ∀ args w, (callFunc gf args).run P w = .ok (.enter gf args) w)
    {encs : α → Array Value} (I : List α → World → Prop) (Can : List α → α → Prop) (S : List α → Prop) (hseq : SeqHears F (n - 1) P gf lb encs I Can S) (hps : ∀ x, (encs x).size = ps.size)
    (hI : OwnFrom w.heap.size I) (h0 : I [] w) (a₁ : α → Act)
    (hassign : ∀ (l : Nat) (x : α) (W : World) (K : Act → World → Prop), K (a₁ x) W →
      assign.wpIn (F.inRound l) (n - 1 - 1) P (Exit.then K (fun _ _ _ => False)) { tmps := (ps.zip (encs x)).foldl (fun t (p, v) => t.setIfInBounds p v) a.tmps, defers := [] } W)
    (hbody : ∀ (l : Nat) (pre : List α) (x : α) (W : World), I pre W → Can pre x → body.wpIn (F.inRound l) (n - 1 - 1) P (onward w.heap.size I (pre ++ [x]) W) (a₁ x) W)
    (hdone : ∀ (D : Nat) (xs : List α) (W : World), D = w.heap.size → S xs → I xs W → W.heap[D]? = some (.deferred (some [])) → Q .normal { a with defers := { target := .collected D, args := #[] } :: a.defers } W) :
    (Code.rangeFunc g ps assign body).wpIn F n P Q a w := by
  refine wpIn_rangeFunc fun fn hfn => ?_
  rw [hro]
  let rec' : LoopState → Option Code → Loop := fun st pe => { state := st, pending := pe, fn, tmps := a.tmps, params := ps, assign, body, defers := w.heap.size }
  obtain ⟨rec, hrec⟩ : ∃ rec, rec = rec' := ⟨_, rfl⟩
  obtain ⟨W1, hW1⟩ : ∃ W1, W1 = (w.alloc (.deferred (some []))).alloc (.loop (rec .ready none)) := ⟨_, rfl⟩
  have hz : W1.heap.size = w.heap.size + 2 := by rw [hW1]; simp
  have hL : W1.heap[w.heap.size + 1]? = some (.loop (rec .ready none)) := by
    have := World.alloc_heap_new (w.alloc (.deferred (some []))) (.loop (rec .ready none))
    rw [World.size_alloc] at this; rw [hW1]; exact this
  have hD : W1.heap[w.heap.size]? = some (.deferred (some [])) := by
    rw [hW1]; exact (Below.heap_alloc _ _ _ (by simp)).trans (World.alloc_heap_new w _)
  have hI1 : I [] W1 := by rw [hW1]; exact hI.alloc _ (hI.alloc _ h0)
  refine ⟨w.heap.size + 1, [{ target := .collected w.heap.size, args := #[] }], W1, { target := .fn (.func gf) lb, args := #[.func (.yield (w.heap.size + 1)) #[] #[]] }, W1, gf,
    #[.func (.yield (w.heap.size + 1)) #[] #[]] ++ lb, W1, ?_, ?_, ?_, ?_, fun _ => h1, ?_⟩
  · rw [hW1, hrec]; exact run_enterLoop_outer _ _ _ _ _
  · simp only [resolve, hg]
    simp [go_sem]
  · intro f' hf'; simp [Target.leads] at hf'; subst hf'; exact hFg
  · simp [invoke, go_sem, eg]
  refine (hseq (w.heap.size + 1) (fun pre W => I pre W ∧ W.heap[w.heap.size + 1]? = some (.loop (rec .ready none)) ∧ W.heap[w.heap.size]? = some (.deferred (some []))) W1 (fun _ _ h => h.1) ⟨hI1, hL, hD⟩ ?_).mono ?_
  · rintro pre x W ⟨hi, hl, hk⟩ hc
    have hlt : w.heap.size + 1 < W.heap.size := (Array.getElem?_eq_some_iff.1 hl).1
    have hy := run_yield (P := P) (args := encs x) hl (by rw [hrec]; exact hps x)
    rw [hrec] at hy
    refine ⟨fn, _, assign, body, hy, roundIn_of_wpIn hfn (hassign _ x W _ ⟨_, run_beginRound hl (by rw [hrec]), ?_⟩)⟩
    have hl2 : (W.putObj (w.heap.size + 1) (.loop { rec .ready none with state := .busy })).heap[w.heap.size + 1]? = some (.loop { rec .ready none with state := .busy }) := World.putObj_heap_same hlt
    have hk2 : (W.putObj (w.heap.size + 1) (.loop { rec .ready none with state := .busy })).heap[w.heap.size]? = some (.deferred (some [])) := (World.putObj_heap_other (by omega)).trans hk
    refine wpIn_mono (hbody _ pre x _ (hI.putObj _ hi (by omega) hl rfl) hc) ?_
    rintro e a3 W3 hp
    cases e with
    | normal =>
      obtain ⟨hk3, hi3⟩ := hp
      have hl3 := hk3.same _ _ (by omega) hl2 rfl
      have hr := run_endRound (P := P) none hl3
      have hl4 : (W3.putObj (w.heap.size + 1) (.loop (rec .ready none))).heap[w.heap.size + 1]? = some (.loop (rec .ready none)) := World.putObj_heap_same (Array.getElem?_eq_some_iff.1 hl3).1
      refine ⟨_, _, hr, rfl, ?_⟩
      rw [hrec] at hl4 ⊢
      exact ⟨hI.putObj _ hi3 (by omega) hl3 rfl, hl4, (World.putObj_heap_other (by omega)).trans (hk3.same _ _ (Nat.le_refl _) hk2 rfl)⟩
    | ret => exact hp.elim
    | exit id => exact hp.elim
    | goto t => exact hp.elim
    | panic ch => exact hp.elim
    | outgrown => exact hp.elim
  · rintro e W2 ⟨⟨v, rfl⟩, xs, hS, hi, hl, hk⟩
    have := run_endLoop (P := P) hl (by rw [hrec]; simp [rec'])
    rw [hrec] at this
    exact ⟨none, _, this, hdone _ xs _ rfl hS (hI.putObj _ hi (by omega) hl rfl) ((World.putObj_heap_other (by omega)).trans hk)⟩
/-- The marks of loops that are over: blocks at or beyond B, each but once, each with no call in it. -/
structure Marks (B : Nat) (W : World) (ds : List Deferred) : Prop where
  each : ∀ d, d ∈ ds → ∃ D, d = { target := .collected D, args := #[] } ∧ B ≤ D ∧ W.heap[D]? = some (.deferred (some []))
  once : ds.Pairwise (fun d e => d.target ≠ e.target)
theorem Marks.nil (B : Nat) (W : World) : Marks B W [] := ⟨fun _ h => absurd h (List.not_mem_nil), List.Pairwise.nil⟩
/-- No cell has turned, and of what lay below B nothing. -/
structure Shut (B : Nat) (W W' : World) : Prop where
  touch : Touch (fun k => B ≤ k) W W'
  cells : ∀ (k : Nat) (c : Array Value) (t : TypeId) (f : Nat × Nat), W.heap[k]? = some (Obj.cells c t f) → W'.heap[k]? = some (Obj.cells c t f)
theorem Shut.refl (B : Nat) (W : World) : Shut B W W := ⟨Touch.refl _ _, fun _ _ _ _ h => h⟩
theorem Shut.put {B : Nat} {W W' : World} {D : Nat} {o : Obj} (o' : Obj) (h : Shut B (W.putObj D o') W') (hB : B ≤ D) (hD : W.heap[D]? = some o) (ho : o.isCells = false) : Shut B W W' := by
  have g := grownBy_putObj' W D o'
  refine ⟨Touch.step (T := fun k => B ≤ k) ⟨g.os, g.tape, g.output, g.size, fun k hk hs => g.block k hk (fun e => hs (by cases e; exact hB))⟩ h.touch (fun _ _ e => e), fun k c t f hk => h.cells k c t f ?_⟩
  refine (World.putObj_heap_other (fun e => ?_)).trans hk
  subst e
  rw [hD] at hk
  cases hk
  cases ho
/-- A function that ends with such marks ends as one without. -/
theorem leaves_marks {fn : Func} {tmps : Array Value} {R : Ending → World → Prop} {B : Nat} : ∀ (ds : List Deferred) (W : World), Marks B W ds →
    (∀ W', Shut B W W' → ∃ v, (results fn tmps).run P W' = .ok v W' ∧ R (.returned v) W') → LeavesInM F n P fn tmps R ds .returning W := by
  intro ds
  induction ds with
  | nil => intro W _ hR; exact hR W (Shut.refl _ _)
  | cons d ds ih =>
    intro W hm hR
    obtain ⟨D, rfl, hB, hD⟩ := hm.each d List.mem_cons_self
    have hp := List.pairwise_cons.1 hm.once
    refine ⟨by simp, .inl ⟨D, _, rfl, run_takeDeferred hD, ih _ ⟨fun d hd => ?_, hp.2⟩ fun W' hs => hR W' (hs.put _ hB hD rfl)⟩⟩
    obtain ⟨D', rfl, hB', hD'⟩ := hm.each d (List.mem_cons_of_mem _ hd)
    exact ⟨D', rfl, hB', (World.putObj_heap_other (fun e => hp.1 _ hd (by rw [e]))).trans hD'⟩
end Go.Proofs.Ytkcnakaneiocjaa
