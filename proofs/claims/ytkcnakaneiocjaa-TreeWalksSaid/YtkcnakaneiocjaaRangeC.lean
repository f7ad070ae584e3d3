/- A range over a function whose rounds know what may come next, and keep a relation Kp of the iterator's choice: the law. General, no program in sight. No condition but those that it bears. -/
import Derived.Test.YtkcnakaneiocjaaTouch
import Derived.RangeFuncNested
import Derived.RangeFuncBound
import Derived.RangeFuncCalls
import Derived.RangeFuncLeaves
import Derived.Shelf.Abstract
import Derived.Shelf.RegionOpen
import Derived.WalkKit
import Derived.OwnWalkIn
import Derived.TacticsInMore
import Derived.LoopNIn
import Derived.LoopIn
set_option linter.unusedVariables false
set_option linter.unusedSimpArgs false
namespace Go.Proofs.Ytkcnakaneiocjaa
open Go.RowKit Go.Shelf
/-- The iterator's word: it begins where St holds; a round comes where Can lets it, and keeps Kp; what the caller keeps (J, Jx) abides new blocks and draws. -/
def SeqCan {α : Type} (F : Fence) (n : Nat) (P : Program) (g : Nat) (lb : Array Value) (encs : α → Array Value) (Kp : World → World → Prop) (St : World → Prop) (Can : List α → α → Prop) (S Sp : List α → Prop) : Prop :=
  ∀ (l : Nat) (J Jx : List α → World → Prop) (W : World), (∀ pre A B, J pre A → Touch (fun _ => False) A B → J pre B) → (∀ pre A B, Jx pre A → Touch (fun _ => False) A B → Jx pre B) → OwnFrom W.heap.size J → OwnFrom W.heap.size Jx → St W → J [] W →
    (∀ pre x W1, J pre W1 → Can pre x → YieldAt F (n - 1) P l (encs x) W1 fun e W' => (e = .returned (.bool true) ∧ J (pre ++ [x]) W' ∧ Kp W1 W' ∧ KeepsFrom W.heap.size W1 W') ∨ (e = .returned (.bool false) ∧ Jx (pre ++ [x]) W' ∧ KeepsFrom W.heap.size W1 W')) →
    CallsIn F n P g (#[.func (.yield l) #[] #[]] ++ lb) W fun e W' => (∃ v, e = .returned v) ∧ ((∃ xs, S xs ∧ J xs W') ∨ (∃ pre, Sp pre ∧ Jx pre W'))
theorem keepsFrom_up {B B' : Nat} {W W' : World} (h : KeepsFrom B W W') (hb : B ≤ B') : KeepsFrom B' W W' := ⟨h.size, fun k o hk => h.same k o (Nat.le_trans hb hk)⟩
theorem keepsFrom_put {B : Nat} (W : World) {l : Nat} (o : Obj) (hl : l < B) : KeepsFrom B W (W.putObj l o) := ⟨by simp [World.putObj], fun k o' hk ho _ => (World.putObj_heap_other (by omega)).trans ho⟩
theorem ownFrom_up {β : Type} {B B' : Nat} {I : β → World → Prop} (h : OwnFrom B I) (hb : B ≤ B') : OwnFrom B' I := fun s W W' row hs hg hr => h s W W' row hs hg fun r e => ⟨Nat.le_trans hb (hr r e).1, (hr r e).2⟩
def canPost {α : Type} (B : Nat) (Kp : World → World → Prop) (I : List α → World → Prop) (Ix : Code → List α → World → Prop) (xs : List α) (W : World) : Exit → Act → World → Prop
  | .normal, _, W' => KeepsFrom B W W' ∧ Kp W W' ∧ I xs W'
  | .ret, _, W' => KeepsFrom B W W' ∧ Ix .ret xs W'
  | .exit id, _, W' => KeepsFrom B W W' ∧ Ix (.exit id) xs W'
  | .goto t, _, W' => KeepsFrom B W W' ∧ Ix (.goto t) xs W'
  | .panic _, _, _ => False
  | .outgrown, _, _ => False
theorem RoundIn.inRound {F : Fence} {m : Nat} {P : Program} {l : Nat} {f : FuncId} {tmps : Array Value} {assign body : Code} {w : World} {R : Ending → World → Prop} (l' : Nat) (h : RoundIn F m P l f tmps assign body w R) : RoundIn (F.inRound l') m P l f tmps assign body w R := h
theorem room_wideN (k : Nat) : Fence.wide.room k := fun d h => by cases h
theorem RoundIn.anyN {m m' : Nat} {P : Program} {l : Nat} {f : FuncId} {tmps : Array Value} {assign body : Code} {w : World} {R : Ending → World → Prop}
    (h : RoundIn Fence.wide m P l f tmps assign body w R) : RoundIn Fence.wide m' P l f tmps assign body w R := ⟨h.1, fun c cs _ => h.2 c cs (room_wideN _)⟩
theorem YieldAt.anyN {m : Nat} (m' : Nat) {P : Program} {l : Nat} {args : Array Value} {W : World} {R : Ending → World → Prop} (h : YieldAt Fence.wide m P l args W R) : YieldAt Fence.wide m' P l args W R := by
  obtain ⟨fn, tmps, assign, body, hy, hR⟩ := h
  exact ⟨fn, tmps, assign, body, hy, RoundIn.anyN hR⟩
/-- All rows of cells lie as they lay. -/
def SameCells (W X : World) : Prop := X.heap.size = W.heap.size ∧ ∀ (k : Nat) (cs : Array Value) (t : TypeId) (m : Nat × Nat), W.heap[k]? = some (Obj.cells cs t m) → X.heap[k]? = some (Obj.cells cs t m)
theorem sameCells_put (W : World) {l : Nat} {o : Obj} (o' : Obj) (hl : W.heap[l]? = some o) (ho : o.isCells = false) : SameCells W (W.putObj l o') :=
  ⟨by simp [World.putObj], fun k cs t m hk => (World.putObj_heap_other (fun e => by subst e; rw [hl] at hk; cases hk; cases ho)).trans hk⟩
variable {F : Fence} {n : Nat} {P : Program}
theorem wpIn_rangeFunc_can {α : Type} {g : Operand} {ps : Array Tmp} {assign body : Code} {Q : Exit → Act → World → Prop} {a : Act} {w : World}
    (hro : F.round = none) (h1 : 1 ≤ n) {gf : Nat} {lb : Array Value} (hg : a.eval g = .func (.func gf) #[] lb) (hFg : F.fn gf) (eg : ∀ args w, (callFunc gf args).run P w = .ok (.enter gf args) w)
    {encs : α → Array Value} {Kp : World → World → Prop} {St : World → Prop} {Can : List α → α → Prop} {S Sp : List α → Prop} (hseq : SeqCan F (n - 1) P gf lb encs Kp St Can S Sp)
    (hKt : ∀ A B C, Kp A B → Kp B C → Kp A C) (hKb : ∀ (W : World) (l : Nat) (o o' : Obj), w.heap.size ≤ l → W.heap[l]? = some o → o.isCells = false → Kp W (W.putObj l o')) (hSt : ∀ W, Below w.heap.size w W → St W) (hps : ∀ x, (encs x).size = ps.size)
    (I : List α → World → Prop) (Ix : Code → List α → World → Prop) (hI : OwnFrom w.heap.size I) (hIx : ∀ c, OwnFrom w.heap.size (Ix c)) (hIB : ∀ pre A B, I pre A → Touch (fun _ => False) A B → I pre B) (hIxB : ∀ c pre A B, Ix c pre A → Touch (fun _ => False) A B → Ix c pre B) (h0 : I [] w)
    (Ax : α → Act → World → Prop) (hAx : OwnFrom w.heap.size (fun (p : α × Act) => Ax p.1 p.2))
    (hassign : ∀ (l : Nat) (pre : List α) (x : α) (W : World), I pre W → Can pre x →
      assign.wpIn (F.inRound l) (n - 1 - 1) P (Exit.then (fun a1 W1 => KeepsFrom w.heap.size W W1 ∧ Kp W W1 ∧ I pre W1 ∧ Ax x a1 W1) (fun _ _ _ => False)) { tmps := (ps.zip (encs x)).foldl (fun t (p, v) => t.setIfInBounds p v) a.tmps, defers := [] } W)
    (hbody : ∀ (l : Nat) (pre : List α) (x : α) (a1 : Act) (W : World), I pre W → Can pre x → Ax x a1 W → body.wpIn (F.inRound l) (n - 1 - 1) P (canPost w.heap.size Kp I Ix (pre ++ [x]) W) a1 W)
    (hdone : ∀ (D : Nat) (xs : List α) (W : World), D = w.heap.size → S xs → I xs W → W.heap[D]? = some (.deferred (some [])) → Q .normal { a with defers := { target := .collected D, args := #[] } :: a.defers } W)
    (hstop : ∀ (D : Nat) (c : Code) (pre : List α) (W : World), D = w.heap.size → Sp pre → Ix c pre W → W.heap[D]? = some (.deferred (some [])) → c.wpIn F n P Q { a with defers := { target := .collected D, args := #[] } :: a.defers } W) :
    (Code.rangeFunc g ps assign body).wpIn F n P Q a w := by
  refine wpIn_rangeFunc ?_
  intro fn hfn
  rw [hro]
  obtain ⟨rec, hrec⟩ : ∃ rec : LoopState → Option Code → Loop, rec = fun st pe => { state := st, pending := pe, fn, tmps := a.tmps, params := ps, assign, body, defers := w.heap.size } := ⟨_, rfl⟩
  obtain ⟨W1, hW1⟩ : ∃ W1, (w.alloc (.deferred (some []))).alloc (.loop (rec .ready none)) = W1 := ⟨_, rfl⟩
  have hL1 : W1.heap[w.heap.size + 1]? = some (.loop (rec .ready none)) := by
    rw [← hW1]; have := World.alloc_heap_new (w.alloc (.deferred (some []))) (.loop (rec .ready none)); rwa [World.size_alloc] at this
  have hK1 : W1.heap[w.heap.size]? = some (.deferred (some [])) := by
    rw [← hW1]; exact (Below.heap_alloc _ _ _ (by simp)).trans (World.alloc_heap_new w _)
  have hz1 : W1.heap.size = w.heap.size + 2 := by rw [← hW1]; simp
  have hI1 : I [] W1 := by rw [← hW1]; exact hI.alloc _ (hI.alloc _ h0)
  have hb1 : Below w.heap.size w W1 := by
    rw [← hW1]; exact ((Below.refl _ w).alloc (Nat.le_refl _) _).alloc (by simp) _
  refine ⟨w.heap.size + 1, [{ target := .collected w.heap.size, args := #[] }], W1, { target := .fn (.func gf) lb, args := #[.func (.yield (w.heap.size + 1)) #[] #[]] }, W1, gf,
    #[.func (.yield (w.heap.size + 1)) #[] #[]] ++ lb, W1, ?_, ?_, ?_, ?_, fun _ => h1, ?_⟩
  · rw [← hW1, hrec]; exact run_enterLoop_outer _ _ _ _ _
  · simp only [resolve, hg]
    simp [go_sem]
  · intro f' hf'; simp [Target.leads] at hf'; subst hf'; exact hFg
  · simp [invoke, go_sem, eg]
  have lt_of : ∀ {A : World} {k : Nat} {o : Obj}, A.heap[k]? = some o → k < A.heap.size := fun h => (Array.getElem?_eq_some_iff.1 h).1
  refine (hseq (w.heap.size + 1)
    (fun pre W => I pre W ∧ W.heap[w.heap.size + 1]? = some (.loop (rec .ready none)) ∧ W.heap[w.heap.size]? = some (.deferred (some [])))
    (fun pre W => ∃ c, Ix c pre W ∧ W.heap[w.heap.size + 1]? = some (.loop (rec .done (some c))) ∧ W.heap[w.heap.size]? = some (.deferred (some [])))
    W1
    (fun s A B hs ht => ⟨hIB s A B hs.1 ht, (ht.block _ (lt_of hs.2.1) (fun e => e)).trans hs.2.1, (ht.block _ (lt_of hs.2.2) (fun e => e)).trans hs.2.2⟩)
    (fun s A B hs ht => by
      obtain ⟨c, hc, hl, hk⟩ := hs
      exact ⟨c, hIxB c s A B hc ht, (ht.block _ (lt_of hl) (fun e => e)).trans hl, (ht.block _ (lt_of hk) (fun e => e)).trans hk⟩)
    (fun s A B row hs hg hr => ⟨(ownFrom_up hI (by rw [hz1]; omega)) s A B row hs.1 hg hr, (hg.block _ (lt_of hs.2.1) (fun e => by have := (hr _ e.symm).1; omega)).trans hs.2.1, (hg.block _ (lt_of hs.2.2) (fun e => by have := (hr _ e.symm).1; omega)).trans hs.2.2⟩)
    (fun s A B row hs hg hr => by
      obtain ⟨c, hc, hl, hk⟩ := hs
      exact ⟨c, (ownFrom_up (hIx c) (by rw [hz1]; omega)) s A B row hc hg hr, (hg.block _ (lt_of hl) (fun e => by have := (hr _ e.symm).1; omega)).trans hl, (hg.block _ (lt_of hk) (fun e => by have := (hr _ e.symm).1; omega)).trans hk⟩)
    (hSt _ hb1) ⟨hI1, hL1, hK1⟩ ?_).mono ?_
  · rintro pre x W ⟨hi, hl, hk⟩ hcan
    have hlt : w.heap.size + 1 < W.heap.size := lt_of hl
    have hy := run_yield (P := P) (args := encs x) hl (by rw [hrec]; exact hps x)
    rw [hrec] at hy
    refine ⟨fn, _, assign, body, hy, roundIn_of_wpIn hfn (wpIn_mono (hassign _ pre x W hi hcan) ?_)⟩
    rintro e0 a0 V hp0
    cases e0 with
    | ret => exact hp0.elim
    | exit id => exact hp0.elim
    | goto t => exact hp0.elim
    | panic ch => exact hp0.elim
    | outgrown => exact hp0.elim
    | normal =>
    obtain ⟨hkV, hpV, hiV, hax⟩ := hp0
    have hlV : V.heap[w.heap.size + 1]? = some (.loop (rec .ready none)) := hkV.same _ _ (by omega) hl rfl
    have hkkV : V.heap[w.heap.size]? = some (.deferred (some [])) := hkV.same _ _ (Nat.le_refl _) hk rfl
    have hltV : w.heap.size + 1 < V.heap.size := lt_of hlV
    refine ⟨_, run_beginRound hlV (by rw [hrec]), ?_⟩
    have hl2 : (V.putObj (w.heap.size + 1) (.loop { rec .ready none with state := .busy })).heap[w.heap.size + 1]? = some (.loop { rec .ready none with state := .busy }) := World.putObj_heap_same hltV
    have hk2 : (V.putObj (w.heap.size + 1) (.loop { rec .ready none with state := .busy })).heap[w.heap.size]? = some (.deferred (some [])) := (World.putObj_heap_other (by omega)).trans hkkV
    have hw2 : Kp W (V.putObj (w.heap.size + 1) (.loop { rec .ready none with state := .busy })) := hKt _ _ _ hpV (hKb V _ _ _ (by omega) hlV rfl)
    refine wpIn_mono (hbody _ pre x a0 _ (hI.putObj _ hiV (by omega) hlV rfl) hcan (hAx.putObj (s := (x, a0)) _ hax (by omega) hlV rfl)) ?_
    have fin : ∀ (jump : Option Code) (W3 : World), KeepsFrom w.heap.size (V.putObj (w.heap.size + 1) (.loop { rec .ready none with state := .busy })) W3 →
        (Instr.endRound (w.heap.size + 1) jump).run P W3 = .ok (.bool jump.isNone) (W3.putObj (w.heap.size + 1) (.loop (rec (if jump.isNone then .ready else .done) jump))) ∧
        W3.heap[w.heap.size + 1]? = some (.loop { rec .ready none with state := .busy }) ∧
        (W3.putObj (w.heap.size + 1) (.loop (rec (if jump.isNone then .ready else .done) jump))).heap[w.heap.size + 1]? = some (.loop (rec (if jump.isNone then .ready else .done) jump)) ∧
        (W3.putObj (w.heap.size + 1) (.loop (rec (if jump.isNone then .ready else .done) jump))).heap[w.heap.size]? = some (.deferred (some [])) := fun jump W3 hk3 => by
      have hl3 := hk3.same _ _ (by omega) hl2 rfl
      have := run_endRound (P := P) jump hl3
      rw [hrec] at this ⊢
      exact ⟨this, by rw [hrec] at hl3; exact hl3, World.putObj_heap_same (Array.getElem?_eq_some_iff.1 hl3).1, (World.putObj_heap_other (by omega)).trans (hk3.same _ _ (Nat.le_refl _) hk2 rfl)⟩
    have kf : ∀ (o : Obj) (W3 : World), KeepsFrom w.heap.size (V.putObj (w.heap.size + 1) (.loop { rec .ready none with state := .busy })) W3 → KeepsFrom W1.heap.size W (W3.putObj (w.heap.size + 1) o) := fun o W3 hk3 =>
      (((keepsFrom_up hkV (by omega)).trans (keepsFrom_put V _ (by omega))).trans (keepsFrom_up hk3 (by omega))).trans (keepsFrom_put W3 _ (by omega))
    rintro e a3 W3 hp
    cases e with
    | normal =>
      obtain ⟨hk3, hkp3, hi3⟩ := hp
      obtain ⟨hr, hl3, hl4, hk4⟩ := fin none W3 hk3
      exact ⟨_, _, hr, .inl ⟨rfl, ⟨hI.putObj _ hi3 (by omega) hl3 rfl, hl4, hk4⟩, hKt _ _ _ (hKt _ _ _ hw2 hkp3) (hKb W3 _ _ _ (by omega) hl3 rfl), kf _ _ hk3⟩⟩
    | ret =>
      obtain ⟨hk3, hi3⟩ := hp
      obtain ⟨hr, hl3, hl4, hk4⟩ := fin (some .ret) W3 hk3
      exact ⟨_, _, hr, .inr ⟨rfl, ⟨.ret, (hIx _).putObj _ hi3 (by omega) hl3 rfl, hl4, hk4⟩, kf _ _ hk3⟩⟩
    | exit id =>
      obtain ⟨hk3, hi3⟩ := hp
      obtain ⟨hr, hl3, hl4, hk4⟩ := fin (some (.exit id)) W3 hk3
      exact ⟨_, _, hr, .inr ⟨rfl, ⟨.exit id, (hIx _).putObj _ hi3 (by omega) hl3 rfl, hl4, hk4⟩, kf _ _ hk3⟩⟩
    | goto t =>
      obtain ⟨hk3, hi3⟩ := hp
      obtain ⟨hr, hl3, hl4, hk4⟩ := fin (some (.goto t)) W3 hk3
      exact ⟨_, _, hr, .inr ⟨rfl, ⟨.goto t, (hIx _).putObj _ hi3 (by omega) hl3 rfl, hl4, hk4⟩, kf _ _ hk3⟩⟩
    | panic ch => exact hp.elim
    | outgrown => exact hp.elim
  · rintro e W2 ⟨⟨v, rfl⟩, (⟨xs, hS, hi, hl, hk⟩ | ⟨pre, hSp, c, hi, hl, hk⟩)⟩
    · exact ⟨none, _, by have := run_endLoop (P := P) hl (by rw [hrec]; simp); rw [hrec] at this; exact this, hdone _ xs _ rfl hS (hI.putObj _ hi (by omega) hl rfl) ((World.putObj_heap_other (by omega)).trans hk)⟩
    · exact ⟨some c, _, by have := run_endLoop (P := P) hl (by rw [hrec]; simp); rw [hrec] at this; exact this, hstop _ c pre _ rfl hSp ((hIx c).putObj _ hi (by omega) hl rfl) ((World.putObj_heap_other (by omega)).trans hk)⟩
/-- The same, where the assignment and the body are one premise, so that no activation is written out. -/
theorem wpIn_rangeFunc_can2 {α : Type} {g : Operand} {ps : Array Tmp} {assign body : Code} {Q : Exit → Act → World → Prop} {a : Act} {w : World}
    (hro : F.round = none) (h1 : 1 ≤ n) {gf : Nat} {lb : Array Value} (hg : a.eval g = .func (.func gf) #[] lb) (hFg : F.fn gf) (eg : ∀ args w, (callFunc gf args).run P w = .ok (.enter gf args) w)
    {encs : α → Array Value} {Kp : World → World → Prop} {St : World → Prop} {Can : List α → α → Prop} {S Sp : List α → Prop} (hseq : SeqCan F (n - 1) P gf lb encs Kp St Can S Sp)
    (hKt : ∀ A B C, Kp A B → Kp B C → Kp A C) (hKb : ∀ (W : World) (l : Nat) (o o' : Obj), w.heap.size ≤ l → W.heap[l]? = some o → o.isCells = false → Kp W (W.putObj l o')) (hSt : ∀ W, Below w.heap.size w W → St W) (hps : ∀ x, (encs x).size = ps.size)
    (I : List α → World → Prop) (Ix : Code → List α → World → Prop) (hI : OwnFrom w.heap.size I) (hIx : ∀ c, OwnFrom w.heap.size (Ix c)) (hIB : ∀ pre A B, I pre A → Touch (fun _ => False) A B → I pre B) (hIxB : ∀ c pre A B, Ix c pre A → Touch (fun _ => False) A B → Ix c pre B) (h0 : I [] w)
    (hround : ∀ (l : Nat) (pre : List α) (x : α) (W : World), I pre W → Can pre x →
      assign.wpIn (F.inRound l) (n - 1 - 1) P (Exit.then (fun a1 W1 => KeepsFrom w.heap.size W W1 ∧ Kp W W1 ∧ I pre W1 ∧ ∀ W2, SameCells W1 W2 → I pre W2 → body.wpIn (F.inRound l) (n - 1 - 1) P (canPost w.heap.size Kp I Ix (pre ++ [x]) W2) a1 W2) (fun _ _ _ => False)) { tmps := (ps.zip (encs x)).foldl (fun t (p, v) => t.setIfInBounds p v) a.tmps, defers := [] } W)
    (hdone : ∀ (D : Nat) (xs : List α) (W : World), D = w.heap.size → S xs → I xs W → W.heap[D]? = some (.deferred (some [])) → Q .normal { a with defers := { target := .collected D, args := #[] } :: a.defers } W)
    (hstop : ∀ (D : Nat) (c : Code) (pre : List α) (W : World), D = w.heap.size → Sp pre → Ix c pre W → W.heap[D]? = some (.deferred (some [])) → c.wpIn F n P Q { a with defers := { target := .collected D, args := #[] } :: a.defers } W) :
    (Code.rangeFunc g ps assign body).wpIn F n P Q a w := by
  refine wpIn_rangeFunc ?_
  intro fn hfn
  rw [hro]
  obtain ⟨rec, hrec⟩ : ∃ rec : LoopState → Option Code → Loop, rec = fun st pe => { state := st, pending := pe, fn, tmps := a.tmps, params := ps, assign, body, defers := w.heap.size } := ⟨_, rfl⟩
  obtain ⟨W1, hW1⟩ : ∃ W1, (w.alloc (.deferred (some []))).alloc (.loop (rec .ready none)) = W1 := ⟨_, rfl⟩
  have hL1 : W1.heap[w.heap.size + 1]? = some (.loop (rec .ready none)) := by
    rw [← hW1]; have := World.alloc_heap_new (w.alloc (.deferred (some []))) (.loop (rec .ready none)); rwa [World.size_alloc] at this
  have hK1 : W1.heap[w.heap.size]? = some (.deferred (some [])) := by
    rw [← hW1]; exact (Below.heap_alloc _ _ _ (by simp)).trans (World.alloc_heap_new w _)
  have hz1 : W1.heap.size = w.heap.size + 2 := by rw [← hW1]; simp
  have hI1 : I [] W1 := by rw [← hW1]; exact hI.alloc _ (hI.alloc _ h0)
  have hb1 : Below w.heap.size w W1 := by
    rw [← hW1]; exact ((Below.refl _ w).alloc (Nat.le_refl _) _).alloc (by simp) _
  refine ⟨w.heap.size + 1, [{ target := .collected w.heap.size, args := #[] }], W1, { target := .fn (.func gf) lb, args := #[.func (.yield (w.heap.size + 1)) #[] #[]] }, W1, gf,
    #[.func (.yield (w.heap.size + 1)) #[] #[]] ++ lb, W1, ?_, ?_, ?_, ?_, fun _ => h1, ?_⟩
  · rw [← hW1, hrec]; exact run_enterLoop_outer _ _ _ _ _
  · simp only [resolve, hg]
    simp [go_sem]
  · intro f' hf'; simp [Target.leads] at hf'; subst hf'; exact hFg
  · simp [invoke, go_sem, eg]
  have lt_of : ∀ {A : World} {k : Nat} {o : Obj}, A.heap[k]? = some o → k < A.heap.size := fun h => (Array.getElem?_eq_some_iff.1 h).1
  refine (hseq (w.heap.size + 1)
    (fun pre W => I pre W ∧ W.heap[w.heap.size + 1]? = some (.loop (rec .ready none)) ∧ W.heap[w.heap.size]? = some (.deferred (some [])))
    (fun pre W => ∃ c, Ix c pre W ∧ W.heap[w.heap.size + 1]? = some (.loop (rec .done (some c))) ∧ W.heap[w.heap.size]? = some (.deferred (some [])))
    W1
    (fun s A B hs ht => ⟨hIB s A B hs.1 ht, (ht.block _ (lt_of hs.2.1) (fun e => e)).trans hs.2.1, (ht.block _ (lt_of hs.2.2) (fun e => e)).trans hs.2.2⟩)
    (fun s A B hs ht => by
      obtain ⟨c, hc, hl, hk⟩ := hs
      exact ⟨c, hIxB c s A B hc ht, (ht.block _ (lt_of hl) (fun e => e)).trans hl, (ht.block _ (lt_of hk) (fun e => e)).trans hk⟩)
    (fun s A B row hs hg hr => ⟨(ownFrom_up hI (by rw [hz1]; omega)) s A B row hs.1 hg hr, (hg.block _ (lt_of hs.2.1) (fun e => by have := (hr _ e.symm).1; omega)).trans hs.2.1, (hg.block _ (lt_of hs.2.2) (fun e => by have := (hr _ e.symm).1; omega)).trans hs.2.2⟩)
    (fun s A B row hs hg hr => by
      obtain ⟨c, hc, hl, hk⟩ := hs
      exact ⟨c, (ownFrom_up (hIx c) (by rw [hz1]; omega)) s A B row hc hg hr, (hg.block _ (lt_of hl) (fun e => by have := (hr _ e.symm).1; omega)).trans hl, (hg.block _ (lt_of hk) (fun e => by have := (hr _ e.symm).1; omega)).trans hk⟩)
    (hSt _ hb1) ⟨hI1, hL1, hK1⟩ ?_).mono ?_
  · rintro pre x W ⟨hi, hl, hk⟩ hcan
    have hlt : w.heap.size + 1 < W.heap.size := lt_of hl
    have hy := run_yield (P := P) (args := encs x) hl (by rw [hrec]; exact hps x)
    rw [hrec] at hy
    refine ⟨fn, _, assign, body, hy, roundIn_of_wpIn hfn (wpIn_mono (hround _ pre x W hi hcan) ?_)⟩
    rintro e0 a0 V hp0
    cases e0 with
    | ret => exact hp0.elim
    | exit id => exact hp0.elim
    | goto t => exact hp0.elim
    | panic ch => exact hp0.elim
    | outgrown => exact hp0.elim
    | normal =>
    obtain ⟨hkV, hpV, hiV, hax⟩ := hp0
    have hlV : V.heap[w.heap.size + 1]? = some (.loop (rec .ready none)) := hkV.same _ _ (by omega) hl rfl
    have hkkV : V.heap[w.heap.size]? = some (.deferred (some [])) := hkV.same _ _ (Nat.le_refl _) hk rfl
    have hltV : w.heap.size + 1 < V.heap.size := lt_of hlV
    refine ⟨_, run_beginRound hlV (by rw [hrec]), ?_⟩
    have hl2 : (V.putObj (w.heap.size + 1) (.loop { rec .ready none with state := .busy })).heap[w.heap.size + 1]? = some (.loop { rec .ready none with state := .busy }) := World.putObj_heap_same hltV
    have hk2 : (V.putObj (w.heap.size + 1) (.loop { rec .ready none with state := .busy })).heap[w.heap.size]? = some (.deferred (some [])) := (World.putObj_heap_other (by omega)).trans hkkV
    have hw2 : Kp W (V.putObj (w.heap.size + 1) (.loop { rec .ready none with state := .busy })) := hKt _ _ _ hpV (hKb V _ _ _ (by omega) hlV rfl)
    refine wpIn_mono (hax _ (sameCells_put V _ hlV rfl) (hI.putObj _ hiV (by omega) hlV rfl)) ?_
    have fin : ∀ (jump : Option Code) (W3 : World), KeepsFrom w.heap.size (V.putObj (w.heap.size + 1) (.loop { rec .ready none with state := .busy })) W3 →
        (Instr.endRound (w.heap.size + 1) jump).run P W3 = .ok (.bool jump.isNone) (W3.putObj (w.heap.size + 1) (.loop (rec (if jump.isNone then .ready else .done) jump))) ∧
        W3.heap[w.heap.size + 1]? = some (.loop { rec .ready none with state := .busy }) ∧
        (W3.putObj (w.heap.size + 1) (.loop (rec (if jump.isNone then .ready else .done) jump))).heap[w.heap.size + 1]? = some (.loop (rec (if jump.isNone then .ready else .done) jump)) ∧
        (W3.putObj (w.heap.size + 1) (.loop (rec (if jump.isNone then .ready else .done) jump))).heap[w.heap.size]? = some (.deferred (some [])) := fun jump W3 hk3 => by
      have hl3 := hk3.same _ _ (by omega) hl2 rfl
      have := run_endRound (P := P) jump hl3
      rw [hrec] at this ⊢
      exact ⟨this, by rw [hrec] at hl3; exact hl3, World.putObj_heap_same (Array.getElem?_eq_some_iff.1 hl3).1, (World.putObj_heap_other (by omega)).trans (hk3.same _ _ (Nat.le_refl _) hk2 rfl)⟩
    have kf : ∀ (o : Obj) (W3 : World), KeepsFrom w.heap.size (V.putObj (w.heap.size + 1) (.loop { rec .ready none with state := .busy })) W3 → KeepsFrom W1.heap.size W (W3.putObj (w.heap.size + 1) o) := fun o W3 hk3 =>
      (((keepsFrom_up hkV (by omega)).trans (keepsFrom_put V _ (by omega))).trans (keepsFrom_up hk3 (by omega))).trans (keepsFrom_put W3 _ (by omega))
    rintro e a3 W3 hp
    cases e with
    | normal =>
      obtain ⟨hk3, hkp3, hi3⟩ := hp
      obtain ⟨hr, hl3, hl4, hk4⟩ := fin none W3 hk3
      exact ⟨_, _, hr, .inl ⟨rfl, ⟨hI.putObj _ hi3 (by omega) hl3 rfl, hl4, hk4⟩, hKt _ _ _ (hKt _ _ _ hw2 hkp3) (hKb W3 _ _ _ (by omega) hl3 rfl), kf _ _ hk3⟩⟩
    | ret =>
      obtain ⟨hk3, hi3⟩ := hp
      obtain ⟨hr, hl3, hl4, hk4⟩ := fin (some .ret) W3 hk3
      exact ⟨_, _, hr, .inr ⟨rfl, ⟨.ret, (hIx _).putObj _ hi3 (by omega) hl3 rfl, hl4, hk4⟩, kf _ _ hk3⟩⟩
    | exit id =>
      obtain ⟨hk3, hi3⟩ := hp
      obtain ⟨hr, hl3, hl4, hk4⟩ := fin (some (.exit id)) W3 hk3
      exact ⟨_, _, hr, .inr ⟨rfl, ⟨.exit id, (hIx _).putObj _ hi3 (by omega) hl3 rfl, hl4, hk4⟩, kf _ _ hk3⟩⟩
    | goto t =>
      obtain ⟨hk3, hi3⟩ := hp
      obtain ⟨hr, hl3, hl4, hk4⟩ := fin (some (.goto t)) W3 hk3
      exact ⟨_, _, hr, .inr ⟨rfl, ⟨.goto t, (hIx _).putObj _ hi3 (by omega) hl3 rfl, hl4, hk4⟩, kf _ _ hk3⟩⟩
    | panic ch => exact hp.elim
    | outgrown => exact hp.elim
  · rintro e W2 ⟨⟨v, rfl⟩, (⟨xs, hS, hi, hl, hk⟩ | ⟨pre, hSp, c, hi, hl, hk⟩)⟩
    · exact ⟨none, _, by have := run_endLoop (P := P) hl (by rw [hrec]; simp); rw [hrec] at this; exact this, hdone _ xs _ rfl hS (hI.putObj _ hi (by omega) hl rfl) ((World.putObj_heap_other (by omega)).trans hk)⟩
    · exact ⟨some c, _, by have := run_endLoop (P := P) hl (by rw [hrec]; simp); rw [hrec] at this; exact this, hstop _ c pre _ rfl hSp ((hIx c).putObj _ hi (by omega) hl rfl) ((World.putObj_heap_other (by omega)).trans hk)⟩
end Go.Proofs.Ytkcnakaneiocjaa
