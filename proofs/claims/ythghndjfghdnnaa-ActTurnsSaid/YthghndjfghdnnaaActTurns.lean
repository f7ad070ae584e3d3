/- The walk of the law ActTurns. No condition. -/
import Derived.Test.YthghndjfghdnnaaActApart
import Derived.Deep.DeepCutAuto
import Derived.Test.YthghndjfghdnnaaQuietR
namespace Go.Proofs.Ythghndjfghdnnaa
open Go.RowKit Go.Shelf Go.Proofs.YthghndjfghdnnaaW.PrintWords
attribute [local go_sem] Oper.semAt_some
theorem Recs.below {α : Type} {R : α → List Value → Prop} {size : Nat} {w w' : World} {A : Option Addr} {n : Nat} {ps : List α} (h : Recs R size w A n ps) (hb : Below w.heap.size w w') : Recs R size w' A n ps := by
  obtain ⟨h1, h2, h3⟩ := h
  refine ⟨h1, h2, fun hn => ?_⟩
  obtain ⟨ad, e, hc⟩ := h3 hn
  refine ⟨ad, e, fun j p hj => ?_⟩
  obtain ⟨c, a1, a2, a3⟩ := hc j p hj
  exact ⟨c, a1, a2, fun i u hu => (hb.cell (lt_of_cell (a3 i u hu))).trans (a3 i u hu)⟩
@[go_sem] theorem eql_seq_func (f : Nat) (cs : Array Value) (w : World) : (binOp .eql 70 (.func (.func f) #[] cs) .nilFunc).run Try.prog w = .ok (.bool false) w := by kernel_rfl
/-- A row of ints in the print's spelling. -/
theorem c_toL {W : World} {A : Option Addr} {n : Nat} {f : Nat → Nat} (hn : n ≤ 10) (h : ∀ j, j < n → ∃ b o, A = some ⟨b, o, none⟩ ∧ W.cell? ⟨b, o + j, none⟩ = some (.int .i64 (f j : Nat))) : Kd.C (Kd.int .i64) W A n (toL n f) := by
  refine ⟨toL_length n f, by omega, fun h0 => ?_⟩
  obtain ⟨b, o, e, _⟩ := h 0 h0
  refine ⟨_, e, fun j p hj => ⟨[.int .i64 p], rfl, rfl, fun i u hu => ?_⟩⟩
  have hjn : j < n := by have := (List.getElem?_eq_some_iff.1 hj).1; rwa [toL_length] at this
  obtain ⟨b', o', e', hc⟩ := h j hjn
  rw [e] at e'
  cases e'
  have hp : p = (f j : Nat) := by have : (toL n f)[j]? = some ((f j : Nat) : Int) := by unfold toL; simp [hjn]
                                  rw [this] at hj; cases hj; rfl
  rcases i with _ | i
  · have : u = .int .i64 p := by simpa using hu.symm
    rw [this, hp]
    show W.cell? (Addr.add ⟨b, o, none⟩ (j * 1 + 0)) = _
    rw [add_off, Nat.mul_one, Nat.add_zero]
    exact hc
  · simp at hu
theorem c_recs {W : World} {A : Option Addr} {n : Nat} {ps : List Int} (h : Recs (RInt .i64) 1 W A n ps) : Kd.C (Kd.int .i64) W A n ps := by
  obtain ⟨h1, h2, h3⟩ := h
  refine ⟨h1, h2, fun hn => ?_⟩
  obtain ⟨ad, e, hc⟩ := h3 hn
  refine ⟨ad, e, fun j p hj => ?_⟩
  obtain ⟨c, a1, a2, a3⟩ := hc j p hj
  exact ⟨c, a1, a2.1, a3⟩
theorem cnt_all (ns : Nat → Nat) (n : Nat) (ps : List Int) (k : Nat) (hz : n = 0 → ∀ i, ns i = 0) : cnt (fun _ => 0) (turned ns n ps (fun _ => 0) k).1 0 n = (turned ns n ps (fun _ => 0) k).2 := by
  by_cases hn : n = 0
  · subst hn
    rw [turned_idle (fun i => by rw [hz rfl i]; omega)]
    rfl
  · rw [cnt_turned _ _ _ _ (by omega), cnt_zero, Nat.zero_add]
def zeros (j : Nat) : List Value := List.replicate j (.int .i64 0)
theorem zeros_snoc (j : Nat) : zeros (j + 1) = zeros j ++ [.int .i64 0] := by unfold zeros; exact List.replicate_succ'
/-- While acts and counts are made. -/
structure TBuild (w0 wx : World) (lb : Nat) (bs ns : Nat → Nat) (j : Nat) (va vd : Value) (foot : Nat → Prop) : Prop where
  b : BuildAt w0 wx lb (fun _ => 0) 1 bs ns j va foot
  did : wx.ownsRow w0.heap.size 3 1 vd j (zeros j)
  apart : ∀ k, vd.ownBlock = some k → ¬ foot k ∧ va.ownBlock ≠ some k
theorem TBuild.step {w0 wx w3 w4 w5 : World} {lb : Nat} {bs ns : Nat → Nat} {j : Nat} {va vd u : Value} {foot : Nat → Prop} {b g4 c4 g5 c5 : Nat} {o o2 : Obj} (h : TBuild w0 wx lb bs ns j va vd foot) (hb3 : Below wx.heap.size wx w3) (hbw : wx.heap.size ≤ b) (ha : ActAt w3 b u 0)
    (hn : NextIs w3 lb 0 j (ns j) u (fun k => wx.heap.size ≤ k ∧ k ≠ b)) (hown : w4.ownsRow w0.heap.size 29 1 (.slice (some ⟨g4, 0, none⟩) (j + 1) c4) (j + 1) (ptrs bs j ++ [.pointer (some ⟨b, 0, none⟩)])) (hgrow : (w3.alloc o).grownBy w4 va.ownBlock)
    (hat : va.ownBlock = some g4 ∨ g4 = w3.heap.size + 1) (hown5 : w5.ownsRow w0.heap.size 3 1 (.slice (some ⟨g5, 0, none⟩) (j + 1) c5) (j + 1) (zeros j ++ [.int .i64 0])) (hgrow5 : (w4.alloc o2).grownBy w5 vd.ownBlock) (hat5 : vd.ownBlock = some g5 ∨ g5 = w4.heap.size + 1)
    (hlt4 : g4 < w4.heap.size) (hj : j < 10) (hs : ns j ≤ 19) :
    TBuild w0 w5 lb (fun i => if i = j then b else bs i) ns (j + 1) (.slice (some ⟨g4, 0, none⟩) (j + 1) c4) (.slice (some ⟨g5, 0, none⟩) (j + 1) c5) (fun k => foot k ∨ (wx.heap.size ≤ k ∧ k < w3.heap.size)) := by
  have hB := h.b.step hb3 hbw ha hn hown hgrow hat hj hs (Nat.lt_succ_self 0)
  have z3 := hb3.size
  have z4 := hgrow.size
  have z5 := hgrow5.size
  rw [World.size_alloc] at z4 z5
  have dlt : ∀ k, vd.ownBlock = some k → w0.heap.size ≤ k ∧ k < wx.heap.size := fun k e => h.did.lt k e
  have nd : ∀ k, k < w4.heap.size → vd.ownBlock ≠ some k → w5.heap[k]? = w4.heap[k]? := fun k hk e => by
    rw [hgrow5.block k (by simp; omega) (fun e2 => e e2.symm), Below.heap_alloc _ _ _ hk]
  have ne4 : vd.ownBlock ≠ some g4 := fun e => by
    have h1 := h.apart g4 e
    rcases hat with e2 | e2
    · exact h1.2 e2
    · have := (dlt g4 e).2; omega
  have hb45 : Below w0.heap.size w4 w5 := ⟨hgrow5.os, hgrow5.tape, hgrow5.output, by omega, fun k hk => nd k (by have := hB.below.size; omega) (fun e => by have := (dlt k e).1; omega)⟩
  refine ⟨⟨hB.fleet.move (by omega) (fun k c t f hk _ => nd k (hB.fleet.foot_lt k hk) (fun e => ?_)), own_move hB.acts (fun k e => ?_), fun k e => ?_, hB.below.trans hb45⟩, by rw [zeros_snoc]; exact hown5, fun k e => ?_⟩
  · rcases hk with hk | hk
    · exact (h.apart k e).1 hk
    · have := (dlt k e).2; omega
  · cases e
    exact nd _ hlt4 ne4
  · exact hB.free k e
  · cases e
    refine ⟨fun hk => ?_, fun e => ?_⟩
    · rcases hat5 with e2 | e2
      · rcases hk with hk | hk
        · exact (h.apart _ e2).1 hk
        · have h1 := (dlt _ e2).2
          have h2 : wx.heap.size ≤ g5 := hk.1
          omega
      · have : g5 < w4.heap.size := hB.fleet.foot_lt _ hk
        omega
    · have e3 : g4 = g5 := by cases e; rfl
      rcases hat5 with e2 | e2
      · exact ne4 (by rw [e3]; exact e2)
      · omega
theorem TBuild.own1 {w0 wx w3 : World} {lb : Nat} {bs ns : Nat → Nat} {j : Nat} {va vd : Value} {foot : Nat → Prop} {o : Obj} (h : TBuild w0 wx lb bs ns j va vd foot) (hb3 : Below wx.heap.size wx w3) : (w3.alloc o).ownsRow w0.heap.size 29 1 va j (ptrs bs j) := (owns_below h.b.acts hb3).alloc _
theorem TBuild.own2 {w0 wx w3 w4 : World} {lb : Nat} {bs ns : Nat → Nat} {j : Nat} {va vd : Value} {foot : Nat → Prop} {o o2 : Obj} (h : TBuild w0 wx lb bs ns j va vd foot) (hb3 : Below wx.heap.size wx w3) (hgrow : (w3.alloc o).grownBy w4 va.ownBlock) : (w4.alloc o2).ownsRow w0.heap.size 3 1 vd j (zeros j) := by
  refine World.ownsRow.alloc (own_move (owns_below h.did hb3) (fun k e => ?_)) _
  have hk := (h.did.lt k e).2
  have z3 := hb3.size
  rw [hgrow.block k (by simp; omega) (fun e2 => (h.apart k e).2 e2.symm), Below.heap_alloc _ _ _ (by omega)]
/-- The last of them, or -1. -/
def lastOf (pre : List Nat) : Int := (pre.getLast?.map (fun (i : Nat) => (i : Int))).getD (-1)
theorem lastOf_snoc (pre : List Nat) (i : Nat) : lastOf (pre ++ [i]) = i := by simp [lastOf]
theorem lastOf_going (ns did : Nat → Nat) : ∀ n, -1 ≤ lastOf (going ns did n) ∧ lastOf (going ns did n) < n ∧ ∀ k : Nat, k < n → lastOf (going ns did n) < k → ¬ did k < ns k := by
  intro n
  induction n with
  | zero => exact ⟨by simp [going, lastOf], by simp [going, lastOf], fun k h => absurd h (Nat.not_lt_zero _)⟩
  | succ n ih =>
    unfold going
    by_cases e : did n < ns n
    · rw [if_pos e, lastOf_snoc]; exact ⟨by omega, by omega, fun k h1 h2 => by omega⟩
    · rw [if_neg e]
      obtain ⟨a, b, c⟩ := ih
      refine ⟨a, by omega, fun k h1 h2 => ?_⟩
      by_cases ek : k = n
      · rw [ek]; exact e
      · exact c k (by omega) h2
/-- While the law walks through those that go on: b is the block of 'last'. -/
structure LastAt (W0 : World) (b : Nat) (pre : List Nat) (V : World) : Prop where
  touch : Touch (fun k => k = b) W0 V
  keeps : KeepsOthers W0 V
  last : V.heap[b]? = some (.cells #[.int .i64 (lastOf pre)] 3 (0, 0))
theorem LastAt.own {W0 : World} {b : Nat} (hb : b < W0.heap.size) : OwnFrom W0.heap.size (fun pre V => LastAt W0 b pre V) := by
  rintro pre A B row ⟨hT, hK, hL⟩ hg hr
  have h2 := hT.size
  have hb' : ∀ k, k < W0.heap.size → B.heap[k]? = A.heap[k]? := fun k hk => hg.block k (by omega) (fun e => by have := (hr k e.symm).1; omega)
  refine ⟨hT.step (T := fun k => W0.heap.size ≤ k) ⟨hg.os, hg.tape, hg.output, hg.size, fun k _ hs => hb' k (Nat.lt_of_not_le hs)⟩ (fun k hk e => by omega), ⟨Nat.le_trans hK.size hg.size, fun k o hk ho => ?_⟩, (hb' b hb).trans hL⟩
  exact (hb' k (Array.getElem?_eq_some_iff.1 hk).1).trans (hK.same k o hk ho)
theorem KeepsOthers.drewN (W : World) (m : Nat) : KeepsOthers W (W.drewN m) := ⟨Nat.le_refl _, fun _ _ h _ => h⟩
theorem alloc3 (w : World) (x y z : Value) (tx ty tz : Nat) (W : World) (h : W = ((w.alloc (.cells #[x] tx)).alloc (.cells #[y] ty)).alloc (.cells #[z] tz)) :
    W.heap.size = w.heap.size + 3 ∧ Below w.heap.size w W ∧ W.cell? ⟨w.heap.size, 0, none⟩ = some x ∧ W.cell? ⟨w.heap.size + 1, 0, none⟩ = some y ∧ W.heap[w.heap.size + 1 + 1]? = some (.cells #[z] tz (0, 0)) ∧ KeepsOthers w W := by
  subst h
  refine ⟨by simp, (((Below.refl _ w).alloc (Nat.le_refl _) _).alloc (by simp) _).alloc (by simp; omega) _, ?_, ?_, ?_, ((KeepsOthers.alloc _ _).trans (KeepsOthers.alloc _ _)).trans (KeepsOthers.alloc _ _)⟩
  · simp [go_sem]
  · refine blk_cell (cs := #[y]) (t := ty) (i := 0) ?_ rfl
    rw [Below.heap_alloc _ _ _ (by simp)]
    have := heap_alloc_new (w.alloc (.cells #[x] tx)) (.cells #[y] ty)
    rw [World.size_alloc] at this; exact this
  · have := heap_alloc_new ((w.alloc (.cells #[x] tx)).alloc (.cells #[y] ty)) (.cells #[z] tz)
    rw [World.size_alloc, World.size_alloc] at this; exact this
theorem LastAt.fin {W0 V : World} {b : Nat} {pre : List Nat} (h : LastAt W0 b pre V) (m x : Nat) : KeepsOthers V ((V.drewN m).setCell ⟨b, 0, none⟩ (.int .i64 x)) ∧ LastAt W0 b (pre ++ [x]) ((V.drewN m).setCell ⟨b, 0, none⟩ (.int .i64 x)) := by
  have hk : KeepsOthers V ((V.drewN m).setCell ⟨b, 0, none⟩ (.int .i64 x)) := (KeepsOthers.drewN V m).trans (KeepsOthers.setCell (V.drewN m) _ _)
  refine ⟨hk, (h.touch.drewN m).setCell (p := ⟨b, 0, none⟩) (.inl rfl) _, h.keeps.trans hk, ?_⟩
  have hl := h.last
  rw [lastOf_snoc]
  simp [World.setCell, Array.getElem?_modify, hl]
theorem results_cell1 {P : Program} {fn : Func} {p : Tmp} {ty : TypeId} (h : fn.results = #[.cell p ty]) (tmps : Array Value) (w : World) (g : Nat) (v : Value) (hp : tmps.getD p undef = .pointer (some ⟨g, 0, none⟩)) (hl : (loadVar ty ⟨g, 0, none⟩).run P w = .ok v w) : (results fn tmps).run P w = .ok v w := by
  have hp' : tmps[p]?.getD undef = .pointer (some ⟨g, 0, none⟩) := by simpa using hp
  simp [results, h, hp', asAddr, hl]
variable {F : Fence} {n : Nat} {P : Program} in
/-- As wpIn_rangeFunc_hears, the assignment and the body in one. -/
theorem wpIn_rangeFunc_hears2 {α : Type} {g : Operand} {ps : Array Tmp} {assign body : Code} {Q : Exit → Act → World → Prop} {a : Act} {w : World}
    (hro : F.round = none) (h1 : 1 ≤ n) {gf : Nat} {lb : Array Value} (hg : a.eval g = .func (.func gf) #[] lb) (hFg : F.fn gf) (eg : ∀ args w, (callFunc gf args).run P w = .ok (.enter gf args) w)
    {encs : α → Array Value} (I : List α → World → Prop) (Can : List α → α → Prop) (S : List α → Prop) (hseq : SeqHears F (n - 1) P gf lb encs I Can S) (hps : ∀ x, (encs x).size = ps.size)
    (hI : OwnFrom w.heap.size I) (h0 : I [] w)
    (hround : ∀ (l : Nat) (pre : List α) (x : α) (W W2 : World), I pre W2 → Can pre x →
      assign.wpIn (F.inRound l) (n - 1 - 1) P (Exit.then (fun a3 W3 => W3 = W ∧ body.wpIn (F.inRound l) (n - 1 - 1) P (onward w.heap.size I (pre ++ [x]) W2) a3 W2) (fun _ _ _ => False)) { tmps := (ps.zip (encs x)).foldl (fun t (p, v) => t.setIfInBounds p v) a.tmps, defers := [] } W)
    (hdone : ∀ (D : Nat) (xs : List α) (W : World), D = w.heap.size → S xs → I xs W → W.heap[D]? = some (.deferred (some [])) → Q .normal { a with defers := { target := .collected D, args := #[] } :: a.defers } W) :
    (Code.rangeFunc g ps assign body).wpIn F n P Q a w := by
  refine wpIn_rangeFunc fun fn hfn => ?_
  rw [hro]
  let rec' : LoopState → Option Code → Loop := fun st pe => { state := st, pending := pe, fn, tmps := a.tmps, params := ps, assign, body, defers := w.heap.size }
  obtain ⟨rec, hrec⟩ : ∃ rec, rec = rec' := ⟨_, rfl⟩
  obtain ⟨W1, hW1⟩ : ∃ W1, W1 = (w.alloc (.deferred (some []))).alloc (.loop (rec .ready none)) := ⟨_, rfl⟩
  have hz : W1.heap.size = w.heap.size + 2 := by rw [hW1]; simp
  have hL : W1.heap[w.heap.size + 1]? = some (.loop (rec .ready none)) := by
    have := World.alloc_heap_new (w.alloc (.deferred (some []))) (.loop (rec .ready none))
    rw [World.size_alloc] at this; rw [hW1]; exact this
  have hD : W1.heap[w.heap.size]? = some (.deferred (some [])) := by
    rw [hW1]; exact (Below.heap_alloc _ _ _ (by simp)).trans (World.alloc_heap_new w _)
  have hI1 : I [] W1 := by rw [hW1]; exact hI.alloc _ (hI.alloc _ h0)
  refine ⟨w.heap.size + 1, [{ target := .collected w.heap.size, args := #[] }], W1, { target := .fn (.func gf) lb, args := #[.func (.yield (w.heap.size + 1)) #[] #[]] }, W1, gf,
    #[.func (.yield (w.heap.size + 1)) #[] #[]] ++ lb, W1, ?_, ?_, ?_, ?_, fun _ => h1, ?_⟩
  · rw [hW1, hrec]; exact run_enterLoop_outer _ _ _ _ _
  · simp only [resolve, hg]
    simp [go_sem]
  · intro f' hf'; simp [Target.leads] at hf'; subst hf'; exact hFg
  · simp [invoke, go_sem, eg]
  refine (hseq (w.heap.size + 1) (fun pre W => I pre W ∧ W.heap[w.heap.size + 1]? = some (.loop (rec .ready none)) ∧ W.heap[w.heap.size]? = some (.deferred (some []))) W1 (fun _ _ h => h.1) ⟨hI1, hL, hD⟩ ?_).mono ?_
  · rintro pre x W ⟨hi, hl, hk⟩ hc
    have hlt : w.heap.size + 1 < W.heap.size := (Array.getElem?_eq_some_iff.1 hl).1
    have hy := run_yield (P := P) (args := encs x) hl (by rw [hrec]; exact hps x)
    rw [hrec] at hy
    have hl2 : (W.putObj (w.heap.size + 1) (.loop { rec .ready none with state := .busy })).heap[w.heap.size + 1]? = some (.loop { rec .ready none with state := .busy }) := World.putObj_heap_same hlt
    have hk2 : (W.putObj (w.heap.size + 1) (.loop { rec .ready none with state := .busy })).heap[w.heap.size]? = some (.deferred (some [])) := (World.putObj_heap_other (by omega)).trans hk
    refine ⟨fn, _, assign, body, hy, roundIn_of_wpIn hfn (wpIn_mono (hround _ pre x _ (W.putObj (w.heap.size + 1) (.loop { rec .ready none with state := .busy })) (hI.putObj _ hi (by omega) hl rfl) hc) ?_)⟩
    rintro e0 a0 W0 hp0
    cases e0 with
    | ret => exact hp0.elim
    | exit id => exact hp0.elim
    | goto t => exact hp0.elim
    | panic ch => exact hp0.elim
    | outgrown => exact hp0.elim
    | normal =>
    obtain ⟨rfl, hb⟩ := hp0
    refine ⟨_, run_beginRound hl (by rw [hrec]), wpIn_mono hb ?_⟩
    rintro e a3 W3 hp
    cases e with
    | normal =>
      obtain ⟨hk3, hi3⟩ := hp
      have hl3 := hk3.same _ _ (by omega) hl2 rfl
      have hr := run_endRound (P := P) none hl3
      have hl4 : (W3.putObj (w.heap.size + 1) (.loop (rec .ready none))).heap[w.heap.size + 1]? = some (.loop (rec .ready none)) := World.putObj_heap_same (Array.getElem?_eq_some_iff.1 hl3).1
      refine ⟨_, _, hr, rfl, ?_⟩
      rw [hrec] at hl4 ⊢
      exact ⟨hI.putObj _ hi3 (by omega) hl3 rfl, hl4, (World.putObj_heap_other (by omega)).trans (hk3.same _ _ (Nat.le_refl _) hk2 rfl)⟩
    | ret => exact hp.elim
    | exit id => exact hp.elim
    | goto t => exact hp.elim
    | panic ch => exact hp.elim
    | outgrown => exact hp.elim
  · rintro e W2 ⟨⟨v, rfl⟩, xs, hS, hi, hl, hk⟩
    have := run_endLoop (P := P) hl (by rw [hrec]; simp [rec'])
    rw [hrec] at this
    exact ⟨none, _, this, hdone _ xs _ rfl hS (hI.putObj _ hi (by omega) hl rfl) ((World.putObj_heap_other (by omega)).trans hk)⟩
/-- A row's cells, and that they lie below B. -/
def RowAt (W : World) (A : Option Addr) (n : Nat) (f : Nat → Nat) : Prop := ∀ j, j < n → ∃ b o, A = some ⟨b, o, none⟩ ∧ W.cell? ⟨b, o + j, none⟩ = some (.int .i64 (f j : Nat))
theorem rows_toL {W : World} {A : Option Addr} {n : Nat} {f : Nat → Nat} (h : Kd.C (Kd.int .i64) W A n (toL n f)) : RowAt W A n f := by
  intro j0 hj0
  obtain ⟨h1, _, h3⟩ := h
  obtain ⟨ad, rfl, hc⟩ := h3 (by omega)
  have each : ∀ j, j < n → W.cell? (ad.add j) = some (.int .i64 (f j : Nat)) := fun j hj => by
    have hp : (toL n f)[j]? = some ((f j : Nat) : Int) := by unfold toL; simp [hj]
    obtain ⟨cs, _, a2, a3⟩ := hc j _ hp
    have a2 : cs = [.int .i64 (f j : Nat)] := a2
    subst a2
    have := a3 0 _ rfl
    have e : j * (Kd.int .i64).sz + 0 = j := by show j * 1 + 0 = j; omega
    rw [e] at this
    exact this
  have h0 := each 0 (by omega)
  have hp := plain_of_cell (a := ad) (by simpa [Addr.add] using h0)
  refine ⟨ad.block, ad.off, congrArg some hp, ?_⟩
  rw [← add_off, ← hp]
  exact each j0 hj0
theorem RowAt.touch {S : Nat → Prop} {W V : World} {A : Option Addr} {n : Nat} {f : Nat → Nat} (h : RowAt W A n f) (ht : Touch S W V) (hs : ∀ b o, A = some ⟨b, o, none⟩ → ¬ S b) : RowAt V A n f := fun j hj => by
  obtain ⟨b, o, e, hc⟩ := h j hj
  exact ⟨b, o, e, (ht.cell (p := ⟨b, o + j, none⟩) (lt_of_cell hc) (hs b o e)).trans hc⟩
theorem RowAt.below {W V : World} {A : Option Addr} {n : Nat} {f : Nat → Nat} (h : RowAt W A n f) (hb : Below W.heap.size W V) : RowAt V A n f := h.touch (Touch.of_below hb (fun _ => False)) (fun _ _ _ e => e)
theorem RowAt.drawN {W : World} {A : Option Addr} {n : Nat} {f : Nat → Nat} (h : RowAt W A n f) (m : Nat) : RowAt (W.drewN m) A n f := h
theorem wide_fn (f : Nat) : Fence.wide.fn f := trivial
attribute [local go_sem] wide_fn
attribute [local simp] wide_fn
set_option maxHeartbeats 4000000 in
set_option maxRecDepth 100000 in
theorem actTurns_long (w : World) (A : Option Addr) (cap : Nat) (l : List Int) (hA : Recs (RInt .u8) 1 w A l.length l) (hl : l.length ≤ 10) (P : Option Addr) (capp : Nat) (ps : List Int) (hP : Recs (RInt .i64) 1 w P ps.length ps) (hp : ps.length ≤ 200) (hcp : ps.length ≤ capp) (limit : Int) (hlim : limit ≤ 60) :
    Calls Try.prog 7 #[.slice A l.length cap, .slice P ps.length capp, .int .i64 limit] w fun e w' => e = .returned (.bool true) ∧ Below w.heap.size w w' := by
  obtain ⟨i1, hi1, hy0, hy1, hy2⟩ := info_parts info_act
  obtain ⟨i2, hi2, hx0, hx1, hx2⟩ := info_parts info_int
  have HL : Hd (∀ W, Below w.heap.size w W → Calls Try.prog 9 #[.slice A l.length cap] W (LensPost l W)) := ⟨fun W hb => lengths_std W A cap l (hA.below hb) hl⟩
  have HP : Hd _ := ⟨hP⟩
  clear hA hP
  refine (callsIn_wide (n := 5)).1 ?_
  refine callsIn_of_wp_marks Try.func7 rfl trivial ?_ rfl
  simp only [Try.ntmps7, List.size_toArray, List.length_cons, List.length_nil, Nat.reduceAdd, Nat.reduceSub, Array.replicate_succ, Array.replicate_zero, List.push_toArray, List.append_toArray, List.nil_append, List.cons_append]
  refine wpIn_wide.2 ?_
  go_wp2_with fail
  refine (HL.out _ ((Below.refl _ w).alloc (Nat.le_refl _) _)).mono ?_
  rintro e w1 ⟨v, rfl, hv, hb1⟩
  obtain ⟨An, cn, rfl, hnc, hfn, hcn⟩ := own_view hv
  have HV : Hd _ := ⟨hv⟩
  have HFN : Hd _ := ⟨hfn⟩
  have HC : Hd _ := ⟨hcn⟩
  clear hv hfn hcn
  go_wp2_with fail
  obtain ⟨wn, hwn⟩ : ∃ wn, wn = w1.alloc (.cells #[.slice An l.length cn] 23) := ⟨_, rfl⟩
  rw [← hwn]
  have hzn : wn.heap.size = w1.heap.size + 1 := by rw [hwn]; simp
  have hbn : wn.heap[w1.heap.size]? = some (.cells #[.slice An l.length cn] 23 (0, 0)) := by rw [hwn]; exact heap_alloc_new w1 _
  have h1n : Below w1.heap.size w1 wn := by rw [hwn]; exact (Below.refl _ w1).alloc (Nat.le_refl _) _
  have HWN : Hd _ := ⟨hwn⟩
  have HBN : Hd _ := ⟨hbn⟩
  have H1N : Hd _ := ⟨h1n⟩
  clear hwn hbn h1n
  go_loopw [9, 10, 11] (fun va vd i wx => ∃ (j : Nat) (bs : Nat → Nat) (foot : Nat → Prop), j ≤ l.length ∧ i = .int .i64 j ∧ Hd (TBuild wn wx wn.heap.size bs (nsOf l) j va vd foot)) (fun _ _ i _ => l.length - (intOf i).toNat)
  case atStart =>
    have hbl : Below wn.heap.size wn (wn.alloc (.cells #[.slice none 0 0] 23)) := (Below.refl _ wn).alloc (Nat.le_refl _) _
    refine ⟨0, fun _ => 0, fun k => k = wn.heap.size, Nat.zero_le _, rfl, ⟨⟨Fleet.empty (fun o ho => ?_) (by simp) (by simp) rfl (fun k hk => by rw [hk]; simp), own_nil_ _ _ _ _, fun b e => (by cases e), hbl⟩, own_nil_ _ _ _ _, fun b e => (by cases e)⟩⟩
    obtain rfl : o = 0 := by omega
    exact ⟨_, World.cell?_alloc_at _ _ _ _ rfl, World.frozen?_alloc_at _ _ _ _ rfl, own_nil_ _ _ _ _, rfl⟩
  case round =>
    obtain ⟨j, bs, foot, hj, rfl, HBd⟩ := hrel
    have hbw := HBd.out.b.below
    have hnb : wr.cell? ⟨w1.heap.size, 0, none⟩ = some (.slice An l.length cn) := (hbw.cell (p := ⟨w1.heap.size, 0, none⟩) (by show w1.heap.size < _; omega)).trans (blk_cell HBN.out rfl)
    by_cases hlt : j < l.length
    · have hlo : (0 : Int) ≤ (j : Int) := by omega
      have hhi : (j : Int) < (l.length : Int) := by omega
      obtain ⟨nr, rfl, hcn⟩ := HC.out j _ (nsOf_lens l j hlt)
      have hnr := (HFN.out nr 0 rfl).2.1
      have hcell : wr.cell? ⟨nr, j, none⟩ = some (.int .i64 (nsOf l j : Nat)) := (hbw.cell (p := ⟨nr, j, none⟩) (by show nr < _; omega)).trans ((H1N.out.cell (p := ⟨nr, j, none⟩) hnr).trans hcn)
      have st := steps_any wn.heap.size 0 j (nsOf l j) wr
      rw [hzn] at st
      have HS : Hd _ := ⟨st⟩
      clear st hcn
      go_wp2_with fail
      refine HS.out.mono ?_
      rintro e w3 ⟨b, u, rfl, hbw3, ha3, hn3, hb3⟩
      rw [← hzn] at hn3
      have HA3 : Hd _ := ⟨ha3⟩
      have HN3 : Hd _ := ⟨hn3⟩
      have H3 : Hd _ := ⟨hb3⟩
      have z0 := hbw.size
      have z3 := hb3.size
      have HO1 := fun o => (Hd.mk (HBd.out.own1 (o := o) hb3) : Hd _)
      clear ha3 hn3 hb3 hnb hcell
      go_wp2_with (first
        | (at_builtin; refine wpList_append_lies _ rfl _ _ 65 rfl wn.heap.size 29 i1 (.pointer none) 1 8 Try.underlying65 hi1 hy0 hy1 hy2 rfl (by decide) u9 j (ptrs bs j) rfl (HO1 _).out ⟨w3.heap.size, 0, none⟩ 1 1 [.pointer (some ⟨b, 0, none⟩)] rfl rfl (World.news_of_block (cs := #[.pointer (some ⟨b, 0, none⟩)]) (t := 29) (fr := (0, 0)) (heap_alloc_new w3 _)) (by simp [Value.oneCell']) (by omega) (by unfold maxLen; omega) (by omega) (by simp; omega) (w3.heap.size + 1) (by simp) ?_; intro g4 c4 w4 hown4 hgrow4 hat4 hlt4;
           have HO2 := fun o => (Hd.mk (HBd.out.own2 (o2 := o) H3.out hgrow4) : Hd _); have HW4 : Hd _ := ⟨hown4⟩; have HG4 : Hd _ := ⟨hgrow4⟩; have z4 := hgrow4.size; rw [World.size_alloc] at z4; clear hown4 hgrow4)
        | (at_builtin; refine wpList_append_lies _ rfl _ _ 23 rfl wn.heap.size 3 i2 (.int .i64 0) 1 8 Try.underlying23 hi2 hx0 hx1 hx2 rfl (by decide) u10 j (zeros j) rfl (HO2 _).out ⟨w4.heap.size, 0, none⟩ 1 1 [.int .i64 0] rfl rfl (World.news_of_block (cs := #[.int .i64 0]) (t := 3) (fr := (0, 0)) (heap_alloc_new w4 _)) (by simp [Value.oneCell']) (by omega) (by unfold maxLen; omega) (by omega) (by simp; omega) (w4.heap.size + 1) (by simp) ?_; intro g5 c5 w5 hown5 hgrow5 hat5 hlt5;
           have HW5 : Hd _ := ⟨hown5⟩; have HG5 : Hd _ := ⟨hgrow5⟩; clear hown5 hgrow5))
      go_roundw
      case rel => exact ⟨j + 1, _, _, by omega, by go_num, ⟨HBd.out.step H3.out hbw3 HA3.out HN3.out HW4.out HG4.out hat4 HW5.out HG5.out hat5 hlt4 (by omega) (nsOf_le l j)⟩⟩
      case measure => simp [intOf]; omega
    · obtain rfl : j = l.length := by omega
      obtain ⟨Aa, ca, e9, hca, hva, hca2⟩ := own_view HBd.out.b.acts
      obtain ⟨Ad, cd, e10, hcd, hvd, hcd2⟩ := own_view HBd.out.did
      subst e9 e10
      have hact : ActsAt Aa l.length bs wr := fun i hi => by
        obtain ⟨b, e2, hc3⟩ := hca2 i (.pointer (some ⟨bs i, 0, none⟩)) (by unfold ptrs; simp [hi])
        exact ⟨b, 0, e2, by rw [Nat.zero_add]; exact hc3⟩
      have haf : ∀ b o, Aa = some ⟨b, o, none⟩ → b < wr.heap.size ∧ ¬ foot b := fun b o e => ⟨(hva b o e).2.1, HBd.out.b.free b (hva b o e).2.2⟩
      have z1 := hb1.size
      rw [World.size_alloc] at z1
      have Bw : Below w.heap.size w wr := ((((Below.refl _ w).alloc (Nat.le_refl _) _).trans (hb1.mono (by simp))).trans (H1N.out.mono (by omega))).trans (hbw.mono (by omega))
      have C1 : Below (w.heap.size + 1) (w.alloc (.cells #[.bool false] 4)) wr := ((hb1.mono (by simp)).trans (H1N.out.mono (by omega))).trans (hbw.mono (by omega))
      have HC1 : Hd _ := ⟨C1⟩
      clear C1
      have hpr := HP.out.below Bw
      have hpk := picks_of hpr
      have HTn : Hd _ := ⟨turn_all HBd.out.b.fleet (fun e i => by rw [nsOf_out l i (by omega)]; omega) ps P capp Aa ca hpk.1 hact (fun h0 b o e => ⟨hpk.2 h0 b o e, fun hf => by
        obtain ⟨bx, ox, e3, hb3, _⟩ := recs_ints HP.out h0
        rw [e] at e3; cases e3
        have := HBd.out.b.fleet.foot_ge b hf; omega⟩) haf hp⟩
      have HAc : Hd _ := ⟨hact⟩
      have HAf : Hd _ := ⟨haf⟩
      have HPR : Hd _ := ⟨hpr⟩
      have HBW : Hd _ := ⟨Bw⟩
      have HDc : Hd _ := ⟨hcd2⟩
      have HDv : Hd _ := ⟨hvd⟩
      clear hact haf hpr hpk Bw hca2 hva hcd2 hvd
      go_wp2_with fail
      refine HTn.out.mono ?_
      rintro e w5 ⟨rfl, row5, hF5, hT5, hK5⟩
      have HF5 : Hd _ := ⟨hF5⟩
      have HT5 : Hd _ := ⟨hT5⟩
      have z5 := hT5.size
      clear hF5 hT5 hK5
      have z4 := hbw.size
      have fge : ∀ k, foot k → wn.heap.size ≤ k := HBd.out.b.fleet.foot_ge
      have nb5 : w5.cell? ⟨w1.heap.size, 0, none⟩ = some (.slice An l.length cn) := (HT5.out.cell (p := ⟨w1.heap.size, 0, none⟩) (by show w1.heap.size < _; omega) (fun hf => by have := fge w1.heap.size hf; omega)).trans hnb
      have n5 : ∀ j, j < l.length → ∃ b o, An = some ⟨b, o, none⟩ ∧ w5.cell? ⟨b, o + j, none⟩ = some (.int .i64 (nsOf l j : Nat)) := fun j hj => by
        obtain ⟨nr, rfl, hcn⟩ := HC.out j _ (nsOf_lens l j hj)
        have hnr := (HFN.out nr 0 rfl).2.1
        exact ⟨nr, 0, rfl, by rw [Nat.zero_add]; exact (HT5.out.cell (p := ⟨nr, j, none⟩) (by show nr < _; omega) (fun hf => by have := fge nr hf; omega)).trans ((hbw.cell (p := ⟨nr, j, none⟩) (by show nr < _; omega)).trans ((H1N.out.cell (p := ⟨nr, j, none⟩) hnr).trans hcn))⟩
      have d5 : ∀ j, j < l.length → ∃ b o, Ad = some ⟨b, o, none⟩ ∧ w5.cell? ⟨b, o + j, none⟩ = some (.int .i64 (((fun _ => 0 : Nat → Nat) j : Nat) : Int)) := fun j hj => by
        obtain ⟨b, rfl, hc⟩ := HDc.out j (.int .i64 0) (by unfold zeros; simp [hj])
        have hv := HDv.out b 0 rfl
        exact ⟨b, 0, rfl, by rw [Nat.zero_add]; exact (HT5.out.cell (p := ⟨b, j, none⟩) hv.2.1 (HBd.out.apart b hv.2.2).1).trans hc⟩
      have hb5 : Below wn.heap.size wr w5 := HT5.out.below z4 (fun k hk hf => by have := fge k hf; omega)
      have B5 : Below w.heap.size w w5 := HBW.out.trans (hb5.mono (by omega))
      have HRf : Hd _ := ⟨refTurn_all (nsOf l) (fun _ => 0) l.length ps (fun e i => by rw [nsOf_out l i (by omega)]; omega) hl (fun i _ => nsOf_le l i) hp An Ad P cn cd capp w5 (c_toL hl n5) (c_toL hl d5) (c_recs (HP.out.below B5)) hnc hcd hcp⟩
      have HC5 : Hd _ := ⟨(HC1.out.trans (hb5.mono (by omega)) : Below (w.heap.size + 1) (w.alloc (.cells #[.bool false] 4)) w5)⟩
      have HN5 : Hd _ := ⟨n5⟩
      have HB5 : Hd _ := ⟨B5⟩
      have hmany := cnt_all (nsOf l) l.length ps ps.length (fun e i => nsOf_out l i (by omega))
      obtain ⟨Al, cl, hlog⟩ := HF5.out.logCell 0 (Nat.lt_succ_self 0)
      rw [hmany] at hlog
      clear n5 d5 B5 hb5 hmany HTn
      go_wp2_with fail
      refine HRf.out.mono ?_
      rintro e w6 ⟨v6, rfl, HP6⟩
      obtain ⟨A6, c6, rfl⟩ := Kd.R_slice HP6.out.1
      have hb6 := HP6.out.2
      have nb6 : w6.cell? ⟨w1.heap.size, 0, none⟩ = some (.slice An l.length cn) := (hb6.cell (p := ⟨w1.heap.size, 0, none⟩) (by show w1.heap.size < _; omega)).trans nb5
      have lg6 := (hb6.cell (p := ⟨wn.heap.size, 0, none⟩) (HF5.out.lb_lt)).trans hlog
      rw [hzn] at lg6
      rw [toL_length]
      have l6 := lt_of_cell lg6
      have ne6 : ¬ w1.heap.size + 1 = w6.heap.size := by have : w1.heap.size + 1 < w6.heap.size := l6; omega
      have ne6' : ¬ w6.heap.size = w1.heap.size + 1 := fun e => ne6 e.symm
      have ne7 : ¬ w1.heap.size = w6.heap.size := by have : w1.heap.size + 1 < w6.heap.size := l6; omega
      have ne7' : ¬ w6.heap.size = w1.heap.size := fun e => ne7 e.symm
      have HN6 : Hd _ := ⟨nb5⟩
      have HB6 : Hd _ := ⟨hb6⟩
      clear nb5 hlog hb6 hbw fge HRf
      go_wp2_with (first | (go_at_call 37; refine (going_any _ _ _ _).mono ?_; rintro e w7 ⟨rfl, rfl⟩))
      refine (wpIn_wide (n := 5)).1 ?_
      gi_wp2
      obtain ⟨W0, hW0⟩ : ∃ W0, W0 = ((w6.alloc (.cells #[.slice A6 l.length c6] 23)).alloc (.cells #[.slice Aa l.length ca] 65)).alloc (.cells #[.int .i64 (-1)] 3) := ⟨_, rfl⟩
      rw [← hW0]
      obtain ⟨z0, h60, hc0, hc1, hc2, hk0⟩ := alloc3 _ _ _ _ _ _ _ _ hW0
      clear hW0
      have z6 := HB6.out.size
      have fge : ∀ k, foot k → wn.heap.size ≤ k := HBd.out.b.fleet.foot_ge
      -- the acts, and the fleet, at W0
      have F0 := (HF5.out.below HB6.out).below h60
      obtain ⟨T, hT⟩ : ∃ T, T = (turned (nsOf l) l.length ps (fun _ => 0) ps.length).1 := ⟨_, rfl⟩
      rw [← hT] at F0 HP6
      have A5 : ActsAt Aa l.length bs w5 := HAc.out.touch HT5.out HAf.out
      have A0 : ActsAt Aa l.length bs W0 := fun j hj => by
        obtain ⟨ba, oa, e, hc⟩ := A5 j hj
        have hb := (HAf.out ba oa e).1
        exact ⟨ba, oa, e, (h60.cell (p := ⟨ba, oa + j, none⟩) (by show ba < _; omega)).trans ((HB6.out.cell (p := ⟨ba, oa + j, none⟩) (by show ba < _; omega)).trans hc)⟩
      have hc6 : RowAt w6 A6 l.length T := by
        obtain ⟨A6', c6', e6, _, hC⟩ := Kd.R_reads HP6.out.1
        cases e6
        rw [toL_length] at hC
        exact rows_toL hC
      have M0 : RowAt W0 A6 l.length T := hc6.below h60
      have N0 : RowAt W0 An l.length (nsOf l) := RowAt.below (fun j hj => HN5.out j hj : RowAt w5 An l.length (nsOf l)) (HB6.out.trans (h60.mono (by omega)))
      have nb0 : W0.cell? ⟨w1.heap.size, 0, none⟩ = some (.slice An l.length cn) := (h60.cell (p := ⟨w1.heap.size, 0, none⟩) (by show w1.heap.size < _; omega)).trans nb6
      have M0l : ∀ b o, A6 = some ⟨b, o, none⟩ → 0 < l.length → b < w6.heap.size := fun b o e h0 => by
        obtain ⟨b', o', e', hc⟩ := hc6 0 h0
        rw [e] at e'; cases e'; exact lt_of_cell hc
      have HF0 : Hd _ := ⟨F0⟩
      have HA0 : Hd _ := ⟨A0⟩
      have HM0 : Hd _ := ⟨M0⟩
      have HN0 : Hd _ := ⟨N0⟩
      have HT : Hd _ := ⟨hT⟩
      have footge : ∀ k, (foot k ∨ wr.heap.size ≤ k ∧ k < w5.heap.size) → wn.heap.size ≤ k := HF5.out.foot_ge
      have foot5 : ∀ k, (foot k ∨ wr.heap.size ≤ k ∧ k < w5.heap.size) → k < w5.heap.size := HF5.out.foot_lt
      have foot6 : ∀ k, (foot k ∨ wr.heap.size ≤ k ∧ k < w5.heap.size) → k < w6.heap.size := fun k hk => by have := HF5.out.foot_lt k hk; omega
      refine wpIn_rangeFunc_hears2 rfl (by omega) (gf := 44) (lb := #[.pointer (some ⟨w6.heap.size + 1, 0, none⟩)]) rfl trivial (enters_of Try.func44 (by kernel_rfl) rfl)
        (fun pre V => LastAt W0 (w6.heap.size + 1 + 1) pre V) (GoCan l.length (nsOf l) T) (fun xs => xs = going (nsOf l) T l.length) (going_hears (base := wn.heap.size) (lb := wn.heap.size) (lo := fun _ => 0) (no := 1) (bs := bs) (A := Aa) (capa := ca) _ (fun pre V h => ?need) _) (fun _ => rfl) (LastAt.own (by omega)) ?zero ?round ?done
      case need =>
        refine ⟨(h.touch.cell (p := ⟨w6.heap.size + 1, 0, none⟩) (by show w6.heap.size + 1 < _; omega) (fun e => by have e : w6.heap.size + 1 = w6.heap.size + 1 + 1 := e; omega)).trans hc1, A0.touch h.touch (fun ba oa e => ?_), T, row5, _, F0.touch h.touch (fun k hk e => ?_), fun k _ j _ => rfl⟩
        · have hb := (HAf.out ba oa e).1
          exact ⟨by omega, fun e => by omega⟩
        · have := foot6 k hk
          omega
      case zero => exact ⟨Touch.refl _ _, KeepsOthers.refl _, hc2⟩
      case round =>
        rintro l0 pre x W V ⟨hT1, hK1, hl1⟩ ⟨c1, c2, c3⟩
        have HL1 : Hd _ := ⟨(⟨hT1, hK1, hl1⟩ : LastAt W0 (w6.heap.size + 1 + 1) pre V)⟩
        obtain ⟨g1, g2, g3⟩ := lastOf_going (nsOf l) T x
        rw [← c3] at g1 g2 g3
        have e0 : V.cell? ⟨w6.heap.size + 1 + 1, 0, none⟩ = some (.int .i64 (lastOf pre)) := blk_cell hl1 (i := 0) rfl
        have e1 : V.cell? ⟨w1.heap.size, 0, none⟩ = some (.slice An l.length cn) := (hT1.cell (p := ⟨w1.heap.size, 0, none⟩) (by show w1.heap.size < _; omega) (fun e => by have e : w1.heap.size = w6.heap.size + 1 + 1 := e; omega)).trans nb0
        have e2 : V.cell? ⟨w6.heap.size, 0, none⟩ = some (.slice A6 l.length c6) := (hT1.cell (p := ⟨w6.heap.size, 0, none⟩) (by show w6.heap.size < _; omega) (fun e => by have e : w6.heap.size = w6.heap.size + 1 + 1 := e; omega)).trans hc0
        have NV : RowAt V An l.length (nsOf l) := N0.touch hT1 (fun b o e hb => by
          obtain ⟨b', o', e', hc'⟩ := HN5.out x c1
          rw [e] at e'; cases e'; have := lt_of_cell hc'; dsimp only at this; omega)
        have MV : RowAt V A6 l.length T := M0.touch hT1 (fun b o e hb => by have := M0l b o e (by omega); omega)
        obtain ⟨nr, no, rfl, ex⟩ := NV x c1
        obtain ⟨mr, mo, rfl, ey⟩ := MV x c1
        have hov : ∀ m, Calls Try.prog 15 #[.pointer (some ⟨bs x, 0, none⟩)] (V.drewN m) fun e w' => e = .returned (.bool false) ∧ w' = V.drewN m := fun m => by
          have h := fleet_over ((F0.touch hT1 (fun k hk e => by have := foot6 k hk; omega)).draw m) x c1
          rw [decide_eq_false (by omega)] at h
          exact h.mono fun e w' ⟨h1, h2⟩ => ⟨h1, h2.symm⟩
        have HO : Hd _ := ⟨hov⟩
        have HG : Hd _ := ⟨g3⟩
        have HNV : Hd _ := ⟨NV⟩
        have HMV : Hd _ := ⟨MV⟩
        have HC3 : Hd _ := ⟨c3⟩
        clear c3 hT hov g3 NV MV F0 A0 M0 N0 hT1 hK1 hl1 hc0 hc1 hc2 nb0 A5 h60 hc6 M0l
        dsimp only [encAct]
        gi_wp2
        refine And.intro trivial ?_
        have hlo : (0 : Int) ≤ (x : Int) := by omega
        have hhi : (x : Int) < (l.length : Int) := by omega
        have hlt : (T x : Int) < (nsOf l x : Int) := by omega
        have d1 : decide ((x : Int) ≤ lastOf pre) = false := decide_eq_false (by omega)
        have d2 : ¬ l.length ≤ x := by omega
        have d3 : ¬ nsOf l x ≤ T x := by omega
        gi_wp2
        refine wpIn_region_quietR (by kernel_rfl) (by kernel_rfl) (by kernel_rfl) ?_
        repeat (gi_big_quiet_step (exact CallsIn.quiet_of_same (CallsIn.inRound l0 (callsIn_wide.2 (HO.out _)))))
        refine wpQuietIn_nil ?_
        intro _ hw'
        obtain ⟨nq, hw''⟩ := hw'
        subst hw''
        have f0 := blk_free HL1.out.last 0
        gi_wp2
        gi_loopw [19] (fun k wq => ∃ kk m : Nat, lastOf pre < kk ∧ kk ≤ x ∧ k = .int .i64 kk ∧ Hd (wq = V.drewN m)) (fun k _ => x - (intOf k).toNat)
        case atStart => exact ⟨(lastOf pre + 1).toNat, nq, by omega, by omega, by go_num, ⟨rfl⟩⟩
        case round =>
          obtain ⟨kk, m, h1, h2, rfl, HW⟩ := hrel
          have q0 : wr.cell? ⟨w6.heap.size + 1 + 1, 0, none⟩ = some (.int .i64 (lastOf pre)) := by rw [HW.out]; exact e0
          have q1 : wr.cell? ⟨w1.heap.size, 0, none⟩ = some (.slice (some ⟨nr, no, none⟩) l.length cn) := by rw [HW.out]; exact e1
          have q2 : wr.cell? ⟨w6.heap.size, 0, none⟩ = some (.slice (some ⟨mr, mo, none⟩) l.length c6) := by rw [HW.out]; exact e2
          have q3 : wr.frozen? ⟨w6.heap.size + 1 + 1, 0, none⟩ = false := by rw [HW.out]; exact f0
          by_cases hkx : kk < x
          · obtain ⟨b1, o1, y1, z1⟩ := HNV.out kk (by omega)
            obtain ⟨b2, o2, y2, z2⟩ := HMV.out kk (by omega)
            cases y1
            cases y2
            have z3 : wr.cell? ⟨nr, no + kk, none⟩ = some (.int .i64 (nsOf l kk : Nat)) := by rw [HW.out]; exact z1
            have z4 : wr.cell? ⟨mr, mo + kk, none⟩ = some (.int .i64 (T kk : Nat)) := by rw [HW.out]; exact z2
            have hge : ¬ T kk < nsOf l kk := HG.out kk hkx h1
            have hlo2 : (0 : Int) ≤ (kk : Int) := by omega
            have hhi2 : (kk : Int) < (l.length : Int) := by omega
            have hkx2 : (kk : Int) < (x : Int) := by omega
            gi_wp2
            refine wpIn_region_quietR (by kernel_rfl) (by kernel_rfl) (by kernel_rfl) ?_
            repeat (gi_big_quiet_step (fail))
            refine wpQuietIn_nil ?_
            intro _ hw3
            obtain ⟨nq3, hw4⟩ := hw3
            subst hw4
            gi_wp2
            go_roundw
            case rel => exact ⟨kk + 1, m + nq3, by omega, by omega, by go_num, ⟨by rw [HW.out, World.drewN_drewN]⟩⟩
            case measure => simp [intOf]; omega
          · obtain rfl : kk = x := by omega
            gi_wp2
            rw [HW.out]
            exact ⟨(HL1.out.fin m kk).1.from _, (HL1.out.fin m kk).2⟩
      case done =>
        rintro D xs V rfl rfl ⟨hT1, hK1, hl1⟩ hD
        obtain ⟨g1, g2, g3⟩ := lastOf_going (nsOf l) T l.length
        have e0 : V.cell? ⟨w6.heap.size + 1 + 1, 0, none⟩ = some (.int .i64 (lastOf (going (nsOf l) T l.length))) := blk_cell hl1 (i := 0) rfl
        have e1 : V.cell? ⟨w1.heap.size, 0, none⟩ = some (.slice An l.length cn) := (hT1.cell (p := ⟨w1.heap.size, 0, none⟩) (by show w1.heap.size < _; omega) (fun e => by have e : w1.heap.size = w6.heap.size + 1 + 1 := e; omega)).trans nb0
        have e2 : V.cell? ⟨w6.heap.size, 0, none⟩ = some (.slice A6 l.length c6) := (hT1.cell (p := ⟨w6.heap.size, 0, none⟩) (by show w6.heap.size < _; omega) (fun e => by have e : w6.heap.size = w6.heap.size + 1 + 1 := e; omega)).trans hc0
        have NV : RowAt V An l.length (nsOf l) := N0.touch hT1 (fun b o e hb => by
          rcases Nat.eq_zero_or_pos l.length with h0 | h0
          · have := (HFN.out b o e).2.1; omega
          · obtain ⟨b', o', e', hc'⟩ := HN5.out 0 h0
            rw [e] at e'; cases e'; have := lt_of_cell hc'; dsimp only at this; omega)
        have FV := F0.touch hT1 (fun k hk e => by have := foot6 k hk; omega)
        have AV : ActsAt Aa l.length bs V := A0.touch hT1 (fun ba oa e => by
          have hb := (HAf.out ba oa e).1
          exact ⟨by omega, fun e => by omega⟩)
        have MV : RowAt V A6 l.length T := by
          rcases Nat.eq_zero_or_pos l.length with h0 | h0
          · rw [h0]; exact fun j hj => absurd hj (Nat.not_lt_zero _)
          · exact M0.touch hT1 (fun b o e hb => by have := M0l b o e h0; omega)
        have zV := hT1.size
        have CV : Below (w.heap.size + 1) (w.alloc (.cells #[.bool false] 4)) V := ((HC5.out.trans (HB6.out.mono (by omega))).trans (h60.mono (by omega))).trans (hT1.below (by omega) (fun k hk e => by omega))
        have BV : Below w.heap.size w V := ((HB5.out.trans (HB6.out.mono (by omega))).trans (h60.mono (by omega))).trans (hT1.below (by omega) (fun k hk e => by omega))
        obtain ⟨gl, hgl⟩ : ∃ gl, gl = lastOf (going (nsOf l) T l.length) := ⟨_, rfl⟩
        rw [← hgl] at g1 g2 g3 e0
        have HG3 : Hd _ := ⟨g3⟩
        have HFV : Hd _ := ⟨FV⟩
        have HAV : Hd _ := ⟨AV⟩
        have HNV : Hd _ := ⟨NV⟩
        have HMV : Hd _ := ⟨MV⟩
        have HCV : Hd _ := ⟨CV⟩
        have HBV : Hd _ := ⟨BV⟩
        have HDV : Hd _ := ⟨hD⟩
        clear hgl g3 FV AV NV MV CV BV hD hl1 hK1 hT1 hT A0 A5 N0 M0 M0l F0 hc0 hc1 hc2 nb0 hc6
        go_wp2
        go_loopw [20] (fun k wq => ∃ kk m : Nat, gl < kk ∧ kk ≤ l.length ∧ k = .int .i64 kk ∧ Hd (wq = V.drewN m)) (fun k _ => l.length - (intOf k).toNat)
        case atStart => exact ⟨(gl + 1).toNat, 0, by omega, by omega, by go_num, ⟨rfl⟩⟩
        case round =>
          obtain ⟨kk, m, h1, h2, rfl, HW⟩ := hrel
          have q1 : wr.cell? ⟨w1.heap.size, 0, none⟩ = some (.slice An l.length cn) := by rw [HW.out]; exact e1
          have q2 : wr.cell? ⟨w6.heap.size, 0, none⟩ = some (.slice A6 l.length c6) := by rw [HW.out]; exact e2
          by_cases hkx : kk < l.length
          · obtain ⟨b1, o1, rfl, z1⟩ := HNV.out kk hkx
            obtain ⟨b2, o2, rfl, z2⟩ := HMV.out kk hkx
            have z3 : wr.cell? ⟨b1, o1 + kk, none⟩ = some (.int .i64 (nsOf l kk : Nat)) := by rw [HW.out]; exact z1
            have z4 : wr.cell? ⟨b2, o2 + kk, none⟩ = some (.int .i64 (T kk : Nat)) := by rw [HW.out]; exact z2
            have hge : ¬ T kk < nsOf l kk := HG3.out kk hkx h1
            have hlo2 : (0 : Int) ≤ (kk : Int) := by omega
            have hhi2 : (kk : Int) < (l.length : Int) := by omega
            go_wp2
            go_quiet (fail)
            go_wp2
            go_roundw
            case rel => exact ⟨kk + 1, m + nq, by omega, by omega, by go_num, ⟨by rw [HW.out, World.drewN_drewN]⟩⟩
            case measure => simp [intOf]; omega
          · obtain rfl : kk = l.length := by omega
            have FW := HFV.out.draw m
            rw [← HW.out] at FW
            have AW : ActsAt Aa l.length bs wr := by rw [HW.out]; exact HAV.out
            have HRs : Hd _ := ⟨rest_any FW Aa ca AW (fun ba oa e => ⟨by rw [HW.out]; have hb := (HAf.out ba oa e).1; show ba < V.heap.size; omega, fun hf => by
              have hb := HAf.out ba oa e
              rcases hf with hf | hf
              · exact hb.2 hf
              · omega⟩) limit hlim⟩
            have HFW : Hd _ := ⟨FW⟩
            have HAW : Hd _ := ⟨AW⟩
            have zW : wr.heap.size = V.heap.size := by rw [HW.out]; rfl
            clear FW AW
            go_wp2_with fail
            refine HRs.out.mono ?_
            rintro e w7 ⟨rfl, row7, hF7, hT7, hK7⟩
            have z7 := hT7.size
            have B7 : Below wn.heap.size wr w7 := hT7.below (by omega) (fun k hk hf => by have := footge k hf; omega)
            have n7 : w7.cell? ⟨w1.heap.size, 0, none⟩ = some (.slice An l.length cn) := (B7.cell (p := ⟨w1.heap.size, 0, none⟩) (by show w1.heap.size < _; omega)).trans q1
            have m7 : w7.cell? ⟨w6.heap.size, 0, none⟩ = some (.slice A6 l.length c6) := (hT7.cell (p := ⟨w6.heap.size, 0, none⟩) (by show w6.heap.size < _; omega) (fun hf => by have := foot6 _ hf; dsimp only at this; omega)).trans q2
            obtain ⟨T2, hT2⟩ : ∃ T2, T2 = (rested (nsOf l) l.length limit.toNat T).1 := ⟨_, rfl⟩
            rw [← hT2] at hF7
            have N7 : RowAt w7 An l.length (nsOf l) := by
              refine RowAt.touch (W := wr) (by rw [HW.out]; exact HNV.out) hT7 (fun b o e hf => ?_)
              have := (HFN.out b o e).2.1
              have := footge b hf
              omega
            have M7 : RowAt w7 A6 l.length T := by
              refine RowAt.touch (W := wr) (by rw [HW.out]; exact HMV.out) hT7 (fun b o e hf => ?_)
              obtain ⟨inner, hown⟩ := Kd.R_own HP6.out.1
              have hown : w6.ownsRow w5.heap.size 3 1 _ _ _ := hown
              obtain ⟨A', c', e', _, hv, _⟩ := own_view hown
              cases e'
              have := (hv b o e).1
              have := foot5 b hf
              omega
            have hc6l : l.length ≤ c6 := by
              obtain ⟨A', c', e', hle, _⟩ := Kd.R_reads HP6.out.1
              cases e'
              rwa [toL_length] at hle
            have A7 : ActsAt Aa l.length bs w7 := HAW.out.touch hT7 (fun ba oa e => ⟨by have hb := (HAf.out ba oa e).1; omega, fun hf => by
              have hb := HAf.out ba oa e
              rcases hf with hf | hf
              · exact hb.2 hf
              · omega⟩)
            have C7 : Below (w.heap.size + 1) (w.alloc (.cells #[.bool false] 4)) w7 := (Below.drawN HCV.out m).trans (HW.out ▸ B7.mono (by omega))
            have W7 : Below w.heap.size w w7 := (Below.drawN HBV.out m).trans (HW.out ▸ B7.mono (by omega))
            have D7 : w7.heap[W0.heap.size]? = some (.deferred (some [])) := hK7.same _ _ (by rw [HW.out]; exact HDV.out) rfl
            have HRr : Hd _ := ⟨refRest (nsOf l) T l.length limit hl (fun i _ => nsOf_le l i) hlim An A6 cn c6 w7 (c_toL hl N7) (c_toL hl M7) hnc hc6l⟩
            rw [← hT2] at HRr
            have H7 : Hd _ := ⟨hF7⟩
            have HA7 : Hd _ := ⟨A7⟩
            have HN7 : Hd _ := ⟨N7⟩
            have HC7 : Hd _ := ⟨C7⟩
            have HW7 : Hd _ := ⟨W7⟩
            have HD7 : Hd _ := ⟨D7⟩
            clear hF7 A7 N7 M7 C7 W7 D7 B7 hT7 hK7 hT2 HRs q1 q2 e0 e1 e2
            go_wp2_with fail
            refine HRr.out.mono ?_
            rintro e w8 ⟨v8, rfl, HP8⟩
            have hb8 := HP8.out.2
            have z8 := hb8.size
            have E8 : ∃ Ae ce, v8 = .slice Ae l.length ce ∧ RowAt w8 Ae l.length T2 := by
              obtain ⟨A', c', e', hle, hC⟩ := Kd.R_reads HP8.out.1
              rw [toL_length] at e' hC
              exact ⟨A', c', e', rows_toL hC⟩
            obtain ⟨Ae, ce, rfl, E8⟩ := E8
            have F8 := H7.out.below hb8
            have A8 : ActsAt Aa l.length bs w8 := HA7.out.touch (Touch.of_below hb8 (fun _ => False)) (fun ba oa e => ⟨by have hb := (HAf.out ba oa e).1; omega, fun e => e⟩)
            have N8 := HN7.out.below hb8
            have n8 : w8.cell? ⟨w1.heap.size, 0, none⟩ = some (.slice An l.length cn) := (hb8.cell (p := ⟨w1.heap.size, 0, none⟩) (by show w1.heap.size < _; omega)).trans n7
            have HF8 : Hd _ := ⟨F8⟩
            have HA8 : Hd _ := ⟨A8⟩
            have HN8 : Hd _ := ⟨N8⟩
            have HE8 : Hd _ := ⟨E8⟩
            have HB8 : Hd _ := ⟨hb8⟩
            clear F8 A8 N8 E8 hb8 n7 m7 HP8 HRr
            go_wp2_with fail
            go_loopw [24] (fun k wq => ∃ kk m : Nat, kk ≤ l.length ∧ k = .int .i64 kk ∧ Hd (wq = w8.drewN m)) (fun k _ => l.length - (intOf k).toNat)
            case atStart => exact ⟨0, 0, by omega, rfl, ⟨rfl⟩⟩
            case round =>
              obtain ⟨kk, m2, h3, rfl, HX⟩ := hrel
              have r1 : wr.cell? ⟨w1.heap.size, 0, none⟩ = some (.slice An l.length cn) := by rw [HX.out]; exact n8
              by_cases hkx : kk < l.length
              · obtain ⟨b1, o1, rfl, y1⟩ := HN8.out kk hkx
                obtain ⟨b2, o2, rfl, y2⟩ := HE8.out kk hkx
                obtain ⟨b3, o3, rfl, y3⟩ := HA8.out kk hkx
                have x1 : wr.cell? ⟨b1, o1 + kk, none⟩ = some (.int .i64 (nsOf l kk : Nat)) := by rw [HX.out]; exact y1
                have x2 : wr.cell? ⟨b2, o2 + kk, none⟩ = some (.int .i64 (T2 kk : Nat)) := by rw [HX.out]; exact y2
                have x3 : wr.cell? ⟨b3, o3 + kk, none⟩ = some (.pointer (some ⟨bs kk, 0, none⟩)) := by rw [HX.out]; exact y3
                have hle := HF8.out.le kk hkx
                have hlo2 : (0 : Int) ≤ (kk : Int) := by omega
                have hhi2 : (kk : Int) < (l.length : Int) := by omega
                have hcn : ∀ q, Calls Try.prog 17 #[.pointer (some ⟨bs kk, 0, none⟩)] (wr.drewN q) fun e w' => e = .returned (.int .i64 (T2 kk : Nat)) ∧ w' = wr.drewN q := fun q => by
                  have h := fleet_count (HF8.out.draw (m2 + q)) kk hkx
                  rw [HX.out, World.drewN_drewN]
                  exact h.mono fun e w' ⟨h1, h2⟩ => ⟨h1, h2.symm⟩
                have hov : ∀ q, Calls Try.prog 15 #[.pointer (some ⟨bs kk, 0, none⟩)] (wr.drewN q) fun e w' => e = .returned (.bool (decide (T2 kk = nsOf l kk))) ∧ w' = wr.drewN q := fun q => by
                  have h := fleet_over (HF8.out.draw (m2 + q)) kk hkx
                  rw [HX.out, World.drewN_drewN]
                  exact h.mono fun e w' ⟨h1, h2⟩ => ⟨h1, h2.symm⟩
                have HCn : Hd _ := ⟨hcn⟩
                clear hcn
                by_cases hst : T2 kk = nsOf l kk
                · rw [decide_eq_true hst] at hov
                  have HOv : Hd _ := ⟨hov⟩
                  have hge : nsOf l kk ≤ T2 kk := by omega
                  clear hov hst
                  go_wp2
                  go_quiet (first | (go_at_call 15; exact Calls.quiet_of_same (HOv.out _)) | (go_at_call 17; exact Calls.quiet_of_same (HCn.out _)))
                  go_wp2
                  go_roundw
                  case rel => exact ⟨kk + 1, m2 + nq, by omega, by go_num, ⟨by rw [HX.out, World.drewN_drewN]⟩⟩
                  case measure => simp [intOf]; omega
                · rw [decide_eq_false hst] at hov
                  have HOv : Hd _ := ⟨hov⟩
                  have hge : ¬ nsOf l kk ≤ T2 kk := by omega
                  clear hov hst
                  go_wp2
                  go_quiet (first | (go_at_call 15; exact Calls.quiet_of_same (HOv.out _)) | (go_at_call 17; exact Calls.quiet_of_same (HCn.out _)))
                  go_wp2
                  go_roundw
                  case rel => exact ⟨kk + 1, m2 + nq, by omega, by go_num, ⟨by rw [HX.out, World.drewN_drewN]⟩⟩
                  case measure => simp [intOf]; omega
              · obtain rfl : kk = l.length := by omega
                have hw9 : wr.heap.size = w8.heap.size := by rw [HX.out]; rfl
                have C9 : Below (w.heap.size + 1) (w.alloc (.cells #[.bool false] 4)) wr := by rw [HX.out]; exact Below.drawN (HC7.out.trans (HB8.out.mono (by omega))) m2
                have W9 : Below w.heap.size w wr := by rw [HX.out]; exact Below.drawN (HW7.out.trans (HB8.out.mono (by omega))) m2
                have D9 : wr.heap[W0.heap.size]? = some (.deferred (some [])) := by rw [HX.out]; exact (HB8.out.block _ (Array.getElem?_eq_some_iff.1 HD7.out).1).trans HD7.out
                have HC9 : Hd _ := ⟨C9⟩
                have HW9 : Hd _ := ⟨W9⟩
                have HD9 : Hd _ := ⟨D9⟩
                clear C9 W9 D9
                go_wp2_with fail
                refine (actAwake _).mono ?_
                rintro e w9 ⟨rfl, hb9⟩
                have z9 := hb9.size
                have r9 : w9.heap[w.heap.size]? = some (.cells #[.bool false] 4 (0, 0)) := (hb9.block _ (by have := HC9.out.size; simp at this; omega)).trans ((HC9.out.block _ (by omega)).trans (heap_alloc_new w _))
                have W10 : Below w.heap.size w w9 := HW9.out.trans (hb9.mono (by have := HW9.out.size; omega))
                have D10 : w9.heap[W0.heap.size]? = some (.deferred (some [])) := (hb9.block _ (Array.getElem?_eq_some_iff.1 HD9.out).1).trans HD9.out
                have zz : w.heap.size < W0.heap.size := by
                  have := HB5.out.size
                  omega
                have s1 := blk_cell r9 (i := 0) rfl
                have s2 := blk_free r9 0
                have HR9 : Hd _ := ⟨r9⟩
                have HW10 : Hd _ := ⟨W10⟩
                have HD10 : Hd _ := ⟨D10⟩
                clear r9 W10 D10 hb9
                go_wp2
                have zs : (w9.setCell ⟨w.heap.size, 0, none⟩ (.bool true)).heap.size = w9.heap.size := by simp [World.setCell]
                refine leaves_marks (B := W0.heap.size) _ _ ⟨fun d hd => ⟨W0.heap.size, (List.mem_singleton.1 (show d ∈ [{ target := .collected (w6.heap.size + 3), args := #[] }] from hd)).trans (by rw [z0]), Nat.le_refl _, ?_⟩, List.pairwise_singleton _ _⟩ fun W' hs => ⟨_, results_cell1 rfl _ _ w.heap.size (.bool true) rfl ?_, rfl, ?_⟩
                · exact (Below.heap_setCell _ _ _ _ (by show W0.heap.size ≠ w.heap.size; omega)).trans HD10.out
                · have hb : (w9.setCell ⟨w.heap.size, 0, none⟩ (.bool true)).heap[w.heap.size]? = some (.cells #[.bool true] 4 (0, 0)) := by
                    simp [World.setCell, Array.getElem?_modify, HR9.out]
                  have hc : W'.cell? ⟨w.heap.size, 0, none⟩ = some (.bool true) := blk_cell (i := 0) (hs.cells _ _ _ _ hb) rfl
                  simp [go_sem, hc]
                · have hz := HW10.out.size
                  have hd : w9.heap.size > W0.heap.size := (Array.getElem?_eq_some_iff.1 HD10.out).1
                  exact (HW10.out.setCell (p := ⟨w.heap.size, 0, none⟩) (Nat.le_refl _) _).trans (hs.touch.below (by show w.heap.size ≤ (w9.setCell ⟨w.heap.size, 0, none⟩ (.bool true)).heap.size; omega) (fun k hk e => by omega))
set_option maxHeartbeats 4000000 in
set_option maxRecDepth 100000 in
theorem actTurns_short (w : World) (A P : Option Addr) (n cap np capp : Nat) (limit : Int) (h : 10 < n ∨ 200 < np ∨ 60 < limit) :
    Calls Try.prog 7 #[.slice A n cap, .slice P np capp, .int .i64 limit] w fun e w' => e = .returned (.bool true) ∧ Below w.heap.size w w' := by
  have hb : Below w.heap.size w (w.alloc (.cells #[.bool true] 4)) := (Below.refl _ w).alloc (Nat.le_refl _) _
  have hc : (w.alloc (.cells #[.bool true] 4)).cell? ⟨w.heap.size, 0, none⟩ = some (.bool true) := by simp [go_sem]
  have HB : Hd _ := ⟨hb⟩
  have HC : Hd _ := ⟨hc⟩
  clear hb hc
  by_cases h1 : 10 < n
  · go_enter Try.func7, Try.ntmps7
    go_wp2
    exact ⟨rfl, _, results_cell1 rfl _ _ w.heap.size (.bool true) rfl (by simp [go_sem, HC.out]), rfl, HB.out⟩
  · by_cases h2 : 200 < np
    · go_enter Try.func7, Try.ntmps7
      go_wp2
      exact ⟨rfl, _, results_cell1 rfl _ _ w.heap.size (.bool true) rfl (by simp [go_sem, HC.out]), rfl, HB.out⟩
    · have h3 : 60 < limit := by omega
      go_enter Try.func7, Try.ntmps7
      go_wp2
      exact ⟨rfl, _, results_cell1 rfl _ _ w.heap.size (.bool true) rfl (by simp [go_sem, HC.out]), rfl, HB.out⟩
theorem actTurns_any (w : World) (A : Option Addr) (len cap : Nat) (l : List Int) (h : Recs (RInt .u8) 1 w A len l) (_hc : len ≤ cap) (_hz : len * 1 ≤ 140737488351232) (P : Option Addr) (np capp : Nat) (ps : List Int) (hp : Recs (RInt .i64) 1 w P np ps) (hc2 : np ≤ capp) (_hz2 : np * 8 ≤ 140737488351232)
    (limit : Int) (_hw : (Lit.int .i64 limit).wf = true) :
    Calls Try.prog 7 #[.slice A len cap, .slice P np capp, .int .i64 limit] w fun e w' => e = .returned (.bool true) ∧ Below w.heap.size w w' := by
  by_cases hs : 10 < len ∨ 200 < np ∨ 60 < limit
  · exact actTurns_short w A P len cap np capp limit hs
  · obtain rfl := h.1
    obtain rfl := hp.1
    exact actTurns_long w A cap l h (by omega) P capp ps hp (by omega) hc2 limit (by omega)
end Go.Proofs.Ythghndjfghdnnaa
