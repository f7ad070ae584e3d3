/- Package epoch: several acts over one epoch, side by side. No condition but those that each bears. -/
import Derived.Test.YtkjppffkjofamaaEpochStep
set_option linter.unusedVariables false
set_option linter.unusedSimpArgs false
namespace Go.Proofs.Ytkjppffkjofamaa
open Go.RowKit Go.Shelf
theorem EpAt.cells {W : World} {b bm bp n wd now : Nat} {pins : Nat → Nat} (h : EpAt W b bm bp n wd now pins) : ∀ k, k = b ∨ k = bm ∨ k = bp → ∃ c t f, W.heap[k]? = some (.cells c t f) := by
  rintro k (rfl | rfl | rfl)
  · exact ⟨_, _, _, h.blk⟩
  · obtain ⟨M, hm, _⟩ := h.mem; exact cells_of hm.n
  · exact cells_of (h.pin 0 h.n1)
theorem EpAt.move {W W' : World} {b bm bp n wd now : Nat} {pins : Nat → Nat} (h : EpAt W b bm bp n wd now pins) (hW : ∀ k c t f, (k = b ∨ k = bm ∨ k = bp) → W.heap[k]? = some (.cells c t f) → W'.heap[k]? = W.heap[k]?) : EpAt W' b bm bp n wd now pins := by
  have g : ∀ k, k = b ∨ k = bm ∨ k = bp → W'.heap[k]? = W.heap[k]? := fun k hk => by
    obtain ⟨c, t, f, e⟩ := h.cells k hk
    exact hW k c t f hk e
  exact h.of_blocks (g b (.inl rfl)) (g bm (.inr (.inl rfl))) (g bp (.inr (.inr rfl)))
theorem PhAt.move {W W' : World} {b ba c : Nat} {mvs : Option Nat} {m : Bool} {ph : Ph} {F F' : Nat → Prop} (h : PhAt W b ba mvs m ph c F) (hF : ∀ k, F k → F' k) (hlt : ∀ k, F' k → k < W'.heap.size) (hW : ∀ k c t f, (F k ∨ k = ba ∨ some k = mvs) → W.heap[k]? = some (.cells c t f) → W'.heap[k]? = W.heap[k]?) : PhAt W' b ba mvs m ph c F' := by
  obtain ⟨⟨v, hA, hN⟩, hm, _⟩ := h
  refine ⟨⟨v, hA.of_block ?_, hN.move hF (fun k c t f hk => hW k c t f (.inl hk))⟩, hm.of_blocks (fun mv e => hW mv _ _ _ (.inr (.inr e.symm)) (hm mv e)), hlt⟩
  obtain ⟨c, t, f, e⟩ := cells_of hA.next
  exact hW ba c t f (.inr (.inl rfl)) e
theorem PhAt.cells {W : World} {b ba c : Nat} {mvs : Option Nat} {m : Bool} {ph : Ph} {F : Nat → Prop} (h : PhAt W b ba mvs m ph c F) : ∀ k, k = ba ∨ some k = mvs → ∃ c t f, W.heap[k]? = some (.cells c t f) := by
  obtain ⟨⟨v, hA, hN⟩, hm, _⟩ := h
  rintro k (rfl | e)
  · exact cells_of hA.next
  · exact ⟨_, _, _, hm k e.symm⟩
theorem PhAt.over {W : World} {b ba c : Nat} {mvs : Option Nat} {m : Bool} {ph : Ph} {F : Nat → Prop} (h : PhAt W b ba mvs m ph c F) : Calls Try.prog 28 #[.pointer (some ⟨ba, 0, none⟩)] W fun e w' => e = .returned (.bool ph.isOver) ∧ W = w' := by
  obtain ⟨⟨v, hA, hN⟩, _, _⟩ := h
  obtain ⟨hs, hn⟩ := hN.isStep
  rcases hs with rfl | ⟨f, cs, rfl⟩
  · rw [← hn]; exact over_yes ba _ W hA
  · rw [← hn]; exact over_no ba _ f cs W hA
theorem keeps_of {S : Nat → Prop} {W w' : World} (ht : Touch S W w') (hS : ∀ k, S k → ∃ c t f, W.heap[k]? = some (.cells c t f)) : KeepsOthers W w' :=
  ⟨ht.size, fun k o hk ho => by
    by_cases e : S k
    · obtain ⟨c, t, f, h⟩ := hS k e
      rw [hk] at h; cases h; cases ho
    · exact (ht.block k (Array.getElem?_eq_some_iff.1 hk).1 e).trans hk⟩
/-- Several acts: their blocks, what is handed back with each, their phases by how many steps were done, how many they have. -/
structure Acts where
  n : Nat
  bs : Nat → Nat
  mvs : Nat → Option Nat
  phs : Nat → Nat → Ph
  ms : Nat → Nat → Bool
  ns : Nat → Nat
/-- What is asked of them, in plain numbers. -/
structure Acts.Law (A : Acts) (n : Nat) (I : (Nat → Nat) → Nat → (Nat → Nat) → Prop) : Prop where
  n10 : A.n ≤ 10
  ns60 : ∀ i, i < A.n → A.ns i ≤ 60
  over : ∀ i d, i < A.n → d ≤ A.ns i → (A.phs i d).isOver = decide (d = A.ns i)
  step : ∀ did now pins i, I did now pins → (∀ j, j < A.n → did j ≤ A.ns j) → i < A.n → did i < A.ns i → now + 1 ≤ 100000 ∧ (A.phs i (did i)).ok n now ∧ (A.phs i (did i)).next n now pins = A.phs i (did i + 1) ∧ (A.phs i (did i)).movedOf n now (A.ms i (did i)) = A.ms i (did i + 1) ∧ I (bump did i) ((A.phs i (did i)).nowOf n now) ((A.phs i (did i)).pinsOf pins)
/-- They stand over an epoch. -/
structure Acts.At (A : Acts) (b bm bp n wd : Nat) (I : (Nat → Nat) → Nat → (Nat → Nat) → Prop) (did : Nat → Nat) (foot : Nat → Prop) (W : World) : Prop where
  ep : ∃ now pins, EpAt W b bm bp n wd now pins ∧ I did now pins
  acts : ∃ Fs : Nat → Nat → Prop, (∀ i, i < A.n → did i ≤ A.ns i ∧ PhAt W b (A.bs i) (A.mvs i) (A.ms i (did i)) (A.phs i (did i)) (did i) (Fs i) ∧ Apart b bm bp (A.bs i) (A.mvs i) (Fs i) ∧ (∀ k, Fs i k → foot k)) ∧
    ∀ i j, i < A.n → j < A.n → i ≠ j → ¬ Fs j (A.bs i) ∧ ∀ mv, A.mvs i = some mv → ¬ Fs j mv
  sep : ∀ i j, i < A.n → j < A.n → i ≠ j → A.bs i ≠ A.bs j ∧ ∀ mv, A.mvs i = some mv → mv ≠ A.bs j ∧ A.mvs j ≠ some mv
  ours : foot b ∧ foot bm ∧ foot bp ∧ ∀ i, i < A.n → foot (A.bs i) ∧ ∀ mv, A.mvs i = some mv → foot mv
  lt : ∀ k, foot k → k < W.heap.size
theorem Acts.At.mono {A : Acts} {b bm bp n wd : Nat} {I : (Nat → Nat) → Nat → (Nat → Nat) → Prop} {did : Nat → Nat} {foot : Nat → Prop} {W : World} (W' : World) (foot' : Nat → Prop) (h : A.At b bm bp n wd I did foot W) (hf : ∀ k, foot k → foot' k) (hlt : ∀ k, foot' k → k < W'.heap.size) (hW : ∀ k c t f, foot k → W.heap[k]? = some (.cells c t f) → W'.heap[k]? = W.heap[k]?) : A.At b bm bp n wd I did foot' W' := by
  obtain ⟨now, pins, hE, hI⟩ := h.ep
  obtain ⟨Fs, hF, hX⟩ := h.acts
  obtain ⟨z1, z2, z3, z4⟩ := h.ours
  refine ⟨⟨now, pins, hE.move (fun k c t f hk => hW k c t f (by rcases hk with rfl | rfl | rfl <;> assumption)), hI⟩, ⟨Fs, fun i hi => ?_, hX⟩, h.sep, ⟨hf _ z1, hf _ z2, hf _ z3, fun i hi => ⟨hf _ (z4 i hi).1, fun mv e => hf _ ((z4 i hi).2 mv e)⟩⟩, hlt⟩
  obtain ⟨y1, y2, y3, y4⟩ := hF i hi
  refine ⟨y1, y2.move (fun _ hk => hk) (fun k hk => hlt k (hf k (y4 k hk))) (fun k c t f hk => hW k c t f ?_), y3, fun k hk => hf k (y4 k hk)⟩
  rcases hk with hk | rfl | hk
  · exact y4 k hk
  · exact (z4 i hi).1
  · exact (z4 i hi).2 k hk.symm
theorem Acts.drive (A : Acts) {b bm bp n wd : Nat} {I : (Nat → Nat) → Nat → (Nat → Nat) → Prop} (L : A.Law n I) : Drive (A.At b bm bp n wd I) A.n A.bs A.ns where
  n10 := L.n10
  le := fun h i hi => by obtain ⟨Fs, hF, _⟩ := h.acts; exact (hF i hi).1
  foot_lt := fun h => h.lt
  over := fun {did foot W} h i hi => by
    obtain ⟨Fs, hF, _⟩ := h.acts
    have := (hF i hi).2.1.over
    rwa [L.over i (did i) hi (hF i hi).1] at this
  step := fun {did foot W} h i hi hlt => by
    obtain ⟨now, pins, hE, hI⟩ := h.ep
    obtain ⟨Fs, hF, hX⟩ := h.acts
    obtain ⟨z1, z2, z3, z4⟩ := h.ours
    obtain ⟨y1, y2, y3, y4⟩ := hF i hi
    obtain ⟨q1, q2, q3, q4, q5⟩ := L.step did now pins i hI (fun j hj => (hF j hj).1) hi hlt
    have h60 := L.ns60 i hi
    have hno : A.phs i (did i) ≠ .over := fun e => by
      have := L.over i (did i) hi y1
      rw [e, decide_eq_false (by omega)] at this
      cases this
    refine (phase_step hE y2 y3 q2 hno q1 (by omega)).mono ?_
    rintro e w' ⟨rfl, hE2, hP2, hT2⟩
    have hsz := hT2.size
    rw [q3, q4] at hP2
    have hS : ∀ k, (k = b ∨ k = bm ∨ k = bp ∨ k = A.bs i ∨ some k = A.mvs i) → foot k := by
      rintro k (rfl | rfl | rfl | rfl | e)
      · exact z1
      · exact z2
      · exact z3
      · exact (z4 i hi).1
      · exact (z4 i hi).2 k e.symm
    refine ⟨by rw [q3, L.over i _ hi (by omega)]; congr 2; exact decide_eq_decide.2 ⟨fun e => by omega, fun e => by omega⟩, ⟨⟨_, _, hE2, q5⟩, ⟨fun j k => if j = i then (Fs i k ∨ (W.heap.size ≤ k ∧ k < w'.heap.size)) else Fs j k, fun j hj => ?_, fun j j' hj hj' hne => ?_⟩, h.sep, ⟨.inl z1, .inl z2, .inl z3, fun j hj => ⟨.inl (z4 j hj).1, fun mv e => .inl ((z4 j hj).2 mv e)⟩⟩, fun k hk => ?_⟩, hT2.mono (fun k _ e => hS k e), keeps_of hT2 (fun k e => ?_)⟩
    · by_cases e : j = i
      · subst e
        rw [show bump did j j = did j + 1 from if_pos rfl]
        simp only [if_true]
        refine ⟨by omega, hP2, ⟨?_, ?_, ?_, ?_, y3.ab, fun mv e => ⟨?_, (y3.fv mv e).2⟩⟩, fun k hk => ?_⟩
        · rintro (x | x)
          · exact y3.fb x
          · have := h.lt _ z1; omega
        · rintro (x | x)
          · exact y3.fm x
          · have := h.lt _ z2; omega
        · rintro (x | x)
          · exact y3.fp x
          · have := h.lt _ z3; omega
        · rintro (x | x)
          · exact y3.fa x
          · have := h.lt _ (z4 j hj).1; omega
        · rintro (x | x)
          · exact (y3.fv mv e).1 x
          · have := h.lt _ ((z4 j hj).2 mv e); omega
        · rcases hk with hk | hk
          · exact .inl (y4 k hk)
          · exact .inr hk
      · rw [show bump did i j = did j from if_neg e]
        simp only [e, if_false]
        obtain ⟨p1, p2, p3, p4⟩ := hF j hj
        refine ⟨p1, p2.move (fun _ hk => hk) (fun k hk => by have := p2.lt k hk; omega) (fun k c t f hk hc => hT2.block k (Array.getElem?_eq_some_iff.1 hc).1 (fun hs => ?_)), p3, fun k hk => .inl (p4 k hk)⟩
        have hij : i ≠ j := fun x => e x.symm
        obtain ⟨s1, s2⟩ := hX i j hi hj hij
        obtain ⟨t1, t2⟩ := h.sep i j hi hj hij
        obtain ⟨t3, t4⟩ := h.sep j i hj hi e
        rcases hk with hk | rfl | hk
        · rcases hs with rfl | rfl | rfl | rfl | hs
          · exact p3.fb hk
          · exact p3.fm hk
          · exact p3.fp hk
          · exact s1 hk
          · exact s2 k hs.symm hk
        · rcases hs with hs | hs | hs | hs | hs
          · exact p3.ab.1 hs
          · exact p3.ab.2.1 hs
          · exact p3.ab.2.2 hs
          · exact t1 hs.symm
          · exact (t2 _ hs.symm).1 rfl
        · obtain ⟨_, r1, r2, r3, _⟩ := p3.fv k hk.symm
          rcases hs with hs | hs | hs | hs | hs
          · exact r1 hs
          · exact r2 hs
          · exact r3 hs
          · exact (t4 k hk.symm).1 hs
          · exact (t4 k hk.symm).2 hs.symm
    · obtain ⟨s1, s2⟩ := hX j j' hj hj' hne
      by_cases e : j' = i
      · subst e
        simp only [if_true]
        refine ⟨?_, fun mv e => ?_⟩
        · rintro (x | x)
          · exact s1 x
          · have := h.lt _ (z4 j hj).1; omega
        · rintro (x | x)
          · exact s2 mv e x
          · have := h.lt _ ((z4 j hj).2 mv e); omega
      · simp only [e, if_false]
        exact ⟨s1, s2⟩
    · rcases hk with hk | hk
      · have := h.lt k hk; omega
      · exact hk.2
    · rcases e with e | e | e | e
      · exact hE.cells k (.inl e)
      · exact hE.cells k (.inr (.inl e))
      · exact hE.cells k (.inr (.inr e))
      · exact y2.cells k e
  move := fun {did foot W} W' h hs hW => h.mono W' foot (fun _ hk => hk) (fun k hk => by have := h.lt k hk; omega) hW
  grow := fun {did foot W} foot' h hf hlt => h.mono W foot' hf hlt (fun _ _ _ _ _ _ => rfl)
end Go.Proofs.Ytkjppffkjofamaa
