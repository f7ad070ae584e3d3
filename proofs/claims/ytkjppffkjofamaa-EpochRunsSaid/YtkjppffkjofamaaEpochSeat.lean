/- Package epoch: pins, unpins, an advance as acts with so many steps; acts are added to others. No condition but those that each bears. -/
import Derived.Test.YtkjppffkjofamaaEpochGrp
set_option linter.unusedVariables false
set_option linter.unusedSimpArgs false
namespace Go.Proofs.Ytkjppffkjofamaa
open Go.RowKit Go.Shelf
theorem rested_all {ns : Nat → Nat} {n : Nat} : ∀ (L : Nat) (did : Nat → Nat), (∀ i, i < n → did i ≤ ns i ∧ ns i ≤ did i + L) → ∀ i, i < n → (rested ns n L did).1 i = ns i := by
  intro L
  induction L with
  | zero => intro did h i hi; have := h i hi; show did i = ns i; omega
  | succ L ih =>
    intro did h i hi
    by_cases e : going ns did n = []
    · rw [rested_stop e]
      have := h i hi
      by_cases e2 : did i < ns i
      · have := going_mem hi e2; rw [e] at this; cases this
      · show did i = ns i; omega
    · rw [rested_go e]
      refine ih _ (fun j hj => ?_) i hi
      have := h j hj
      unfold round bumps
      by_cases e2 : did j < ns j
      · rw [if_pos (going_mem hj e2)]; omega
      · rw [if_neg (fun hm => e2 (going_lt hm).2)]; omega
theorem Acts.At.empty {A : Acts} {b bm bp n wd now : Nat} {pins : Nat → Nat} {I : (Nat → Nat) → Nat → (Nat → Nat) → Prop} {did : Nat → Nat} {W : World} (hn : A.n = 0) (h : EpAt W b bm bp n wd now pins) (hI : I did now pins) : A.At b bm bp n wd I did (fun k => k = b ∨ k = bm ∨ k = bp) W :=
  ⟨⟨now, pins, h, hI⟩, ⟨fun _ _ => False, fun i hi => by omega, fun i j hi => by omega⟩, fun i j hi => by omega, ⟨.inl rfl, .inr (.inl rfl), .inr (.inr rfl), fun i hi => by omega⟩, by rintro k (rfl | rfl | rfl); exact h.lt.1; exact h.lt.2.1; exact h.lt.2.2⟩
theorem Acts.At.add {A A' : Acts} {b bm bp n wd : Nat} {I I' : (Nat → Nat) → Nat → (Nat → Nat) → Prop} {did : Nat → Nat} {foot : Nat → Prop} {W W1 : World} (h : A.At b bm bp n wd I did foot W) (hn : A'.n = A.n + 1) (hs : ∀ i, i < A.n → A'.bs i = A.bs i ∧ A'.mvs i = A.mvs i ∧ A'.phs i = A.phs i ∧ A'.ms i = A.ms i ∧ A'.ns i = A.ns i)
    (hI : ∀ now pins, I did now pins → I' did now pins) (hd : did A.n = 0) (hb : Below W.heap.size W W1) {F : Nat → Prop} (hP : PhAt W1 b (A'.bs A.n) (A'.mvs A.n) (A'.ms A.n 0) (A'.phs A.n 0) 0 F) (hF : ∀ k, F k → W.heap.size ≤ k) (ha : W.heap.size ≤ A'.bs A.n) (hFa : ¬ F (A'.bs A.n))
    (hv : ∀ mv, A'.mvs A.n = some mv → W.heap.size ≤ mv ∧ ¬ F mv ∧ mv ≠ A'.bs A.n) : A'.At b bm bp n wd I' did (fun k => foot k ∨ (W.heap.size ≤ k ∧ k < W1.heap.size)) W1 := by
  obtain ⟨now, pins, hE, hIn⟩ := h.ep
  obtain ⟨Fs, hFs, hX⟩ := h.acts
  obtain ⟨z1, z2, z3, z4⟩ := h.ours
  have hsz := hb.size
  have hblk : ∀ k, foot k → W1.heap[k]? = W.heap[k]? := fun k hk => hb.block k (h.lt k hk)
  have lb := h.lt _ z1
  have lm := h.lt _ z2
  have lp := h.lt _ z3
  have hla : A'.bs A.n < W1.heap.size := by
    obtain ⟨⟨v, hA, _⟩, _, _⟩ := hP
    exact hA.lt
  have hlv := hP.mv.lt
  have old : ∀ i, i < A.n → A'.bs i < W.heap.size ∧ ∀ mv, A'.mvs i = some mv → mv < W.heap.size := fun i hi => by
    obtain ⟨e1, e2, _⟩ := hs i hi
    rw [e1, e2]
    exact ⟨h.lt _ (z4 i hi).1, fun mv e => h.lt _ ((z4 i hi).2 mv e)⟩
  refine ⟨⟨now, pins, hE.of_blocks (hblk _ z1) (hblk _ z2) (hblk _ z3), hI _ _ hIn⟩, ⟨fun i k => if i = A.n then F k else Fs i k, fun i hi => ?_, fun i j hi hj hne => ?_⟩, fun i j hi hj hne => ?_, ⟨.inl z1, .inl z2, .inl z3, fun i hi => ?_⟩, fun k hk => ?_⟩
  · by_cases e : i = A.n
    · subst e
      rw [hd]
      simp only [if_true]
      exact ⟨Nat.zero_le _, hP, ⟨fun x => by have := hF _ x; omega, fun x => by have := hF _ x; omega, fun x => by have := hF _ x; omega, hFa, ⟨by omega, by omega, by omega⟩, fun mv e => by obtain ⟨g1, g2, g3⟩ := hv mv e; exact ⟨g2, by omega, by omega, by omega, g3⟩⟩, fun k hk => .inr ⟨hF k hk, hP.lt k hk⟩⟩
    · simp only [e, if_false]
      have hi' : i < A.n := by omega
      obtain ⟨e1, e2, e3, e4, e5⟩ := hs i hi'
      rw [e1, e2, e3, e4, e5]
      obtain ⟨p1, p2, p3, p4⟩ := hFs i hi'
      exact ⟨p1, p2.move (fun _ hk => hk) (fun k hk => by have := p2.lt k hk; omega) (fun k c t f hk hc => hb.block k (Array.getElem?_eq_some_iff.1 hc).1), p3, fun k hk => .inl (p4 k hk)⟩
  · by_cases e : j = A.n
    · subst e
      simp only [if_true]
      have hi' : i < A.n := by omega
      obtain ⟨o1, o2⟩ := old i hi'
      exact ⟨fun x => by have := hF _ x; omega, fun mv e x => by have := hF _ x; have := o2 mv e; omega⟩
    · simp only [e, if_false]
      have hj' : j < A.n := by omega
      obtain ⟨_, p2, _, p4⟩ := hFs j hj'
      by_cases e2 : i = A.n
      · subst e2
        refine ⟨fun x => by have := p2.lt _ x; omega, fun mv e x => by have := p2.lt _ x; have := (hv mv e).1; omega⟩
      · have hi' : i < A.n := by omega
        obtain ⟨e1, e2, _⟩ := hs i hi'
        rw [e1, e2]
        exact hX i j hi' hj' hne
  · by_cases e : i = A.n
    · subst e
      have hj' : j < A.n := by omega
      obtain ⟨o1, o2⟩ := old j hj'
      exact ⟨by omega, fun mv e => ⟨by have := (hv mv e).1; omega, fun x => by have := (hv mv e).1; have := o2 mv x; omega⟩⟩
    · have hi' : i < A.n := by omega
      obtain ⟨o1, o2⟩ := old i hi'
      by_cases e2 : j = A.n
      · subst e2
        exact ⟨by omega, fun mv e => ⟨by have := o2 mv e; omega, fun x => by have := (hv mv x).1; have := o2 mv e; omega⟩⟩
      · have hj' : j < A.n := by omega
        obtain ⟨e1, e2, _⟩ := hs i hi'
        obtain ⟨e3, e4, _⟩ := hs j hj'
        rw [e1, e2, e3, e4]
        exact h.sep i j hi' hj' hne
  · by_cases e : i = A.n
    · subst e
      exact ⟨.inr ⟨ha, hla⟩, fun mv e => .inr ⟨(hv mv e).1, hlv mv e⟩⟩
    · have hi' : i < A.n := by omega
      obtain ⟨e1, e2, _⟩ := hs i hi'
      rw [e1, e2]
      exact ⟨.inl (z4 i hi').1, fun mv e => .inl ((z4 i hi').2 mv e)⟩
  · rcases hk with hk | hk
    · have := h.lt k hk; omega
    · exact hk.2
/-! ### Pins -/
def pinPh (who now : Nat) : Nat → Ph
  | 0 => .pin0 who
  | 1 => .pin1 who now
  | 2 => .pin2 who now
  | _ => .over
def pinActs (m : Nat) (bs rd : Nat → Nat) (now : Nat) : Acts := ⟨m, bs, fun _ => none, fun i => pinPh (rd i) now, fun _ _ => false, fun _ => 3⟩
/-- Readers rd i are pinned from the second step on. -/
def PinI (m : Nat) (rd : Nat → Nat) (now : Nat) (pins : Nat → Nat) (did : Nat → Nat) (now' : Nat) (pins' : Nat → Nat) : Prop :=
  now' = now ∧ (∀ i, i < m → pins' (rd i) = if 2 ≤ did i then now + 1 else pins (rd i)) ∧ ∀ j, (∀ i, i < m → rd i ≠ j) → pins' j = pins j
theorem pin_law {m n now : Nat} {bs rd pins : Nat → Nat} (hm : m ≤ 10) (hr : ∀ i, i < m → rd i < n) (hinj : ∀ i j, i < m → j < m → i ≠ j → rd i ≠ rd j) (hb : now + 1 ≤ 100000) : (pinActs m bs rd now).Law n (PinI m rd now pins) where
  n10 := hm
  ns60 := fun i _ => by show 3 ≤ 60; omega
  over := fun i d _ hd => by
    have hd : d ≤ 3 := hd
    show (pinPh (rd i) now d).isOver = decide (d = 3)
    match d, hd with
    | 0, _ => rfl
    | 1, _ => rfl
    | 2, _ => rfl
    | 3, _ => rfl
  step := fun did now' pins' i hI hle hi hlt => by
    obtain ⟨rfl, h1, h2⟩ := hI
    have hi : i < m := hi
    have hlt : did i < 3 := hlt
    refine ⟨hb, ?_⟩
    show (pinPh (rd i) now' (did i)).ok n now' ∧ (pinPh (rd i) now' (did i)).next n now' pins' = pinPh (rd i) now' (did i + 1) ∧ (pinPh (rd i) now' (did i)).movedOf n now' false = false ∧ PinI m rd now' pins (bump did i) ((pinPh (rd i) now' (did i)).nowOf n now') ((pinPh (rd i) now' (did i)).pinsOf pins')
    have h1i := h1 i hi
    have hbi : bump did i i = did i + 1 := if_pos rfl
    have hbo : ∀ j, j ≠ i → bump did i j = did j := fun j hj => if_neg hj
    generalize he : did i = d at *
    have same : (∀ x, 2 ≤ d + 1 ↔ 2 ≤ d ∨ x) → True := fun _ => trivial
    match d, hlt with
    | 0, _ =>
      refine ⟨hr i hi, rfl, rfl, rfl, fun j hj => ?_, h2⟩
      by_cases e : j = i
      · subst e; rw [hbi]; exact h1i
      · rw [hbo j e]; exact h1 j hj
    | 1, _ =>
      refine ⟨⟨hr i hi, Nat.le_refl _⟩, rfl, rfl, rfl, fun j hj => ?_, fun j hj => ?_⟩
      · show putPin pins' (rd i) (now' + 1) (rd j) = _
        unfold putPin
        by_cases e : j = i
        · subst e; rw [hbi]; simp
        · rw [hbo j e, if_neg (hinj j i hj hi e)]; exact h1 j hj
      · show putPin pins' (rd i) (now' + 1) j = _
        unfold putPin
        rw [if_neg (fun e => hj i hi e.symm)]; exact h2 j hj
    | 2, _ =>
      refine ⟨⟨hr i hi, Nat.le_refl _⟩, if_pos rfl, rfl, rfl, fun j hj => ?_, h2⟩
      by_cases e : j = i
      · subst e; rw [hbi]; exact h1i
      · rw [hbo j e]; exact h1 j hj
/-! ### Unpins -/
def unPh (who : Nat) : Nat → Ph
  | 0 => .un who
  | _ => .over
def unActs (m : Nat) (bs rd : Nat → Nat) : Acts := ⟨m, bs, fun _ => none, fun i => unPh (rd i), fun _ _ => false, fun _ => 1⟩
def UnI (m : Nat) (rd : Nat → Nat) (now : Nat) (pins : Nat → Nat) (did : Nat → Nat) (now' : Nat) (pins' : Nat → Nat) : Prop :=
  now' = now ∧ (∀ i, i < m → pins' (rd i) = if 1 ≤ did i then 0 else pins (rd i)) ∧ ∀ j, (∀ i, i < m → rd i ≠ j) → pins' j = pins j
theorem un_law {m n now : Nat} {bs rd pins : Nat → Nat} (hm : m ≤ 10) (hr : ∀ i, i < m → rd i < n) (hinj : ∀ i j, i < m → j < m → i ≠ j → rd i ≠ rd j) (hb : now + 1 ≤ 100000) : (unActs m bs rd).Law n (UnI m rd now pins) where
  n10 := hm
  ns60 := fun i _ => by show 1 ≤ 60; omega
  over := fun i d _ hd => by
    have hd : d ≤ 1 := hd
    show (unPh (rd i) d).isOver = decide (d = 1)
    match d, hd with
    | 0, _ => rfl
    | 1, _ => rfl
  step := fun did now' pins' i hI hle hi hlt => by
    obtain ⟨rfl, h1, h2⟩ := hI
    have hi : i < m := hi
    have hlt : did i < 1 := hlt
    refine ⟨hb, ?_⟩
    show (unPh (rd i) (did i)).ok n now' ∧ (unPh (rd i) (did i)).next n now' pins' = unPh (rd i) (did i + 1) ∧ (unPh (rd i) (did i)).movedOf n now' false = false ∧ UnI m rd now' pins (bump did i) ((unPh (rd i) (did i)).nowOf n now') ((unPh (rd i) (did i)).pinsOf pins')
    have hbi : bump did i i = did i + 1 := if_pos rfl
    have hbo : ∀ j, j ≠ i → bump did i j = did j := fun j hj => if_neg hj
    have h0 : did i = 0 := by omega
    rw [h0] at hbi ⊢
    refine ⟨hr i hi, rfl, rfl, rfl, fun j hj => ?_, fun j hj => ?_⟩
    · show putPin pins' (rd i) 0 (rd j) = _
      unfold putPin
      by_cases e : j = i
      · subst e; rw [hbi]; simp
      · rw [hbo j e, if_neg (hinj j i hj hi e)]; exact h1 j hj
    · show putPin pins' (rd i) 0 j = _
      unfold putPin
      rw [if_neg (fun e => hj i hi e.symm)]; exact h2 j hj
/-! ### An advance, alone -/
def advPh (stop now : Nat) : Nat → Ph
  | 0 => .adv
  | d + 1 => if d ≤ stop then .look d now else .over
def advActs (ba mv stop n now : Nat) : Acts := ⟨1, fun _ => ba, fun _ => some mv, fun _ => advPh stop now, fun _ d => decide (d = stop + 2 ∧ stop = n), fun _ => stop + 2⟩
def AdvI (stop n now : Nat) (pins : Nat → Nat) (did : Nat → Nat) (now' : Nat) (pins' : Nat → Nat) : Prop :=
  (now' = if did 0 = stop + 2 ∧ stop = n then now + 1 else now) ∧ pins' = pins
theorem adv_law {n now ba mv stop : Nat} {pins : Nat → Nat} (h1 : stop ≤ n) (h8 : n ≤ 8) (hg : ∀ k, k < stop → pins k = 0 ∨ pins k = now + 1) (hbad : stop < n → ¬ (pins stop = 0 ∨ pins stop = now + 1)) (hb : now + 1 ≤ 100000) : (advActs ba mv stop n now).Law n (AdvI stop n now pins) where
  n10 := by show 1 ≤ 10; omega
  ns60 := fun i _ => by show stop + 2 ≤ 60; omega
  over := fun i d _ hd => by
    have hd : d ≤ stop + 2 := hd
    show (advPh stop now d).isOver = decide (d = stop + 2)
    match d, hd with
    | 0, _ => rw [decide_eq_false (by omega)]; rfl
    | d + 1, hd =>
      show (if d ≤ stop then Ph.look d now else .over).isOver = _
      by_cases e : d ≤ stop
      · rw [if_pos e, decide_eq_false (by omega)]; rfl
      · rw [if_neg e, decide_eq_true (by omega)]; rfl
  step := fun did now' pins' i hI hle hi hlt => by
    obtain ⟨h1', rfl⟩ := hI
    have hi : i < 1 := hi
    obtain rfl : i = 0 := by omega
    have hlt : did 0 < stop + 2 := hlt
    rw [if_neg (by omega)] at h1'
    subst h1'
    refine ⟨hb, ?_⟩
    show (advPh stop now' (did 0)).ok n now' ∧ (advPh stop now' (did 0)).next n now' pins' = advPh stop now' (did 0 + 1) ∧ (advPh stop now' (did 0)).movedOf n now' (decide (did 0 = stop + 2 ∧ stop = n)) = decide (did 0 + 1 = stop + 2 ∧ stop = n) ∧ AdvI stop n now' pins' (bump did 0) ((advPh stop now' (did 0)).nowOf n now') ((advPh stop now' (did 0)).pinsOf pins')
    unfold AdvI
    rw [show bump did 0 0 = did 0 + 1 from if_pos rfl]
    generalize did 0 = d at *
    match d, hlt with
    | 0, _ =>
      refine ⟨trivial, by show Ph.look 0 now' = if 0 ≤ stop then Ph.look 0 now' else Ph.over; rw [if_pos (by omega)], ?_, ?_, rfl⟩
      · show decide (0 = stop + 2 ∧ stop = n) = decide (0 + 1 = stop + 2 ∧ stop = n)
        exact decide_eq_decide.2 ⟨fun e => by omega, fun e => by omega⟩
      · show now' = _
        rw [if_neg (by omega)]
    | d + 1, hlt =>
      have hd : d ≤ stop := by omega
      have hph : advPh stop now' (d + 1) = .look d now' := if_pos hd
      rw [hph]
      refine ⟨⟨by omega, Nat.le_refl _⟩, ?_, ?_, ?_, rfl⟩
      · show (if d < n then (if pins' d = 0 ∨ pins' d = now' + 1 then .look (d + 1) now' else .over) else .over) = if d + 1 ≤ stop then Ph.look (d + 1) now' else .over
        by_cases e : d < stop
        · rw [if_pos (by omega), if_pos (hg d e), if_pos (by omega)]
        · obtain rfl : d = stop := by omega
          rw [if_neg (show ¬ d + 1 ≤ d by omega)]
          by_cases e2 : d < n
          · rw [if_pos e2, if_neg (hbad e2)]
          · rw [if_neg e2]
      · show (if d < n then decide (d + 1 = stop + 2 ∧ stop = n) else if now' = now' then true else decide (d + 1 = stop + 2 ∧ stop = n)) = decide (d + 1 + 1 = stop + 2 ∧ stop = n)
        by_cases e : d < n
        · rw [if_pos e]; exact decide_eq_decide.2 ⟨fun e => by omega, fun e => by omega⟩
        · rw [if_neg e, if_pos rfl]; exact (decide_eq_true ⟨by omega, by omega⟩).symm
      · show (if d < n then now' else if now' = now' then now' + 1 else now') = _
        by_cases e : d < n
        · rw [if_pos e, if_neg (by omega)]
        · rw [if_neg e, if_pos rfl, if_pos ⟨by omega, by omega⟩]
end Go.Proofs.Ytkjppffkjofamaa
