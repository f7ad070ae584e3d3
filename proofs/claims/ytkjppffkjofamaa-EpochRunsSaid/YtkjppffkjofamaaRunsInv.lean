/- The law EpochRuns: what holds however the steps come, in plain numbers. No condition but those that each lemma bears. -/
import Derived.Test.YtkjppffkjofamaaRuns
set_option linter.unusedVariables false
set_option linter.unusedSimpArgs false
namespace Go.Proofs.Ytkjppffkjofamaa
open Go.RowKit Go.Shelf
/-- What the law keeps of its readers. -/
structure Sy where
  next : Nat → Nat
  act : Nat → Option Nat
  mov : Nat → Option Nat
  kind : Nat → Nat
  pinned : Nat → Bool
  since : Nat → Nat
  turn : Nat → Nat
def fset {α : Type} (f : Nat → α) (i : Nat) (v : α) : Nat → α := fun j => if j = i then v else f j
theorem fset_at {α : Type} (f : Nat → α) (i : Nat) (v : α) : fset f i v i = v := if_pos rfl
theorem fset_ne {α : Type} (f : Nat → α) {i j : Nat} (v : α) (h : j ≠ i) : fset f i v j = f j := if_neg h
def KindOk (pins : Nat → Nat) (X : Sy) (i : Nat) (c : Cur) : Prop :=
  match c.ph with
  | .over => False
  | .pin0 who => who = i ∧ X.kind i = 0
  | .pin1 who _ => who = i ∧ X.kind i = 0
  | .pin2 who nv => who = i ∧ X.kind i = 0 ∧ pins i = nv + 1
  | .un who => who = i ∧ X.kind i = 1
  | .adv => X.kind i = 2 ∧ c.m = false ∧ ∃ mv, c.mv = some mv ∧ X.mov i = some mv
  | .look _ _ => X.kind i = 2 ∧ c.m = false ∧ ∃ mv, c.mv = some mv ∧ X.mov i = some mv
structure INV (n B now : Nat) (pins : Nat → Nat) (cur : Nat → Option Cur) (X : Sy) (G : List Away) (mv : Nat) : Prop where
  mv : mv = now
  nt : now ≤ B
  link : ∀ i, i < n → X.act i = (cur i).map (·.ba)
  nx : ∀ i, i < n → X.next i ≤ B
  tn : ∀ i, i < n → X.turn i ≤ B
  kd : ∀ i, i < n → X.kind i ≤ 3
  pin : ∀ i, i < n → X.pinned i = true → X.since i ≤ now ∧ now ≤ X.since i + 1 ∧ pins i = X.since i + 1 ∧ ∀ c, cur i = some c → X.kind i = 2
  cu : ∀ i, i < n → ∀ c, cur i = some c → c.ph.ok n now ∧ c.c ≤ B ∧ KindOk pins X i c
  lk : ∀ i, i < n → ∀ c k nv, cur i = some c → c.ph = .look k nv → ∀ j, j < k → j < n → X.pinned j = true → nv ≤ X.since j
  gl : G.length ≤ B
  gg : ∀ g, g ∈ G → g.ep ≤ now ∧ ∀ i, i < n → g.turn i ≤ (X.turn i : Int) ∧ (X.pinned i = true → g.turn i = X.turn i → X.since i ≤ g.ep)
variable {n B now mv : Nat} {pins : Nat → Nat} {cur : Nat → Option Cur} {X : Sy} {G : List Away}
theorem Cur.ok_of {i : Nat} {pins : Nat → Nat} {X : Sy} {c : Cur} (h : KindOk pins X i c) : c.ph ≠ .over := fun e => by unfold KindOk at h; rw [e] at h; exact h
/-- An act is begun. -/
theorem INV.begin (h : INV n B now pins cur X G mv) (i : Nat) (hi : i < n) (hc : cur i = none) (k : Nat) (c : Cur) (pd : Bool) (tn : Nat) (mo : Option Nat) (hk3 : k ≤ 3)
    (hcc : c.c = 0) (hph : (k = 0 ∧ c.ph = .pin0 i) ∨ (k = 1 ∧ c.ph = .un i) ∨ (k = 2 ∧ c.ph = .adv ∧ c.m = false ∧ ∃ m, c.mv = some m ∧ mo = some m))
    (hpd : (pd = X.pinned i ∧ tn = X.turn i ∧ (k = 2 ∨ X.pinned i = false)) ∨ (pd = false ∧ tn = X.turn i + 1)) :
    INV n (B + 1) now pins (setCur cur i (some c)) { X with next := fset X.next i (X.next i + 1), kind := fset X.kind i k, act := fset X.act i (some c.ba), mov := fset X.mov i mo, pinned := fset X.pinned i pd, turn := fset X.turn i tn } G mv := by
  refine ⟨h.mv, by have := h.nt; omega, fun j hj => ?_, fun j hj => ?_, fun j hj => ?_, fun j hj => ?_, fun j hj hp => ?_, fun j hj d hd => ?_, fun j hj d q nv hd e j' hj' hjn hp => ?_, by have := h.gl; omega, fun g hg => ⟨(h.gg g hg).1, fun j hj => ?_⟩⟩
  · show fset X.act i (some c.ba) j = (setCur cur i (some c) j).map (·.ba)
    unfold fset setCur
    by_cases e : j = i
    · rw [if_pos e, if_pos e]; rfl
    · rw [if_neg e, if_neg e]; exact h.link j hj
  · show fset X.next i (X.next i + 1) j ≤ B + 1
    unfold fset
    have := h.nx j hj; have := h.nx i hi
    split <;> omega
  · show fset X.turn i tn j ≤ B + 1
    unfold fset
    have := h.tn j hj; have := h.tn i hi
    split
    · rcases hpd with ⟨_, e, _⟩ | ⟨_, e⟩ <;> omega
    · omega
  · show fset X.kind i k j ≤ 3
    unfold fset
    have := h.kd j hj
    split <;> omega
  · have hp : fset X.pinned i pd j = true := hp
    by_cases e : j = i
    · subst e
      rw [fset_at] at hp
      rcases hpd with ⟨e1, _, e3⟩ | ⟨e1, _⟩
      · rw [e1] at hp
        obtain ⟨q1, q2, q3, _⟩ := h.pin j hj hp
        refine ⟨q1, q2, q3, fun d hd => ?_⟩
        show fset X.kind j k j = 2
        rw [fset_at]
        rcases e3 with e3 | e3
        · exact e3
        · rw [e3] at hp; cases hp
      · rw [e1] at hp; cases hp
    · rw [fset_ne _ _ e] at hp
      obtain ⟨q1, q2, q3, q4⟩ := h.pin j hj hp
      refine ⟨q1, q2, q3, fun d hd => ?_⟩
      have hd : (if j = i then some c else cur j) = some d := hd
      rw [if_neg e] at hd
      show fset X.kind i k j = 2
      rw [fset_ne _ _ e]; exact q4 d hd
  · have hd : (if j = i then some c else cur j) = some d := hd
    by_cases e : j = i
    · rw [if_pos e] at hd
      cases hd
      subst e
      refine ⟨?_, by omega, ?_⟩
      · rcases hph with ⟨_, e⟩ | ⟨_, e⟩ | ⟨_, e, _⟩
        · rw [e]; exact hi
        · rw [e]; exact hi
        · rw [e]; trivial
      · unfold KindOk
        rcases hph with ⟨e1, e⟩ | ⟨e1, e⟩ | ⟨e1, e, e2, m, e3, e4⟩
        · rw [e]; exact ⟨rfl, by show fset X.kind j k j = 0; rw [fset_at]; exact e1⟩
        · rw [e]; exact ⟨rfl, by show fset X.kind j k j = 1; rw [fset_at]; exact e1⟩
        · rw [e]; exact ⟨by show fset X.kind j k j = 2; rw [fset_at]; exact e1, e2, m, e3, by show fset X.mov j mo j = some m; rw [fset_at]; exact e4⟩
    · rw [if_neg e] at hd
      obtain ⟨q1, q2, q3⟩ := h.cu j hj d hd
      refine ⟨q1, by omega, ?_⟩
      unfold KindOk at q3 ⊢
      show match d.ph with
        | .over => False
        | .pin0 who => who = j ∧ fset X.kind i k j = 0
        | .pin1 who _ => who = j ∧ fset X.kind i k j = 0
        | .pin2 who nv => who = j ∧ fset X.kind i k j = 0 ∧ pins j = nv + 1
        | .un who => who = j ∧ fset X.kind i k j = 1
        | .adv => fset X.kind i k j = 2 ∧ d.m = false ∧ ∃ mv, d.mv = some mv ∧ fset X.mov i mo j = some mv
        | .look _ _ => fset X.kind i k j = 2 ∧ d.m = false ∧ ∃ mv, d.mv = some mv ∧ fset X.mov i mo j = some mv
      rw [fset_ne _ _ e, fset_ne _ _ e]
      exact q3
  · have hd : (if j = i then some c else cur j) = some d := hd
    have hp : fset X.pinned i pd j' = true := hp
    show nv ≤ X.since j'
    have hp2 : X.pinned j' = true := by
      by_cases e2 : j' = i
      · subst e2
        rw [fset_at] at hp
        rcases hpd with ⟨e1, _, _⟩ | ⟨e1, _⟩
        · rw [e1] at hp; exact hp
        · rw [e1] at hp; cases hp
      · rwa [fset_ne _ _ e2] at hp
    by_cases e3 : j = i
    · rw [if_pos e3] at hd
      cases hd
      rcases hph with ⟨_, e4⟩ | ⟨_, e4⟩ | ⟨_, e4, _⟩ <;> (rw [e4] at e; cases e)
    · rw [if_neg e3] at hd
      exact h.lk j hj d q nv hd e j' hj' hjn hp2
  · obtain ⟨q1, q2⟩ := (h.gg g hg).2 j hj
    show g.turn j ≤ ((fset X.turn i tn j : Nat) : Int) ∧ (fset X.pinned i pd j = true → g.turn j = ((fset X.turn i tn j : Nat) : Int) → X.since j ≤ g.ep)
    by_cases e : j = i
    · subst e
      rw [fset_at, fset_at]
      rcases hpd with ⟨e1, e2, _⟩ | ⟨e1, e2⟩
      · rw [e1, e2]; exact ⟨q1, q2⟩
      · rw [e1, e2]; exact ⟨by omega, fun e => by cases e⟩
    · rw [fset_ne _ _ e, fset_ne _ _ e]; exact ⟨q1, q2⟩
/-- Something is taken away. -/
theorem INV.away (h : INV n B now pins cur X G mv) (i : Nat) (hi : i < n) (hc : cur i = none) (g : Away) (he : g.ep = now) (hg : ∀ j, j < n → g.turn j = if X.pinned j then (X.turn j : Int) else -1) :
    INV n (B + 1) now pins cur { X with next := fset X.next i (X.next i + 1), kind := fset X.kind i 3 } (G ++ [g]) mv := by
  refine ⟨h.mv, by have := h.nt; omega, h.link, fun j hj => ?_, fun j hj => by have : X.turn j ≤ B := h.tn j hj; show X.turn j ≤ B + 1; omega, fun j hj => ?_, fun j hj hp => ?_, fun j hj d hd => ?_, fun j hj d q nv hd e j' hj' hjn hp => h.lk j hj d q nv hd e j' hj' hjn hp, by rw [List.length_append]; have := h.gl; simp; omega, fun g' hg' => ?_⟩
  · show fset X.next i (X.next i + 1) j ≤ B + 1
    unfold fset
    have := h.nx j hj; have := h.nx i hi
    split <;> omega
  · show fset X.kind i 3 j ≤ 3
    unfold fset
    have := h.kd j hj
    split <;> omega
  · obtain ⟨q1, q2, q3, q4⟩ := h.pin j hj hp
    refine ⟨q1, q2, q3, fun d hd => ?_⟩
    have e : j ≠ i := fun e => by rw [e, hc] at hd; cases hd
    show fset X.kind i 3 j = 2
    rw [fset_ne _ _ e]; exact q4 d hd
  · have e : j ≠ i := fun e => by rw [e, hc] at hd; cases hd
    obtain ⟨q1, q2, q3⟩ := h.cu j hj d hd
    refine ⟨q1, by omega, ?_⟩
    unfold KindOk at q3 ⊢
    show match d.ph with
      | .over => False
      | .pin0 who => who = j ∧ fset X.kind i 3 j = 0
      | .pin1 who _ => who = j ∧ fset X.kind i 3 j = 0
      | .pin2 who nv => who = j ∧ fset X.kind i 3 j = 0 ∧ pins j = nv + 1
      | .un who => who = j ∧ fset X.kind i 3 j = 1
      | .adv => fset X.kind i 3 j = 2 ∧ d.m = false ∧ ∃ mv, d.mv = some mv ∧ X.mov j = some mv
      | .look _ _ => fset X.kind i 3 j = 2 ∧ d.m = false ∧ ∃ mv, d.mv = some mv ∧ X.mov j = some mv
    rw [fset_ne _ _ e]
    exact q3
  · rcases List.mem_append.1 hg' with hg' | hg'
    · exact h.gg g' hg'
    · rw [List.mem_singleton.1 hg', he]
      refine ⟨Nat.le_refl _, fun j hj => ?_⟩
      rw [hg j hj]
      show (if X.pinned j = true then (X.turn j : Int) else -1) ≤ (X.turn j : Int) ∧ (X.pinned j = true → _ → X.since j ≤ now)
      refine ⟨by split <;> omega, fun hp _ => (h.pin j hj hp).1⟩
/-- One step of an act: the act goes on, or is over. -/
theorem INV.go (h : INV n B now pins cur X G mv) (i : Nat) (hi : i < n) (c : Cur) (hc : cur i = some c) (hno : (c.next n now pins).ph ≠ .over) :
    c.ph.nowOf n now = now ∧ (c.next n now pins).m = c.m ∧ INV n (B + 1) (c.ph.nowOf n now) (c.ph.pinsOf pins) (setCur cur i (some (c.next n now pins))) X G mv := by
  obtain ⟨q1, q2, q3⟩ := h.cu i hi c hc
  have hnow : c.ph.nowOf n now = now ∧ (c.next n now pins).m = c.m := by
    cases e : c.ph with
    | look k nv =>
      have hno : c.ph.next n now pins ≠ .over := hno
      rw [e] at hno
      have hno : (if k < n then (if pins k = 0 ∨ pins k = nv + 1 then Ph.look (k + 1) nv else .over) else .over) ≠ .over := hno
      by_cases hk : k < n
      · exact ⟨if_pos hk, by show c.ph.movedOf n now c.m = c.m; rw [e]; exact if_pos hk⟩
      · rw [if_neg hk] at hno; exact absurd rfl hno
    | over => exact ⟨rfl, by show c.ph.movedOf n now c.m = c.m; rw [e]; rfl⟩
    | pin0 who => exact ⟨rfl, by show c.ph.movedOf n now c.m = c.m; rw [e]; rfl⟩
    | pin1 who nv => exact ⟨rfl, by show c.ph.movedOf n now c.m = c.m; rw [e]; rfl⟩
    | pin2 who nv => exact ⟨rfl, by show c.ph.movedOf n now c.m = c.m; rw [e]; rfl⟩
    | un who => exact ⟨rfl, by show c.ph.movedOf n now c.m = c.m; rw [e]; rfl⟩
    | adv => exact ⟨rfl, by show c.ph.movedOf n now c.m = c.m; rw [e]; rfl⟩
  refine ⟨hnow.1, hnow.2, ?_⟩
  have hok := Ph.ok_next (n := n) (now := now) (pins := pins) q1
  rw [hnow.1] at hok ⊢
  -- pins turn at reader i alone, and only where it isn't pinned
  have hpins : ∀ j, j < n → (c.ph.pinsOf pins) j = pins j ∨ (j = i ∧ X.pinned i = false) := by
    intro j hj
    cases e : c.ph with
    | pin1 who nv =>
      unfold KindOk at q3
      rw [e] at q3
      obtain ⟨rfl, q3⟩ := q3
      by_cases e2 : j = who
      · refine .inr ⟨e2, ?_⟩
        cases e3 : X.pinned who with
        | false => rfl
        | true => have := (h.pin who hi e3).2.2.2 c hc; omega
      · exact .inl (if_neg e2)
    | un who =>
      unfold KindOk at q3
      rw [e] at q3
      obtain ⟨rfl, q3⟩ := q3
      by_cases e2 : j = who
      · refine .inr ⟨e2, ?_⟩
        cases e3 : X.pinned who with
        | false => rfl
        | true => have := (h.pin who hi e3).2.2.2 c hc; omega
      · exact .inl (if_neg e2)
    | over => exact .inl rfl
    | pin0 who => exact .inl rfl
    | pin2 who nv => exact .inl rfl
    | adv => exact .inl rfl
    | look k nv => exact .inl rfl
  refine ⟨h.mv, by have := h.nt; omega, fun j hj => ?_, fun j hj => by have := h.nx j hj; omega, fun j hj => by have := h.tn j hj; omega, h.kd, fun j hj hp => ?_, fun j hj d hd => ?_, fun j hj d q nv hd e j' hj' hjn hp => ?_, by have := h.gl; omega, h.gg⟩
  · rw [h.link j hj]
    unfold setCur
    by_cases e : j = i
    · rw [if_pos e, e, hc]; rfl
    · rw [if_neg e]
  · obtain ⟨r1, r2, r3, r4⟩ := h.pin j hj hp
    refine ⟨r1, r2, ?_, fun d hd => ?_⟩
    · rcases hpins j hj with e | ⟨e, e2⟩
      · rw [e]; exact r3
      · rw [e, e2] at hp; cases hp
    · have hd : (if j = i then some (c.next n now pins) else cur j) = some d := hd
      by_cases e : j = i
      · subst e; exact r4 c hc
      · rw [if_neg e] at hd; exact r4 d hd
  · have hd : (if j = i then some (c.next n now pins) else cur j) = some d := hd
    by_cases e : j = i
    · rw [if_pos e] at hd
      cases hd
      subst e
      refine ⟨hok, by show c.c + 1 ≤ B + 1; omega, ?_⟩
      have hno : c.ph.next n now pins ≠ .over := hno
      unfold KindOk at q3 ⊢
      show match c.ph.next n now pins with
        | .over => False
        | .pin0 who => who = j ∧ X.kind j = 0
        | .pin1 who _ => who = j ∧ X.kind j = 0
        | .pin2 who nv => who = j ∧ X.kind j = 0 ∧ c.ph.pinsOf pins j = nv + 1
        | .un who => who = j ∧ X.kind j = 1
        | .adv => X.kind j = 2 ∧ (c.next n now pins).m = false ∧ ∃ mv, c.mv = some mv ∧ X.mov j = some mv
        | .look _ _ => X.kind j = 2 ∧ (c.next n now pins).m = false ∧ ∃ mv, c.mv = some mv ∧ X.mov j = some mv
      rw [hnow.2]
      cases e : c.ph with
      | over => rw [e] at q3; exact q3.elim
      | pin0 who => rw [e] at q3; exact q3
      | pin1 who nv => rw [e] at q3; exact ⟨q3.1, q3.2, by show (if j = who then nv + 1 else pins j) = nv + 1; rw [if_pos q3.1.symm]⟩
      | pin2 who nv =>
        rw [e] at q3 hno
        have hno : (if now = nv then Ph.over else .pin1 who now) ≠ .over := hno
        show match (if now = nv then Ph.over else .pin1 who now) with
          | .over => False
          | .pin0 who => who = j ∧ X.kind j = 0
          | .pin1 who _ => who = j ∧ X.kind j = 0
          | .pin2 who nv => who = j ∧ X.kind j = 0 ∧ pins j = nv + 1
          | .un who => who = j ∧ X.kind j = 1
          | .adv => X.kind j = 2 ∧ c.m = false ∧ ∃ mv, c.mv = some mv ∧ X.mov j = some mv
          | .look _ _ => X.kind j = 2 ∧ c.m = false ∧ ∃ mv, c.mv = some mv ∧ X.mov j = some mv
        by_cases e2 : now = nv
        · rw [if_pos e2] at hno; exact absurd rfl hno
        · rw [if_neg e2]; exact ⟨q3.1, q3.2.1⟩
      | un who => rw [e] at hno; exact absurd rfl hno
      | adv => rw [e] at q3; exact q3
      | look k nv =>
        rw [e] at q3 hno
        have hno : (if k < n then (if pins k = 0 ∨ pins k = nv + 1 then Ph.look (k + 1) nv else .over) else .over) ≠ .over := hno
        show match (if k < n then (if pins k = 0 ∨ pins k = nv + 1 then Ph.look (k + 1) nv else .over) else .over) with
          | .over => False
          | .pin0 who => who = j ∧ X.kind j = 0
          | .pin1 who _ => who = j ∧ X.kind j = 0
          | .pin2 who nv => who = j ∧ X.kind j = 0 ∧ pins j = nv + 1
          | .un who => who = j ∧ X.kind j = 1
          | .adv => X.kind j = 2 ∧ c.m = false ∧ ∃ mv, c.mv = some mv ∧ X.mov j = some mv
          | .look _ _ => X.kind j = 2 ∧ c.m = false ∧ ∃ mv, c.mv = some mv ∧ X.mov j = some mv
        by_cases hk : k < n
        · rw [if_pos hk] at hno ⊢
          by_cases hp : pins k = 0 ∨ pins k = nv + 1
          · rw [if_pos hp]; exact q3
          · rw [if_neg hp] at hno; exact absurd rfl hno
        · rw [if_neg hk] at hno; exact absurd rfl hno
    · rw [if_neg e] at hd
      obtain ⟨s1, s2, s3⟩ := h.cu j hj d hd
      refine ⟨s1, by omega, ?_⟩
      have hp : c.ph.pinsOf pins j = pins j := by
        rcases hpins j hj with e2 | ⟨e2, _⟩
        · exact e2
        · exact absurd e2 e
      unfold KindOk at s3 ⊢
      rw [hp]; exact s3
  · have hd : (if j = i then some (c.next n now pins) else cur j) = some d := hd
    by_cases e3 : j = i
    · rw [if_pos e3] at hd
      cases hd
      have e : c.ph.next n now pins = .look q nv := e
      cases e4 : c.ph with
      | look k nv' =>
        rw [e4] at e
        have e : (if k < n then (if pins k = 0 ∨ pins k = nv' + 1 then Ph.look (k + 1) nv' else .over) else .over) = .look q nv := e
        by_cases hk : k < n
        · rw [if_pos hk] at e
          by_cases hpk : pins k = 0 ∨ pins k = nv' + 1
          · rw [if_pos hpk] at e
            cases e
            by_cases e5 : j' < k
            · exact h.lk i hi c k nv hc e4 j' e5 hjn hp
            · obtain rfl : j' = k := by omega
              have := (h.pin j' hjn hp).2.2.1
              omega
          · rw [if_neg hpk] at e; cases e
        · rw [if_neg hk] at e; cases e
      | adv => rw [e4] at e; cases e; omega
      | over => rw [e4] at e; cases e
      | pin0 who => rw [e4] at e; cases e
      | pin1 who nv' => rw [e4] at e; cases e
      | pin2 who nv' =>
        rw [e4] at e
        have e : (if now = nv' then Ph.over else .pin1 who now) = .look q nv := e
        by_cases e5 : now = nv'
        · rw [if_pos e5] at e; cases e
        · rw [if_neg e5] at e; cases e
      | un who => rw [e4] at e; cases e
    · rw [if_neg e3] at hd
      exact h.lk j hj d q nv hd e j' hj' hjn hp
/-- Behind an act of reader i that is over: the parts that all three have in common. -/
theorem INV.rest (h : INV n B now pins cur X G mv) (i : Nat) (hi : i < n) (pins' : Nat → Nat) (now' mv' : Nat) (hmv : mv' = now') (hnow : now ≤ now' ∧ now' ≤ now + 1) (hp : ∀ j, j < n → j ≠ i → pins' j = pins j) (hpi : X.pinned i = true → pins' i = pins i)
    (hup : now' = now + 1 → ∀ j, j < n → X.pinned j = true → now ≤ X.since j) :
    INV n (B + 1) now' pins' (setCur cur i none) { X with act := fset X.act i none } G mv' := by
  have hpp : ∀ j, j < n → X.pinned j = true → pins' j = pins j := fun j hj e => by
    by_cases e2 : j = i
    · subst e2; exact hpi e
    · exact hp j hj e2
  refine ⟨hmv, by have := h.nt; omega, fun j hj => ?_, fun j hj => by have : X.next j ≤ B := h.nx j hj; show X.next j ≤ B + 1; omega, fun j hj => by have : X.turn j ≤ B := h.tn j hj; show X.turn j ≤ B + 1; omega, h.kd, fun j hj hpj => ?_, fun j hj d hd => ?_, fun j hj d q nv hd e j' hj' hjn hpj => ?_, by have := h.gl; omega, fun g hg => ⟨by have := (h.gg g hg).1; omega, (h.gg g hg).2⟩⟩
  · show fset X.act i none j = (setCur cur i none j).map (·.ba)
    unfold fset setCur
    by_cases e : j = i
    · rw [if_pos e, if_pos e]; rfl
    · rw [if_neg e, if_neg e]; exact h.link j hj
  · obtain ⟨r1, r2, r3, r4⟩ := h.pin j hj hpj
    refine ⟨Nat.le_trans r1 hnow.1, ?_, (hpp j hj hpj).trans r3, fun d hd => ?_⟩
    · show now' ≤ X.since j + 1
      by_cases e : now' = now + 1
      · have := hup e j hj hpj; omega
      · omega
    · have hd : (if j = i then none else cur j) = some d := hd
      by_cases e : j = i
      · rw [if_pos e] at hd; cases hd
      · rw [if_neg e] at hd; exact r4 d hd
  · have hd : (if j = i then none else cur j) = some d := hd
    by_cases e : j = i
    · rw [if_pos e] at hd; cases hd
    · rw [if_neg e] at hd
      obtain ⟨s1, s2, s3⟩ := h.cu j hj d hd
      refine ⟨?_, by omega, ?_⟩
      · cases e2 : d.ph with
        | over => trivial
        | pin0 who => rw [e2] at s1; exact s1
        | pin1 who nv => rw [e2] at s1; exact ⟨s1.1, Nat.le_trans s1.2 hnow.1⟩
        | pin2 who nv => rw [e2] at s1; exact ⟨s1.1, Nat.le_trans s1.2 hnow.1⟩
        | un who => rw [e2] at s1; exact s1
        | adv => trivial
        | look k nv => rw [e2] at s1; exact ⟨s1.1, Nat.le_trans s1.2 hnow.1⟩
      · unfold KindOk at s3 ⊢
        rw [hp j hj e]; exact s3
  · have hd : (if j = i then none else cur j) = some d := hd
    by_cases e3 : j = i
    · rw [if_pos e3] at hd; cases hd
    · rw [if_neg e3] at hd; exact h.lk j hj d q nv hd e j' hj' hjn hpj
/-- A reader that is pinned anew, nothing of its under way. -/
theorem INV.pinned (h : INV n B now pins cur X G mv) (i : Nat) (hi : i < n) (hc : cur i = none) (hp : pins i = now + 1) :
    INV n (B + 1) now pins cur { X with pinned := fset X.pinned i true, since := fset X.since i now, turn := fset X.turn i (X.turn i + 1) } G mv := by
  refine ⟨h.mv, by have := h.nt; omega, h.link, fun j hj => by have : X.next j ≤ B := h.nx j hj; show X.next j ≤ B + 1; omega, fun j hj => ?_, h.kd, fun j hj hpj => ?_, fun j hj d hd => ?_, fun j hj d q nv hd e j' hj' hjn hpj => ?_, by have := h.gl; omega, fun g hg => ⟨(h.gg g hg).1, fun j hj => ?_⟩⟩
  · show fset X.turn i (X.turn i + 1) j ≤ B + 1
    unfold fset
    have := h.tn j hj; have := h.tn i hi
    split <;> omega
  · have hpj : fset X.pinned i true j = true := hpj
    show fset X.since i now j ≤ now ∧ now ≤ fset X.since i now j + 1 ∧ pins j = fset X.since i now j + 1 ∧ ∀ d, cur j = some d → X.kind j = 2
    by_cases e : j = i
    · subst e
      rw [fset_at]
      exact ⟨Nat.le_refl _, by omega, hp, fun d hd => by rw [hc] at hd; cases hd⟩
    · rw [fset_ne _ _ e] at hpj ⊢
      exact h.pin j hj hpj
  · obtain ⟨s1, s2, s3⟩ := h.cu j hj d hd
    exact ⟨s1, by omega, s3⟩
  · have hpj : fset X.pinned i true j' = true := hpj
    show nv ≤ fset X.since i now j'
    by_cases e2 : j' = i
    · subst e2
      rw [fset_at]
      have := (h.cu j hj d hd).1
      rw [e] at this
      exact this.2
    · rw [fset_ne _ _ e2] at hpj ⊢
      exact h.lk j hj d q nv hd e j' hj' hjn hpj
  · obtain ⟨q1, q2⟩ := (h.gg g hg).2 j hj
    show g.turn j ≤ ((fset X.turn i (X.turn i + 1) j : Nat) : Int) ∧ (fset X.pinned i true j = true → g.turn j = ((fset X.turn i (X.turn i + 1) j : Nat) : Int) → fset X.since i now j ≤ g.ep)
    by_cases e : j = i
    · subst e
      rw [fset_at]
      exact ⟨by omega, fun _ e => by omega⟩
    · rw [fset_ne _ _ e, fset_ne _ _ e, fset_ne _ _ e]; exact ⟨q1, q2⟩
/-- An act of reader i is over. -/
theorem INV.over (h : INV n B now pins cur X G mv) (i : Nat) (hi : i < n) (c : Cur) (hc : cur i = some c) (hov : (c.next n now pins).ph = .over) :
    (X.kind i = 0 ∧ c.ph.nowOf n now = now ∧ c.ph.pinsOf pins = pins ∧ pins i = now + 1 ∧ INV n (B + 1) now pins (setCur cur i none) { X with act := fset X.act i none } G mv)
    ∨ (X.kind i = 1 ∧ c.ph.nowOf n now = now ∧ c.ph.pinsOf pins i = 0 ∧ INV n (B + 1) now (c.ph.pinsOf pins) (setCur cur i none) { X with act := fset X.act i none } G mv)
    ∨ (X.kind i = 2 ∧ c.ph.pinsOf pins = pins ∧ ∃ m, c.mv = some m ∧ X.mov i = some m ∧ (((c.next n now pins).m = true ∧ c.ph.nowOf n now = now + 1 ∧ INV n (B + 1) (now + 1) pins (setCur cur i none) { X with act := fset X.act i none } G (mv + 1)) ∨ ((c.next n now pins).m = false ∧ c.ph.nowOf n now = now ∧ INV n (B + 1) now pins (setCur cur i none) { X with act := fset X.act i none } G mv))) := by
  obtain ⟨q1, q2, q3⟩ := h.cu i hi c hc
  have hov : c.ph.next n now pins = .over := hov
  have same : INV n (B + 1) now pins (setCur cur i none) { X with act := fset X.act i none } G mv := h.rest i hi pins now mv h.mv ⟨Nat.le_refl _, by omega⟩ (fun _ _ _ => rfl) (fun _ => rfl) (fun e => by omega)
  unfold KindOk at q3
  show _ ∨ _ ∨ (X.kind i = 2 ∧ c.ph.pinsOf pins = pins ∧ ∃ m, c.mv = some m ∧ X.mov i = some m ∧ ((c.ph.movedOf n now c.m = true ∧ c.ph.nowOf n now = now + 1 ∧ _) ∨ (c.ph.movedOf n now c.m = false ∧ c.ph.nowOf n now = now ∧ _)))
  cases e : c.ph with
  | over => rw [e] at q3; exact q3.elim
  | pin0 who => rw [e] at hov; cases hov
  | pin1 who nv => rw [e] at hov; cases hov
  | adv => rw [e] at hov; cases hov
  | pin2 who nv =>
    rw [e] at q3 hov
    have hov : (if now = nv then Ph.over else .pin1 who now) = .over := hov
    by_cases e2 : now = nv
    · subst e2
      exact .inl ⟨q3.2.1, rfl, rfl, q3.2.2, same⟩
    · rw [if_neg e2] at hov; cases hov
  | un who =>
    rw [e] at q3
    obtain ⟨rfl, q3⟩ := q3
    refine .inr (.inl ⟨q3, rfl, if_pos rfl, h.rest who hi _ now mv h.mv ⟨Nat.le_refl _, by omega⟩ (fun j hj hne => if_neg hne) (fun e3 => ?_) (fun e => by omega)⟩)
    have := (h.pin who hi e3).2.2.2 c hc
    omega
  | look k nv =>
    rw [e] at q1 q3 hov
    obtain ⟨k2, hm, m, hm1, hm2⟩ := q3
    have hov : (if k < n then (if pins k = 0 ∨ pins k = nv + 1 then Ph.look (k + 1) nv else .over) else .over) = .over := hov
    refine .inr (.inr ⟨k2, rfl, m, hm1, hm2, ?_⟩)
    show ((if k < n then c.m else if now = nv then true else c.m) = true ∧ (if k < n then now else if now = nv then now + 1 else now) = now + 1 ∧ _) ∨ ((if k < n then c.m else if now = nv then true else c.m) = false ∧ (if k < n then now else if now = nv then now + 1 else now) = now ∧ _)
    by_cases hk : k < n
    · rw [if_pos hk, if_pos hk]
      exact .inr ⟨hm, rfl, same⟩
    · rw [if_neg hk, if_neg hk]
      by_cases e2 : now = nv
      · subst e2
        rw [if_pos rfl, if_pos rfl]
        refine .inl ⟨rfl, rfl, h.rest i hi pins (now + 1) (mv + 1) (by rw [h.mv]) ⟨by omega, Nat.le_refl _⟩ (fun _ _ _ => rfl) (fun _ => rfl) (fun _ j hj hp => ?_)⟩
        exact h.lk i hi c k now hc e j (by have := q1.1; omega) hj hp
      · rw [if_neg e2, if_neg e2]
        exact .inr ⟨hm, rfl, same⟩
end Go.Proofs.Ytkjppffkjofamaa
