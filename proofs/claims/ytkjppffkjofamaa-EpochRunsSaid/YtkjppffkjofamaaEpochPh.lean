/- Package epoch: an act over an epoch, in whichever phase, and one step of it. No condition but those that each contract bears. -/
import Derived.Test.YtkjppffkjofamaaEpochEnd
set_option linter.unusedVariables false
set_option linter.unusedSimpArgs false
namespace Go.Proofs.Ytkjppffkjofamaa
open Go.RowKit Go.Shelf
/-- What an act over an epoch will do next. -/
inductive Ph where
  | over
  | pin0 (who : Nat)
  | pin1 (who nv : Nat)
  | pin2 (who nv : Nat)
  | un (who : Nat)
  | adv
  | look (k nv : Nat)
def Ph.isOver : Ph → Bool
  | .over => true
  | _ => false
def Ph.next (n now : Nat) (pins : Nat → Nat) : Ph → Ph
  | .over => .over
  | .pin0 who => .pin1 who now
  | .pin1 who nv => .pin2 who nv
  | .pin2 who nv => if now = nv then .over else .pin1 who now
  | .un _ => .over
  | .adv => .look 0 now
  | .look k nv => if k < n then (if pins k = 0 ∨ pins k = nv + 1 then .look (k + 1) nv else .over) else .over
def Ph.nowOf (n now : Nat) : Ph → Nat
  | .look k nv => if k < n then now else if now = nv then now + 1 else now
  | _ => now
def Ph.pinsOf (pins : Nat → Nat) : Ph → Nat → Nat
  | .pin1 who nv => putPin pins who (nv + 1)
  | .un who => putPin pins who 0
  | _ => pins
def Ph.movedOf (n now : Nat) (m : Bool) : Ph → Bool
  | .look k nv => if k < n then m else if now = nv then true else m
  | _ => m
def Ph.ok (n now : Nat) : Ph → Prop
  | .over => True
  | .pin0 who => who < n
  | .pin1 who nv => who < n ∧ nv ≤ now
  | .pin2 who nv => who < n ∧ nv ≤ now
  | .un who => who < n
  | .adv => True
  | .look k nv => k ≤ n ∧ nv ≤ now
theorem Ph.ok_next {n now : Nat} {pins : Nat → Nat} {ph : Ph} (h : ph.ok n now) : (ph.next n now pins).ok n (ph.nowOf n now) := by
  cases ph with
  | over => trivial
  | pin0 who => exact ⟨h, Nat.le_refl _⟩
  | pin1 who nv => exact h
  | pin2 who nv =>
    show Ph.ok n now (if now = nv then .over else .pin1 who now)
    split
    · trivial
    · exact ⟨h.1, Nat.le_refl _⟩
  | un who => trivial
  | adv => exact ⟨Nat.zero_le _, Nat.le_refl _⟩
  | look k nv =>
    show Ph.ok n (if k < n then now else if now = nv then now + 1 else now) (if k < n then (if pins k = 0 ∨ pins k = nv + 1 then .look (k + 1) nv else .over) else .over)
    split
    · split
      · exact ⟨by omega, h.2⟩
      · trivial
    · trivial
/-- The function value that is an act's next step; F: the blocks that it needs. -/
def NextOf (W : World) (b : Nat) (mvs : Option Nat) (F : Nat → Prop) (v : Value) : Ph → Prop
  | .over => v = .nilFunc
  | .pin0 who => ∃ be bw bh, v = .func (.func 42) #[] #[.pointer (some ⟨bh, 0, none⟩), .pointer (some ⟨be, 0, none⟩)] ∧ (F be ∧ F bw ∧ F bh) ∧ PinEnv W be bw bh b who
  | .pin1 who nv => ∃ be bw bh bn, v = .func (.func 37) #[] #[.pointer (some ⟨be, 0, none⟩), .pointer (some ⟨bw, 0, none⟩), .pointer (some ⟨bn, 0, none⟩), .pointer (some ⟨bh, 0, none⟩)] ∧ (F be ∧ F bw ∧ F bh ∧ F bn) ∧ PinEnv W be bw bh b who ∧ W.cell? ⟨bn, 0, none⟩ = some (.int .u64 (nv : Nat))
  | .pin2 who nv => ∃ be bw bh bn, v = .func (.func 39) #[] #[.pointer (some ⟨be, 0, none⟩), .pointer (some ⟨bn, 0, none⟩), .pointer (some ⟨bh, 0, none⟩)] ∧ (F be ∧ F bw ∧ F bh ∧ F bn) ∧ PinEnv W be bw bh b who ∧ W.cell? ⟨bn, 0, none⟩ = some (.int .u64 (nv : Nat))
  | .un who => ∃ be bw, v = .func (.func 43) #[] #[.pointer (some ⟨be, 0, none⟩), .pointer (some ⟨bw, 0, none⟩)] ∧ (F be ∧ F bw) ∧ UnpinEnv W be bw b who
  | .adv => ∃ be bl bv mv, mvs = some mv ∧ v = .func (.func 48) #[] #[.pointer (some ⟨bl, 0, none⟩), .pointer (some ⟨be, 0, none⟩)] ∧ (F be ∧ F bl ∧ F bv) ∧ AdvEnv W be bl bv b mv
  | .look k nv => ∃ bw be bn bl bv mv, mvs = some mv ∧ v = .func (.func 46) #[] #[.pointer (some ⟨bw, 0, none⟩), .pointer (some ⟨be, 0, none⟩), .pointer (some ⟨bn, 0, none⟩), .pointer (some ⟨bl, 0, none⟩), .pointer (some ⟨bv, 0, none⟩)] ∧ (F bw ∧ F be ∧ F bn ∧ F bl ∧ F bv) ∧ LookEnv W bw be bn bl bv b mv k nv
theorem PinEnv.of_blocks {W W' : World} {be bw bh b who : Nat} (h : PinEnv W be bw bh b who) (h1 : W'.heap[be]? = W.heap[be]?) (h2 : W'.heap[bw]? = W.heap[bw]?) (h3 : W'.heap[bh]? = W.heap[bh]?) : PinEnv W' be bw bh b who :=
  ⟨(World.cell?_of_block (w := W) h1).trans h.e, (World.cell?_of_block (w := W) h2).trans h.w, (World.cell?_of_block (w := W) h3).trans h.h⟩
theorem AdvEnv.of_blocks {W W' : World} {be bl bv b mv : Nat} (h : AdvEnv W be bl bv b mv) (h1 : W'.heap[be]? = W.heap[be]?) (h2 : W'.heap[bl]? = W.heap[bl]?) (h3 : W'.heap[bv]? = W.heap[bv]?) : AdvEnv W' be bl bv b mv :=
  ⟨(World.cell?_of_block (w := W) h1).trans h.e, (World.cell?_of_block (w := W) h2).trans h.l, (World.cell?_of_block (w := W) h3).trans h.v⟩
theorem NextOf.move {W W' : World} {b : Nat} {mvs : Option Nat} {F F' : Nat → Prop} {v : Value} {ph : Ph} (h : NextOf W b mvs F v ph) (hF : ∀ k, F k → F' k) (hW : ∀ k c t f, F k → W.heap[k]? = some (.cells c t f) → W'.heap[k]? = W.heap[k]?) : NextOf W' b mvs F' v ph := by
  have hc : ∀ (k : Nat) (u : Value), F k → W.cell? ⟨k, 0, none⟩ = some u → W'.heap[k]? = W.heap[k]? := fun k u hk hu => by
    obtain ⟨c, t, f, e⟩ := cells_of hu
    exact hW k c t f hk e
  cases ph with
  | over => exact h
  | pin0 who =>
    obtain ⟨be, bw, bh, rfl, ⟨f1, f2, f3⟩, he⟩ := h
    exact ⟨be, bw, bh, rfl, ⟨hF _ f1, hF _ f2, hF _ f3⟩, he.of_blocks (hc _ _ f1 he.e) (hc _ _ f2 he.w) (hc _ _ f3 he.h)⟩
  | pin1 who nv =>
    obtain ⟨be, bw, bh, bn, rfl, ⟨f1, f2, f3, f4⟩, he, hn⟩ := h
    exact ⟨be, bw, bh, bn, rfl, ⟨hF _ f1, hF _ f2, hF _ f3, hF _ f4⟩, he.of_blocks (hc _ _ f1 he.e) (hc _ _ f2 he.w) (hc _ _ f3 he.h), (World.cell?_of_block (w := W) (hc _ _ f4 hn)).trans hn⟩
  | pin2 who nv =>
    obtain ⟨be, bw, bh, bn, rfl, ⟨f1, f2, f3, f4⟩, he, hn⟩ := h
    exact ⟨be, bw, bh, bn, rfl, ⟨hF _ f1, hF _ f2, hF _ f3, hF _ f4⟩, he.of_blocks (hc _ _ f1 he.e) (hc _ _ f2 he.w) (hc _ _ f3 he.h), (World.cell?_of_block (w := W) (hc _ _ f4 hn)).trans hn⟩
  | un who =>
    obtain ⟨be, bw, rfl, ⟨f1, f2⟩, he⟩ := h
    exact ⟨be, bw, rfl, ⟨hF _ f1, hF _ f2⟩, (World.cell?_of_block (w := W) (hc _ _ f1 he.e)).trans he.e, (World.cell?_of_block (w := W) (hc _ _ f2 he.w)).trans he.w⟩
  | adv =>
    obtain ⟨be, bl, bv, mv, hm, rfl, ⟨f1, f2, f3⟩, he⟩ := h
    exact ⟨be, bl, bv, mv, hm, rfl, ⟨hF _ f1, hF _ f2, hF _ f3⟩, he.of_blocks (hc _ _ f1 he.e) (hc _ _ f2 he.l) (hc _ _ f3 he.v)⟩
  | look k nv =>
    obtain ⟨bw, be, bn, bl, bv, mv, hm, rfl, ⟨f1, f2, f3, f4, f5⟩, he⟩ := h
    exact ⟨bw, be, bn, bl, bv, mv, hm, rfl, ⟨hF _ f1, hF _ f2, hF _ f3, hF _ f4, hF _ f5⟩, he.env.of_blocks (hc _ _ f2 he.env.e) (hc _ _ f4 he.env.l) (hc _ _ f5 he.env.v), (World.cell?_of_block (w := W) (hc _ _ f1 he.k)).trans he.k, (World.cell?_of_block (w := W) (hc _ _ f3 he.nv)).trans he.nv⟩
theorem NextOf.of_blocks {W W' : World} {b : Nat} {mvs : Option Nat} {F F' : Nat → Prop} {v : Value} {ph : Ph} (h : NextOf W b mvs F v ph) (hF : ∀ k, F k → F' k) (hW : ∀ k, F k → W'.heap[k]? = W.heap[k]?) : NextOf W' b mvs F' v ph := h.move hF (fun k _ _ _ hk _ => hW k hk)
theorem NextOf.isStep {W : World} {b : Nat} {mvs : Option Nat} {F : Nat → Prop} {v : Value} {ph : Ph} (h : NextOf W b mvs F v ph) : IsStep v ∧ nilB v = ph.isOver := by
  cases ph with
  | over => obtain rfl : v = .nilFunc := h; exact ⟨.inl rfl, rfl⟩
  | pin0 who => obtain ⟨be, bw, bh, rfl, _⟩ := h; exact ⟨.inr ⟨_, _, rfl⟩, rfl⟩
  | pin1 who nv => obtain ⟨be, bw, bh, bn, rfl, _⟩ := h; exact ⟨.inr ⟨_, _, rfl⟩, rfl⟩
  | pin2 who nv => obtain ⟨be, bw, bh, bn, rfl, _⟩ := h; exact ⟨.inr ⟨_, _, rfl⟩, rfl⟩
  | un who => obtain ⟨be, bw, rfl, _⟩ := h; exact ⟨.inr ⟨_, _, rfl⟩, rfl⟩
  | adv => obtain ⟨be, bl, bv, mv, _, rfl, _⟩ := h; exact ⟨.inr ⟨_, _, rfl⟩, rfl⟩
  | look k nv => obtain ⟨bw, be, bn, bl, bv, mv, _, rfl, _⟩ := h; exact ⟨.inr ⟨_, _, rfl⟩, rfl⟩
def MvIs (W : World) (mvs : Option Nat) (ba : Nat) (m : Bool) : Prop := ∀ mv, mvs = some mv → MvAt W mv ba m
/-- An act over an epoch. -/
structure PhAt (W : World) (b ba : Nat) (mvs : Option Nat) (m : Bool) (ph : Ph) (c : Nat) (F : Nat → Prop) : Prop where
  act : ∃ v, ActAt W ba v (c : Nat) ∧ NextOf W b mvs F v ph
  mv : MvIs W mvs ba m
  lt : ∀ k, F k → k < W.heap.size
/-- The blocks do not meet. -/
structure Apart (b bm bp ba : Nat) (mvs : Option Nat) (F : Nat → Prop) : Prop where
  fb : ¬ F b
  fm : ¬ F bm
  fp : ¬ F bp
  fa : ¬ F ba
  ab : ba ≠ b ∧ ba ≠ bm ∧ ba ≠ bp
  fv : ∀ mv, mvs = some mv → ¬ F mv ∧ mv ≠ b ∧ mv ≠ bm ∧ mv ≠ bp ∧ mv ≠ ba
/-- What one call of an act's next step leaves. -/
structure Went (W w2 : World) (b bm bp n wd now : Nat) (pins : Nat → Nat) (ba : Nat) (mvs : Option Nat) (m : Bool) (ph : Ph) (F : Nat → Prop) (v : Value) : Prop where
  ep : EpAt w2 b bm bp n wd now pins
  next : NextOf w2 b mvs (fun k => F k ∨ (W.heap.size ≤ k ∧ k < w2.heap.size)) v ph
  mv : MvIs w2 mvs ba m
  touch : Touch (fun k => k = b ∨ k = bm ∨ k = bp ∨ some k = mvs) W w2
theorem MvIs.of_blocks {W W' : World} {mvs : Option Nat} {ba : Nat} {m : Bool} (h : MvIs W mvs ba m) (hW : ∀ mv, mvs = some mv → W'.heap[mv]? = W.heap[mv]?) : MvIs W' mvs ba m := fun mv e => (hW mv e).trans (h mv e)
theorem MvIs.lt {W : World} {mvs : Option Nat} {ba : Nat} {m : Bool} (h : MvIs W mvs ba m) : ∀ mv, mvs = some mv → mv < W.heap.size := fun mv e => (Array.getElem?_eq_some_iff.1 (show W.heap[mv]? = _ from h mv e)).1
/-- One step of the whole, out of what the call of its next step leaves. -/
theorem ph_step_of {W : World} {b bm bp n wd now' : Nat} {pins' : Nat → Nat} {ba c f : Nat} {mvs : Option Nat} {m m' : Bool} {ph' : Ph} {F : Nat → Prop} {cs : Array Value} (eg : ∀ args w, (callFunc f args).run Try.prog w = .ok (.enter f args) w)
    (hA : ActAt W ba (.func (.func f) #[] cs) (c : Nat)) (hd : Apart b bm bp ba mvs F) (hm : MvIs W mvs ba m) (hlt : ∀ k, F k → k < W.heap.size) (hc : c ≤ 100000)
    (hcall : ∀ W1 : World, W1.heap.size = W.heap.size → (∀ k, k ≠ ba → W1.heap[k]? = W.heap[k]?) → Calls Try.prog f cs W1 fun e w2 => ∃ v', e = .returned v' ∧ Went W1 w2 b bm bp n wd now' pins' ba mvs m' ph' F v') :
    Calls Try.prog 31 #[.pointer (some ⟨ba, 0, none⟩)] W fun e w' => e = .returned (.bool ph'.isOver) ∧ EpAt w' b bm bp n wd now' pins' ∧ PhAt w' b ba mvs m' ph' (c + 1) (fun k => F k ∨ (W.heap.size ≤ k ∧ k < w'.heap.size)) ∧ Touch (fun k => k = b ∨ k = bm ∨ k = bp ∨ k = ba ∨ some k = mvs) W w' := by
  have hs1 : (W.setCell ⟨ba, 1, none⟩ (.int .i64 ((c : Int) + 1))).heap.size = W.heap.size := by simp [World.setCell]
  have hb1 : ∀ k, k ≠ ba → (W.setCell ⟨ba, 1, none⟩ (.int .i64 ((c : Int) + 1))).heap[k]? = W.heap[k]? := fun k hk => Below.heap_setCell _ _ _ _ hk
  obtain ⟨W1, hW1⟩ : ∃ W1, W1 = W.setCell ⟨ba, 1, none⟩ (.int .i64 ((c : Int) + 1)) := ⟨_, rfl⟩
  have ht1 : Touch (fun k => k = b ∨ k = bm ∨ k = bp ∨ k = ba ∨ some k = mvs) W W1 := by rw [hW1]; exact (Touch.refl _ W).setCell (p := ⟨ba, 1, none⟩) (.inl (.inr (.inr (.inr (.inl rfl))))) _
  rw [← hW1] at hs1 hb1
  have hla := hA.lt
  have hcall1 := hcall W1 hs1 hb1
  refine (act_step ba f cs (c : Nat) W (fun v' w2 => Went W1 w2 b bm bp n wd now' pins' ba mvs m' ph' F v') eg hA (by omega) (by omega) ?_).mono ?_
  · rw [← hW1]
    refine hcall1.mono ?_
    rintro e w2 ⟨v', rfl, hw⟩
    exact ⟨v', rfl, hw.next.isStep.1, hw.touch.block ba (by omega) (fun e => by
      rcases e with e | e | e | e
      · exact hd.ab.1 e
      · exact hd.ab.2.1 e
      · exact hd.ab.2.2 e
      · exact (hd.fv ba e.symm).2.2.2.2 rfl), hw⟩
  · rintro e w' ⟨v', w2, rfl, hw, rfl, ha⟩
    have hs2 : (w2.setCell ⟨ba, 0, none⟩ v').heap.size = w2.heap.size := by simp [World.setCell]
    have hb2 : ∀ k, k ≠ ba → (w2.setCell ⟨ba, 0, none⟩ v').heap[k]? = w2.heap[k]? := fun k hk => Below.heap_setCell _ _ _ _ hk
    have hsz := hw.touch.size
    refine ⟨by rw [hw.next.isStep.2], hw.ep.of_blocks (hb2 _ hd.ab.1.symm) (hb2 _ hd.ab.2.1.symm) (hb2 _ hd.ab.2.2.symm), ⟨⟨v', by have := ha; rwa [show ((c + 1 : Nat) : Int) = (c : Int) + 1 by omega], hw.next.of_blocks (fun k hk => ?_) (fun k hk => hb2 k (fun e => ?_))⟩, hw.mv.of_blocks (fun mv e => hb2 mv (hd.fv mv e).2.2.2.2), fun k hk => ?_⟩, ?_⟩
    · rcases hk with hk | hk
      · exact .inl hk
      · exact .inr ⟨by omega, by rw [hs2]; exact hk.2⟩
    · subst e
      rcases hk with hk | hk
      · exact hd.fa hk
      · omega
    · rcases hk with hk | hk
      · have := hlt k hk; omega
      · exact hk.2
    · exact ht1.trans ((hw.touch.mono (fun k _ e => by
        rcases e with e | e | e | e
        · exact .inl e
        · exact .inr (.inl e)
        · exact .inr (.inr (.inl e))
        · exact .inr (.inr (.inr (.inr e))))).setCell (p := ⟨ba, 0, none⟩) (.inl (.inr (.inr (.inr (.inl rfl))))) _)
end Go.Proofs.Ytkjppffkjofamaa
