/- Package epoch: one step of an act over an epoch, in whichever phase. No condition but those that each contract bears. -/
import Derived.Test.YtkjppffkjofamaaEpochPh
set_option linter.unusedVariables false
set_option linter.unusedSimpArgs false
namespace Go.Proofs.Ytkjppffkjofamaa
open Go.RowKit Go.Shelf
/-- What one step leaves. -/
def Stepped (W : World) (b bm bp n wd now : Nat) (pins : Nat → Nat) (ba : Nat) (mvs : Option Nat) (m : Bool) (ph : Ph) (c : Nat) (F : Nat → Prop) (e : Ending) (w' : World) : Prop :=
  e = .returned (.bool (ph.next n now pins).isOver) ∧ EpAt w' b bm bp n wd (ph.nowOf n now) (ph.pinsOf pins) ∧ PhAt w' b ba mvs (ph.movedOf n now m) (ph.next n now pins) (c + 1) (fun k => F k ∨ (W.heap.size ≤ k ∧ k < w'.heap.size)) ∧ Touch (fun k => k = b ∨ k = bm ∨ k = bp ∨ k = ba ∨ some k = mvs) W w'
theorem fresh_of {W w2 : World} {k : Nat} {v : Value} (h1 : W.heap.size ≤ k) (h2 : w2.cell? ⟨k, 0, none⟩ = some v) : W.heap.size ≤ k ∧ k < w2.heap.size := ⟨h1, lt_of_cell h2⟩
set_option maxHeartbeats 1000000 in
theorem phase_step {W : World} {b bm bp n wd now : Nat} {pins : Nat → Nat} {ba c : Nat} {mvs : Option Nat} {m : Bool} {ph : Ph} {F : Nat → Prop} (h : EpAt W b bm bp n wd now pins) (hP : PhAt W b ba mvs m ph c F) (hd : Apart b bm bp ba mvs F) (hok : ph.ok n now) (hno : ph ≠ .over) (hb : now + 1 ≤ 100000) (hc : c ≤ 100000) :
    Calls Try.prog 31 #[.pointer (some ⟨ba, 0, none⟩)] W (Stepped W b bm bp n wd now pins ba mvs m ph c F) := by
  obtain ⟨⟨v, hA, hN⟩, hm, hlt⟩ := hP
  have l := h.lt
  have ne : ∀ {k x : Nat}, F k → ¬ F x → k ≠ x := fun hk hx e => hx (e ▸ hk)
  have hE1 : ∀ W1 : World, (∀ k, k ≠ ba → W1.heap[k]? = W.heap[k]?) → EpAt W1 b bm bp n wd now pins := fun W1 hb1 => h.of_blocks (hb1 b hd.ab.1.symm) (hb1 bm hd.ab.2.1.symm) (hb1 bp hd.ab.2.2.symm)
  have hM1 : ∀ W1 : World, (∀ k, k ≠ ba → W1.heap[k]? = W.heap[k]?) → MvIs W1 mvs ba m := fun W1 hb1 => hm.of_blocks (fun mv e => hb1 mv (hd.fv mv e).2.2.2.2)
  have hN1 : ∀ W1 : World, (∀ k, k ≠ ba → W1.heap[k]? = W.heap[k]?) → NextOf W1 b mvs F v ph := fun W1 hb1 => hN.of_blocks (fun _ hk => hk) (fun k hk => hb1 k (ne hk hd.fa))
  have hml : ∀ mv, mvs = some mv → mv < W.heap.size := hm.lt
  cases ph with
  | over => exact absurd rfl hno
  | pin0 who =>
    have hv := hN
    obtain ⟨be, bw, bh, rfl, _⟩ := hv
    refine ph_step_of (fun _ _ => rfl) hA hd hm hlt hc (fun W1 hs1 hb1 => ?_)
    obtain ⟨be', bw', bh', he, ⟨f1, f2, f3⟩, henv⟩ := hN1 W1 hb1
    cases he
    refine (pin_start (hE1 W1 hb1) be bw' bh who henv (ne f1 hd.fm) (ne f3 hd.fm)).mono ?_
    rintro e w2 ⟨bn, rfl, hbn, hcn, hE2, hT2⟩
    refine ⟨_, rfl, hE2, ⟨be, bw', bh, bn, rfl, ⟨.inl f1, .inl f2, .inl f3, .inr (fresh_of hbn hcn)⟩, henv.of_blocks ?_ ?_ ?_, hcn⟩, (hM1 W1 hb1).of_blocks (fun mv e => hT2.block mv (by rw [hs1]; exact hml mv e) (hd.fv mv e).2.2.1), hT2.mono (fun k _ e => .inr (.inl e))⟩
    · exact hT2.block _ (by rw [hs1]; exact hlt _ f1) (ne f1 hd.fm)
    · exact hT2.block _ (by rw [hs1]; exact hlt _ f2) (ne f2 hd.fm)
    · exact hT2.block _ (by rw [hs1]; exact hlt _ f3) (ne f3 hd.fm)
  | pin1 who nv =>
    have hv := hN
    obtain ⟨be, bw, bh, bn, rfl, _⟩ := hv
    refine ph_step_of (fun _ _ => rfl) hA hd hm hlt hc (fun W1 hs1 hb1 => ?_)
    obtain ⟨be', bw', bh', bn', he, ⟨f1, f2, f3, f4⟩, henv, hcn⟩ := hN1 W1 hb1
    cases he
    obtain ⟨hw, hnv⟩ := hok
    refine (pin_set (hE1 W1 hb1) be bw bh bn who nv henv hcn hw (by omega)).mono ?_
    rintro e w2 ⟨rfl, hE2, hT2, hs2⟩
    have nt : ∀ {k}, F k → ¬ (k = bm ∨ k = bp) := fun hk e => e.elim (ne hk hd.fm) (ne hk hd.fp)
    have kp : ∀ {k}, F k → w2.heap[k]? = W1.heap[k]? := fun hk => hT2.block _ (by rw [hs1]; exact hlt _ hk) (nt hk)
    exact ⟨_, rfl, hE2, ⟨be, bw, bh, bn, rfl, ⟨.inl f1, .inl f2, .inl f3, .inl f4⟩, henv.of_blocks (kp f1) (kp f2) (kp f3), (World.cell?_of_block (w := W1) (kp f4)).trans hcn⟩, (hM1 W1 hb1).of_blocks (fun mv e => hT2.block mv (by rw [hs1]; exact hml mv e) (fun x => x.elim (hd.fv mv e).2.2.1 (hd.fv mv e).2.2.2.1)), hT2.mono (fun k _ e => e.elim (fun e => .inr (.inl e)) (fun e => .inr (.inr (.inl e))))⟩
  | pin2 who nv =>
    have hv := hN
    obtain ⟨be, bw, bh, bn, rfl, _⟩ := hv
    refine ph_step_of (fun _ _ => rfl) hA hd hm hlt hc (fun W1 hs1 hb1 => ?_)
    obtain ⟨be', bw', bh', bn', he, ⟨f1, f2, f3, f4⟩, henv, hcn⟩ := hN1 W1 hb1
    cases he
    obtain ⟨hw, hnv⟩ := hok
    by_cases e : now = nv
    · subst e
      refine (pin_done (hE1 W1 hb1) be bw' bh bn who henv hcn (ne f1 hd.fm) (ne f4 hd.fm)).mono ?_
      rintro e w2 ⟨rfl, hE2, hT2, hs2⟩
      refine ⟨_, rfl, hE2, ?_, (hM1 W1 hb1).of_blocks (fun mv e => hT2.block mv (by rw [hs1]; exact hml mv e) (hd.fv mv e).2.2.1), hT2.mono (fun k _ e => .inr (.inl e))⟩
      show NextOf w2 b mvs _ _ (if now = now then .over else _)
      rw [if_pos rfl]; rfl
    · refine (pin_again (hE1 W1 hb1) be bw' bh bn who nv henv hcn e (ne f1 hd.fm) (ne f3 hd.fm) (ne f4 hd.fm)).mono ?_
      rintro e' w2 ⟨bn2, rfl, hbn, hcn2, hE2, hT2⟩
      have kp : ∀ {k}, F k → w2.heap[k]? = W1.heap[k]? := fun hk => hT2.block _ (by rw [hs1]; exact hlt _ hk) (ne hk hd.fm)
      refine ⟨_, rfl, hE2, ?_, (hM1 W1 hb1).of_blocks (fun mv e => hT2.block mv (by rw [hs1]; exact hml mv e) (hd.fv mv e).2.2.1), hT2.mono (fun k _ e => .inr (.inl e))⟩
      show NextOf w2 b mvs _ _ (if now = nv then .over else .pin1 who now)
      rw [if_neg e]
      exact ⟨be, bw', bh, bn2, rfl, ⟨.inl f1, .inl f2, .inl f3, .inr (fresh_of hbn hcn2)⟩, henv.of_blocks (kp f1) (kp f2) (kp f3), hcn2⟩
  | un who =>
    have hv := hN
    obtain ⟨be, bw, rfl, _⟩ := hv
    refine ph_step_of (fun _ _ => rfl) hA hd hm hlt hc (fun W1 hs1 hb1 => ?_)
    obtain ⟨be', bw', he, ⟨f1, f2⟩, henv⟩ := hN1 W1 hb1
    cases he
    refine (unpin_run (hE1 W1 hb1) be bw who henv hok).mono ?_
    rintro e w2 ⟨rfl, hE2, hT2, hs2⟩
    exact ⟨_, rfl, hE2, rfl, (hM1 W1 hb1).of_blocks (fun mv e => hT2.block mv (by rw [hs1]; exact hml mv e) (fun x => x.elim (hd.fv mv e).2.2.1 (hd.fv mv e).2.2.2.1)), hT2.mono (fun k _ e => e.elim (fun e => .inr (.inl e)) (fun e => .inr (.inr (.inl e))))⟩
  | adv =>
    have hv := hN
    obtain ⟨be, bl, bv, mv, hmv, rfl, _⟩ := hv
    refine ph_step_of (fun _ _ => rfl) hA hd hm hlt hc (fun W1 hs1 hb1 => ?_)
    obtain ⟨be', bl', bv', mv', hmv', he, ⟨f1, f2, f3⟩, henv⟩ := hN1 W1 hb1
    cases he
    refine (adv_start (hE1 W1 hb1) be bl bv' mv' henv (ne f1 hd.fm) (ne f2 hd.fm)).mono ?_
    rintro e w2 ⟨bw, bn, rfl, ⟨hbw, hbn⟩, hcw, hcn, hE2, hT2⟩
    have kp : ∀ {k}, F k → w2.heap[k]? = W1.heap[k]? := fun hk => hT2.block _ (by rw [hs1]; exact hlt _ hk) (ne hk hd.fm)
    exact ⟨_, rfl, hE2, ⟨bw, be, bn, bl, bv', mv', hmv', rfl, ⟨.inr (fresh_of hbw hcw), .inl f1, .inr (fresh_of hbn hcn), .inl f2, .inl f3⟩, henv.of_blocks (kp f1) (kp f2) (kp f3), hcw, hcn⟩, (hM1 W1 hb1).of_blocks (fun mv e => hT2.block mv (by rw [hs1]; exact hml mv e) (hd.fv mv e).2.2.1), hT2.mono (fun k _ e => .inr (.inl e))⟩
  | look k nv =>
    have hv := hN
    obtain ⟨bw, be, bn, bl, bv, mv, hmv, rfl, _⟩ := hv
    refine ph_step_of (fun _ _ => rfl) hA hd hm hlt hc (fun W1 hs1 hb1 => ?_)
    obtain ⟨bw', be', bn', bl', bv', mv', hmv', he, ⟨f1, f2, f3, f4, f5⟩, henv⟩ := hN1 W1 hb1
    cases he
    obtain ⟨hkn, hnv⟩ := hok
    by_cases hk : k < n
    · refine (look_pin (hE1 W1 hb1) bw be bn bl bv mv' k nv henv hk (by omega) (ne f2 hd.fm) (ne f1 hd.fm) (ne f3 hd.fm) (ne f4 hd.fm)).mono ?_
      intro e w2 hlk
      have n1 : (Ph.look k nv).next n now pins = if pins k = 0 ∨ pins k = nv + 1 then .look (k + 1) nv else .over := if_pos hk
      have n2 : (Ph.look k nv).nowOf n now = now := if_pos hk
      have n3 : (Ph.look k nv).movedOf n now m = m := if_pos hk
      rw [n1, n2, n3]
      by_cases hg : pins k = 0 ∨ pins k = nv + 1
      · obtain ⟨bw2, bn2, rfl, ⟨hbw, hbn⟩, hcw, hcn, hE2, hT2⟩ := hlk.1 hg
        have kp : ∀ {k}, F k → w2.heap[k]? = W1.heap[k]? := fun hk => hT2.block _ (by rw [hs1]; exact hlt _ hk) (ne hk hd.fm)
        refine ⟨_, rfl, hE2, ?_, (hM1 W1 hb1).of_blocks (fun mv e => hT2.block mv (by rw [hs1]; exact hml mv e) (hd.fv mv e).2.2.1), hT2.mono (fun k _ e => .inr (.inl e))⟩
        rw [if_pos hg]
        exact ⟨bw2, be, bn2, bl, bv, mv', hmv', rfl, ⟨.inr (fresh_of hbw hcw), .inl f2, .inr (fresh_of hbn hcn), .inl f4, .inl f5⟩, henv.env.of_blocks (kp f2) (kp f4) (kp f5), hcw, hcn⟩
      · obtain ⟨rfl, hE2, hT2⟩ := hlk.2 hg
        refine ⟨_, rfl, hE2, ?_, (hM1 W1 hb1).of_blocks (fun mv e => hT2.block mv (by rw [hs1]; exact hml mv e) (hd.fv mv e).2.2.1), hT2.mono (fun k _ e => .inr (.inl e))⟩
        rw [if_neg hg]; rfl
    · obtain rfl : k = n := by omega
      obtain ⟨g0, g1, g2, g3, g4⟩ := hd.fv mv' hmv'
      refine (look_end (hE1 W1 hb1) bw be bn bl bv mv' nv ba m henv (hM1 W1 hb1 mv' hmv') (by omega) hb (ne f2 hd.fm) (ne f1 hd.fm) (ne f3 hd.fm) (ne f5 hd.fm) g1 g2 g3 ⟨ne f2 hd.fb, ne f2 g0⟩ ⟨ne f3 hd.fb, ne f3 g0⟩ ⟨ne f5 hd.fb, ne f5 g0⟩).mono ?_
      rintro e w2 ⟨rfl, hE2, hV2, hT2, hs2⟩
      have n1 : (Ph.look k nv).next k now pins = .over := if_neg (Nat.lt_irrefl k)
      have n2 : (Ph.look k nv).nowOf k now = if now = nv then now + 1 else now := if_neg (Nat.lt_irrefl k)
      have n3 : (Ph.look k nv).movedOf k now m = if now = nv then true else m := if_neg (Nat.lt_irrefl k)
      rw [n1, n2, n3]
      refine ⟨_, rfl, hE2, rfl, fun mv2 e => ?_, hT2.mono (fun j _ e => ?_)⟩
      · rw [hmv'] at e; cases e; exact hV2
      · rcases e with e | e | e
        · exact .inr (.inl e)
        · exact .inl e
        · exact .inr (.inr (.inr (by rw [e, hmv'])))
end Go.Proofs.Ytkjppffkjofamaa
