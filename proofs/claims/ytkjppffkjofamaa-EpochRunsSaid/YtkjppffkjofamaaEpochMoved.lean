/- The law's alone and moved at pins, unpins and advances. No condition but those that each contract bears. -/
import Derived.Test.YtkjppffkjofamaaEpochAlone
set_option linter.unusedVariables false
set_option linter.unusedSimpArgs false
namespace Go.Proofs.Ytkjppffkjofamaa
open Go.RowKit Go.Shelf
theorem touch_after {W W1 w' : World} {S : Nat → Prop} (hb : Below W.heap.size W W1) (ht : Touch (fun k => S k ∨ (W.heap.size ≤ k ∧ k < W1.heap.size)) W1 w') : Touch S W w' :=
  (Touch.of_below hb S).step ht (fun k hk e => e.elim id (fun e => by omega))
theorem put_pin {pins pins' : Nat → Nat} {who v : Nat} (h1 : pins' who = v) (h2 : ∀ j, who ≠ j → pins' j = pins j) : pins' = putPin pins who v := by
  funext j
  unfold putPin
  by_cases e : j = who
  · subst e; rw [if_pos rfl]; exact h1
  · rw [if_neg e]; exact h2 j (fun x => e x.symm)
def Alone (W : World) (b bm bp n wd now : Nat) (pins : Nat → Nat) (e : Ending) (w' : World) : Prop :=
  e = .returned (.bool true) ∧ EpAt w' b bm bp n wd now pins ∧ Touch (fun k => k = b ∨ k = bm ∨ k = bp) W w'
theorem pin_alone {W W1 : World} {b bm bp n wd now : Nat} {pins : Nat → Nat} (h : EpAt W b bm bp n wd now pins) {who : Nat} (hw : who < n) (hb : now + 1 ≤ 100000) {e : Ending} (hm : PinMade W b who e W1) :
    ∃ ba, e = .returned (.pointer (some ⟨ba, 0, none⟩)) ∧ Below W.heap.size W W1 ∧ Calls Try.prog 24 #[.pointer (some ⟨ba, 0, none⟩)] W1 (Alone W b bm bp n wd now (putPin pins who (now + 1))) := by
  obtain ⟨ba, be, bw, bh, rfl, ⟨g1, g2, g3, g4⟩, ⟨y1, y2, y3⟩, hA, hE, hB⟩ := hm
  refine ⟨ba, rfl, hB, ?_⟩
  have h0 := Acts.At.empty (A := pinActs 0 (fun _ => ba) (fun _ => who) now) (I := PinI 0 (fun _ => who) now pins) (did := fun _ => 0) rfl h ⟨rfl, fun i hi => by omega, fun _ _ => rfl⟩
  have h1 := h0.add (A' := pinActs 1 (fun _ => ba) (fun _ => who) now) (I' := PinI 1 (fun _ => who) now pins) rfl (fun i hi => absurd hi (Nat.not_lt_zero i)) (fun now' pins' hI => ⟨hI.1, fun i hi => hI.2.2 _ (fun i hi => absurd hi (Nat.not_lt_zero i)), fun j _ => hI.2.2 j (fun i hi => absurd hi (Nat.not_lt_zero i))⟩) rfl hB
    (F := fun k => k = be ∨ k = bw ∨ k = bh) ⟨⟨_, hA, ⟨be, bw, bh, rfl, ⟨.inl rfl, .inr (.inl rfl), .inr (.inr rfl)⟩, hE⟩⟩, fun mv e => (by cases e), by rintro k (rfl | rfl | rfl); exact lt_of_cell hE.e; exact lt_of_cell hE.w; exact lt_of_cell hE.h⟩
    (by rintro k (rfl | rfl | rfl) <;> assumption) g4 (by rintro (e | e | e); exact y1 e; exact y2 e; exact y3 e) (fun mv e => by cases e)
  have D := Acts.drive (pinActs 1 (fun _ => ba) (fun _ => who) now) (b := b) (bm := bm) (bp := bp) (wd := wd) (pin_law (m := 1) (n := n) (now := now) (bs := fun _ => ba) (rd := fun _ => who) (pins := pins) (by omega) (fun _ _ => hw) (fun i j hi hj hne => by omega) hb)
  refine (alone_any D h1 (by show 3 ≤ 0 + 12; omega)).mono ?_
  rintro e w' ⟨rfl, ⟨did', foot', hd, hq⟩, ht⟩
  obtain ⟨now', pins', hE2, hI, hI1, hI2⟩ := hq.ep
  subst hI
  have e1 := hI1 0 (by omega)
  rw [if_pos (show 2 ≤ did' 0 by rw [hd]; show 2 ≤ 3; omega)] at e1
  obtain rfl := put_pin e1 (fun j hj => hI2 j (fun _ _ => hj))
  exact ⟨rfl, hE2, touch_after hB ht⟩
theorem un_alone {W W1 : World} {b bm bp n wd now : Nat} {pins : Nat → Nat} (h : EpAt W b bm bp n wd now pins) {who : Nat} (hw : who < n) (hb : now + 1 ≤ 100000) {e : Ending} (hm : UnpinMade W b who e W1) :
    ∃ ba, e = .returned (.pointer (some ⟨ba, 0, none⟩)) ∧ Below W.heap.size W W1 ∧ Calls Try.prog 24 #[.pointer (some ⟨ba, 0, none⟩)] W1 (Alone W b bm bp n wd now (putPin pins who 0)) := by
  obtain ⟨ba, be, bw, rfl, ⟨g1, g2, g4⟩, ⟨y1, y2⟩, hA, hE, hB⟩ := hm
  refine ⟨ba, rfl, hB, ?_⟩
  have h0 := Acts.At.empty (A := unActs 0 (fun _ => ba) (fun _ => who)) (I := UnI 0 (fun _ => who) now pins) (did := fun _ => 0) rfl h ⟨rfl, fun i hi => by omega, fun _ _ => rfl⟩
  have h1 := h0.add (A' := unActs 1 (fun _ => ba) (fun _ => who)) (I' := UnI 1 (fun _ => who) now pins) rfl (fun i hi => absurd hi (Nat.not_lt_zero i)) (fun now' pins' hI => ⟨hI.1, fun i hi => hI.2.2 _ (fun i hi => absurd hi (Nat.not_lt_zero i)), fun j _ => hI.2.2 j (fun i hi => absurd hi (Nat.not_lt_zero i))⟩) rfl hB
    (F := fun k => k = be ∨ k = bw) ⟨⟨_, hA, ⟨be, bw, rfl, ⟨.inl rfl, .inr rfl⟩, hE⟩⟩, fun mv e => (by cases e), by rintro k (rfl | rfl); exact lt_of_cell hE.e; exact lt_of_cell hE.w⟩
    (by rintro k (rfl | rfl) <;> assumption) g4 (by rintro (e | e); exact y1 e; exact y2 e) (fun mv e => by cases e)
  have D := Acts.drive (unActs 1 (fun _ => ba) (fun _ => who)) (b := b) (bm := bm) (bp := bp) (wd := wd) (un_law (m := 1) (n := n) (now := now) (bs := fun _ => ba) (rd := fun _ => who) (pins := pins) (by omega) (fun _ _ => hw) (fun i j hi hj hne => by omega) hb)
  refine (alone_any D h1 (by show 1 ≤ 0 + 12; omega)).mono ?_
  rintro e w' ⟨rfl, ⟨did', foot', hd, hq⟩, ht⟩
  obtain ⟨now', pins', hE2, hI, hI1, hI2⟩ := hq.ep
  subst hI
  have e1 := hI1 0 (by omega)
  rw [if_pos (show 1 ≤ did' 0 by rw [hd]; show 1 ≤ 1; omega)] at e1
  obtain rfl := put_pin e1 (fun j hj => hI2 j (fun _ _ => hj))
  exact ⟨rfl, hE2, touch_after hB ht⟩
theorem first_bad (P : Nat → Prop) [DecidablePred P] : ∀ n : Nat, ∃ stop, stop ≤ n ∧ (∀ k, k < stop → P k) ∧ (stop < n → ¬ P stop) := by
  intro n
  induction n with
  | zero => exact ⟨0, Nat.le_refl _, fun k hk => by omega, fun h => by omega⟩
  | succ n ih =>
    obtain ⟨s, h1, h2, h3⟩ := ih
    by_cases e : s < n
    · exact ⟨s, by omega, h2, fun _ => h3 e⟩
    · obtain rfl : s = n := by omega
      by_cases hp : P s
      · exact ⟨s + 1, Nat.le_refl _, fun k hk => by by_cases e2 : k = s; exact e2 ▸ hp; exact h2 k (by omega), fun h => by omega⟩
      · exact ⟨s, by omega, h2, fun _ => hp⟩
/-- May the epoch move? -/
def mayMove (n now : Nat) (pins : Nat → Nat) : Bool := decide (∀ k, k < n → pins k = 0 ∨ pins k = now + 1)
def AdvDone (W : World) (b bm bp n wd now : Nat) (pins : Nat → Nat) (mv ba : Nat) (e : Ending) (w' : World) : Prop :=
  e = .returned (.bool true) ∧ EpAt w' b bm bp n wd (if mayMove n now pins then now + 1 else now) pins ∧ MvAt w' mv ba (mayMove n now pins) ∧ Touch (fun k => k = b ∨ k = bm ∨ k = bp) W w'
theorem adv_alone {W W1 : World} {b bm bp n wd now : Nat} {pins : Nat → Nat} (h : EpAt W b bm bp n wd now pins) (hb : now + 1 ≤ 100000) {e : Ending} (hm : AdvMade W b e W1) :
    ∃ mv ba, e = .returned (.pointer (some ⟨mv, 0, none⟩)) ∧ MvAt W1 mv ba false ∧ Calls Try.prog 24 #[.pointer (some ⟨ba, 0, none⟩)] W1 (AdvDone W b bm bp n wd now pins mv ba) := by
  obtain ⟨mv, ba, be, bl, bv, rfl, ⟨g1, g2, g3, g4, g5⟩, ⟨y1, y2, y3, y4, y5, y6, y7⟩, hA, hE, hV, hB⟩ := hm
  refine ⟨mv, ba, rfl, hV, ?_⟩
  obtain ⟨stop, s1, s2, s3⟩ := first_bad (fun k => pins k = 0 ∨ pins k = now + 1) n
  have n8 := h.n8
  have h0 := Acts.At.empty (A := { advActs ba mv stop n now with n := 0 }) (I := AdvI stop n now pins) (did := fun _ => 0) rfl h ⟨(if_neg (fun e => by have : (0 : Nat) = stop + 2 := e.1; omega)).symm, rfl⟩
  have h1 := h0.add (A' := advActs ba mv stop n now) (I' := AdvI stop n now pins) rfl (fun i hi => absurd hi (Nat.not_lt_zero i)) (fun now' pins' hI => hI) rfl hB
    (F := fun k => k = be ∨ k = bl ∨ k = bv) ⟨⟨_, hA, ⟨be, bl, bv, mv, rfl, rfl, ⟨.inl rfl, .inr (.inl rfl), .inr (.inr rfl)⟩, hE⟩⟩, fun mv' e => (by cases e; show MvAt W1 mv ba (decide (0 = stop + 2 ∧ stop = n)); rw [decide_eq_false (fun e => by have := e.1; omega)]; exact hV), by rintro k (rfl | rfl | rfl); exact lt_of_cell hE.e; exact lt_of_cell hE.l; exact lt_of_cell hE.v⟩
    (by rintro k (rfl | rfl | rfl) <;> assumption) g5 (by rintro (e | e | e); exact y2 e; exact y3 e; exact y4 e) (fun mv' e => by cases e; exact ⟨g1, by rintro (e | e | e); exact y5 e; exact y6 e; exact y7 e, fun e => y1 e.symm⟩)
  have D := Acts.drive (advActs ba mv stop n now) (b := b) (bm := bm) (bp := bp) (wd := wd) (adv_law (ba := ba) (mv := mv) s1 n8 s2 s3 hb)
  have hmay : mayMove n now pins = decide (stop = n) := by
    unfold mayMove
    refine decide_eq_decide.2 ⟨fun hh => ?_, fun hh => ?_⟩
    · by_cases e : stop < n
      · exact absurd (hh stop e) (s3 e)
      · omega
    · subst hh; exact s2
  refine (alone_any D h1 (by show stop + 2 ≤ 0 + 12; omega)).mono ?_
  rintro e w' ⟨rfl, ⟨did', foot', hd, hq⟩, ht⟩
  obtain ⟨now', pins', hE2, hI, rfl⟩ := hq.ep
  obtain ⟨Fs, hF, _⟩ := hq.acts
  have hV2 := (hF 0 (by show 0 < 1; omega)).2.1.mv mv rfl
  have hd2 : did' 0 = stop + 2 := hd
  have hV3 : (advActs ba mv stop n now).ms 0 (did' 0) = decide (stop = n) := by
    show decide (did' 0 = stop + 2 ∧ stop = n) = _
    exact decide_eq_decide.2 ⟨fun e => e.2, fun e => ⟨hd2, e⟩⟩
  rw [hV3, ← hmay] at hV2
  refine ⟨rfl, ?_, hV2, touch_after hB ht⟩
  have e3 : now' = if mayMove n now pins' = true then now + 1 else now := by
    rw [hI, hmay]
    by_cases e : stop = n
    · rw [if_pos ⟨hd2, e⟩, if_pos (decide_eq_true e)]
    · rw [if_neg (fun x => e x.2), if_neg (fun x => e (of_decide_eq_true x))]
  rw [← e3]; exact hE2
theorem moved_mv (W : World) (mv ba : Nat) (m : Bool) (h : MvAt W mv ba m) : Calls Try.prog 32 #[.pointer (some ⟨mv, 0, none⟩)] W fun e w' => e = .returned (.bool m) ∧ W = w' := by
  have c := blk_cell (show W.heap[mv]? = _ from h) (i := 1) rfl
  clear h
  go_enter Try.func32, Try.ntmps32
  go_wp2
  go_ret
  exact ⟨rfl, rfl⟩
def MovedPost (W : World) (b bm bp n wd now : Nat) (pins : Nat → Nat) (e : Ending) (w' : World) : Prop :=
  e = .returned (.bool (mayMove n now pins)) ∧ EpAt w' b bm bp n wd (if mayMove n now pins then now + 1 else now) pins ∧ Touch (fun k => k = b ∨ k = bm ∨ k = bp) W w'
set_option maxHeartbeats 1000000 in
theorem moved_any {W : World} {b bm bp n wd now : Nat} {pins : Nat → Nat} (h : EpAt W b bm bp n wd now pins) (hb : now + 1 ≤ 100000) :
    Calls Try.prog 25 #[.pointer (some ⟨b, 0, none⟩)] W (MovedPost W b bm bp n wd now pins) := by
  have HA : Hd (Calls Try.prog 30 #[.pointer (some ⟨b, 0, none⟩)] W fun e W1 => ∃ mv ba, e = .returned (.pointer (some ⟨mv, 0, none⟩)) ∧ MvAt W1 mv ba false ∧ Hd (Calls Try.prog 24 #[.pointer (some ⟨ba, 0, none⟩)] W1 fun e w' => e = .returned (.bool true) ∧ Hd (AdvDone W b bm bp n wd now pins mv ba e w'))) := ⟨(adv_make W b).mono (fun e W1 hm => by
    obtain ⟨mv, ba, he, hv, hc⟩ := adv_alone h hb hm
    exact ⟨mv, ba, he, hv, ⟨hc.mono (fun e w' hd => ⟨hd.1, ⟨hd⟩⟩)⟩⟩)⟩
  clear h
  go_enter Try.func25, Try.ntmps25
  go_wp2_with (first
    | (go_at_call 30; refine HA.out.mono ?_; rintro e W1 ⟨mv, ba, rfl, hv, HC⟩; have hv0 := blk_cell (show W1.heap[mv]? = _ from hv) (i := 0) rfl)
    | (go_at_call 24; refine HC.out.mono ?_; rintro e w2 ⟨rfl, HD⟩; have HM : Hd _ := ⟨moved_mv w2 mv ba _ HD.out.2.2.1⟩)
    | (go_at_call 32; refine HM.out.mono ?_; rintro e w3 ⟨rfl, rfl⟩))
  go_ret
  exact ⟨rfl, HD.out.2.1, HD.out.2.2.2⟩
end Go.Proofs.Ytkjppffkjofamaa
