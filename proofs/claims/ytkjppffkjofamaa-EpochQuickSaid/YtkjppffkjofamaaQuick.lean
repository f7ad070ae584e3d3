/- Acts of the law EpochQuick: rows of pins, of unpins. No condition but those that each contract bears. -/
import Derived.Test.YtkjppffkjofamaaAloneLaw
import Derived.Test.YtkjppffkjofamaaDriveTurn
set_option linter.unusedVariables false
set_option linter.unusedSimpArgs false
namespace Go.Proofs.Ytkjppffkjofamaa
open Go.RowKit Go.Shelf
theorem info_pact : (Try.prog.info? 63).map (fun i => (i.zero, i.size, i.bytes)) = some (some (.pointer none), 1, 8) := by kernel_rfl
def ptrs (bs : Nat → Nat) (m : Nat) : List Value := (List.range m).map fun i => .pointer (some ⟨bs i, 0, none⟩)
theorem ptrs_succ (bs : Nat → Nat) (m : Nat) : ptrs bs (m + 1) = ptrs bs m ++ [.pointer (some ⟨bs m, 0, none⟩)] := by unfold ptrs; rw [List.range_succ, List.map_append]; rfl
theorem ptrs_congr {bs bs' : Nat → Nat} {m : Nat} (h : ∀ i, i < m → bs' i = bs i) : ptrs bs' m = ptrs bs m := by
  unfold ptrs
  exact List.map_congr_left (fun i hi => by rw [h i (List.mem_range.1 hi)])
theorem ptr_row {w : World} {base : Nat} {v : Value} {bs : Nat → Nat} {m : Nat} (h : w.ownsRow base 63 1 v m (ptrs bs m)) (k : Nat) (hk : k < m) : ∃ g cap, v = .slice (some ⟨g, 0, none⟩) m cap ∧ w.cell? ⟨g, k, none⟩ = some (.pointer (some ⟨bs k, 0, none⟩)) := by
  rcases h.2 with ⟨_, h0⟩ | ⟨g, cap, cur, hv, hb, hg, _, _, hc, ht⟩
  · omega
  · refine ⟨g, cap, hv, blk_cell hg ?_⟩
    have h1 : (ptrs bs m)[k]? = some (.pointer (some ⟨bs k, 0, none⟩)) := by
      unfold ptrs
      rw [List.getElem?_map, List.getElem?_range hk]; rfl
    rw [← ht, List.getElem?_take, if_pos (by omega), Array.getElem?_toList] at h1
    exact h1
/-- Acts over an epoch, and a row of pointers to them. -/
structure QA (A : Acts) (I : (Nat → Nat) → Nat → (Nat → Nat) → Prop) (did : Nat → Nat) (W0 w : World) (b bm bp n mr : Nat) (bs : Nat → Nat) (v : Value) : Prop where
  at_ : ∃ foot, A.At b bm bp n 1 I did foot w ∧ (∀ k, foot k → W0.heap.size ≤ k) ∧ ∀ x, v.ownBlock = some x → ¬ foot x
  row : w.ownsRow W0.heap.size 63 1 v mr (ptrs bs mr)
  below : Below W0.heap.size W0 w
theorem QA.push {A : Acts} {I : (Nat → Nat) → Nat → (Nat → Nat) → Prop} {did : Nat → Nat} {W0 w w1 : World} {b bm bp n mr : Nat} {bs : Nat → Nat} {v : Value} {o : Obj} {g cap : Nat} (h : QA A I did W0 w b bm bp n mr bs v)
    (hown : w1.ownsRow W0.heap.size 63 1 (.slice (some ⟨g, 0, none⟩) (mr + 1) cap) (mr + 1) (ptrs bs mr ++ [.pointer (some ⟨bs mr, 0, none⟩)])) (hgrow : World.grownBy (w.alloc o) w1 v.ownBlock) (hat : v.ownBlock = some g ∨ g = w.heap.size + 1) :
    QA A I did W0 w1 b bm bp n (mr + 1) bs (.slice (some ⟨g, 0, none⟩) (mr + 1) cap) := by
  obtain ⟨foot, hA, hge, hv⟩ := h.at_
  have hz := h.below.size
  have a2 : Below w.heap.size w (w.alloc o) := (Below.refl w.heap.size w).alloc (Nat.le_refl _) o
  have hs1 := hgrow.size
  simp at hs1
  have blk : ∀ j, j < w.heap.size → v.ownBlock ≠ some j → w1.heap[j]? = w.heap[j]? := fun j hj hne => (hgrow.block j (by simp; omega) (fun e => hne e.symm)).trans (a2.block j hj)
  refine ⟨⟨foot, hA.mono w1 foot (fun _ hk => hk) (fun k hk => by have := hA.lt k hk; omega) (fun k c t f hk hc => blk k (hA.lt k hk) (fun e => hv k e hk)), hge, fun x hx => ?_⟩, ?_, (h.below.trans (a2.mono hz)).trans ⟨hgrow.os, hgrow.tape, hgrow.output, hgrow.size, fun j hj => hgrow.block j (by simp; omega) (fun e => ?_)⟩⟩
  · cases hx
    rcases hat with e | e
    · exact hv g e
    · intro hf; have := hA.lt g hf; omega
  · rw [ptrs_succ]; exact hown
  · have := owns_lt h.row j e.symm; omega
theorem QA.add {A A' : Acts} {I I' : (Nat → Nat) → Nat → (Nat → Nat) → Prop} {did : Nat → Nat} {W0 w w1 : World} {b bm bp n mr : Nat} {bs bs' : Nat → Nat} {v : Value} (h : QA A I did W0 w b bm bp n mr bs v) (hbs : ∀ i, i < mr → bs' i = bs i)
    (hn : A'.n = A.n + 1) (hs : ∀ i, i < A.n → A'.bs i = A.bs i ∧ A'.mvs i = A.mvs i ∧ A'.phs i = A.phs i ∧ A'.ms i = A.ms i ∧ A'.ns i = A.ns i)
    (hI : ∀ now pins, I did now pins → I' did now pins) (hd : did A.n = 0) (hb : Below w.heap.size w w1) {F : Nat → Prop} (hP : PhAt w1 b (A'.bs A.n) (A'.mvs A.n) (A'.ms A.n 0) (A'.phs A.n 0) 0 F) (hF : ∀ k, F k → w.heap.size ≤ k) (ha : w.heap.size ≤ A'.bs A.n) (hFa : ¬ F (A'.bs A.n))
    (hv : ∀ mv, A'.mvs A.n = some mv → w.heap.size ≤ mv ∧ ¬ F mv ∧ mv ≠ A'.bs A.n) : QA A' I' did W0 w1 b bm bp n mr bs' v := by
  obtain ⟨foot, hA, hge, hvf⟩ := h.at_
  have hz := h.below.size
  refine ⟨⟨_, hA.add hn hs hI hd hb hP hF ha hFa hv, fun k hk => ?_, fun x hx e => ?_⟩, ?_, h.below.trans (hb.mono hz)⟩
  · rcases hk with hk | hk
    · exact hge k hk
    · omega
  · rcases e with e | e
    · exact hvf x hx e
    · have := owns_lt h.row x hx; omega
  · rw [ptrs_congr hbs]
    exact ownsRow_of_block h.row (fun k hk => hb.block k (owns_lt h.row k hk).2)
theorem QA.driven {A : Acts} {I : (Nat → Nat) → Nat → (Nat → Nat) → Prop} {did did' : Nat → Nat} {W0 w w' : World} {b bm bp n mr : Nat} {bs : Nat → Nat} {v : Value} {foot : Nat → Prop} (h : QA A I did W0 w b bm bp n mr bs v) (hA : A.At b bm bp n 1 I did foot w) (hge : ∀ k, foot k → W0.heap.size ≤ k) (hvf : ∀ x, v.ownBlock = some x → ¬ foot x)
    (hD : Driven (A.At b bm bp n 1 I) did' foot w w') : QA A I did' W0 w' b bm bp n mr bs v := by
  obtain ⟨hQ, hT, _⟩ := hD
  have hz := h.below.size
  refine ⟨⟨_, hQ, fun k hk => ?_, fun x hx e => ?_⟩, ownsRow_of_block h.row (fun k hk => hT.block k (owns_lt h.row k hk).2 (hvf k hk)), h.below.trans (hT.below hz (fun k hk e => by have := hge k e; omega))⟩
  · rcases hk with hk | hk
    · exact hge k hk
    · omega
  · rcases e with e | e
    · exact hvf x hx e
    · have := owns_lt h.row x hx; omega
def bsAt (bs : Nat → Nat) (m ba : Nat) : Nat → Nat := fun i => if i = m then ba else bs i
theorem bsAt_old {bs : Nat → Nat} {m ba i : Nat} (h : i < m) : bsAt bs m ba i = bs i := if_neg (by omega)
theorem bsAt_new {bs : Nat → Nat} {m ba : Nat} : bsAt bs m ba m = ba := if_pos rfl
/-- Pins of readers 0 to m, not begun; a row of mr of them. -/
def QPin (m mr : Nat) (W0 w : World) (b bm bp n : Nat) (bs : Nat → Nat) (v : Value) : Prop := QA (pinActs m bs id 0) (PinI m id 0 (fun _ => 0)) (fun _ => 0) W0 w b bm bp n mr bs v
def QUn (m mr : Nat) (P : Nat → Nat) (W0 w : World) (b bm bp n : Nat) (bs : Nat → Nat) (v : Value) : Prop := QA (unActs m bs id) (UnI m id 0 P) (fun _ => 0) W0 w b bm bp n mr bs v
theorem q_pin {m : Nat} {W0 w : World} {b bm bp n : Nat} {bs : Nat → Nat} {v : Value} (h : QPin m m W0 w b bm bp n bs v) (hm : m < n) :
    Calls Try.prog 22 #[.pointer (some ⟨b, 0, none⟩), .int .i64 (m : Nat)] w fun e w1 => ∃ ba, e = .returned (.pointer (some ⟨ba, 0, none⟩)) ∧ Hd (QPin (m + 1) m W0 w1 b bm bp n (bsAt bs m ba) v) := by
  obtain ⟨foot, hA, hge, hvf⟩ := h.at_
  obtain ⟨now, pins, hE, _⟩ := hA.ep
  refine (pin_make hE m hm).mono ?_
  rintro e w1 ⟨ba, be, bw, bh, rfl, ⟨g1, g2, g3, g4⟩, ⟨y1, y2, y3⟩, hAc, hEn, hB⟩
  refine ⟨ba, rfl, ⟨QA.add (bs' := bsAt bs m ba) (A' := pinActs (m + 1) (bsAt bs m ba) id 0) h (fun i hi => bsAt_old hi) rfl (fun i hi => ⟨bsAt_old hi, rfl, rfl, rfl, rfl⟩) (fun now' pins' hI => ?_) rfl hB
    (F := fun k => k = be ∨ k = bw ∨ k = bh) ⟨⟨_, by rw [show (pinActs (m + 1) (bsAt bs m ba) id 0).bs (pinActs m bs id 0).n = ba from bsAt_new]; exact hAc, ⟨be, bw, bh, rfl, ⟨.inl rfl, .inr (.inl rfl), .inr (.inr rfl)⟩, hEn⟩⟩, fun mv e => (by cases e), by rintro k (rfl | rfl | rfl); exact lt_of_cell hEn.e; exact lt_of_cell hEn.w; exact lt_of_cell hEn.h⟩
    (by rintro k (rfl | rfl | rfl) <;> assumption) (by rw [show (pinActs (m + 1) (bsAt bs m ba) id 0).bs (pinActs m bs id 0).n = ba from bsAt_new]; exact g4) (by rw [show (pinActs (m + 1) (bsAt bs m ba) id 0).bs (pinActs m bs id 0).n = ba from bsAt_new]; rintro (e | e | e); exact y1 e; exact y2 e; exact y3 e) (fun mv e => by cases e)⟩⟩
  obtain ⟨rfl, h1, h2⟩ := hI
  refine ⟨rfl, fun i hi => ?_, fun j hj => h2 j (fun i hi => hj i (by omega))⟩
  by_cases e : i = m
  · subst e
    rw [if_neg (show ¬ 2 ≤ 0 by omega)]
    exact h2 _ (fun i' hi' e => by have e : i' = i := e; omega)
  · exact h1 i (by omega)
theorem q_un {m : Nat} {P : Nat → Nat} {W0 w : World} {b bm bp n : Nat} {bs : Nat → Nat} {v : Value} (h : QUn m m P W0 w b bm bp n bs v) (hm : m < n) :
    Calls Try.prog 23 #[.pointer (some ⟨b, 0, none⟩), .int .i64 (m : Nat)] w fun e w1 => ∃ ba, e = .returned (.pointer (some ⟨ba, 0, none⟩)) ∧ Hd (QUn (m + 1) m P W0 w1 b bm bp n (bsAt bs m ba) v) ∧ Hd (Below w.heap.size w w1) := by
  obtain ⟨foot, hA, hge, hvf⟩ := h.at_
  obtain ⟨now, pins, hE, _⟩ := hA.ep
  refine (unpin_make hE m hm).mono ?_
  rintro e w1 ⟨ba, be, bw, rfl, ⟨g1, g2, g4⟩, ⟨y1, y2⟩, hAc, hEn, hB⟩
  refine ⟨ba, rfl, ⟨QA.add (bs' := bsAt bs m ba) (A' := unActs (m + 1) (bsAt bs m ba) id) h (fun i hi => bsAt_old hi) rfl (fun i hi => ⟨bsAt_old hi, rfl, rfl, rfl, rfl⟩) (fun now' pins' hI => ?_) rfl hB
    (F := fun k => k = be ∨ k = bw) ⟨⟨_, by rw [show (unActs (m + 1) (bsAt bs m ba) id).bs (unActs m bs id).n = ba from bsAt_new]; exact hAc, ⟨be, bw, rfl, ⟨.inl rfl, .inr rfl⟩, hEn⟩⟩, fun mv e => (by cases e), by rintro k (rfl | rfl); exact lt_of_cell hEn.e; exact lt_of_cell hEn.w⟩
    (by rintro k (rfl | rfl) <;> assumption) (by rw [show (unActs (m + 1) (bsAt bs m ba) id).bs (unActs m bs id).n = ba from bsAt_new]; exact g4) (by rw [show (unActs (m + 1) (bsAt bs m ba) id).bs (unActs m bs id).n = ba from bsAt_new]; rintro (e | e); exact y1 e; exact y2 e) (fun mv e => by cases e)⟩, ⟨hB⟩⟩
  obtain ⟨rfl, h1, h2⟩ := hI
  refine ⟨rfl, fun i hi => ?_, fun j hj => h2 j (fun i hi => hj i (by omega))⟩
  by_cases e : i = m
  · subst e
    rw [if_neg (show ¬ 1 ≤ 0 by omega)]
    exact h2 _ (fun i' hi' e => by have e : i' = i := e; omega)
  · exact h1 i (by omega)
/-- The pins, some steps of each done. -/
def QDid (W0 w : World) (b bm bp n : Nat) (bs : Nat → Nat) (v : Value) (did : Nat → Nat) : Prop := QA (pinActs n bs id 0) (PinI n id 0 (fun _ => 0)) did W0 w b bm bp n n bs v
theorem q_drive (b bm bp n : Nat) (bs : Nat → Nat) (h8 : n ≤ 8) : Drive ((pinActs n bs id 0).At b bm bp n 1 (PinI n id 0 (fun _ => 0))) n bs (fun _ => 3) :=
  Acts.drive (pinActs n bs id 0) (b := b) (bm := bm) (bp := bp) (wd := 1) (pin_law (m := n) (n := n) (now := 0) (bs := bs) (rd := id) (pins := fun _ => 0) (by omega) (fun i hi => hi) (fun i j _ _ hne => hne) (by omega))
theorem q_turn {W0 w : World} {b bm bp n : Nat} {bs : Nat → Nat} {v : Value} (h : QPin n n W0 w b bm bp n bs v) (h1 : 1 ≤ n) (h8 : n ≤ 8) {A : Option Addr} {len cap : Nat} {l : List Int} (hA : Recs (RInt .i64) 1 W0 A len l) (hl : len ≤ 200) :
    Calls Try.prog 26 #[.slice A len cap, v] w fun e w' => (∃ r, e = .returned (.int .i64 r)) ∧ Hd (∃ did, QDid W0 w' b bm bp n bs v did) := by
  obtain ⟨foot, hAt, hge, hvf⟩ := h.at_
  obtain ⟨g, capv, rfl, _⟩ := ptr_row h.row 0 (by omega)
  by_cases h0 : len = 0
  · subst h0
    refine (turn_idle A cap (some ⟨g, 0, none⟩) n capv w).mono ?_
    rintro e w' ⟨rfl, rfl⟩
    exact ⟨⟨_, rfl⟩, ⟨_, h⟩⟩
  · obtain ⟨bx, ox, rfl, hbx, hc⟩ := recs_ints hA (by omega)
    have hlen := hA.1
    have hz := h.below.size
    subst hlen
    refine (turn_any (q_drive b bm bp n bs h8) hAt (by omega) l bx ox cap g 0 capv (fun i hi => (h.below.cell (p := ⟨bx, ox + i, none⟩) hbx).trans (hc i hi)) (fun i hi => ?_) (by omega) (owns_lt h.row g rfl).2 (fun e => by have := hge bx e; omega) (hvf g rfl) hl).mono ?_
    · obtain ⟨g', c', e, hcc⟩ := ptr_row h.row i hi
      cases e
      rw [Nat.zero_add]; exact hcc
    · rintro e w' ⟨rfl, hD⟩
      exact ⟨⟨_, rfl⟩, ⟨_, QA.driven h hAt hge hvf hD⟩⟩
theorem q_rest {W0 w : World} {b bm bp n : Nat} {bs : Nat → Nat} {v : Value} {did : Nat → Nat} (h : QDid W0 w b bm bp n bs v did) (h1 : 1 ≤ n) (h8 : n ≤ 8) :
    Calls Try.prog 27 #[.int .i64 8, v] w fun e w' => (∃ r, e = .returned (.int .i64 r)) ∧ Hd (∃ did, (∀ i, i < n → did i = 3) ∧ QDid W0 w' b bm bp n bs v did) := by
  obtain ⟨foot, hAt, hge, hvf⟩ := h.at_
  obtain ⟨g, capv, rfl, _⟩ := ptr_row h.row 0 (by omega)
  have D := q_drive b bm bp n bs h8
  have hall := rested_all (ns := fun _ => 3) (n := n) 8 did (fun i hi => ⟨D.le hAt i hi, by show 3 ≤ did i + 8; omega⟩)
  refine (rest_any D hAt (some ⟨g, 0, none⟩) capv (fun j hj => ?_) (fun ba oa e => ?_) 8 (by omega)).mono ?_
  · obtain ⟨g', c', e, hcc⟩ := ptr_row h.row j hj
    cases e
    exact ⟨_, _, rfl, by rw [Nat.zero_add]; exact hcc⟩
  · cases e
    exact ⟨(owns_lt h.row g rfl).2, hvf g rfl⟩
  · rintro e w' ⟨rfl, hD⟩
    exact ⟨⟨_, rfl⟩, ⟨_, hall, QA.driven h hAt hge hvf hD⟩⟩
/-- The pins are over: their blocks, and the row of pointers. -/
structure QD (W0 w : World) (n : Nat) (bs : Nat → Nat) (v u : Value) : Prop where
  row : w.ownsRow W0.heap.size 63 1 v n (ptrs bs n)
  done : ∀ i, i < n → ActAt w (bs i) .nilFunc 3
  far : ∀ x, u.ownBlock = some x → v.ownBlock ≠ some x ∧ ∀ i, i < n → bs i ≠ x
theorem QD.below {W0 w w1 : World} {n : Nat} {bs : Nat → Nat} {v u : Value} (h : QD W0 w n bs v u) (hb : Below w.heap.size w w1) : QD W0 w1 n bs v u :=
  ⟨ownsRow_of_block h.row (fun k hk => hb.block k (owns_lt h.row k hk).2), fun i hi => (h.done i hi).of_block (hb.block _ (h.done i hi).lt), h.far⟩
theorem QD.push {W0 w w1 : World} {n g cap m : Nat} {bs : Nat → Nat} {v u : Value} {o : Obj} (h : QD W0 w n bs v u) (hgrow : World.grownBy (w.alloc o) w1 u.ownBlock) (hat : u.ownBlock = some g ∨ g = w.heap.size + 1) : QD W0 w1 n bs v (.slice (some ⟨g, 0, none⟩) m cap) := by
  have a2 : Below w.heap.size w (w.alloc o) := (Below.refl w.heap.size w).alloc (Nat.le_refl _) o
  have blk : ∀ j, j < w.heap.size → u.ownBlock ≠ some j → w1.heap[j]? = w.heap[j]? := fun j hj hne => (hgrow.block j (by simp; omega) (fun e => hne e.symm)).trans (a2.block j hj)
  refine ⟨ownsRow_of_block h.row (fun k hk => blk k (owns_lt h.row k hk).2 (fun e => (h.far k e).1 hk)), fun i hi => (h.done i hi).of_block (blk _ (h.done i hi).lt (fun e => (h.far _ e).2 i hi rfl)), fun x hx => ?_⟩
  have hx : g = x := Option.some.inj hx
  subst hx
  rcases hat with e | e
  · exact h.far g e
  · exact ⟨fun e2 => by have := owns_lt h.row g e2; omega, fun i hi e2 => by have := (h.done i hi).lt; omega⟩
/-- While the unpins are made. -/
structure QL (m mr : Nat) (W0 w : World) (b bm bp n : Nat) (bs us : Nat → Nat) (v u : Value) : Prop where
  qu : ∃ P, (∀ i, i < n → P i = 1) ∧ QUn m mr P W0 w b bm bp n us u
  qd : QD W0 w n bs v u
theorem q_done {W0 w : World} {b bm bp n : Nat} {bs : Nat → Nat} {v : Value} {did : Nat → Nat} (h : QDid W0 w b bm bp n bs v did) (hd : ∀ i, i < n → did i = 3) : QL 0 0 W0 w b bm bp n bs (fun _ => 0) v (.slice none 0 0) := by
  obtain ⟨foot, hAt, hge, hvf⟩ := h.at_
  obtain ⟨now, pins, hE, rfl, hI, _⟩ := hAt.ep
  obtain ⟨Fs, hF, _⟩ := hAt.acts
  obtain ⟨z1, z2, z3, _⟩ := hAt.ours
  refine ⟨⟨pins, fun i hi => ?_, ⟨⟨_, Acts.At.empty (A := unActs 0 (fun _ => 0) id) rfl hE ⟨rfl, fun i hi => absurd hi (Nat.not_lt_zero i), fun _ _ => rfl⟩, ?_, fun x hx => nomatch hx⟩, World.ownsRow_nil _ _ _ _, h.below⟩⟩, h.row, fun i hi => ?_, fun x hx => nomatch hx⟩
  · have := hI i hi
    rw [if_pos (by have := hd i hi; omega)] at this
    exact this
  · rintro k (rfl | rfl | rfl)
    · exact hge _ z1
    · exact hge _ z2
    · exact hge _ z3
  · obtain ⟨_, hP, _⟩ := hF i hi
    obtain ⟨va, hA, hN⟩ := hP.act
    rw [hd i hi] at hA hN
    have : va = .nilFunc := hN
    subst this
    exact hA
theorem ql_pinned {m mr : Nat} {W0 w : World} {b bm bp n : Nat} {bs us : Nat → Nat} {v u : Value} (h : QL m mr W0 w b bm bp n bs us v u) (i : Nat) (hi : i < n) :
    Calls Try.prog 21 #[.pointer (some ⟨b, 0, none⟩), .int .i64 (i : Nat)] w fun e w' => e = .returned (.tuple #[.int .u64 0, .bool true]) ∧ w = w' := by
  obtain ⟨P, hP, hq⟩ := h.qu
  obtain ⟨foot, hAt, _, _⟩ := hq.at_
  obtain ⟨now, pins, hE, rfl, hI, hJ⟩ := hAt.ep
  have hp : pins i = 1 := by
    by_cases e : i < m
    · have := hI i e
      rw [if_neg (show ¬ 1 ≤ 0 by omega)] at this
      exact this.trans (hP i hi)
    · exact (hJ i (fun i' hi' e2 => by have e2 : i' = i := e2; have hi' : i' < m := hi'; omega)).trans (hP i hi)
  have := pinned_ep hE i hi
  rw [hp] at this
  exact this
theorem ql_un {m : Nat} {W0 w : World} {b bm bp n : Nat} {bs us : Nat → Nat} {v u : Value} (h : QL m m W0 w b bm bp n bs us v u) (hm : m < n) :
    Calls Try.prog 23 #[.pointer (some ⟨b, 0, none⟩), .int .i64 (m : Nat)] w fun e w1 => ∃ ba, e = .returned (.pointer (some ⟨ba, 0, none⟩)) ∧ Hd (QL (m + 1) m W0 w1 b bm bp n bs (bsAt us m ba) v u) := by
  obtain ⟨P, hP, hq⟩ := h.qu
  refine (q_un hq hm).mono ?_
  rintro e w1 ⟨ba, rfl, hq2, hB⟩
  exact ⟨ba, rfl, ⟨⟨P, hP, hq2.out⟩, h.qd.below hB.out⟩⟩
theorem QL.push {m : Nat} {W0 w w1 : World} {b bm bp n g cap : Nat} {bs us : Nat → Nat} {v u : Value} {o : Obj} {ba : Nat} (h : QL (m + 1) m W0 w b bm bp n bs (bsAt us m ba) v u) (hown : w1.ownsRow W0.heap.size 63 1 (.slice (some ⟨g, 0, none⟩) (m + 1) cap) (m + 1) (ptrs (bsAt us m ba) m ++ [.pointer (some ⟨ba, 0, none⟩)])) (hgrow : World.grownBy (w.alloc o) w1 u.ownBlock) (hat : u.ownBlock = some g ∨ g = w.heap.size + 1) :
    QL (m + 1) (m + 1) W0 w1 b bm bp n bs (bsAt us m ba) v (.slice (some ⟨g, 0, none⟩) (m + 1) cap) := by
  obtain ⟨P, hP, hq⟩ := h.qu
  exact ⟨⟨P, hP, QA.push hq (by rw [bsAt_new]; exact hown) hgrow hat⟩, h.qd.push hgrow hat⟩
/-- Nobody is pinned. -/
def QE (W0 w : World) (b n now : Nat) : Prop := ∃ bm bp P, EpAt w b bm bp n 1 now P ∧ (∀ i, i < n → P i = 0) ∧ (W0.heap.size ≤ b ∧ W0.heap.size ≤ bm ∧ W0.heap.size ≤ bp) ∧ Below W0.heap.size W0 w
theorem q_rest1 {W0 w : World} {b bm bp n : Nat} {bs us : Nat → Nat} {v u : Value} (h : QL n n W0 w b bm bp n bs us v u) (h1 : 1 ≤ n) (h8 : n ≤ 8) :
    Calls Try.prog 27 #[.int .i64 1, u] w fun e w' => (∃ r, e = .returned (.int .i64 r)) ∧ Hd (QE W0 w' b n 0) := by
  obtain ⟨P, hP, hq⟩ := h.qu
  obtain ⟨foot, hAt, hge, hvf⟩ := hq.at_
  obtain ⟨g, capv, rfl, _⟩ := ptr_row hq.row 0 (by omega)
  have D : Drive ((unActs n us id).At b bm bp n 1 (UnI n id 0 P)) n us (fun _ => 1) :=
    Acts.drive (unActs n us id) (b := b) (bm := bm) (bp := bp) (wd := 1) (un_law (m := n) (n := n) (now := 0) (bs := us) (rd := id) (pins := P) (by omega) (fun i hi => hi) (fun i j _ _ hne => hne) (by omega))
  have hall := rested_all (ns := fun _ => 1) (n := n) 1 (fun _ => 0) (fun i hi => ⟨by show 0 ≤ 1; omega, by show 1 ≤ 0 + 1; omega⟩)
  refine (rest_any D hAt (some ⟨g, 0, none⟩) capv (fun j hj => ?_) (fun ba oa e => ?_) 1 (by omega)).mono ?_
  · obtain ⟨g', c', e, hcc⟩ := ptr_row hq.row j hj
    cases e
    exact ⟨_, _, rfl, by rw [Nat.zero_add]; exact hcc⟩
  · cases e
    exact ⟨(owns_lt hq.row g rfl).2, hvf g rfl⟩
  · rintro e w' ⟨rfl, hD⟩
    have hq2 := QA.driven hq hAt hge hvf hD
    obtain ⟨foot2, hAt2, hge2, _⟩ := hq2.at_
    obtain ⟨now, pins, hE, rfl, hI, _⟩ := hAt2.ep
    obtain ⟨z1, z2, z3, _⟩ := hAt2.ours
    refine ⟨⟨_, rfl⟩, ⟨bm, bp, pins, hE, fun i hi => ?_, ⟨hge2 _ z1, hge2 _ z2, hge2 _ z3⟩, hq2.below⟩⟩
    have := hI i hi
    rw [show (Int.toNat 1) = 1 from rfl, if_pos (by have := hall i hi; have this : (rested (fun _ => 1) n 1 fun _ => 0).1 i = 1 := this; omega)] at this
    exact this
theorem qe_pinned {W0 w : World} {b n now : Nat} (h : QE W0 w b n now) (i : Nat) (hi : i < n) :
    Calls Try.prog 21 #[.pointer (some ⟨b, 0, none⟩), .int .i64 (i : Nat)] w fun e w' => e = .returned (.tuple #[.int .u64 0, .bool false]) ∧ w = w' := by
  obtain ⟨bm, bp, P, hE, hP, _⟩ := h
  have := pinned_ep hE i hi
  rw [hP i hi] at this
  exact this
theorem qe_moved {W0 w : World} {b n now : Nat} (h : QE W0 w b n now) (hn : now ≤ 10) : Calls Try.prog 25 #[.pointer (some ⟨b, 0, none⟩)] w fun e w2 => e = .returned (.bool true) ∧ Hd (QE W0 w2 b n (now + 1)) := by
  obtain ⟨bm, bp, P, hE, hP, hge, hB⟩ := h
  have hm : mayMove n now P = true := by unfold mayMove; exact decide_eq_true (fun k hk => .inl (hP k hk))
  refine (moved_any hE (by omega)).mono ?_
  rintro e w2 ⟨rfl, hE2, hT⟩
  rw [hm] at hE2 ⊢
  exact ⟨rfl, ⟨bm, bp, P, hE2, hP, hge, hB.trans (hT.below hB.size (fun k hk e => by rcases e with e | e | e <;> omega))⟩⟩
theorem qe_now {W0 w : World} {b n now : Nat} (h : QE W0 w b n now) : Calls Try.prog 20 #[.pointer (some ⟨b, 0, none⟩)] w fun e w2 => e = .returned (.int .u64 (now : Nat)) ∧ w = w2 := by
  obtain ⟨bm, bp, P, hE, _⟩ := h
  exact now_ep hE
theorem q_start {W w : World} {b bm bp n : Nat} (hge : W.heap.size ≤ b ∧ W.heap.size ≤ bm ∧ W.heap.size ≤ bp) (hE : EpAt w b bm bp n 1 0 fun _ => 0) (hB : Below W.heap.size W w) : QPin 0 0 W w b bm bp n (fun _ => 0) (.slice none 0 0) :=
  ⟨⟨_, Acts.At.empty (A := pinActs 0 (fun _ => 0) id 0) rfl hE ⟨rfl, fun i hi => absurd hi (Nat.not_lt_zero i), fun _ _ => rfl⟩, by rintro k (rfl | rfl | rfl); exact hge.1; exact hge.2.1; exact hge.2.2, fun x hx => nomatch hx⟩, World.ownsRow_nil _ _ _ _, hB⟩
end Go.Proofs.Ytkjppffkjofamaa
