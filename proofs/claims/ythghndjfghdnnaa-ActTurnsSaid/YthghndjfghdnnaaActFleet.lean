/- Acts that are stepped side by side, each noting its steps in a log: what is theirs in the heap; a step of one of them. No condition but those that each contract bears. -/
import Derived.Test.YthghndjfghdnnaaActLaw
import Derived.RangeFuncNested
namespace Go.Proofs.Ythghndjfghdnnaa
open Go.RowKit
/-- How many steps the acts that note at o have done. -/
def cnt (lo did : Nat → Nat) (o : Nat) : Nat → Nat
  | 0 => 0
  | n + 1 => cnt lo did o n + if lo n = o then did n else 0
def bump (did : Nat → Nat) (i : Nat) : Nat → Nat := fun j => if j = i then did j + 1 else did j
theorem cnt_bump (lo did : Nat → Nat) (o i : Nat) : ∀ n, cnt lo (bump did i) o n = cnt lo did o n + if i < n ∧ lo i = o then 1 else 0 := by
  intro n
  induction n with
  | zero => simp [cnt]
  | succ n ih =>
    unfold cnt
    rw [ih]
    by_cases e : n = i
    · subst e
      by_cases e2 : lo n = o
      · simp [bump, e2]; omega
      · simp [e2]
    · have : (i < n + 1 ∧ lo i = o) ↔ (i < n ∧ lo i = o) := by constructor <;> (rintro ⟨a, b⟩; exact ⟨by omega, b⟩)
      simp only [this, bump, if_neg e]; omega
theorem cnt_le (lo did : Nat → Nat) (o : Nat) (c : Nat) : ∀ n, (∀ i, i < n → did i ≤ c) → cnt lo did o n ≤ c * n := by
  intro n
  induction n with
  | zero => intro _; simp [cnt]
  | succ n ih =>
    intro h
    unfold cnt
    have h1 := ih (fun i hi => h i (by omega))
    have h2 := h n (by omega)
    rw [Nat.mul_succ]
    split <;> omega
structure FleetOk (lb n : Nat) (bs : Nat → Nat) (row : Nat → Option Nat) (foot : Nat → Prop) (k : Nat) : Prop where
  foot : foot k
  lb : k ≠ lb
  bs : ∀ i, i < n → k ≠ bs i
  row : ∀ o, some k ≠ row o
structure Fleet (w : World) (base lb : Nat) (lo : Nat → Nat) (no n : Nat) (bs ns did : Nat → Nat) (row : Nat → Option Nat) (foot : Nat → Prop) : Prop where
  act : ∀ i, i < n → ∃ v, ActAt w (bs i) v (did i) ∧ NextIs w lb (lo i) i (ns i - did i) v (FleetOk lb n bs row foot)
  le : ∀ i, i < n → did i ≤ ns i
  n10 : n ≤ 10
  small : ∀ i, i < n → ns i ≤ 19
  log : ∀ o, o < no → ∃ xs : List Int, xs.length = cnt lo did o n ∧ LogAt w base lb o xs (row o)
  lo_lt : ∀ i, i < n → lo i < no
  inj : ∀ i j, i < n → j < n → bs i = bs j → i = j
  bs_lb : ∀ i, i < n → bs i ≠ lb
  bs_row : ∀ i, i < n → ∀ o, row o ≠ some (bs i)
  bs_foot : ∀ i, i < n → foot (bs i)
  row_lb : ∀ o, row o ≠ some lb
  row_foot : ∀ o k, row o = some k → foot k ∧ k < w.heap.size
  row_inj : ∀ o o' k, row o = some k → row o' = some k → o = o'
  lb_foot : foot lb
  lb_lt : lb < w.heap.size
  foot_ge : ∀ k, foot k → base ≤ k
  foot_lt : ∀ k, foot k → k < w.heap.size
  base_le : base ≤ w.heap.size
theorem Fleet.grow {w : World} {base lb : Nat} {lo : Nat → Nat} {no n : Nat} {bs ns did : Nat → Nat} {row : Nat → Option Nat} {foot foot' : Nat → Prop} (h : Fleet w base lb lo no n bs ns did row foot) (hf : ∀ k, foot k → foot' k) (hg : ∀ k, foot' k → base ≤ k ∧ k < w.heap.size) : Fleet w base lb lo no n bs ns did row foot' :=
  ⟨fun i hi => by obtain ⟨v, h1, h2⟩ := h.act i hi; exact ⟨v, h1, h2.move (fun _ _ _ => rfl) (fun k _ hk => ⟨hf k hk.foot, hk.lb, hk.bs, hk.row⟩)⟩, h.le, h.n10, h.small, h.log, h.lo_lt, h.inj, h.bs_lb, h.bs_row, fun i hi => hf _ (h.bs_foot i hi), h.row_lb,
    fun o k e => ⟨hf k (h.row_foot o k e).1, (h.row_foot o k e).2⟩, h.row_inj, hf _ h.lb_foot, h.lb_lt, fun k hk => (hg k hk).1, fun k hk => (hg k hk).2, h.base_le⟩
/-- What a cell is known in holds cells. -/
theorem cells_of {w : World} {a : Addr} {v : Value} (h : w.cell? a = some v) : ∃ c t f, w.heap[a.block]? = some (.cells c t f) := by
  unfold World.cell? at h
  cases e : w.heap[a.block]? with
  | none => rw [e] at h; cases h
  | some o =>
    rw [e] at h
    cases o with
    | cells c t f => exact ⟨c, t, f, rfl⟩
    | _ => cases h
theorem NextIs.moveC {w w' : World} {lb lo : Nat} {nm : Int} {j : Nat} {v : Value} {ok : Nat → Prop} (h : NextIs w lb lo nm j v ok) (hk : ∀ k c t f, w.heap[k]? = some (.cells c t f) → ok k → w'.heap[k]? = w.heap[k]?) : NextIs w' lb lo nm j v ok := by
  rcases h with h | ⟨h0, b1, b2, b3, hv, ⟨o1, o2, o3⟩, c1, c2, c3⟩
  · exact .inl h
  · obtain ⟨x1, y1, z1, e1⟩ := cells_of c1
    obtain ⟨x2, y2, z2, e2⟩ := cells_of c2
    obtain ⟨x3, y3, z3, e3⟩ := cells_of c3
    exact .inr ⟨h0, b1, b2, b3, hv, ⟨o1, o2, o3⟩, (World.cell?_of_block (w := w) (hk _ _ _ _ e1 o1)).trans c1, (World.cell?_of_block (w := w) (hk _ _ _ _ e2 o2)).trans c2, (World.cell?_of_block (w := w) (hk _ _ _ _ e3 o3)).trans c3⟩
theorem Fleet.move {w w' : World} {base lb : Nat} {lo : Nat → Nat} {no n : Nat} {bs ns did : Nat → Nat} {row : Nat → Option Nat} {foot : Nat → Prop} (h : Fleet w base lb lo no n bs ns did row foot) (hs : w.heap.size ≤ w'.heap.size)
    (hb : ∀ k c t f, foot k → w.heap[k]? = some (.cells c t f) → w'.heap[k]? = w.heap[k]?) : Fleet w' base lb lo no n bs ns did row foot := by
  refine ⟨fun i hi => ?_, h.le, h.n10, h.small, fun i hi => ?_, h.lo_lt, h.inj, h.bs_lb, h.bs_row, h.bs_foot, h.row_lb, fun o k e => ⟨(h.row_foot o k e).1, Nat.lt_of_lt_of_le (h.row_foot o k e).2 hs⟩, h.row_inj, h.lb_foot, Nat.lt_of_lt_of_le h.lb_lt hs, h.foot_ge, fun k hk => Nat.lt_of_lt_of_le (h.foot_lt k hk) hs, Nat.le_trans h.base_le hs⟩
  · obtain ⟨v, h1, h2⟩ := h.act i hi
    obtain ⟨x, y, z, e⟩ := cells_of h1.next
    exact ⟨v, h1.of_block (hb _ x y z (h.bs_foot i hi) e), h2.moveC (fun k c t f hk ho => hb k c t f ho.foot hk)⟩
  · obtain ⟨xs, hx, v, hv, hf, ho, hr⟩ := h.log i hi
    obtain ⟨x, y, z, ec⟩ := cells_of hv
    have e := hb lb x y z h.lb_foot ec
    refine ⟨xs, hx, v, (World.cell?_of_block (w := w) e).trans hv, (World.frozen?_of_block (w := w) e).trans hf, ?_, hr⟩
    rcases ho with ⟨h1, h2 | ⟨g, cap, cur, hv, hg, hh, r⟩⟩
    · exact ⟨h1, .inl h2⟩
    · exact ⟨h1, .inr ⟨g, cap, cur, hv, hg, (hb g _ _ _ (h.row_foot i g (by rw [← hr, hv]; rfl)).1 hh).trans hh, r⟩⟩
theorem Fleet.touch {S : Nat → Prop} {w w' : World} {base lb : Nat} {lo : Nat → Nat} {no n : Nat} {bs ns did : Nat → Nat} {row : Nat → Option Nat} {foot : Nat → Prop} (h : Fleet w base lb lo no n bs ns did row foot) (ht : Touch S w w') (hs : ∀ k, foot k → ¬ S k) : Fleet w' base lb lo no n bs ns did row foot :=
  h.move ht.size (fun k _ _ _ hk _ => ht.block k (h.foot_lt k hk) (hs k hk))
theorem Fleet.below {w w' : World} {base lb : Nat} {lo : Nat → Nat} {no n : Nat} {bs ns did : Nat → Nat} {row : Nat → Option Nat} {foot : Nat → Prop} (h : Fleet w base lb lo no n bs ns did row foot) (hb : Below w.heap.size w w') : Fleet w' base lb lo no n bs ns did row foot :=
  h.move hb.size (fun k _ _ _ hk _ => hb.block k (h.foot_lt k hk))
theorem fleet_over {w : World} {base lb : Nat} {lo : Nat → Nat} {no n : Nat} {bs ns did : Nat → Nat} {row : Nat → Option Nat} {foot : Nat → Prop} (h : Fleet w base lb lo no n bs ns did row foot) (i : Nat) (hi : i < n) :
    Calls Try.prog 15 #[.pointer (some ⟨bs i, 0, none⟩)] w fun e w' => e = .returned (.bool (decide (did i = ns i))) ∧ w = w' := by
  obtain ⟨v, ha, hn⟩ := h.act i hi
  have hle := h.le i hi
  rcases hn with ⟨h0, rfl⟩ | ⟨h0, b1, b2, b3, rfl, _⟩
  · rw [decide_eq_true (by omega)]; exact over_yes (bs i) _ w ha
  · rw [decide_eq_false (by omega)]; exact over_no (bs i) _ _ _ w ha
theorem fleet_count {w : World} {base lb : Nat} {lo : Nat → Nat} {no n : Nat} {bs ns did : Nat → Nat} {row : Nat → Option Nat} {foot : Nat → Prop} (h : Fleet w base lb lo no n bs ns did row foot) (i : Nat) (hi : i < n) :
    Calls Try.prog 17 #[.pointer (some ⟨bs i, 0, none⟩)] w fun e w' => e = .returned (.int .i64 (did i)) ∧ w = w' := by
  obtain ⟨v, ha, _⟩ := h.act i hi
  exact count_any (bs i) v (did i) w ha
theorem fleet_idle {w : World} {base lb : Nat} {lo : Nat → Nat} {no n : Nat} {bs ns did : Nat → Nat} {row : Nat → Option Nat} {foot : Nat → Prop} (h : Fleet w base lb lo no n bs ns did row foot) (i : Nat) (hi : i < n) (hd : did i = ns i) :
    Calls Try.prog 16 #[.pointer (some ⟨bs i, 0, none⟩)] w fun e w' => e = .returned (.bool true) ∧ w = w' := by
  obtain ⟨v, ha, hn⟩ := h.act i hi
  rcases hn with ⟨h0, rfl⟩ | ⟨h0, _⟩
  · exact step_over (bs i) _ w ha
  · omega
def FleetStepped (base lb : Nat) (lo : Nat → Nat) (no n : Nat) (bs ns did : Nat → Nat) (foot : Nat → Prop) (w w' : World) : Prop :=
  ∃ row', Fleet w' base lb lo no n bs ns did row' (fun k => foot k ∨ (w.heap.size ≤ k ∧ k < w'.heap.size)) ∧ Touch foot w w' ∧ KeepsOthers w w'
theorem FleetStepped.same {w : World} {base lb : Nat} {lo : Nat → Nat} {no n : Nat} {bs ns did : Nat → Nat} {row : Nat → Option Nat} {foot : Nat → Prop} (h : Fleet w base lb lo no n bs ns did row foot) : FleetStepped base lb lo no n bs ns did foot w w :=
  ⟨row, h.grow (fun _ hk => .inl hk) (fun k hk => hk.elim (fun e => ⟨h.foot_ge k e, h.foot_lt k e⟩) (fun e => absurd e.2 (Nat.not_lt_of_le e.1))), Touch.refl _ _, KeepsOthers.refl _⟩
theorem FleetStepped.step {w w1 w2 : World} {base lb : Nat} {lo : Nat → Nat} {no n : Nat} {bs ns did2 : Nat → Nat} {foot : Nat → Prop} (ht : Touch foot w w1) (hk1 : KeepsOthers w w1) (hl : ∀ k, foot k → k < w1.heap.size) (h : FleetStepped base lb lo no n bs ns did2 (fun k => foot k ∨ (w.heap.size ≤ k ∧ k < w1.heap.size)) w1 w2) : FleetStepped base lb lo no n bs ns did2 foot w w2 := by
  obtain ⟨row', hF, hT, hK⟩ := h
  have hs := ht.size
  have hs2 := hT.size
  refine ⟨row', hF.grow (fun k hk => ?_) (fun k hk => ?_), ht.step hT (fun k hk e => ?_), hk1.trans hK⟩
  · rcases hk with (hk | hk) | hk
    · exact .inl hk
    · exact .inr ⟨hk.1, by omega⟩
    · exact .inr ⟨by omega, hk.2⟩
  · rcases hk with hk | hk
    · exact ⟨hF.foot_ge k (.inl (.inl hk)), by have := hl k hk; omega⟩
    · refine ⟨hF.foot_ge k ?_, hk.2⟩
      by_cases e : k < w1.heap.size
      · exact .inl (.inr ⟨hk.1, e⟩)
      · exact .inr ⟨by omega, hk.2⟩
  · rcases e with e | e
    · exact e
    · omega
theorem fleet_step {w : World} {base lb : Nat} {lo : Nat → Nat} {no n : Nat} {bs ns did : Nat → Nat} {row : Nat → Option Nat} {foot : Nat → Prop} (h : Fleet w base lb lo no n bs ns did row foot) (i : Nat) (hi : i < n) (hd : did i < ns i) :
    Calls Try.prog 16 #[.pointer (some ⟨bs i, 0, none⟩)] w fun e w' => e = .returned (.bool (decide (ns i - did i - 1 = 0))) ∧ FleetStepped base lb lo no n bs ns (bump did i) foot w w' := by
  obtain ⟨v, ha, hn⟩ := h.act i hi
  obtain ⟨xs, hx, hl⟩ := h.log (lo i) (h.lo_lt i hi)
  obtain ⟨j, hj⟩ : ∃ j, ns i - did i = j + 1 := ⟨ns i - did i - 1, by omega⟩
  rw [hj] at hn
  have hs := h.small i hi
  have hc : cnt lo did (lo i) n ≤ 19 * n := cnt_le lo did (lo i) 19 n (fun k hk => Nat.le_trans (h.le k hk) (h.small k hk))
  have hn10 := h.n10
  have hlb := h.lb_lt
  refine (step_any base lb (lo i) i j xs (row (lo i)) (bs i) (did i) v _ w ha hn (fun k hk => ⟨hk.bs i hi, hk.lb, hk.row _⟩) hl (by omega) h.base_le (fun e => h.row_lb _ e.symm) (h.bs_lb i hi) (fun e => h.bs_row i hi _ e.symm) (by omega) (by omega) (by omega)).mono ?_
  rintro e w' ⟨v', r', rfl, ha', hn', hl', hr', ht⟩
  have hsz := ht.size
  have noT : ∀ k, k ≠ bs i → k ≠ lb → some k ≠ row (lo i) → ¬ (k = bs i ∨ k = lb ∨ some k = row (lo i)) := fun k a b c e => by
    rcases e with e | e | e
    · exact a e
    · exact b e
    · exact c e
  have r'lt : ∀ k, r' = some k → k < w'.heap.size := fun k e => by
    obtain ⟨u, _, _, ho, hu⟩ := hl'
    exact (ho.lt k (by rw [hu, e])).2
  have r'ge : ∀ k, r' = some k → foot k ∨ (w.heap.size ≤ k ∧ k < w'.heap.size) := fun k e => by
    have hlt := r'lt k e
    rcases hr' with e2 | ⟨g, e2, hg⟩
    · exact .inl (h.row_foot _ k (e2 ▸ e)).1
    · rw [e2] at e; cases e; exact .inr ⟨hg, hlt⟩
  have r'old : ∀ k, k < w.heap.size → r' = some k → row (lo i) = some k := fun k hk e => by
    rcases hr' with e2 | ⟨g, e2, hg⟩
    · exact e2 ▸ e
    · rw [e2] at e; cases e; omega
  refine ⟨by rw [hj]; rfl, fun o => if o = lo i then r' else row o, ⟨fun k hk => ?_, fun k hk => ?_, h.n10, h.small, fun o hk => ?_, h.lo_lt, h.inj, h.bs_lb, fun k hk o => ?_, fun k hk => .inl (h.bs_foot k hk), fun o => ?_, fun o k e => ?_, fun o o' k e e' => ?_, .inl h.lb_foot, by omega, fun k hk => ?_, fun k hk => ?_, by have := h.base_le; omega⟩, ht.toTouch.mono ?_, ?_⟩
  · by_cases e : k = i
    · subst e
      refine ⟨v', by simpa [bump] using ha', ?_⟩
      have e2 : ns k - bump did k k = j := by simp [bump]; omega
      rw [e2]
      refine hn'.move (fun _ _ _ => rfl) (fun b hb ho => ⟨.inr ⟨ho.1, hb⟩, by omega, fun m hm e => ?_, fun o => ?_⟩)
      · have := (h.act m hm); obtain ⟨u, hu, _⟩ := this; have := hu.lt; omega
      · by_cases eo : o = lo k
        · rw [if_pos eo]; exact ho.2
        · rw [if_neg eo]; intro e; have := (h.row_foot o b e.symm).2; omega
    · obtain ⟨u, hu, hnu⟩ := h.act k hk
      have e2 : bump did i k = did k := by simp [bump, e]
      rw [e2]
      refine ⟨u, hu.touch ht.toTouch (noT _ (fun e3 => e (h.inj k i hk hi e3)) (h.bs_lb k hk) (fun e3 => h.bs_row k hk _ e3.symm)), hnu.move (fun b hb ho => ht.block b hb (noT b (ho.bs i hi) ho.lb (ho.row _))) (fun b hb ho => ⟨.inl ho.foot, ho.lb, ho.bs, fun o => ?_⟩)⟩
      by_cases eo : o = lo i
      · rw [if_pos eo]; intro e3; exact ho.row _ (r'old b hb e3.symm).symm
      · rw [if_neg eo]; exact ho.row o
  · have := h.le k hk
    unfold bump
    split
    · subst_vars; omega
    · exact this
  · by_cases eo : o = lo i
    · subst eo
      refine ⟨xs ++ [(i : Int)], ?_, ?_⟩
      · rw [List.length_append, hx, cnt_bump, if_pos ⟨hi, rfl⟩]; rfl
      · show LogAt w' base lb (lo i) _ (if lo i = lo i then r' else row (lo i)); rw [if_pos rfl]; exact hl'
    · obtain ⟨ys, hy, u, hu, hf, ho, hrw⟩ := h.log o hk
      refine ⟨ys, by rw [cnt_bump, if_neg (fun e => eo e.2.symm)]; exact hy, ?_⟩
      show LogAt w' base lb o ys (if o = lo i then r' else row o)
      rw [if_neg eo]
      refine ⟨u, (ht.others _ eo).1.trans hu, (ht.others _ eo).2.trans hf, owns_touch ho ht.toTouch (fun g hg => noT g (fun e => ?_) (fun e => ?_) (fun e => ?_)), hrw⟩
      · exact h.bs_row i hi o (by rw [← hrw, hg, e])
      · exact h.row_lb o (by rw [← hrw, hg, e])
      · exact eo (h.row_inj _ _ g (by rw [← hrw, hg]) e.symm)
  · show (if o = lo i then r' else row o) ≠ some (bs k)
    by_cases eo : o = lo i
    · rw [if_pos eo]; intro e
      obtain ⟨u, hu, _⟩ := h.act k hk
      exact h.bs_row k hk _ (r'old _ hu.lt e)
    · rw [if_neg eo]; exact h.bs_row k hk o
  · show (if o = lo i then r' else row o) ≠ some lb
    by_cases eo : o = lo i
    · rw [if_pos eo]; intro e; exact h.row_lb _ (r'old _ hlb e)
    · rw [if_neg eo]; exact h.row_lb o
  · have e : (if o = lo i then r' else row o) = some k := e
    by_cases eo : o = lo i
    · rw [if_pos eo] at e; exact ⟨r'ge k e, r'lt k e⟩
    · rw [if_neg eo] at e; have := h.row_foot o k e; exact ⟨.inl this.1, by omega⟩
  · have e : (if o = lo i then r' else row o) = some k := e
    have e' : (if o' = lo i then r' else row o') = some k := e'
    by_cases eo : o = lo i
    · by_cases eo' : o' = lo i
      · rw [eo, eo']
      · rw [if_pos eo] at e; rw [if_neg eo'] at e'
        rw [eo]; exact h.row_inj _ _ k (r'old k (h.row_foot o' k e').2 e) e'
    · by_cases eo' : o' = lo i
      · rw [if_neg eo] at e; rw [if_pos eo'] at e'
        rw [eo']; exact h.row_inj _ _ k e (r'old k (h.row_foot o k e).2 e')
      · rw [if_neg eo] at e; rw [if_neg eo'] at e'; exact h.row_inj _ _ k e e'
  · rcases hk with hk | hk
    · exact h.foot_ge k hk
    · have := h.base_le; omega
  · rcases hk with hk | hk
    · have := h.foot_lt k hk; omega
    · exact hk.2
  · intro k hk hk2
    rcases hk2 with e | e | e
    · rw [e]; exact h.bs_foot i hi
    · rw [e]; exact h.lb_foot
    · exact (h.row_foot _ k e.symm).1
  · refine ⟨hsz, fun k o hk ho => ?_⟩
    have hlt := (Array.getElem?_eq_some_iff.1 hk).1
    have nc : ∀ c t f, w.heap[k]? ≠ some (.cells c t f) := fun c t f e => by rw [hk] at e; cases e; cases ho
    refine (ht.block k hlt (noT k (fun e => ?_) (fun e => ?_) (fun e => ?_))).trans hk
    · obtain ⟨x, y, z, ec⟩ := cells_of ha.next
      exact nc x y z (by rw [e]; exact ec)
    · obtain ⟨u, hu, _⟩ := hl
      obtain ⟨x, y, z, ec⟩ := cells_of hu
      exact nc x y z (by rw [e]; exact ec)
    · obtain ⟨u, hu, _, ho2, hrw⟩ := hl
      rcases ho2 with ⟨_, h2 | ⟨g, cap, cur, hv, hg, hh, r⟩⟩
      · rw [h2.1] at hrw; rw [← hrw] at e; cases e
      · rw [hv] at hrw; rw [← hrw] at e; cases e; exact nc _ _ _ hh
end Go.Proofs.Ythghndjfghdnnaa
