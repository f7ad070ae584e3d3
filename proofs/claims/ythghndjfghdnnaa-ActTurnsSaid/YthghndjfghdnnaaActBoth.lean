/- The laws ActTurns and ActApart: what both lean on. No condition but those that each bears. -/
import Derived.Test.YthghndjfghdnnaaActRef
namespace Go.Proofs.Ythghndjfghdnnaa
open Go.RowKit Go.Proofs.YthghndjfghdnnaaW.PrintWords
theorem turned_idle {ns did : Nat → Nat} {n : Nat} {ps : List Int} (h : ∀ i, ¬ did i < ns i) : ∀ k, turned ns n ps did k = (did, 0) := by
  intro k
  induction k with
  | zero => rfl
  | succ k ih => rw [turned_no (by rw [ih]; exact h _), ih]
def PicksAt (A : Option Addr) (ps : List Int) (W : World) : Prop := ∀ j, j < ps.length → ∃ bp op, A = some ⟨bp, op, none⟩ ∧ W.cell? ⟨bp, op + j, none⟩ = some (.int .i64 (nth ps j))
theorem turn_all {w : World} {base lb : Nat} {lo : Nat → Nat} {no n : Nat} {bs ns did : Nat → Nat} {row : Nat → Option Nat} {foot : Nat → Prop} (h : Fleet w base lb lo no n bs ns did row foot) (hz : n = 0 → ∀ i, ¬ did i < ns i)
    (ps : List Int) (Ap : Option Addr) (capp : Nat) (A : Option Addr) (capa : Nat) (hp : PicksAt Ap ps w) (ha : ActsAt A n bs w) (fp : 0 < ps.length → ∀ b o, Ap = some ⟨b, o, none⟩ → b < w.heap.size ∧ ¬ foot b) (fa : ∀ b o, A = some ⟨b, o, none⟩ → b < w.heap.size ∧ ¬ foot b) (hl : ps.length ≤ 200) :
    Calls Try.prog 35 #[.slice Ap ps.length capp, .slice A n capa] w fun e w' => e = .returned (.int .i64 ((turned ns n ps did ps.length).2 : Nat)) ∧ FleetStepped base lb lo no n bs ns (turned ns n ps did ps.length).1 foot w w' := by
  by_cases h0 : ps.length = 0
  · rw [h0]
    exact (turn_idle Ap capp A n capa w).mono fun e w' ⟨h1, h2⟩ => ⟨h1, h2 ▸ FleetStepped.same h⟩
  · obtain ⟨bp, op, rfl, hc⟩ := hp 0 (by omega)
    by_cases hn : n = 0
    · subst hn
      rw [turned_idle (hz rfl)]
      exact (turn_none bp op ps capp A capa w hc (by omega)).mono fun e w' ⟨h1, h2⟩ => ⟨h1, h2 ▸ FleetStepped.same h⟩
    · obtain ⟨ba, oa, rfl, _⟩ := ha 0 (by omega)
      refine turn_any h (by omega) ps bp op capp ba oa capa (fun i hi => ?_) (fun i hi => ?_) (fp (by omega) bp op rfl).1 (fa ba oa rfl).1 (fp (by omega) bp op rfl).2 (fa ba oa rfl).2 hl
      · obtain ⟨b, o, e, hc⟩ := hp i hi
        cases e; exact hc
      · obtain ⟨b, o, e, hc⟩ := ha i hi
        cases e; exact hc
theorem refTurn_all (ns did : Nat → Nat) (n : Nat) (ps : List Int) (hz : n = 0 → ∀ i, ¬ did i < ns i) (hn10 : n ≤ 10) (hs : ∀ i, i < n → ns i ≤ 19) (hl : ps.length ≤ 200) (A0 A1 A2 : Option Addr) (c0 c1 c2 : Nat) (w : World)
    (h0 : Kd.C (Kd.int .i64) w A0 n (toL n ns)) (h1 : Kd.C (Kd.int .i64) w A1 n (toL n did)) (h2 : Kd.C (Kd.int .i64) w A2 ps.length ps) (k0 : n ≤ c0) (k1 : n ≤ c1) (k2 : ps.length ≤ c2) :
    Calls Try.prog 36 #[.slice A0 n c0, .slice A1 n c1, .slice A2 ps.length c2] w fun e w' => ∃ v, e = .returned (.tuple #[v, .int .i64 ((turned ns n ps did ps.length).2 : Nat)]) ∧ Hd (RefPost4 n (turned ns n ps did ps.length).1 v w w') := by
  by_cases hn : n = 0
  · subst hn
    rw [turned_idle (hz rfl)]
    exact (refTurn0 ps A0 A1 A2 c0 c1 c2 w h2 k2).mono fun e w' ⟨v, h1, h2⟩ => ⟨v, h1, ⟨h2.out⟩⟩
  · exact refTurn ns did n ps (by omega) hn10 hs hl A0 A1 A2 c0 c1 c2 w h0 h1 h2 k0 k1 k2
/-- All that note in one log: its length is the count. -/
theorem cnt_turned (ns did : Nat → Nat) (n : Nat) (ps : List Int) (hn : 0 < n) : ∀ k, cnt (fun _ => 0) (turned ns n ps did k).1 0 n = cnt (fun _ => 0) did 0 n + (turned ns n ps did k).2 := by
  intro k
  induction k with
  | zero => rfl
  | succ k ih =>
    by_cases hd : (turned ns n ps did k).1 (pick (nth ps k) n) < ns (pick (nth ps k) n)
    · rw [turned_yes hd, cnt_bump, if_pos ⟨(pick_lt _ _ hn).1, rfl⟩, ih]; omega
    · rw [turned_no hd]; exact ih
theorem cnt_zero (lo : Nat → Nat) (o : Nat) : ∀ n, cnt lo (fun _ => 0) o n = 0 := by
  intro n
  induction n with
  | zero => rfl
  | succ n ih => unfold cnt; rw [ih]; simp
theorem turned_le {ns did : Nat → Nat} {n : Nat} {ps : List Int} (h : ∀ i, did i ≤ ns i) : ∀ k i, (turned ns n ps did k).1 i ≤ ns i := by
  intro k
  induction k with
  | zero => exact h
  | succ k ih =>
    intro i
    by_cases hd : (turned ns n ps did k).1 (pick (nth ps k) n) < ns (pick (nth ps k) n)
    · rw [turned_yes hd]
      show bump _ _ i ≤ _
      unfold bump
      split
      · subst_vars; omega
      · exact ih i
    · rw [turned_no hd]; exact ih i
/-- One act more, that has done nothing yet, as none has. -/
theorem Fleet.add {w w' : World} {base lb : Nat} {lo : Nat → Nat} {no n : Nat} {bs ns : Nat → Nat} {foot : Nat → Prop} {b : Nat} {v : Value} (h : Fleet w base lb lo no n bs ns (fun _ => 0) (fun _ => none) foot) (hb : Below w.heap.size w w')
    (ha : ActAt w' b v 0) (hn : NextIs w' lb (lo n) n (ns n) v (fun k => w.heap.size ≤ k ∧ k ≠ b)) (hbw : w.heap.size ≤ b) (h10 : n < 10) (hs : ns n ≤ 19) (hlo : lo n < no) :
    Fleet w' base lb lo no (n + 1) (fun i => if i = n then b else bs i) ns (fun _ => 0) (fun _ => none) (fun k => foot k ∨ (w.heap.size ≤ k ∧ k < w'.heap.size)) := by
  have h' := h.below hb
  have hz := hb.size
  have hlb := h.lb_lt
  have hbase := h.base_le
  have hbl : ∀ i, i < n → bs i < w.heap.size := fun i hi => h.foot_lt _ (h.bs_foot i hi)
  refine ⟨fun i hi => ?_, fun i hi => Nat.zero_le _, by omega, fun i hi => ?_, fun o ho => ?_, fun i hi => ?_, fun i j hi hj e => ?_, fun i hi => ?_, fun i hi o e => (by cases e), fun i hi => ?_, fun o e => (by cases e), fun o k e => (by cases e), fun o o' k e => (by cases e), .inl h.lb_foot, by omega, fun k hk => ?_, fun k hk => ?_, by omega⟩
  · by_cases e : i = n
    · subst e
      rw [if_pos rfl]
      refine ⟨v, ha, hn.move (fun _ _ _ => rfl) (fun k hk ho => ⟨.inr ⟨ho.1, hk⟩, by omega, fun j hj => ?_, fun o e => (by cases e)⟩)⟩
      by_cases e : j = i
      · rw [if_pos e]; exact ho.2
      · rw [if_neg e]; have := hbl j (by omega); omega
    · rw [if_neg e]
      obtain ⟨u, h1, h2⟩ := h'.act i (by omega)
      refine ⟨u, h1, h2.move (fun _ _ _ => rfl) (fun k hk ho => ⟨.inl ho.foot, ho.lb, fun j hj => ?_, ho.row⟩)⟩
      by_cases e : j = n
      · rw [if_pos e]; have := h.foot_lt k ho.foot; omega
      · rw [if_neg e]; exact ho.bs j (by omega)
  · by_cases e : i = n
    · rw [e]; exact hs
    · exact h.small i (by omega)
  · obtain ⟨xs, h1, h2⟩ := h'.log o ho
    exact ⟨xs, by rw [h1, cnt_zero, cnt_zero], h2⟩
  · by_cases e : i = n
    · rw [e]; exact hlo
    · exact h.lo_lt i (by omega)
  · by_cases ei : i = n
    · by_cases ej : j = n
      · omega
      · rw [if_pos ei, if_neg ej] at e; have := hbl j (by omega); omega
    · by_cases ej : j = n
      · rw [if_neg ei, if_pos ej] at e; have := hbl i (by omega); omega
      · rw [if_neg ei, if_neg ej] at e; exact h.inj i j (by omega) (by omega) e
  · by_cases ei : i = n
    · rw [if_pos ei]; omega
    · rw [if_neg ei]; exact h.bs_lb i (by omega)
  · by_cases ei : i = n
    · rw [if_pos ei]; exact .inr ⟨hbw, ha.lt⟩
    · rw [if_neg ei]; exact .inl (h.bs_foot i (by omega))
  · rcases hk with hk | hk
    · exact h.foot_ge k hk
    · omega
  · rcases hk with hk | hk
    · have := h.foot_lt k hk; omega
    · exact hk.2
theorem Fleet.empty {w : World} {base lb : Nat} {lo : Nat → Nat} {no : Nat} {bs ns : Nat → Nat} {foot : Nat → Prop} (hl : ∀ o, o < no → LogAt w base lb o [] none) (hlb : lb < w.heap.size) (hb : base ≤ w.heap.size) (hf : foot lb) (hg : ∀ k, foot k → base ≤ k ∧ k < w.heap.size) :
    Fleet w base lb lo no 0 bs ns (fun _ => 0) (fun _ => none) foot :=
  ⟨fun i hi => absurd hi (Nat.not_lt_zero _), fun i hi => absurd hi (Nat.not_lt_zero _), Nat.zero_le _, fun i hi => absurd hi (Nat.not_lt_zero _), fun o ho => ⟨[], rfl, hl o ho⟩, fun i hi => absurd hi (Nat.not_lt_zero _), fun i j hi => absurd hi (Nat.not_lt_zero _), fun i hi => absurd hi (Nat.not_lt_zero _),
    fun i hi => absurd hi (Nat.not_lt_zero _), fun i hi => absurd hi (Nat.not_lt_zero _), fun o e => (by cases e), fun o k e => (by cases e), fun o o' k e => (by cases e), hf, hlb, fun k hk => (hg k hk).1, fun k hk => (hg k hk).2, hb⟩
end Go.Proofs.Ythghndjfghdnnaa
