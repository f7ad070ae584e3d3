/- A step of the act that runs the others. No condition but those that each contract bears. -/
import Derived.Test.YthghndjfghdnnaaActRun
namespace Go.Proofs.Ythghndjfghdnnaa
open Go.RowKit
theorem chain_all (base : Nat) (V : Vars) (ns : List Nat) (xs : List Int) (row : Option Nat) : ∀ d i, i ≤ ns.length → ns.length - i = d → ChainOk base V ns i xs row := by
  intro d
  induction d with
  | zero =>
    intro i hi hd
    obtain rfl : i = ns.length := by omega
    exact chain_end base V ns xs row
  | succ d ih =>
    intro i hi hd
    exact chain_step base V ns i xs row (ih (i + 1) (by omega) (by omega)) (by omega)
def sumFrom (ns : List Nat) (i : Nat) : Nat := (ns.drop i).sum
theorem sumFrom_step (ns : List Nat) (i : Nat) (h : i < ns.length) : sumFrom ns i = nthN ns i + sumFrom ns (i + 1) := by
  unfold sumFrom nthN
  rw [List.drop_eq_getElem_cons h, List.sum_cons, List.getD_eq_getElem?_getD, List.getElem?_eq_getElem h]; rfl
theorem sumFrom_end (ns : List Nat) (i : Nat) (h : ns.length ≤ i) : sumFrom ns i = 0 := by unfold sumFrom; rw [List.drop_eq_nil_of_le h]; rfl
theorem sumFrom_zeros (ns : List Nat) (i i' : Nat) (hle : i ≤ i') (hl : i' ≤ ns.length) (hz : ∀ k, i ≤ k → k < i' → nthN ns k = 0) : sumFrom ns i = sumFrom ns i' := by
  induction i' with
  | zero => obtain rfl : i = 0 := by omega
            rfl
  | succ m ih =>
    by_cases e : i = m + 1
    · rw [e]
    · rw [ih (by omega) (by omega) (fun k h1 h2 => hz k h1 (by omega)), sumFrom_step ns m (by omega), hz m (by omega) (by omega), Nat.zero_add]
/-- Where the outer act stands: at its end, or at act i with j steps left. -/
def At (w : World) (V : Vars) (ns : List Nat) (i j : Nat) (v : Value) (ok : Nat → Prop) : Prop :=
  (i = ns.length ∧ j = 0 ∧ v = .nilFunc) ∨ (i < ns.length ∧ 0 < j ∧ j ≤ nthN ns i ∧ PosAt w V i j v ok)
def rem (ns : List Nat) (i j : Nat) : Nat := j + sumFrom ns (i + 1)
theorem At.of_stands {w : World} {V : Vars} {ns : List Nat} {i : Nat} {v : Value} {ok : Nat → Prop} (h : Stands w V ns i v ok) : ∃ j, At w V ns i j v ok ∧ rem ns i j = sumFrom ns i := by
  rcases h with ⟨h, hv⟩ | ⟨h1, h2, h3⟩
  · exact ⟨0, .inl ⟨h, rfl, hv⟩, by unfold rem; rw [sumFrom_end ns (i + 1) (by omega), sumFrom_end ns i (by omega)]⟩
  · exact ⟨nthN ns i, .inr ⟨h1, h2, Nat.le_refl _, h3⟩, by unfold rem; rw [sumFrom_step ns i h1]⟩
theorem At.touch {w w' : World} {V : Vars} {ns : List Nat} {i j : Nat} {v : Value} {ok ok' : Nat → Prop} {S : Nat → Prop} (h : At w V ns i j v ok) (t : Touch S w w') (hS : ∀ k, k < w.heap.size → ok k → ¬ S k ∧ ok' k) : At w' V ns i j v ok' := by
  rcases h with h | ⟨h1, h2, h3, h4⟩
  · exact .inl h
  · exact .inr ⟨h1, h2, h3, h4.touch t hS⟩
theorem At.isStep {w : World} {V : Vars} {ns : List Nat} {i j : Nat} {v : Value} {ok : Nat → Prop} (h : At w V ns i j v ok) : IsStep v := by
  rcases h with ⟨_, _, rfl⟩ | ⟨_, _, _, h⟩
  · exact .inl rfl
  · obtain ⟨_, _, _, _, _, _, rfl, _⟩ := h.out
    exact .inr ⟨_, _, rfl⟩
def OuterPost (base : Nat) (V : Vars) (ns : List Nat) (i j : Nat) (xs : List Int) (row : Option Nat) (ok : Nat → Prop) (w : World) (e : Ending) (w' : World) : Prop :=
  ∃ v i' j' row', e = .returned v ∧ EnvAt w' base V ns i' (xs ++ [(i : Int)]) row' ∧ At w' V ns i' j' v (fun k => (ok k ∨ w.heap.size ≤ k) ∧ some k ≠ row') ∧ i ≤ i' ∧ i' ≤ ns.length ∧ rem ns i' j' = rem ns i j ∧ (row' = row ∨ ∃ g, row' = some g ∧ w.heap.size ≤ g) ∧
    Touch (fun k => ok k ∨ V.mine k ∨ some k = row) w w'
set_option maxHeartbeats 2000000 in
theorem outer_any (base : Nat) (V : Vars) (ns : List Nat) (i j : Nat) (xs : List Int) (row : Option Nat) (ok : Nat → Prop) (s t A ib : Nat) (nx : Value) (c : Int) (w : World) (he : EnvAt w base V ns i xs row) (hx : xs.length ≤ 1000) (hi : i < ns.length) (hj : j + 1 ≤ nthN ns i)
    (hok : ∀ k, ok k → ¬ V.mine k ∧ some k ≠ row) (ho : ok s ∧ ok t ∧ ok ib ∧ ok A) (hne : s ≠ A ∧ t ≠ A ∧ ib ≠ A)
    (c1 : w.cell? ⟨s, 0, none⟩ = some (.pointer (some ⟨A, 0, none⟩))) (c2 : w.cell? ⟨t, 0, none⟩ = some (.func (.func 13) #[] #[.pointer (some ⟨V.ca, 0, none⟩), .pointer (some ⟨V.ch, 0, none⟩), .pointer (some ⟨ib, 0, none⟩)]))
    (c3 : w.cell? ⟨ib, 0, none⟩ = some (.int .i64 i)) (ha : ActAt w A nx c) (hc : 0 ≤ c ∧ c + ((j + 1 : Nat) : Int) ≤ 100) (hn : NextIs w V.lg 0 i (j + 1) nx (fun k => ok k ∧ k ≠ A)) :
    Calls Try.prog 40 #[.pointer (some ⟨s, 0, none⟩), .pointer (some ⟨t, 0, none⟩)] w (OuterPost base V ns i j xs row ok w) := by
  obtain ⟨o1, o2, o3, o4⟩ := ho
  obtain ⟨n1, n2, n3⟩ := hne
  have m1 := hok _ o1
  have m2 := hok _ o2
  have m3 := hok _ o3
  have m4 := hok _ o4
  have l1 := lt_of_cell c1
  have l2 := lt_of_cell c2
  have l3 := lt_of_cell c3
  have l4 := ha.lt
  have hsm := he.small
  have hni := hsm.2 i
  have hrow := he.row
  have lglt : V.lg < w.heap.size := by obtain ⟨v, hv, _⟩ := he.log; exact lt_of_cell hv
  have lnv : V.nv < w.heap.size := by obtain ⟨_, _, hv, _⟩ := he.n; exact lt_of_cell hv
  have lca := lt_of_cell he.called
  have lch := lt_of_cell he.chain
  have lnr := he.nrlt
  have mineLt : ∀ k, V.mine k → k < w.heap.size := by rintro k (rfl | rfl | rfl | rfl | rfl) <;> assumption
  have hlr : some V.lg ≠ row := fun e => (hrow _ e.symm).1 (.inr (.inr (.inl rfl)))
  have st := step_any base V.lg 0 i j xs row A c nx _ w ha hn (fun k hk => ⟨hk.2, fun e => (hok k hk.1).1 (.inr (.inr (.inl e))), (hok k hk.1).2⟩) he.log (by omega) he.base hlr (fun e => m4.1 (.inr (.inr (.inl e)))) m4.2 (by omega) hc.1 (by omega)
  have HS : Hd _ := ⟨st⟩
  have HE : Hd _ := ⟨he⟩
  have MK : Hd _ := ⟨hok⟩
  have ML : Hd _ := ⟨mineLt⟩
  have HR : Hd _ := ⟨hrow⟩
  clear st he hn ha hok mineLt hrow
  go_enter Try.func40, Try.ntmps40
  go_wp2_with fail
  refine HS.out.mono ?_
  rintro e w1 ⟨nx', row', rfl, ha1, hn1, hl1, hr1, ht1⟩
  have d1 : w1.cell? ⟨s, 0, none⟩ = some (.pointer (some ⟨A, 0, none⟩)) := (ht1.cell (p := ⟨s, 0, none⟩) l1 (by rintro (e | e | e); exact n1 e; exact m1.1 (.inr (.inr (.inl e))); exact m1.2 e)).trans c1
  have d2 := (ht1.cell (p := ⟨t, 0, none⟩) l2 (by rintro (e | e | e); exact n2 e; exact m2.1 (.inr (.inr (.inl e))); exact m2.2 e)).trans c2
  have d3 := (ht1.cell (p := ⟨ib, 0, none⟩) l3 (by rintro (e | e | e); exact n3 e; exact m3.1 (.inr (.inr (.inl e))); exact m3.2 e)).trans c3
  have z1 := ht1.size
  have he1 : EnvAt w1 base V ns i (xs ++ [(i : Int)]) row' := by
    obtain ⟨a1, a2, a3, a4, a5, a6, a7⟩ := HE.out.apart
    have no : ∀ k, V.mine k → k ≠ V.lg → ¬ (k = A ∨ k = V.lg ∨ some k = row) := by
      rintro k hk hg (e | e | e)
      · rw [e] at hk; exact m4.1 hk
      · exact hg e
      · exact (HR.out k e.symm).1 hk
    have cl : ∀ b o v, V.mine b → b ≠ V.lg → w.cell? ⟨b, o, none⟩ = some v → w1.cell? ⟨b, o, none⟩ = some v := fun b o v hm hg hc => (ht1.cell (p := ⟨b, o, none⟩) (lt_of_cell hc) (no b hm hg)).trans hc
    obtain ⟨A', c', hn', hk'⟩ := HE.out.n
    refine ⟨⟨A', c', cl _ _ _ (.inl rfl) a5 hn', fun k hlt => ⟨(hk' k hlt).1, cl _ _ _ (.inr (.inl rfl)) a6 (hk' k hlt).2⟩⟩, hl1, cl _ _ _ (.inr (.inr (.inr (.inl rfl)))) (Ne.symm a3) HE.out.called,
      (ht1.frozen (p := ⟨V.ca, 0, none⟩) lca (no _ (.inr (.inr (.inr (.inl rfl)))) (Ne.symm a3))).trans HE.out.free, cl _ _ _ (.inr (.inr (.inr (.inr rfl)))) a7 HE.out.chain, hsm, HE.out.apart, Nat.le_trans HE.out.base z1, ?_, by omega⟩
    intro k hk
    refine ⟨?_, ?_⟩
    · rcases hr1 with h | ⟨g, h, hg⟩
      · exact (HR.out k (by rw [← h, hk])).1
      · intro hm; have := ML.out k hm; rw [h] at hk; cases hk; omega
    · obtain ⟨v, _, _, hown, hrow⟩ := hl1
      exact (hown.lt k (by rw [hrow, hk])).2
  have hT1 : Touch (fun k => ok k ∨ V.mine k ∨ some k = row) w w1 := ht1.mono (by rintro k _ (e | e | e); exact .inl (by rw [e]; exact o4); exact .inr (.inl (.inr (.inr (.inl e)))); exact .inr (.inr e))
  have H1 : Hd _ := ⟨he1⟩
  have HA : Hd _ := ⟨ha1⟩
  have HN : Hd _ := ⟨hn1⟩
  have R1 : Hd _ := ⟨hr1⟩
  have HT : Hd _ := ⟨hT1⟩
  clear he1 ha1 hl1 hr1 hT1 ht1 HS HE
  by_cases hj0 : j = 0
  · subst hj0
    rcases hn1 with ⟨_, rfl⟩ | ⟨h, _⟩
    · clear c1 c2 c3
      go_wp2_with fail
      refine (run_over base V ns i ib (xs ++ [(i : Int)]) row' (chain_all _ _ _ _ _ _ (i + 1) (by omega) rfl) (by omega) A (c + 1) w1 HA.out H1.out d3 (fun e => m3.1 (.inr (.inr (.inr (.inl e)))))).mono ?_
      rintro e w2 ⟨v, i', rfl, hle, hz, hE, hS, hT⟩
      have hil : i' ≤ ns.length := by rcases hS with h | h <;> omega
      obtain ⟨j', hat, hrem⟩ := At.of_stands hS
      have fin : OuterPost base V ns i 0 xs row ok w (.returned v) w2 := by
        refine ⟨v, i', j', row', rfl, hE, hat.touch (Touch.refl (fun _ => False) _) (fun k _ hk => ⟨id, .inr (by omega), fun e => by have := (H1.out.row k e.symm).2; omega⟩), by omega, hil, ?_, R1.out, HT.out.step hT (fun k _ h => .inr (.inl (.inr (.inr (.inr (.inl h))))))⟩
        rw [hrem, ← sumFrom_zeros ns (i + 1) i' hle hil hz]; unfold rem; omega
      have HF : Hd _ := ⟨fin⟩
      clear fin hat hrem hE hS hT hz
      go_wp2_with fail
      go_ret
      exact HF.out
    · omega
  · rcases hn1 with ⟨h, _⟩ | ⟨h0, b1, b2, b3, rfl, ho, e1, e2, e3⟩
    · omega
    · clear c1 c2 c3
      go_wp2_with fail
      refine (run_go A _ _ (c + 1) _ _ w1 HA.out).mono ?_
      rintro e w2 ⟨s', t', rfl, hs', ht', f1, f2, hb⟩
      have fin : OuterPost base V ns i j xs row ok w (.returned (.func (.func 40) #[] #[.pointer (some ⟨s', 0, none⟩), .pointer (some ⟨t', 0, none⟩)])) w2 := by
        have nr : ∀ k, w1.heap.size ≤ k → some k ≠ row' := fun k hk e => by have := (H1.out.row k e.symm).2; omega
        have nrok : ∀ k, ok k → k < w.heap.size → some k ≠ row' := fun k hk hlt e => by
          rcases R1.out with h | ⟨g, h, hg⟩
          · exact (MK.out k hk).2 (by rw [e, h])
          · rw [h] at e; cases e; omega
        have lA := HA.out.lt
        refine ⟨_, i, j, row', rfl, H1.out.below hb, .inr ⟨hi, by omega, by omega, ⟨s', t', A, ib, _, c + 1, rfl, ⟨⟨.inr (by omega), nr _ hs'⟩, ⟨.inr (by omega), nr _ ht'⟩, ⟨.inl o3, nrok _ o3 l3⟩, ⟨.inl o4, nrok _ o4 l4⟩⟩, ⟨by omega, by omega, n3⟩, f1, f2,
          (hb.cell (p := ⟨ib, 0, none⟩) (lt_of_cell d3)).trans d3, HA.out.of_block (hb.block A lA), ⟨by omega, by omega⟩, ?_⟩⟩, Nat.le_refl _, by omega, rfl, R1.out, HT.out.step (Touch.of_below hb (fun _ => False)) (fun _ _ e => e.elim)⟩
        exact HN.out.move (fun k hk _ => hb.block k hk) (fun k _ hk => ⟨⟨.inr hk.1, hk.2⟩, by omega⟩)
      have HF : Hd _ := ⟨fin⟩
      clear fin f1 f2
      go_wp2_with fail
      go_ret
      exact HF.out
end Go.Proofs.Ythghndjfghdnnaa
