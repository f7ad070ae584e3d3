/- Trees, in plain terms: the rank of a message of good messages is its place, and it is got by its number. No program in sight. -/
import Derived.Test.YtkcnakaneiocjaaTrGood
set_option linter.unusedVariables false
set_option linter.unusedSimpArgs false
namespace Go.Proofs.Ytkcnakaneiocjaa.PTr
theorem cnt_at (l : List Rec) (k : Nat) (u : Int) (hk : k ≤ l.length) (h1 : ∀ i (hi : i < l.length), i < k → l[i].f0 < u) (h2 : ∀ i (hi : i < l.length), k ≤ i → u ≤ l[i].f0) : cntL (ltU u) l = (k : Int) := by
  unfold cntL ltU
  rw [← List.take_append_drop k l, List.filter_append]
  have e1 : (l.take k).filter (fun x => decide (x.f0 < u)) = l.take k := List.filter_eq_self.2 fun x hx => by
    obtain ⟨i, hi, rfl⟩ := List.mem_iff_getElem.1 hx
    rw [List.length_take] at hi
    rw [List.getElem_take]
    exact decide_eq_true (h1 i (by omega) (by omega))
  have e2 : (l.drop k).filter (fun x => decide (x.f0 < u)) = [] := List.filter_eq_nil_iff.2 fun x hx => by
    obtain ⟨i, hi, rfl⟩ := List.mem_iff_getElem.1 hx
    rw [List.length_drop] at hi
    rw [List.getElem_drop]
    have := h2 (k + i) (by omega) (by omega)
    simp
    omega
  rw [e1, e2, List.append_nil, List.length_take, Nat.min_eq_left hk]
theorem inc_lt {l : List Rec} (h : Inc l 0) {i j : Nat} (hj : j < l.length) (hi : i < j) : (l[i]'(by omega)).f0 < l[j].f0 := by
  obtain ⟨d, rfl⟩ : ∃ d, j = i + d + 1 := ⟨j - i - 1, by omega⟩
  exact inc_le h i d hj
theorem rank_at {l : List Rec} (h : Inc l 0) (k : Nat) (hk : k < l.length) : cntL (ltU l[k].f0) l = (k : Int) := by
  refine cnt_at l k _ (by omega) (fun i hi hik => inc_lt h hk hik) (fun i hi hki => ?_)
  rcases Nat.lt_or_eq_of_le hki with hlt | rfl
  · exact Int.le_of_lt (inc_lt h hi hlt)
  · exact Int.le_refl _
theorem rank_next {l : List Rec} (h : Inc l 0) (k : Nat) (hk : k < l.length) : cntL (ltU (l[k].f0 + 1)) l = (k : Int) + 1 := by
  refine cnt_at l (k + 1) _ (by omega) (fun i hi hik => ?_) (fun i hi hki => inc_lt h hi (by omega))
  rcases Nat.lt_or_eq_of_le (Nat.le_of_lt_succ hik) with hlt | rfl
  · have := inc_lt h hk hlt; omega
  · omega
theorem find_at {l : List Rec} (h : Inc l 0) (k : Nat) (hk : k < l.length) : findU l l[k].f0 = some l[k] := by
  unfold findU
  refine List.find?_eq_some_iff_getElem.2 ⟨beq_self_eq_true _, k, hk, rfl, fun j hj => ?_⟩
  have := inc_lt h hk hj
  simp
  omega
end Go.Proofs.Ytkcnakaneiocjaa.PTr
