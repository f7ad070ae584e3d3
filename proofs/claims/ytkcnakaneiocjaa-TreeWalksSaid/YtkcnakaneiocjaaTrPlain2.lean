/- Trees, in plain terms: what Select tells. No program in sight. No condition. -/
import Derived.Test.YtkcnakaneiocjaaTrPlain
set_option linter.unusedVariables false
set_option linter.unusedSimpArgs false
namespace Go.Proofs.Ytkcnakaneiocjaa.PTr
theorem filt_get (g : Rec → Int) (d : Int) : ∀ (l : List Rec), l.Pairwise (fun x y => g x ≤ g y) → ∀ (j : Nat) (r : Rec), (l.filter fun x => g x == d)[j]? = some r → l[(l.filter fun x => decide (g x < d)).length + j]? = some r
  | [], _, j, r, h => by simp at h
  | x :: l, hp, j, r, h => by
    obtain ⟨h1, h2⟩ := List.pairwise_cons.1 hp
    rw [List.filter_cons] at h ⊢
    by_cases c1 : g x < d
    · rw [decide_eq_true c1, if_pos rfl, List.length_cons, show (l.filter fun x => decide (g x < d)).length + 1 + j = (l.filter fun x => decide (g x < d)).length + j + 1 by omega, List.getElem?_cons_succ]
      rw [beq_eq_false_iff_ne.2 (by omega : g x ≠ d), if_neg (by simp)] at h
      exact filt_get g d l h2 j r h
    · rw [decide_eq_false c1, if_neg (by simp)]
      have hz : l.filter (fun x => decide (g x < d)) = [] := List.filter_eq_nil_iff.2 fun y hy => by
        have := h1 y hy
        simp
        omega
      rw [hz]
      by_cases c2 : g x = d
      · rw [c2, beq_self_eq_true, if_pos rfl] at h
        cases j with
        | zero => simpa using h
        | succ j =>
          rw [List.getElem?_cons_succ] at h
          have := filt_get g d l h2 j r h
          rw [hz] at this
          simpa using this
      · exfalso
        rw [beq_eq_false_iff_ne.2 c2, if_neg (by simp)] at h
        have he : l.filter (fun x => g x == d) = [] := List.filter_eq_nil_iff.2 fun y hy => by
          have := h1 y hy
          simp
          omega
        rw [he] at h
        simp at h
def offD (l : List Rec) (h d : Nat) : Nat := (l.filter (ltD h d)).length
theorem off_step (l : List Rec) (h d : Nat) : offD l h (d + 1) = offD l h d + (part l h d).length := by
  unfold offD part
  refine cnt_split (ltD h d) (fun x => dig x.f0 h == (d : Int)) (ltD h (d + 1)) l (fun x _ => ?_) (fun x _ hp => ?_)
  · unfold ltD
    by_cases e1 : dig x.f0 h < (d : Int)
    · rw [decide_eq_true e1, decide_eq_true (by omega)]; rfl
    · by_cases e2 : dig x.f0 h = (d : Int)
      · rw [decide_eq_false e1, decide_eq_true (by omega), e2]; simp
      · rw [decide_eq_false e1, decide_eq_false (by omega)]; simp [e2]
  · unfold ltD at hp
    have := of_decide_eq_true hp
    exact beq_eq_false_iff_ne.2 (by omega)
theorem off_all (l : List Rec) (h : Nat) : offD l h 16 = l.length := by
  unfold offD
  rw [List.filter_eq_self.2 fun x _ => ?_]
  have := dig_range x.f0 h
  unfold ltD
  exact decide_eq_true (by omega)
theorem scan_sub (N : List Nd) (h : Nat) (n : Nd) (l : List Rec) (hd : ∀ d, d < 16 → (part l h d = [] ∧ n.kid d < 0) ∨ (part l h d ≠ [] ∧ Sub N h (n.kid d) (part l h d))) (K : Nat) (hK : K < l.length) : ∀ (r c : Nat), r + c = 16 → offD l h c ≤ K →
    ∃ d, d < 16 ∧ offD l h d ≤ K ∧ K < offD l h (d + 1) ∧ scanN N n r c ((K : Int) - (offD l h c : Int)) = ((atN N (n.kid d)).1, ((K - offD l h d : Nat) : Int))
  | 0, c, hc, ho => by
    obtain rfl : c = 16 := by omega
    rw [off_all] at ho
    omega
  | r + 1, c, hc, ho => by
    unfold scanN
    have hb := kid_below N h n l hd c (by omega)
    have hs := off_step l h c
    rw [hb]
    by_cases hlt : K < offD l h (c + 1)
    · refine ⟨c, by omega, ho, hlt, ?_⟩
      rw [if_pos (by omega)]
      congr 1
      omega
    · obtain ⟨d, h1, h2, h3, h4⟩ := scan_sub N h n l hd K hK r (c + 1) (by omega) (by omega)
      refine ⟨d, h1, h2, h3, ?_⟩
      rw [if_neg (by omega), show (K : Int) - (offD l h c : Int) - ((part l h c).length : Int) = (K : Int) - (offD l h (c + 1) : Int) by omega]
      exact h4
def Same (l : List Rec) (h : Nat) : Prop := ∀ x ∈ l, ∀ y ∈ l, x.f0 / 16 ^ h = y.f0 / 16 ^ h
def Srt (l : List Rec) : Prop := l.Pairwise fun x y => x.f0 < y.f0
theorem same_part {l : List Rec} {h d : Nat} (hs : Same l (h + 1)) : Same (part l h d) h := fun x hx y hy => by
  obtain ⟨m1, p1⟩ := List.mem_filter.1 hx
  obtain ⟨m2, p2⟩ := List.mem_filter.1 hy
  have h1 := hs x m1 y m2
  rw [div_step, div_step] at h1
  have h2 := eq_of_beq p1
  have h3 := eq_of_beq p2
  unfold dig at h2 h3
  omega
theorem srt_part {l : List Rec} {h d : Nat} (hs : Srt l) : Srt (part l h d) := List.Pairwise.filter _ hs
theorem dig_mono {l : List Rec} {h : Nat} (h1 : Same l (h + 1)) (h2 : Srt l) : l.Pairwise (fun x y => dig x.f0 h ≤ dig y.f0 h) := by
  refine List.Pairwise.imp_of_mem (fun {x y} hx hy hlt => ?_) h2
  have h3 := h1 x hx y hy
  rw [div_step, div_step] at h3
  have h4 : x.f0 / 16 ^ h ≤ y.f0 / 16 ^ h := Int.ediv_le_ediv (Int.pow_pos (by decide)) (Int.le_of_lt hlt)
  unfold dig
  omega
theorem sel_sub (N : List Nd) : ∀ (h : Nat) (s : Int) (l : List Rec), Sub N h s l → Same l h → Srt l → ∀ (K : Nat) (r : Rec), l[K]? = some r → (selN N h (atN N s).1 (K : Int)).rc = r
  | 0, s, l, hs, h1, h2, K, r, hr => by
    obtain ⟨n, e1, e2, rfl⟩ := hs
    unfold selN
    rw [e1]
    cases K with
    | zero => simpa using hr
    | succ K => simp at hr
  | h + 1, s, l, hs, h1, h2, K, r, hr => by
    obtain ⟨n, e1, e2, e3, e4⟩ := hs
    have hK : K < l.length := (List.getElem?_eq_some_iff.1 hr).1
    have h0 : offD l h 0 = 0 := by
      unfold offD
      rw [List.filter_eq_nil_iff.2 fun x _ => ?_]
      · rfl
      · have := dig_range x.f0 h
        unfold ltD
        simp
        omega
    obtain ⟨d, d1, d2, d3, d4⟩ := scan_sub N h n l e4 K hK 16 0 rfl (by omega)
    rw [h0, show (K : Int) - ((0 : Nat) : Int) = (K : Int) by omega] at d4
    have hst := off_step l h d
    have hpl : K - offD l h d < (part l h d).length := by omega
    unfold selN
    rw [e1]
    dsimp only
    rw [d4]
    rcases e4 d d1 with ⟨c1, _⟩ | ⟨c1, c2⟩
    · rw [c1] at hpl
      simp at hpl
    · refine sel_sub N h _ _ c2 (same_part h1) (srt_part h2) _ r ?_
      have := filt_get (fun x => dig x.f0 h) (d : Int) l (dig_mono h1 h2) (K - offD l h d) _ (List.getElem?_eq_getElem hpl)
      have e5 : (l.filter fun x => decide (dig x.f0 h < (d : Int))).length = offD l h d := rfl
      rw [e5, show offD l h d + (K - offD l h d) = K by omega, hr] at this
      rw [List.getElem?_eq_getElem hpl]
      exact this.symm
end Go.Proofs.Ytkcnakaneiocjaa.PTr
