/- Trees, in plain terms: what stands below a slot, and what Get, Rank and Select tell of it. No program in sight. No condition. -/
import Derived.Test.YtkcnakaneiocjaaTrSel
set_option linter.unusedVariables false
set_option linter.unusedSimpArgs false
namespace Go.Proofs.Ytkcnakaneiocjaa.PTr
abbrev Rec := S41
def part (l : List Rec) (h d : Nat) : List Rec := l.filter fun x => dig x.f0 h == (d : Int)
/-- These messages stand at a slot, or below it. -/
def Sub (N : List Nd) : Nat → Int → List Rec → Prop
  | 0, s, l => ∃ n, atN N s = (n, true) ∧ n.kind = 2 ∧ l = [n.rc]
  | h + 1, s, l => ∃ n, atN N s = (n, true) ∧ n.kind = 1 ∧ n.cnt = l.length ∧ ∀ d, d < 16 → (part l h d = [] ∧ n.kid d < 0) ∨ (part l h d ≠ [] ∧ Sub N h (n.kid d) (part l h d))
theorem atN_neg (N : List Nd) (s : Int) (h : s < 0) : atN N s = (Nd.zero, false) := by unfold atN; rw [if_neg (by omega)]
theorem below_neg (N : List Nd) (s : Int) (h : s < 0) : belowN N s = 0 := by unfold belowN; rw [atN_neg N s h, if_pos rfl]
theorem sub_below (N : List Nd) : ∀ (h : Nat) (s : Int) (l : List Rec), Sub N h s l → belowN N s = l.length
  | 0, s, l, hs => by
    obtain ⟨n, h1, h2, rfl⟩ := hs
    unfold belowN
    rw [h1, if_neg (by simp), if_pos h2]
    rfl
  | h + 1, s, l, hs => by
    obtain ⟨n, h1, h2, h3, _⟩ := hs
    unfold belowN
    rw [h1, if_neg (by simp), if_neg (by rw [h2]; decide), h3]
theorem kid_below (N : List Nd) (h : Nat) (n : Nd) (l : List Rec) (hd : ∀ d, d < 16 → (part l h d = [] ∧ n.kid d < 0) ∨ (part l h d ≠ [] ∧ Sub N h (n.kid d) (part l h d))) (d : Nat) (hd16 : d < 16) : belowN N (n.kid d) = (part l h d).length := by
  rcases hd d hd16 with ⟨h1, h2⟩ | ⟨_, h2⟩
  · rw [below_neg N _ h2, h1]; rfl
  · exact sub_below N h _ _ h2
/-- The digits above are the same. -/
def Up (l : List Rec) (uid : Int) (h : Nat) : Prop := ∀ x ∈ l, x.f0 / 16 ^ h = uid / 16 ^ h
theorem div_step (a : Int) (h : Nat) : a / 16 ^ (h + 1) = a / 16 ^ h / 16 := by
  rw [Int.ediv_ediv_of_nonneg (Int.le_of_lt (Int.pow_pos (by decide))), Int.pow_succ]
theorem up_part {l : List Rec} {uid : Int} {h : Nat} (hu : Up l uid (h + 1)) : Up (part l h (dig uid h).toNat) uid h := fun x hx => by
  obtain ⟨hm, hp⟩ := List.mem_filter.1 hx
  have h1 := hu x hm
  have hr := dig_range uid h
  rw [div_step, div_step] at h1
  have h2 : dig x.f0 h = dig uid h := by
    have := eq_of_beq hp
    omega
  unfold dig at h2
  omega
theorem getN_neg (N : List Nd) (uid : Int) : ∀ (h : Nat) (s : Int), s < 0 → getN N uid h s = (rc0, false)
  | 0, s, hs => by unfold getN; rw [atN_neg N s hs]; rfl
  | h + 1, s, hs => by unfold getN; rw [atN_neg N s hs, if_pos rfl]
theorem rankN_neg (N : List Nd) (uid : Int) : ∀ (h : Nat) (s : Int), s < 0 → rankN N uid h s = 0
  | 0, s, hs => rfl
  | h + 1, s, hs => by unfold rankN; rw [atN_neg N s hs, if_pos rfl]
def findU (l : List Rec) (uid : Int) : Option Rec := l.find? fun x => x.f0 == uid
def foundV : Option Rec → Rec × Bool
  | some r => (r, true)
  | none => (rc0, false)
theorem find_part (l : List Rec) (uid : Int) (h : Nat) : findU (part l h (dig uid h).toNat) uid = findU l uid := by
  unfold findU part
  rw [List.find?_filter]
  congr 1
  funext x
  have hr := dig_range uid h
  by_cases e : x.f0 = uid
  · subst e
    have : dig x.f0 h = ((dig x.f0 h).toNat : Int) := by omega
    simp [← this]
  · simp [e]
theorem get_sub (N : List Nd) (uid : Int) : ∀ (h : Nat) (s : Int) (l : List Rec), Sub N h s l → Up l uid h → getN N uid h s = foundV (findU l uid)
  | 0, s, l, hs, hu => by
    obtain ⟨n, h1, h2, rfl⟩ := hs
    have h3 := hu n.rc (List.mem_singleton.2 rfl)
    simp only [Int.pow_zero, Int.ediv_one] at h3
    unfold getN
    rw [h1]
    unfold findU
    rw [List.find?_cons_of_pos (by simp [h3])]
    rfl
  | h + 1, s, l, hs, hu => by
    obtain ⟨n, h1, h2, h3, h4⟩ := hs
    have hr := dig_range uid h
    unfold getN
    rw [h1, if_neg (by simp), ← find_part l uid h]
    rcases h4 (dig uid h).toNat (by omega) with ⟨e1, e2⟩ | ⟨e1, e2⟩
    · rw [getN_neg N uid h _ e2, e1]; rfl
    · exact get_sub N uid h _ _ e2 (up_part hu)
theorem cnt_split (p q r : Rec → Bool) : ∀ (l : List Rec), (∀ x ∈ l, r x = (p x || q x)) → (∀ x ∈ l, p x = true → q x = false) → (l.filter r).length = (l.filter p).length + (l.filter q).length
  | [], _, _ => rfl
  | x :: l, h1, h2 => by
    have ih := cnt_split p q r l (fun y hy => h1 y (List.mem_cons_of_mem _ hy)) (fun y hy => h2 y (List.mem_cons_of_mem _ hy))
    have e1 := h1 x List.mem_cons_self
    have e2 := h2 x List.mem_cons_self
    rw [List.filter_cons, List.filter_cons, List.filter_cons, e1]
    cases hp : p x with
    | true =>
      rw [e2 hp]
      simp
      omega
    | false =>
      cases hq : q x with
      | true => simp; omega
      | false => simp; omega
def cntL (p : Rec → Bool) (l : List Rec) : Int := ((l.filter p).length : Int)
def ltD (h d : Nat) (x : Rec) : Bool := decide (dig x.f0 h < (d : Int))
theorem sumTo_cnt (N : List Nd) (h : Nat) (n : Nd) (l : List Rec) (hd : ∀ d, d < 16 → (part l h d = [] ∧ n.kid d < 0) ∨ (part l h d ≠ [] ∧ Sub N h (n.kid d) (part l h d))) : ∀ (d : Nat), d ≤ 16 → sumTo N n d = cntL (ltD h d) l
  | 0, _ => by
    unfold cntL
    have : l.filter (ltD h 0) = [] := List.filter_eq_nil_iff.2 fun x _ => by
      have := dig_range x.f0 h
      unfold ltD
      simp
      omega
    rw [this]
    rfl
  | d + 1, hd16 => by
    show sumTo N n d + belowN N (n.kid d) = _
    rw [sumTo_cnt N h n l hd d (by omega), kid_below N h n l hd d (by omega)]
    unfold cntL part
    rw [cnt_split (ltD h d) (fun x => dig x.f0 h == (d : Int)) (ltD h (d + 1)) l (fun x _ => ?_) (fun x _ hp => ?_)]
    · omega
    · unfold ltD
      by_cases e1 : dig x.f0 h < (d : Int)
      · rw [decide_eq_true e1, decide_eq_true (by omega)]; rfl
      · by_cases e2 : dig x.f0 h = (d : Int)
        · rw [decide_eq_false e1, decide_eq_true (by omega), e2]; simp
        · rw [decide_eq_false e1, decide_eq_false (by omega)]; simp [e2]
    · unfold ltD at hp
      have := of_decide_eq_true hp
      exact beq_eq_false_iff_ne.2 (by omega)
def ltU (uid : Int) (x : Rec) : Bool := decide (x.f0 < uid)
theorem rank_sub (N : List Nd) (uid : Int) : ∀ (h : Nat) (s : Int) (l : List Rec), Sub N h s l → Up l uid h → rankN N uid h s = cntL (ltU uid) l
  | 0, s, l, hs, hu => by
    obtain ⟨n, h1, h2, rfl⟩ := hs
    have h3 := hu n.rc (List.mem_singleton.2 rfl)
    simp only [Int.pow_zero, Int.ediv_one] at h3
    show (0 : Int) = _
    unfold cntL
    have : [n.rc].filter (ltU uid) = [] := List.filter_eq_nil_iff.2 fun x hx => by
      obtain rfl := List.mem_singleton.1 hx
      unfold ltU
      simp
      omega
    rw [this]
    rfl
  | h + 1, s, l, hs, hu => by
    obtain ⟨n, h1, h2, h3, h4⟩ := hs
    have hr := dig_range uid h
    unfold rankN
    rw [h1, if_neg (by simp)]
    show sumTo N n (dig uid h).toNat + rankN N uid h (n.kid (dig uid h).toNat) = _
    have e : rankN N uid h (n.kid (dig uid h).toNat) = cntL (ltU uid) (part l h (dig uid h).toNat) := by
      rcases h4 (dig uid h).toNat (by omega) with ⟨e1, e2⟩ | ⟨e1, e2⟩
      · rw [rankN_neg N uid h _ e2, e1]; rfl
      · exact rank_sub N uid h _ _ e2 (up_part hu)
    rw [e, sumTo_cnt N h n l h4 _ (by omega)]
    unfold cntL part
    rw [List.filter_filter, cnt_split (ltD h (dig uid h).toNat) (fun x => ltU uid x && (dig x.f0 h == ((dig uid h).toNat : Int))) (ltU uid) l (fun x hx => ?_) (fun x _ hp => ?_)]
    · omega
    · have h5 := hu x hx
      rw [div_step, div_step] at h5
      have hrx := dig_range x.f0 h
      unfold ltD ltU
      have hpos : (0 : Int) < 16 ^ h := Int.pow_pos (by decide)
      have m1 : dig x.f0 h < dig uid h → x.f0 < uid := fun hlt => by
        have h6 : x.f0 / 16 ^ h < uid / 16 ^ h := by unfold dig at hlt; omega
        exact Int.lt_of_not_ge fun hge => absurd (Int.ediv_le_ediv hpos hge) (by omega)
      have m2 : dig uid h < dig x.f0 h → uid < x.f0 := fun hlt => by
        have h6 : uid / 16 ^ h < x.f0 / 16 ^ h := by unfold dig at hlt; omega
        exact Int.lt_of_not_ge fun hge => absurd (Int.ediv_le_ediv hpos hge) (by omega)
      have e16 : ((dig uid h).toNat : Int) = dig uid h := by omega
      rw [e16]
      by_cases c1 : dig x.f0 h < dig uid h
      · rw [decide_eq_true (m1 c1), decide_eq_true c1]; rfl
      · by_cases c2 : dig x.f0 h = dig uid h
        · rw [decide_eq_false c1, c2]; simp
        · have := m2 (by omega)
          rw [decide_eq_false c1, decide_eq_false (by omega)]; simp
    · unfold ltD at hp
      have := of_decide_eq_true hp
      simp only [Bool.and_eq_false_iff]
      right
      exact beq_eq_false_iff_ne.2 (by omega)
end Go.Proofs.Ytkcnakaneiocjaa.PTr
