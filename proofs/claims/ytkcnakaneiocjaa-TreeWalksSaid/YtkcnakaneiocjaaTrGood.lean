/- Trees, in plain terms: what `great` lets through, and what the tree of such messages tells. No program in sight. No condition. -/
import Derived.Test.YtkcnakaneiocjaaTrStand
import Derived.Test.YtkcnakaneiocjaaTrMem
import Derived.Test.YtkcnakaneiocjaaTrRef
set_option linter.unusedVariables false
set_option linter.unusedSimpArgs false
namespace Go.Proofs.Ytkcnakaneiocjaa.PTr
open Go.RowKit Go.Proofs.YtkcnakaneiocjaaW.PrintWords Go.Proofs.YtkcnakaneiocjaaW.PrintLast Go.Proofs.YtkcnakaneiocjaaW.PrintMore
/-- From here on each number is above the one ahead. -/
def Inc (l : List Rec) (i : Nat) : Prop := ∀ j (hj : j < l.length), i ≤ j → l[j].f0 ≠ 0 ∧ (0 < j → l[j - 1].f0 < l[j].f0)
theorem right_l0 (l : List Rec) (hl : l.length ≤ 1000000) : ∀ (d i k : Nat), d + i = l.length → d < k → ∃ r, postchaiseref07_Right.l0 k l (i : Int) = some r ∧ (r = true → Inc l i)
  | 0, i, k, h, hk => by
    obtain ⟨m, rfl⟩ : ∃ m, k = m + 1 := ⟨k - 1, by omega⟩
    simp only [postchaiseref07_Right.l0]
    rw [if_neg (by omega)]
    exact ⟨_, rfl, fun _ j hj hij => absurd hj (by omega)⟩
  | d + 1, i, k, h, hk => by
    obtain ⟨m, rfl⟩ : ∃ m, k = m + 1 := ⟨k - 1, by omega⟩
    have hi : i < l.length := by omega
    simp only [postchaiseref07_Right.l0]
    have ew : wrap64 ((i : Int) + 1) = ((i + 1 : Nat) : Int) := by rw [tw64 (by omega) (by omega)]; omega
    obtain ⟨r, hr, hr2⟩ := right_l0 l hl d (i + 1) m (by omega) (by omega)
    rw [if_pos (by omega), if_pos (by omega), rd_at l i hi, ew]
    split
    · exact ⟨_, rfl, fun e => nomatch e⟩
    · next h0 =>
      split
      · next hp =>
        have ew2 : wrap64 ((i : Int) - 1) = ((i - 1 : Nat) : Int) := by rw [tw64 (by omega) (by omega)]; omega
        rw [ew2, if_pos (by omega), if_pos (by omega), rd_at l (i - 1) (by omega)]
        split
        · exact ⟨_, rfl, fun e => nomatch e⟩
        · next hlt =>
          refine ⟨r, hr, fun e j hj hij => ?_⟩
          by_cases ej : j = i
          · subst ej
            exact ⟨h0, fun _ => by omega⟩
          · exact hr2 e j hj (by omega)
      · next hp =>
        refine ⟨r, hr, fun e j hj hij => ?_⟩
        by_cases ej : j = i
        · subst ej
          exact ⟨h0, fun hjp => absurd hjp (by omega)⟩
        · exact hr2 e j hj (by omega)
theorem right_f (l : List Rec) (hl : l.length ≤ 1000000) (k : Nat) (hk : l.length < k) : ∃ r, postchaiseref07_Right.f k l = some r ∧ (r = true → Inc l 0) :=
  right_l0 l hl l.length 0 k (by omega) hk
theorem great_l0 (l : List Rec) (m : Nat) (hm : m ≤ 1000) : ∀ (d i k : Nat), d + i = m + 1 → i ≤ l.length → 2 * d + m + 10 < k → ∃ r, postchaiselaw07_great.l0 k l (m : Int) (i : Int) = some r ∧ (r = false → l.length ≤ m ∧ Inc l 0)
  | d, i, k, h, hi, hk => by
    obtain ⟨n, rfl⟩ : ∃ n, k = n + 2 := ⟨k - 2, by omega⟩
    have hend : ∃ r, postchaiselaw07_great.j1 (n + 1) l (m : Int) (i : Int) false = some r ∧ (r = false → l.length ≤ m ∧ Inc l 0) := by
      simp only [postchaiselaw07_great.j1]
      rw [if_neg (by simp)]
      split
      · exact ⟨_, rfl, fun e => nomatch e⟩
      · next hle =>
        obtain ⟨r, hr, hr2⟩ := right_f l (by omega) n (by omega)
        rw [hr]
        refine ⟨!r, rfl, fun e => ⟨by omega, hr2 (by simpa using e)⟩⟩
    rw [show postchaiselaw07_great.l0 (n + 2) l (m : Int) (i : Int) = if (i : Int) < (l.length : Int) then postchaiselaw07_great.j1 (n + 1) l (m : Int) (i : Int) (decide ((i : Int) ≤ (m : Int))) else postchaiselaw07_great.j1 (n + 1) l (m : Int) (i : Int) false by simp only [postchaiselaw07_great.l0]]
    by_cases hlt : i < l.length
    · rw [if_pos (by omega)]
      by_cases hle : i ≤ m
      · rw [decide_eq_true (by omega : (i : Int) ≤ (m : Int))]
        match d, h with
        | 0, h => omega
        | d + 1, h =>
          obtain ⟨r, hr, hr2⟩ := great_l0 l m hm d (i + 1) n (by omega) (by omega) (by omega)
          simp only [postchaiselaw07_great.j1]
          have ew : wrap64 ((i : Int) + 1) = ((i + 1 : Nat) : Int) := by rw [tw64 (by omega) (by omega)]; omega
          rw [if_pos trivial, if_pos (by omega), if_pos (by omega), ew]
          split
          · exact ⟨_, rfl, fun e => nomatch e⟩
          · exact ⟨r, hr, hr2⟩
      · rw [decide_eq_false (by omega : ¬ (i : Int) ≤ (m : Int))]
        exact hend
    · rw [if_neg (by omega)]
      exact hend
theorem great_f (l : List Rec) (m : Nat) (hm : m ≤ 1000) (k : Nat) (hk : 3 * m + 20 < k) : ∃ r, postchaiselaw07_great.f k l (m : Int) = some r ∧ (r = false → l.length ≤ m ∧ Inc l 0) :=
  great_l0 l m hm (m + 1) 0 k rfl (Nat.zero_le _) (by omega)
theorem inc_le {l : List Rec} (h : Inc l 0) (i : Nat) : ∀ (d : Nat) (hj : i + d + 1 < l.length), (l[i]'(by omega)).f0 < l[i + d + 1].f0
  | 0, hj => (h (i + 0 + 1) hj (Nat.zero_le _)).2 (by omega)
  | d + 1, hj => Int.lt_trans (inc_le h i d (by omega)) ((h (i + (d + 1) + 1) hj (Nat.zero_le _)).2 (by omega))
theorem inc_srt {l : List Rec} (h : Inc l 0) : Srt l := by
  refine List.pairwise_iff_getElem.2 fun i j hi hj hij => ?_
  obtain ⟨d, rfl⟩ : ∃ d, j = i + d + 1 := ⟨j - i - 1, by omega⟩
  exact inc_le h i d hj
/-- The height that is needed. -/
def hgtN (l : List Rec) : Nat := if h : 0 < l.length then needN (l[l.length - 1]).f0 else 0
theorem hgt_f (l : List Rec) (hl : l.length ≤ 1000000) (hu : ∀ x ∈ l, 0 ≤ x.f0 ∧ x.f0 < 4294967296) (k : Nat) (hk : 8 < k) : postchaiseref07_Height.f k l = some (hgtN l : Int) := by
  unfold postchaiseref07_Height.f hgtN
  by_cases h : 0 < l.length
  · have ew : wrap64 ((l.length : Int) - 1) = ((l.length - 1 : Nat) : Int) := by rw [tw64 (by omega) (by omega)]; omega
    have hlt : l.length - 1 < l.length := by omega
    rw [dif_pos h, if_neg (by omega), ew, if_pos (by omega), if_pos (by omega), rd_at l _ hlt]
    obtain ⟨u0, u1⟩ := hu _ (List.getElem_mem hlt)
    rw [rneed_f _ u0 u1 k hk]
    rfl
  · rw [dif_neg h, if_pos (by omega)]
    rfl
theorem all_lt {l : List Rec} (hs : Srt l) (hu : ∀ x ∈ l, 0 ≤ x.f0 ∧ x.f0 < 4294967296) (h : Nat) (h1 : 1 ≤ h) (hh : hgtN l ≤ h) : ∀ x ∈ l, x.f0 < 16 ^ h := fun x hx => by
  obtain ⟨i, hi, rfl⟩ := List.mem_iff_getElem.1 hx
  unfold hgtN at hh
  rw [dif_pos (by omega)] at hh
  have hlt : l.length - 1 < l.length := by omega
  obtain ⟨u0, u1⟩ := hu _ (List.getElem_mem hlt)
  have h2 := (need_iff _ u0 u1 h h1).1 hh
  by_cases e : i = l.length - 1
  · subst e; exact h2
  · have := List.pairwise_iff_getElem.1 hs i (l.length - 1) hi hlt (by omega)
    omega
theorem all_same {l : List Rec} (hu : ∀ x ∈ l, 0 ≤ x.f0 ∧ x.f0 < 4294967296) (h : Nat) (hlt : ∀ x ∈ l, x.f0 < 16 ^ h) : Same l h := fun x hx y hy => by
  rw [Int.ediv_eq_zero_of_lt (hu x hx).1 (hlt x hx), Int.ediv_eq_zero_of_lt (hu y hy).1 (hlt y hy)]
theorem all_up {l : List Rec} (hu : ∀ x ∈ l, 0 ≤ x.f0 ∧ x.f0 < 4294967296) (h : Nat) (hlt : ∀ x ∈ l, x.f0 < 16 ^ h) (uid : Int) (h0 : 0 ≤ uid) (h1 : uid < 16 ^ h) : Up l uid h := fun x hx => by
  rw [Int.ediv_eq_zero_of_lt (hu x hx).1 (hlt x hx), Int.ediv_eq_zero_of_lt h0 h1]
/-- What a tree tells of its messages. -/
structure IsTree (l : List Rec) (N : List Nd) (root : Int) (hgt : Nat) : Prop where
  len : N.length ≤ 1000000
  hh : hgt ≤ 8
  bl : ∀ s, 0 ≤ belowN N s ∧ belowN N s ≤ 1000000
  cnt : (atN N root).1.cnt = (l.length : Int)
  get : ∀ uid, 0 ≤ uid → uid < 4294967296 → (if needN uid ≤ hgt then getN N uid hgt root else (rc0, false)) = foundV (findU l uid)
  rank : ∀ uid, 0 ≤ uid → uid < 4294967296 → (if needN uid ≤ hgt then rankN N uid hgt root else (atN N root).1.cnt) = cntL (ltU uid) l
  sel : ∀ (k : Nat) (hk : k < l.length), (selN N hgt (atN N root).1 (k : Int)).rc = l[k]
theorem atN_nil (s : Int) : atN [] s = (Nd.zero, false) := by
  unfold atN
  split <;> rfl
theorem isTree_nil : IsTree [] [] (-1) 0 where
  len := by decide
  hh := by decide
  bl := fun s => by unfold belowN; rw [atN_nil]; decide
  cnt := by rw [atN_nil]; rfl
  get := fun uid h0 h1 => by
    rw [if_neg (by have := (need_range uid).1; omega)]
    rfl
  rank := fun uid h0 h1 => by
    rw [if_neg (by have := (need_range uid).1; omega), atN_nil]
    rfl
  sel := fun k hk => absurd hk (by simp)
theorem isTree_build (l : List Rec) (h0 : l ≠ []) (hl : l.length ≤ 1000) (hu : ∀ x ∈ l, 0 ≤ x.f0 ∧ x.f0 < 4294967296) (hs : Srt l) (gap : Nat) (hgap : gap ≤ 1000) (hgt : Nat) (h1 : 1 ≤ hgt) (hh : hgt ≤ 8) (hn : hgtN l ≤ hgt) : IsTree l (shelf gap (build hgt 0 l)) (gap : Int) hgt := by
  have hlt := all_lt hs hu hgt h1 hn
  have hsame := all_same hu hgt hlt
  have hB := build_ok hgt 0 l h0
  have hlen := build_len hgt 0 l h0
  have hlen2 : (build hgt 0 l).length ≤ 9000 := by
    have : (hgt + 1) * l.length ≤ 9 * l.length := Nat.mul_le_mul_right _ (by omega)
    omega
  have hsub := build_sub gap hgt 0 l h0 hsame hs [] [] rfl
  rw [List.nil_append, List.append_nil, Nat.add_zero] at hsub
  have hcnt : (atN (shelf gap (build hgt 0 l)) (gap : Int)).1.cnt = (l.length : Int) := by
    obtain ⟨n, rfl⟩ : ∃ n, hgt = n + 1 := ⟨hgt - 1, by omega⟩
    obtain ⟨nd, e1, e2, e3, _⟩ := hsub
    rw [e1]
    exact e3
  refine ⟨?_, hh, fun s => ?_, hcnt, fun uid u0 u1 => ?_, fun uid u0 u1 => ?_, fun k hk => ?_⟩
  · unfold shelf
    rw [List.length_append, List.length_replicate, List.length_map]
    omega
  · have := below_shelf gap _ _ _ hB s
    omega
  · split
    · next hle => exact get_sub _ uid hgt _ l hsub (all_up hu hgt hlt uid u0 ((need_iff uid u0 u1 hgt h1).1 hle))
    · next hle =>
      have : findU l uid = none := List.find?_eq_none.2 fun x hx => by
        have a1 := hlt x hx
        have a2 : ¬ uid < 16 ^ hgt := fun c => hle ((need_iff uid u0 u1 hgt h1).2 c)
        simp
        omega
      rw [this]
      rfl
  · split
    · next hle => exact rank_sub _ uid hgt _ l hsub (all_up hu hgt hlt uid u0 ((need_iff uid u0 u1 hgt h1).1 hle))
    · next hle =>
      rw [hcnt]
      unfold cntL
      rw [List.filter_eq_self.2 fun x hx => ?_]
      have a1 := hlt x hx
      have a2 : ¬ uid < 16 ^ hgt := fun c => hle ((need_iff uid u0 u1 hgt h1).2 c)
      unfold ltU
      exact decide_eq_true (by omega)
  · exact sel_sub _ hgt _ l hsub hsame hs k _ (List.getElem?_eq_getElem hk)
end Go.Proofs.Ytkcnakaneiocjaa.PTr
