/- Trees: the document's Get and Rank, in plain terms. No program in sight. No condition. -/
import Derived.Test.YtkcnakaneiocjaaTrPlain2
set_option linter.unusedVariables false
set_option linter.unusedSimpArgs false
namespace Go.Proofs.Ytkcnakaneiocjaa.PTr
open Go.RowKit Go.Proofs.YtkcnakaneiocjaaW.PrintWords Go.Proofs.YtkcnakaneiocjaaW.PrintLast Go.Proofs.YtkcnakaneiocjaaW.PrintMore
theorem rd_at (l : List Rec) (i : Nat) (hi : i < l.length) : rd_T41 l (i : Int) = l[i] := by
  unfold rd_T41
  rw [Int.toNat_natCast, List.getD_eq_getElem?_getD, List.getElem?_eq_getElem hi]
  rfl
theorem rget_l0 (l : List Rec) (hl : l.length ≤ 1000000) (uid : Int) : ∀ (d i k : Nat), d + i = l.length → d < k →
    postchaiseref07_Get.l0 k l uid (i : Int) = some ((foundV (findU (l.drop i) uid)).1.f0, (foundV (findU (l.drop i) uid)).1.f1, (foundV (findU (l.drop i) uid)).1.f2, (foundV (findU (l.drop i) uid)).2)
  | 0, i, k, h, hk => by
    obtain ⟨m, rfl⟩ : ∃ m, k = m + 1 := ⟨k - 1, by omega⟩
    simp only [postchaiseref07_Get.l0]
    rw [if_neg (by omega), List.drop_eq_nil_of_le (by omega)]
    rfl
  | d + 1, i, k, h, hk => by
    obtain ⟨m, rfl⟩ : ∃ m, k = m + 1 := ⟨k - 1, by omega⟩
    have hi : i < l.length := by omega
    simp only [postchaiseref07_Get.l0]
    have ew : wrap64 ((i : Int) + 1) = ((i + 1 : Nat) : Int) := by rw [tw64 (by omega) (by omega)]; omega
    rw [if_pos (by omega), if_pos (by omega), rd_at l i hi, ew, List.drop_eq_getElem_cons hi]
    by_cases e : l[i].f0 = uid
    · rw [if_pos e]
      have : findU (l[i] :: l.drop (i + 1)) uid = some l[i] := List.find?_cons_of_pos (by simp [e])
      rw [this]
      rfl
    · rw [if_neg e]
      have : findU (l[i] :: l.drop (i + 1)) uid = findU (l.drop (i + 1)) uid := List.find?_cons_of_neg (by simp [e])
      rw [this]
      exact rget_l0 l hl uid d (i + 1) m (by omega) (by omega)
theorem rget_f (l : List Rec) (hl : l.length ≤ 1000000) (uid : Int) (k : Nat) (hk : l.length < k) : postchaiseref07_Get.f k l uid = some ((foundV (findU l uid)).1.f0, (foundV (findU l uid)).1.f1, (foundV (findU l uid)).1.f2, (foundV (findU l uid)).2) :=
  rget_l0 l hl uid l.length 0 k (by omega) hk
theorem rrank_l0 (l : List Rec) (hl : l.length ≤ 1000000) (uid : Int) : ∀ (d i k : Nat) (c : Int), d + i = l.length → d < k → 0 ≤ c → c ≤ (i : Int) →
    postchaiseref07_Rank.l0 k l uid c (i : Int) = some (c + cntL (ltU uid) (l.drop i))
  | 0, i, k, c, h, hk, h0, h1 => by
    obtain ⟨m, rfl⟩ : ∃ m, k = m + 1 := ⟨k - 1, by omega⟩
    simp only [postchaiseref07_Rank.l0]
    rw [if_neg (by omega), List.drop_eq_nil_of_le (by omega)]
    show some c = some (c + 0)
    rw [Int.add_zero]
  | d + 1, i, k, c, h, hk, h0, h1 => by
    obtain ⟨m, rfl⟩ : ∃ m, k = m + 1 := ⟨k - 1, by omega⟩
    have hi : i < l.length := by omega
    simp only [postchaiseref07_Rank.l0]
    have ew : wrap64 ((i : Int) + 1) = ((i + 1 : Nat) : Int) := by rw [tw64 (by omega) (by omega)]; omega
    rw [if_pos (by omega), if_pos (by omega), rd_at l i hi, ew, List.drop_eq_getElem_cons hi, tw64 (by omega) (by omega)]
    by_cases e : l[i].f0 < uid
    · rw [if_pos e, rrank_l0 l hl uid d (i + 1) m (c + 1) (by omega) (by omega) (by omega) (by omega)]
      have : cntL (ltU uid) (l[i] :: l.drop (i + 1)) = 1 + cntL (ltU uid) (l.drop (i + 1)) := by
        unfold cntL ltU
        rw [List.filter_cons, if_pos (by simpa using e), List.length_cons]
        omega
      rw [this]
      congr 1
      omega
    · rw [if_neg e, rrank_l0 l hl uid d (i + 1) m c (by omega) (by omega) (by omega) (by omega)]
      have : cntL (ltU uid) (l[i] :: l.drop (i + 1)) = cntL (ltU uid) (l.drop (i + 1)) := by
        unfold cntL ltU
        rw [List.filter_cons, if_neg (by simpa using e)]
      rw [this]
theorem rrank_f (l : List Rec) (hl : l.length ≤ 1000000) (uid : Int) (k : Nat) (hk : l.length < k) : postchaiseref07_Rank.f k l uid = some (cntL (ltU uid) l) := by
  have := rrank_l0 l hl uid l.length 0 k 0 (by omega) hk (Int.le_refl _) (Int.le_refl _)
  rw [Int.zero_add] at this
  exact this
end Go.Proofs.Ytkcnakaneiocjaa.PTr
