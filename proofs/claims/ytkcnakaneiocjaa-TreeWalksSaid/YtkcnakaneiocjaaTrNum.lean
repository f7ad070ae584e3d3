/- Trees: digits to the base 16, and how many a number has, in plain terms. No condition. -/
import Derived.Test.YtkcnakaneiocjaaQTr2
set_option linter.unusedVariables false
set_option linter.unusedSimpArgs false
namespace Go.Proofs.Ytkcnakaneiocjaa.PTr
open Go.RowKit Go.Proofs.YtkcnakaneiocjaaW.PrintWords Go.Proofs.YtkcnakaneiocjaaW.PrintLast Go.Proofs.YtkcnakaneiocjaaW.PrintMore
theorem tw64 {i : Int} (h0 : -4611686018427387904 < i) (h1 : i < 4611686018427387904) : wrap64 i = i := by
  unfold wrap64; omega
def dig (u : Int) (r : Nat) : Int := u / 16 ^ r % 16
theorem dig_range (u : Int) (r : Nat) : 0 ≤ dig u r ∧ dig u r < 16 := ⟨Int.emod_nonneg _ (by decide), Int.emod_lt_of_pos _ (by decide)⟩
theorem pow16 (r : Nat) : (2 : Int) ^ (4 * r) = 16 ^ r := by rw [Int.pow_mul]; rfl
theorem dig_f (u : Int) (h0 : 0 ≤ u) (r : Nat) (hr : r ≤ 7) : tree_digit.f u (r : Int) = some (dig u r) := by
  unfold tree_digit.f
  have e : wrap64 (4 * (r : Int)) = 4 * (r : Int) := tw64 (by omega) (by omega)
  rw [e, if_pos (by omega)]
  have e2 : shr .u32 u (4 * (r : Int)) = u / 16 ^ r := by
    unfold shr
    have e3 : (4 * (r : Int)).toNat = 4 * r := by omega
    have e4 : IntKind.u32.bits = 32 := rfl
    rw [e3, e4, Nat.min_eq_left (by omega), pow16]
  have e5 : 0 ≤ u / 16 ^ r := Int.ediv_nonneg h0 (Int.le_of_lt (Int.pow_pos (by decide)))
  rw [e2, Int.tmod_eq_emod_of_nonneg e5]
  have := dig_range u r
  unfold dig at this ⊢
  rw [tw64 (by omega) (by omega)]
theorem rdig_l0 : ∀ (d i : Nat) (r k : Nat) (u : Int), 0 ≤ u → u < 4294967296 → d + i = r → r ≤ 1000 → d < k → postchaiseref07_digit.l0 k u (r : Int) (i : Int) = some (u / 16 ^ d % 16)
  | 0, i, r, k, u, h0, h1, h, hr, hk => by
    obtain ⟨m, rfl⟩ : ∃ m, k = m + 1 := ⟨k - 1, by omega⟩
    simp only [postchaiseref07_digit.l0]
    rw [if_neg (by omega), Int.tmod_eq_emod_of_nonneg h0, tw64 (by omega) (by omega)]
    simp
  | d + 1, i, r, k, u, h0, h1, h, hr, hk => by
    obtain ⟨m, rfl⟩ : ∃ m, k = m + 1 := ⟨k - 1, by omega⟩
    simp only [postchaiseref07_digit.l0]
    have e1 : Int.tdiv u 16 = u / 16 := Int.tdiv_eq_ediv_of_nonneg h0
    have e2 : u / 16 % 4294967296 = u / 16 := Int.emod_eq_of_lt (by omega) (by omega)
    rw [if_pos (by omega), e1, e2, tw64 (by omega) (by omega), show (i : Int) + 1 = ((i + 1 : Nat) : Int) by omega,
      rdig_l0 d (i + 1) r m (u / 16) (by omega) (by omega) (by omega) hr (by omega)]
    rw [Int.ediv_ediv_of_nonneg (by decide : (0 : Int) ≤ 16), show (16 : Int) * 16 ^ d = 16 ^ (d + 1) by rw [Int.pow_succ, Int.mul_comm]]
theorem rdig_f (u : Int) (h0 : 0 ≤ u) (h1 : u < 4294967296) (r : Nat) (hr : r ≤ 1000) (k : Nat) (hk : r < k) : postchaiseref07_digit.f k u (r : Int) = some (dig u r) :=
  rdig_l0 r 0 r k u h0 h1 (by omega) hr hk
/-- How many digits a number has. -/
def needN (u : Int) : Nat := if u < 16 then 1 else if u < 256 then 2 else if u < 4096 then 3 else if u < 65536 then 4 else if u < 1048576 then 5 else if u < 16777216 then 6 else if u < 268435456 then 7 else 8
theorem need_range (u : Int) : 1 ≤ needN u ∧ needN u ≤ 8 := by
  unfold needN
  repeat' split
  all_goals omega
theorem need_l0 : ∀ (m : Nat) (u c : Int) (k : Nat), 0 ≤ u → u < 16 ^ (m + 1) → (m = 0 ∨ 16 ^ m ≤ u) → m < k → 0 ≤ c → c + m ≤ 1000 → tree_Need.l0 k u c = some (c + m)
  | 0, u, c, k, h0, h1, _, hk, hc, hc2 => by
    obtain ⟨n, rfl⟩ : ∃ n, k = n + 1 := ⟨k - 1, by omega⟩
    simp only [tree_Need.l0]
    rw [if_neg (by simp at h1; omega)]
    simp
  | m + 1, u, c, k, h0, h1, h2, hk, hc, hc2 => by
    obtain ⟨n, rfl⟩ : ∃ n, k = n + 1 := ⟨k - 1, by omega⟩
    simp only [tree_Need.l0]
    have h3 : (16 : Int) ^ (m + 1) ≤ u := by rcases h2 with h2 | h2 <;> omega
    have h4 : (0 : Int) < 16 ^ m := Int.pow_pos (by decide)
    rw [Int.pow_succ] at h3
    rw [Int.pow_succ, Int.pow_succ] at h1
    have e1 : (16 : Int) ^ m ≤ u / 16 := by omega
    have e2 : u / 16 < 16 ^ (m + 1) := by rw [Int.pow_succ]; omega
    rw [if_pos (by omega), tw64 (by omega) (by omega), need_l0 m (u / 16) (c + 1) n (by omega) e2 (.inr e1) (by omega) (by omega) (by omega)]
    congr 1
    omega
theorem need_bounds (u : Int) (h0 : 0 ≤ u) (h1 : u < 4294967296) : u < 16 ^ needN u ∧ (needN u = 1 ∨ 16 ^ (needN u - 1) ≤ u) := by
  unfold needN
  repeat' split
  all_goals (refine ⟨by simp; omega, ?_⟩; simp; try omega)
theorem need_f (u : Int) (h0 : 0 ≤ u) (h1 : u < 4294967296) (k : Nat) (hk : 8 < k) : tree_Need.f k u = some (needN u : Int) := by
  obtain ⟨h2, h3⟩ := need_bounds u h0 h1
  have h4 := need_range u
  obtain ⟨m, hm⟩ : ∃ m, needN u = m + 1 := ⟨needN u - 1, by omega⟩
  rw [hm] at h2 h3 h4 ⊢
  unfold tree_Need.f
  rw [need_l0 m u 1 k h0 h2 (by rcases h3 with h3 | h3; exact .inl (by omega); exact .inr h3) (by omega) (by omega) (by omega)]
  congr 1
  omega
theorem rneed_l0 : ∀ (k : Nat) (u c : Int), 0 ≤ u → u < 4294967296 → postchaiseref07_Need.l0 k u c = tree_Need.l0 k u c
  | 0, _, _, _, _ => rfl
  | k + 1, u, c, h0, h1 => by
    simp only [postchaiseref07_Need.l0, tree_Need.l0]
    have e1 : Int.tdiv u 16 = u / 16 := Int.tdiv_eq_ediv_of_nonneg h0
    have e2 : u / 16 % 4294967296 = u / 16 := Int.emod_eq_of_lt (by omega) (by omega)
    rw [e1, e2]
    by_cases h : u > 15
    · rw [if_pos h, if_pos (by omega), rneed_l0 k _ _ (by omega) (by omega)]
    · rw [if_neg h, if_neg (by omega)]
theorem rneed_f (u : Int) (h0 : 0 ≤ u) (h1 : u < 4294967296) (k : Nat) (hk : 8 < k) : postchaiseref07_Need.f k u = some (needN u : Int) := by
  unfold postchaiseref07_Need.f
  rw [rneed_l0 k u 1 h0 h1]
  exact need_f u h0 h1 k hk
theorem pow16_add (a : Nat) : ∀ d, (16 : Int) ^ a ≤ 16 ^ (a + d)
  | 0 => Int.le_refl _
  | d + 1 => by
    have h1 := pow16_add a d
    have h2 : (0 : Int) < 16 ^ a := Int.pow_pos (by decide)
    rw [← Nat.add_assoc, Int.pow_succ]
    omega
theorem pow16_mono {a b : Nat} (h : a ≤ b) : (16 : Int) ^ a ≤ 16 ^ b := by
  obtain ⟨d, rfl⟩ : ∃ d, b = a + d := ⟨b - a, by omega⟩
  exact pow16_add a d
theorem need_iff (u : Int) (h0 : 0 ≤ u) (h1 : u < 4294967296) (h : Nat) (hh : 1 ≤ h) : needN u ≤ h ↔ u < 16 ^ h := by
  obtain ⟨h2, h3⟩ := need_bounds u h0 h1
  constructor
  · intro hle
    have : (16 : Int) ^ needN u ≤ 16 ^ h := pow16_mono hle
    omega
  · intro hlt
    rcases h3 with h3 | h3
    · omega
    · by_cases hle : needN u ≤ h
      · exact hle
      · exfalso
        have : (16 : Int) ^ h ≤ 16 ^ (needN u - 1) := pow16_mono (by omega)
        omega
theorem has_f (root hgt u : Int) (h0 : 0 ≤ u) (h1 : u < 4294967296) (k : Nat) (hk : 8 < k) : tree_Tree_has.f k root hgt u = some (decide ((needN u : Int) ≤ hgt)) := by
  unfold tree_Tree_has.f
  rw [need_f u h0 h1 k hk]
  rfl
end Go.Proofs.Ytkcnakaneiocjaa.PTr
