/- Chapter 11, plain lists: what the printed functions of the reference and of the program tell. No condition but those that each bears. -/
import Derived.Test.YtlklegdaeffcpaaQList4
import Derived.Test.YtlklegdaeffcpaaListHand

namespace Go.Proofs.Ytlklegdaeffcpaa.PList
open Go.RowKit Go.Proofs.YtlklegdaeffcpaaW.PrintWords Go.Proofs.YtlklegdaeffcpaaW.PrintLast Go.Proofs.YtlklegdaeffcpaaW.PrintMore
theorem w64 (x : Int) (h0 : -9223372036854775808 ≤ x) (h1 : x ≤ 9223372036854775807) : wrap64 x = x := by unfold wrap64; omega
def ofR (e : S40) : S35 := ⟨e.f0, e.f1⟩
def ofM (n : S42) : S37 := ⟨n.f0, n.f1, ofR n.f2⟩
def own (l : List S40) : List S35 := l.map ofR
theorem own_len (l : List S40) : (own l).length = l.length := by simp [own]
theorem rd40 (l : List S40) (i : Nat) (h : i < l.length) : rd_T40 l i = l[i] := by unfold rd_T40; simp [h]
theorem rd35 (l : List S35) (i : Nat) (h : i < l.length) : rd_T35 l i = l[i] := by unfold rd_T35; simp [h]
theorem rd42 (l : List S42) (i : Nat) (h : i < l.length) : rd_T42 l i = l[i] := by unfold rd_T42; simp [h]
theorem rd37 (l : List S37) (i : Nat) (h : i < l.length) : rd_T37 l i = l[i] := by unfold rd_T37; simp [h]
theorem own_get (l : List S40) (i : Nat) (h : i < (own l).length) : (own l)[i] = ofR (l[i]'(by rw [own_len] at h; exact h)) := by simp [own]
/-- The reference's place. -/
def fndR : List S40 → Int → Int
  | [], _ => -1
  | e :: l, u => if e.f0 = u then 0 else if fndR l u < 0 then -1 else fndR l u + 1
theorem fnd_own (l : List S40) (u : Int) : fnd (own l) u = fndR l u := by
  induction l with
  | nil => rfl
  | cons e l ih =>
    show (if e.f0 = u then (0 : Int) else if fnd (own l) u < 0 then -1 else fnd (own l) u + 1) = _
    rw [ih]; rfl
theorem fndR_le (l : List S40) (u : Int) : -1 ≤ fndR l u ∧ fndR l u < l.length := by
  rw [← fnd_own, ← own_len]; exact fnd_le _ _
/-- What it finds. -/
theorem fndR_at (l : List S40) (u : Int) (h : ¬ fndR l u < 0) : ∃ i : Nat, ∃ h : i < l.length, fndR l u = i ∧ (l[i]).f0 = u := by
  induction l with
  | nil => unfold fndR at h; omega
  | cons e l ih =>
    unfold fndR at h ⊢
    by_cases e0 : e.f0 = u
    · exact ⟨0, by simp, by rw [if_pos e0]; rfl, e0⟩
    · rw [if_neg e0] at h ⊢
      by_cases e1 : fndR l u < 0
      · rw [if_pos e1] at h; omega
      · obtain ⟨i, hi, h1, h2⟩ := ih e1
        refine ⟨i + 1, by simp; omega, ?_, by simpa using h2⟩
        rw [if_neg e1, h1]; rfl
/-- What is there is found. -/
theorem fndR_mem (l : List S40) (u : Int) (i : Nat) (h : i < l.length) (hu : (l[i]).f0 = u) : ¬ fndR l u < 0 := by
  induction l generalizing i with
  | nil => exact absurd h (Nat.not_lt_zero _)
  | cons e l ih =>
    unfold fndR
    by_cases e0 : e.f0 = u
    · rw [if_pos e0]; omega
    · rw [if_neg e0]
      cases i with
      | zero => exact absurd hu e0
      | succ i =>
        have := ih i (by simpa using h) (by simpa using hu)
        rw [if_neg this]; omega
theorem find_l0 (L : List S40) (u : Int) (hl : L.length ≤ 1000000) : ∀ (d i k : Nat), i + d = L.length → d < k → postchaiseref11_Find.l0 k L u i = some (if fndR (L.drop i) u < 0 then -1 else i + fndR (L.drop i) u) := by
  intro d
  induction d with
  | zero =>
    intro i k hi hk
    obtain ⟨k, rfl⟩ : ∃ m, k = m + 1 := ⟨k - 1, by omega⟩
    simp only [postchaiseref11_Find.l0]
    rw [if_neg (by omega), List.drop_eq_nil_of_le (by omega)]
    rfl
  | succ d ih =>
    intro i k hi hk
    obtain ⟨k, rfl⟩ : ∃ m, k = m + 1 := ⟨k - 1, by omega⟩
    simp only [postchaiseref11_Find.l0]
    have hlt : i < L.length := by omega
    rw [if_pos (by omega), if_pos (by omega), rd40 L i hlt, List.drop_eq_getElem_cons hlt]
    unfold fndR
    by_cases e : (L[i]).f0 = u
    · rw [if_pos e, if_pos e, if_neg (by omega)]; simp
    · rw [if_neg e, if_neg e, w64 _ (by omega) (by omega)]
      have := ih (i + 1) k (by omega) (by omega)
      rw [show ((i : Int) + 1) = ((i + 1 : Nat) : Int) by omega, this]
      by_cases e2 : fndR (L.drop (i + 1)) u < 0
      · rw [if_pos e2, if_pos e2, if_pos (by omega)]
      · rw [if_neg e2, if_neg e2, if_neg (by omega)]
        congr 1
        omega
theorem find_f (L : List S40) (u : Int) (hl : L.length ≤ 1000000) (k : Nat) (hk : L.length < k) : postchaiseref11_Find.f k L u = some (fndR L u) := by
  unfold postchaiseref11_Find.f
  have := find_l0 L u hl L.length 0 k (by omega) hk
  rw [List.drop_zero] at this
  refine this.trans ?_
  have h := fndR_le L u
  by_cases e : fndR L u < 0
  · rw [if_pos e]; congr 1; omega
  · rw [if_neg e]; simp
/-- Numbers rise, from 1 on. -/
structure RisesP (L : List S40) : Prop where
  first : ∀ h : 0 < L.length, (L[0]).f0 ≠ 0
  next : ∀ (i : Nat) (h : i + 1 < L.length), (L[i]).f0 < (L[i + 1]).f0
theorem rises_l0 (L : List S40) (hl : L.length ≤ 1000000) : ∀ (d i k : Nat), 1 ≤ i → i + d = L.length → d < k → ∃ b, postchaiseref11_Rises.l0 k L i = some b ∧ (b = true → ∀ (j : Nat) (h : j + 1 < L.length), i ≤ j + 1 → (L[j]).f0 < (L[j + 1]).f0) := by
  intro d
  induction d with
  | zero =>
    intro i k h1 hi hk
    obtain ⟨k, rfl⟩ : ∃ m, k = m + 1 := ⟨k - 1, by omega⟩
    simp only [postchaiseref11_Rises.l0]
    rw [if_neg (by omega)]
    exact ⟨_, rfl, fun _ j hj h => by omega⟩
  | succ d ih =>
    intro i k h1 hi hk
    obtain ⟨k, rfl⟩ : ∃ m, k = m + 1 := ⟨k - 1, by omega⟩
    obtain ⟨p, rfl⟩ : ∃ p, i = p + 1 := ⟨i - 1, by omega⟩
    simp only [postchaiseref11_Rises.l0]
    have e1 : ((p + 1 : Nat) : Int) - 1 = (p : Int) := by omega
    rw [e1, w64 (p : Int) (by omega) (by omega), if_pos (by omega), if_pos (by omega), if_pos (by omega), if_pos (by omega), rd40 L (p + 1) (by omega), rd40 L p (by omega)]
    by_cases e : (L[p + 1]).f0 ≤ (L[p]).f0
    · rw [if_pos e]; exact ⟨_, rfl, fun h => by cases h⟩
    · rw [if_neg e, w64 _ (by omega) (by omega), show (((p + 1 : Nat) : Int) + 1) = ((p + 1 + 1 : Nat) : Int) by omega]
      obtain ⟨b, hb, hp⟩ := ih (p + 1 + 1) k (by omega) (by omega) (by omega)
      refine ⟨b, hb, fun h j hj hij => ?_⟩
      by_cases ej : j = p
      · subst ej; omega
      · exact hp h j hj (by omega)
theorem rises_f (L : List S40) (hl : L.length ≤ 1000000) (k : Nat) (hk : L.length + 2 < k) : ∃ b, postchaiseref11_Rises.f k L = some b ∧ (b = true → RisesP L) := by
  obtain ⟨k, rfl⟩ : ∃ m, k = m + 1 := ⟨k - 1, by omega⟩
  unfold postchaiseref11_Rises.f
  by_cases h0 : 0 < L.length
  · rw [if_pos (by omega), if_pos (by omega)]
    simp only [postchaiseref11_Rises.j0]
    have e0 : rd_T40 L 0 = L[0] := rd40 L 0 h0
    rw [e0]
    by_cases e : (L[0]).f0 = 0
    · rw [e]; exact ⟨_, rfl, fun h => by cases h⟩
    · rw [if_neg (by simpa using e)]
      obtain ⟨b, hb, hp⟩ := rises_l0 L hl (L.length - 1) 1 k (by omega) (by omega) (by omega)
      exact ⟨b, hb, fun h => ⟨fun _ => e, fun j hj => hp h j hj (by omega)⟩⟩
  · rw [if_neg (by omega)]
    simp only [postchaiseref11_Rises.j0]
    rw [if_neg (by decide)]
    obtain ⟨k, rfl⟩ : ∃ m, k = m + 1 := ⟨k - 1, by omega⟩
    simp only [postchaiseref11_Rises.l0]
    rw [if_neg (by omega)]
    exact ⟨_, rfl, fun _ => ⟨fun h => absurd h h0, fun j hj => by omega⟩⟩
/-- A list may become another one. -/
structure MayP (L N : List S40) : Prop where
  l : RisesP L
  n : RisesP N
  new : ∀ (i : Nat) (h : i < N.length), fndR L (N[i]).f0 < 0 → ∀ h0 : 0 < L.length, (L[L.length - 1]).f0 ≤ (N[i]).f0
theorem may_l0 (L N : List S40) (hl : L.length ≤ 1000000) (hn : N.length ≤ 1000000) : ∀ (d i k : Nat), i + d = N.length → d + L.length < k → ∃ b, postchaiseref11_May.l0 k L N i = some b ∧
    (b = true → ∀ (j : Nat) (h : j < N.length), i ≤ j → fndR L (N[j]).f0 < 0 → ∀ h0 : 0 < L.length, (L[L.length - 1]).f0 ≤ (N[j]).f0) := by
  intro d
  induction d with
  | zero =>
    intro i k hi hk
    obtain ⟨k, rfl⟩ : ∃ m, k = m + 1 := ⟨k - 1, by omega⟩
    simp only [postchaiseref11_May.l0]
    rw [if_neg (by omega)]
    exact ⟨_, rfl, fun _ j hj h => by omega⟩
  | succ d ih =>
    intro i k hi hk
    obtain ⟨k, rfl⟩ : ∃ m, k = m + 1 := ⟨k - 1, by omega⟩
    simp only [postchaiseref11_May.l0]
    have hlt : i < N.length := by omega
    rw [if_pos (by omega), if_pos (by omega), rd40 N i hlt, find_f L _ hl k (by omega), w64 ((i : Int) + 1) (by omega) (by omega), show ((i : Int) + 1) = ((i + 1 : Nat) : Int) by omega]
    simp only [Option.bind_some]
    obtain ⟨b, hb, hp⟩ := ih (i + 1) k (by omega) (by omega)
    have fin : (fndR L (N[i]).f0 < 0 → ∀ h0 : 0 < L.length, (L[L.length - 1]).f0 ≤ (N[i]).f0) → ∃ b, postchaiseref11_May.l0 k L N ((i + 1 : Nat) : Int) = some b ∧ (b = true → ∀ (j : Nat) (h : j < N.length), i ≤ j → fndR L (N[j]).f0 < 0 → ∀ h0 : 0 < L.length, (L[L.length - 1]).f0 ≤ (N[j]).f0) := fun hi0 =>
      ⟨b, hb, fun h j hj hij => by
        by_cases ej : j = i
        · subst ej; exact hi0
        · exact hp h j hj (by omega)⟩
    by_cases e : fndR L (N[i]).f0 < 0
    · rw [if_pos e]
      by_cases e0 : 0 < L.length
      · have e1 : (L.length : Int) - 1 = ((L.length - 1 : Nat) : Int) := by omega
        rw [if_pos (by omega), e1, w64 _ (by omega) (by omega), if_pos (by omega), if_pos (by omega), rd40 L _ (by omega)]
        by_cases e2 : (N[i]).f0 < (L[L.length - 1]).f0
        · rw [if_pos e2]; exact ⟨_, rfl, fun h => by cases h⟩
        · rw [if_neg e2]; exact fin (fun _ _ => by omega)
      · rw [if_neg (by omega)]; exact fin (fun _ h => absurd h e0)
    · rw [if_neg e]; exact fin (fun h => absurd h e)
theorem may_f (L N : List S40) (hl : L.length ≤ 1000000) (hn : N.length ≤ 1000000) (k : Nat) (hk : N.length + L.length + 3 < k) : ∃ b, postchaiseref11_May.f k L N = some b ∧ (b = true → MayP L N) := by
  unfold postchaiseref11_May.f
  obtain ⟨b1, h1, p1⟩ := rises_f L hl k (by omega)
  obtain ⟨b2, h2, p2⟩ := rises_f N hn k (by omega)
  obtain ⟨k, rfl⟩ : ∃ m, k = m + 1 := ⟨k - 1, by omega⟩
  rw [h1, h2]
  simp only [Option.bind_some]
  cases b1 with
  | false => exact ⟨false, by simp [postchaiseref11_May.j0], fun h => by cases h⟩
  | true =>
    cases b2 with
    | false => exact ⟨false, by simp [postchaiseref11_May.j0], fun h => by cases h⟩
    | true =>
      obtain ⟨b, hb, hp⟩ := may_l0 L N hl hn N.length 0 k (by omega) (by omega)
      exact ⟨b, by simpa [postchaiseref11_May.j0] using hb, fun h => ⟨p1 rfl, p2 rfl, fun i hi => hp h i hi (by omega)⟩⟩
end Go.Proofs.Ytlklegdaeffcpaa.PList
