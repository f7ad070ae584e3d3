/- Decimal numerals, in plain Lean: what digits spell. No condition but those that each bears. -/
import Derived.Test.YtphaemaccdddfaaDoorNum
set_option linter.unusedVariables false
set_option linter.unusedSimpArgs false
namespace Go.Proofs.YtphaemaccdddfaaDoor
open Go.RowKit Go.Shelf Go.Lib
def isD (c : UInt8) : Prop := 48 ≤ c.toNat ∧ c.toNat ≤ 57
/-- What digits spell. -/
def val (l : List UInt8) : Nat := l.foldl (fun a c => a * 10 + (c.toNat - 48)) 0
theorem foldl_val : ∀ (l : List UInt8) (a : Nat), l.foldl (fun a c => a * 10 + (c.toNat - 48)) a = a * 10 ^ l.length + val l
  | [], a => by simp [val]
  | c :: l, a => by
    show l.foldl _ (a * 10 + (c.toNat - 48)) = _
    have h2 : val (c :: l) = l.foldl (fun a c => a * 10 + (c.toNat - 48)) (0 * 10 + (c.toNat - 48)) := rfl
    rw [h2, foldl_val l (a * 10 + (c.toNat - 48)), foldl_val l (0 * 10 + (c.toNat - 48)), List.length_cons, Nat.pow_succ]
    simp only [Nat.add_mul, Nat.zero_mul, Nat.zero_add, Nat.mul_assoc, Nat.mul_comm 10, Nat.add_assoc]
theorem val_cons (c : UInt8) (l : List UInt8) : val (c :: l) = (c.toNat - 48) * 10 ^ l.length + val l := by
  have h2 : val (c :: l) = l.foldl (fun a c => a * 10 + (c.toNat - 48)) (0 * 10 + (c.toNat - 48)) := rfl
  rw [h2, foldl_val, Nat.zero_mul, Nat.zero_add]
theorem val_snoc (l : List UInt8) (c : UInt8) : val (l ++ [c]) = val l * 10 + (c.toNat - 48) := by
  unfold val; rw [List.foldl_append]; rfl
theorem ofNat_digit {d : Nat} (h : d < 10) : (UInt8.ofNat (48 + d)).toNat = 48 + d := by rw [UInt8.toNat_ofNat']; omega
theorem dec_all (u : Nat) : ∀ c ∈ decDigits u, isD c := by
  induction u using Nat.strongRecOn with
  | _ u ih =>
    intro c hc
    rw [decDigits] at hc
    by_cases h : u < 10
    · rw [dif_pos h] at hc
      rw [List.mem_singleton.1 hc]
      unfold isD
      rw [ofNat_digit h]; omega
    · rw [dif_neg h] at hc
      rcases List.mem_append.1 hc with hc | hc
      · exact ih (u / 10) (by omega) c hc
      · rw [List.mem_singleton.1 hc]
        unfold isD
        rw [ofNat_digit (by omega)]; omega
theorem val_dec (u : Nat) : val (decDigits u) = u := by
  induction u using Nat.strongRecOn with
  | _ u ih =>
    rw [decDigits]
    by_cases h : u < 10
    · rw [dif_pos h]
      show 0 * 10 + ((UInt8.ofNat (48 + u)).toNat - 48) = u
      rw [ofNat_digit h]; omega
    · rw [dif_neg h, val_snoc, ih (u / 10) (by omega), ofNat_digit (by omega)]; omega
theorem dec_ne (u : Nat) : decDigits u ≠ [] := by
  rw [decDigits]
  split <;> simp
theorem head_append {l m : List UInt8} (h : l ≠ []) : (l ++ m).head? = l.head? := by
  cases l with
  | nil => exact absurd rfl h
  | cons a l => rfl
theorem dec_head (u : Nat) (hu : 0 < u) : (decDigits u).head? ≠ some 48 := by
  induction u using Nat.strongRecOn with
  | _ u ih =>
    rw [decDigits]
    by_cases h : u < 10
    · rw [dif_pos h]
      intro e
      have := congrArg UInt8.toNat (Option.some.inj e)
      rw [ofNat_digit h] at this
      have h48 : (48 : UInt8).toNat = 48 := rfl
      omega
    · rw [dif_neg h, head_append (dec_ne _)]
      exact ih (u / 10) (by omega) (by omega)
theorem dec_len : ∀ (n u : Nat), u < 10 ^ (n + 1) → (decDigits u).length ≤ n + 1
  | 0, u, h => by rw [decDigits, dif_pos (by simpa using h)]; simp
  | n + 1, u, h => by
    rw [decDigits]
    by_cases h2 : u < 10
    · rw [dif_pos h2]; simp
    · rw [dif_neg h2, List.length_append]
      have := dec_len n (u / 10) (by rw [Nat.pow_succ] at h; omega)
      simp; omega
theorem val_pos {l : List UInt8} (hd : ∀ c ∈ l, isD c) (hn : l ≠ []) (hh : l.head? ≠ some 48) : 0 < val l := by
  cases l with
  | nil => exact absurd rfl hn
  | cons c l =>
    rw [val_cons]
    have h1 := hd c List.mem_cons_self
    have h2 : c.toNat ≠ 48 := fun e => hh (by
      have : c = 48 := UInt8.toNat_inj.1 e
      rw [this]; rfl)
    have h3 : 1 ≤ c.toNat - 48 := by unfold isD at h1; omega
    have h4 : 0 < 10 ^ l.length := Nat.pow_pos (by omega)
    have := Nat.mul_le_mul h3 (Nat.le_refl (10 ^ l.length))
    omega
theorem val_lt : ∀ {l : List UInt8}, (∀ c ∈ l, isD c) → val l < 10 ^ l.length
  | [], _ => by simp [val]
  | c :: l, h => by
    rw [val_cons, List.length_cons, Nat.pow_succ]
    have h1 := h c List.mem_cons_self
    have h2 := val_lt fun x hx => h x (List.mem_cons_of_mem c hx)
    have h3 : c.toNat - 48 ≤ 9 := by unfold isD at h1; omega
    have := Nat.mul_le_mul h3 (Nat.le_refl (10 ^ l.length))
    omega
/-- Digits without a nought ahead of others are a number's numeral. -/
theorem canon : ∀ (n : Nat) (l : List UInt8), l.length = n → l ≠ [] → (∀ c ∈ l, isD c) → (l.length = 1 ∨ l.head? ≠ some 48) → decDigits (val l) = l
  | 0, l, hl, hn, _, _ => absurd (List.length_eq_zero_iff.1 hl) hn
  | n + 1, l, hl, hn, hd, hh => by
    obtain ⟨t, c, rfl⟩ : ∃ t c, l = t ++ [c] := ⟨l.dropLast, l.getLast hn, (List.dropLast_concat_getLast hn).symm⟩
    have hc := hd c (by simp)
    have hc2 : c.toNat - 48 < 10 := by unfold isD at hc; omega
    have hcc : UInt8.ofNat (48 + (c.toNat - 48)) = c := by
      apply UInt8.toNat_inj.1
      rw [ofNat_digit hc2]; unfold isD at hc; omega
    rw [val_snoc]
    by_cases ht : t = []
    · subst ht
      have e : val ([] : List UInt8) = 0 := rfl
      rw [e, Nat.zero_mul, Nat.zero_add, decDigits, dif_pos hc2, hcc]; rfl
    · have hlt : t.length = n := by rw [List.length_append] at hl; simpa using hl
      have hh2 : t.head? ≠ some 48 := by
        rcases hh with h1 | h1
        · rw [List.length_append] at h1
          exact absurd (by simpa using h1) ht
        · rwa [head_append ht] at h1
      have hdt : ∀ x ∈ t, isD x := fun x hx => hd x (List.mem_append_left _ hx)
      have hp := val_pos hdt ht hh2
      have ih := canon n t hlt ht hdt (.inr hh2)
      rw [decDigits, dif_neg (by omega), show (val t * 10 + (c.toNat - 48)) / 10 = val t by omega, show (val t * 10 + (c.toNat - 48)) % 10 = c.toNat - 48 by omega, ih, hcc]
theorem parse_val (M : Nat) (hM : M ≤ 4294967295) : ∀ (l : List UInt8) (acc : Nat), (∀ c ∈ l, isD c) → acc * 10 ^ l.length + val l ≤ M → parseUintM M acc l = .ok (acc * 10 ^ l.length + val l)
  | [], acc, _, _ => by simp [parseUintM, val]
  | c :: l, acc, hd, h => by
    have hc := hd c List.mem_cons_self
    rw [val_cons, List.length_cons] at h
    have e : acc * 10 ^ (l.length + 1) + ((c.toNat - 48) * 10 ^ l.length + val l) = (acc * 10 + (c.toNat - 48)) * 10 ^ l.length + val l := by
      rw [Nat.pow_succ, Nat.add_mul, Nat.mul_assoc acc 10, Nat.mul_comm 10, Nat.add_assoc]
    rw [e] at h
    have h10 : 1 ≤ 10 ^ l.length := Nat.pow_pos (by omega)
    have h5 : acc * 10 + (c.toNat - 48) ≤ M := Nat.le_trans (Nat.le_trans (Nat.le_mul_of_pos_right _ h10) (Nat.le_add_right _ (val l))) h
    unfold parseUintM
    rw [if_pos (show 48 ≤ c.toNat ∧ c.toNat ≤ 57 from hc), if_neg (by omega), if_neg (by omega), parse_val M hM l _ (fun x hx => hd x (List.mem_cons_of_mem _ hx)) h, val_cons, List.length_cons, e]
end Go.Proofs.YtphaemaccdddfaaDoor
