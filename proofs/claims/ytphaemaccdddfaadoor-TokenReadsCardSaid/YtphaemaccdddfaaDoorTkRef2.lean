/- The document's readers, in plain Lean: they are the program's (Number, Word, Next, Literal, String). No condition but those that each bears. -/
import Derived.Test.YtphaemaccdddfaaDoorTkRef
import Derived.Test.YtphaemaccdddfaaDoorTkQuot
import Derived.Test.YtphaemaccdddfaaDoorQTk1
import Derived.Test.YtphaemaccdddfaaDoorQTk4
set_option linter.unusedVariables false
set_option linter.unusedSimpArgs false
namespace Go.Proofs.YtphaemaccdddfaaDoor.PTk
open Go.RowKit Go.Shelf Go.Lib Go.Proofs.YtphaemaccdddfaaDoorW.PrintWords Go.Proofs.YtphaemaccdddfaaDoorW.PrintLast Go.Proofs.YtphaemaccdddfaaDoorW.PrintMore
theorem rest_sz (S : ByteArray) (a : Nat) : (restOf S a false).size = S.size - a := by show (S.extract a S.size).size = _; rw [ByteArray.size_extract]; omega
theorem rest_list (S : ByteArray) (a : Nat) : (restOf S a false).data.toList = S.data.toList.drop a := by
  have hS : S.data.toList.length = S.size := by simp
  show (S.extract a S.size).data.toList = _
  rw [list_extract, ← hS, List.take_length]
theorem numOf_le {x : ByteArray} {u : Nat} (h : numOf x = some u) : u ≤ 4294967295 := by
  rw [numOf_eq] at h
  split at h
  · next hc => rw [← Option.some.inj h]; exact hc.2
  · cases h
theorem numOf_nil : numOf ⟨#[]⟩ = none := by
  rw [numOf_eq, if_neg (fun h => h.1.1 rfl)]
/-- What a reader's number is, and what is left. -/
def numR (S : ByteArray) (a : Nat) (fl : Bool) : Int × Nat × Bool := match numOf ((restOf S a fl).extract 0 (dlen (restOf S a fl))) with
  | some u => ((u : Int), a + dlen (restOf S a fl), fl)
  | none => (0, a, true)
theorem number_both (S : ByteArray) (a : Nat) (fl : Bool) (hS : S.size ≤ 100000) (h : a ≤ S.size) : (numR S a fl).2.1 ≤ S.size ∧ 0 ≤ (numR S a fl).1 ∧ (numR S a fl).1 ≤ 4294967295 ∧
    token_Reader_Number.f (restOf S a fl) fl = some ((numR S a fl).1, restOf S (numR S a fl).2.1 (numR S a fl).2.2, (numR S a fl).2.2) ∧ ∀ k, 3 * S.size + 60 < k → postchaiseref12_Reader_Number.f k S (a : Int) fl = some ((numR S a fl).1, S, ((numR S a fl).2.1 : Int), (numR S a fl).2.2) := by
  have hz := restOf_size S a fl
  have hle : dlen (restOf S a fl) ≤ (restOf S a fl).size := wlen_size digB _
  have href : ∀ k, 3 * S.size + 60 < k → postchaiseref12_Reader_Number.f k S (a : Int) fl = match numOf ((restOf S a fl).extract 0 (dlen (restOf S a fl))) with
      | some u => some ((u : Int), S, ((a + dlen (restOf S a fl) : Nat) : Int), fl)
      | none => some (0, S, (a : Int), true) := by
    intro k hk
    unfold postchaiseref12_Reader_Number.f
    rw [rest_f S a fl h]
    simp only [Option.bind_some]
    rw [row_d _ (by omega) k (by omega)]
    simp only [Option.bind_some]
    have hn := number_f ((restOf S a fl).extract 0 (dlen (restOf S a fl))) 4294967295 k (by omega)
    have ec : ((4294967295 : Nat) : Int) = 4294967295 := rfl
    rw [ec] at hn
    have ew : wrap64 ((a : Int) + (dlen (restOf S a fl) : Int)) = ((a + dlen (restOf S a fl) : Nat) : Int) := by rw [w64n (by omega) (by omega)]; omega
    rw [if_pos (by omega), if_pos (by omega), Int.toNat_natCast, hn, numOf_eq, ew]
    by_cases hc : (((restOf S a fl).extract 0 (dlen (restOf S a fl))).data.toList ≠ [] ∧ ((restOf S a fl).extract 0 (dlen (restOf S a fl))).size ≤ 10 ∧ (((restOf S a fl).extract 0 (dlen (restOf S a fl))).data.toList.length = 1 ∨ ((restOf S a fl).extract 0 (dlen (restOf S a fl))).data.toList.head? ≠ some 48) ∧ (∀ c ∈ ((restOf S a fl).extract 0 (dlen (restOf S a fl))).data.toList, isD c))
    · rw [if_pos hc]
      simp only [Option.bind_some]
      by_cases hv : val ((restOf S a fl).extract 0 (dlen (restOf S a fl))).data.toList ≤ 4294967295
      · rw [if_pos (decide_eq_true hv), if_pos ⟨hc, hv⟩]
        have e : ((val ((restOf S a fl).extract 0 (dlen (restOf S a fl))).data.toList : Nat) : Int) % 4294967296 = (val ((restOf S a fl).extract 0 (dlen (restOf S a fl))).data.toList : Nat) := by omega
        rw [e]
      · rw [if_neg (by rw [decide_eq_false hv]; decide), if_neg (fun h => hv h.2)]; rfl
    · rw [if_neg hc, if_neg (fun h => hc h.1)]; rfl
  unfold token_Reader_Number.f numR
  rw [if_pos (by omega)]
  cases hu : numOf ((restOf S a fl).extract 0 (dlen (restOf S a fl))) with
  | none => exact ⟨h, Int.le_refl _, by simp only; omega, rfl, fun k hk => by rw [href k hk, hu]⟩
  | some u =>
    have hu2 := numOf_le hu
    have hfl : fl = false := by
      cases fl with
      | false => rfl
      | true =>
        exfalso
        have e : (restOf S a true).extract 0 (dlen (restOf S a true)) = ⟨#[]⟩ := rfl
        rw [e, numOf_nil] at hu
        cases hu
    subst hfl
    have := rest_sz S a
    exact ⟨by simp only; omega, by simp only; omega, by simp only; omega, by simp only; rw [restOf_more S a _ h], fun k hk => by rw [href k hk, hu]⟩
/-! ### Word, and what must come -/
def wordB (S : ByteArray) (a : Nat) (fl : Bool) (w : ByteArray) : Bool := !fl && (decide (w.size ≤ S.size - a) && decide (upS (S.extract a (a + w.size)) = upS w))
def wordA (S : ByteArray) (a : Nat) (fl : Bool) (w : ByteArray) : Nat := if wordB S a fl w = true then a + w.size else a
theorem wordA_le (S : ByteArray) (a : Nat) (fl : Bool) (w : ByteArray) (h : a ≤ S.size) : wordA S a fl w ≤ S.size := by
  unfold wordA
  split
  · next e =>
    unfold wordB at e
    simp only [Bool.and_eq_true, decide_eq_true_eq] at e
    omega
  · exact h
theorem word_both (S : ByteArray) (a : Nat) (fl : Bool) (w : ByteArray) (hS : S.size ≤ 100000) (h : a ≤ S.size) (hw : w.size ≤ 100000) :
    token_Reader_Word.f (restOf S a fl) fl w = some (wordB S a fl w, restOf S (wordA S a fl w) fl, fl) ∧ ∀ k, 3 * S.size + 60 < k → postchaiseref12_Reader_Word.f k S (a : Int) fl w = some (wordB S a fl w, S, (wordA S a fl w : Int), fl) := by
  have hz := restOf_size S a fl
  cases fl with
  | true =>
    have e1 : wordB S a true w = false := rfl
    have e2 : wordA S a true w = a := rfl
    rw [e1, e2]
    refine ⟨word_fl _ _ (by omega) (by omega), fun k hk => ?_⟩
    unfold postchaiseref12_Reader_Word.f
    rw [rest_f S a true h]; rfl
  | false =>
    have hsz := rest_sz S a
    by_cases hlt : S.size - a < w.size
    · have e1 : wordB S a false w = false := by unfold wordB; rw [decide_eq_false (by omega)]; rfl
      have e2 : wordA S a false w = a := by unfold wordA; rw [e1]; rfl
      rw [e1, e2]
      refine ⟨word_none _ _ _ (by omega) (by omega), fun k hk => ?_⟩
      unfold postchaiseref12_Reader_Word.f
      rw [rest_f S a false h]
      simp only [Option.bind_some]
      rw [if_neg (by decide), if_pos (by omega)]
    · have ht := restOf_take S a w.size (by omega)
      have e1 : wordB S a false w = decide (upS (S.extract a (a + w.size)) = upS w) := by unfold wordB; rw [decide_eq_true (show w.size ≤ S.size - a by omega)]; rfl
      have hts : (S.extract a (a + w.size)).size ≤ 100000 := by rw [ByteArray.size_extract]; omega
      have ew : wrap64 ((a : Int) + (w.size : Int)) = ((a + w.size : Nat) : Int) := by rw [w64n (by omega) (by omega)]; omega
      constructor
      · unfold token_Reader_Word.f wordA
        rw [if_pos ⟨by omega, by omega⟩, if_neg (by decide), if_neg (by omega), ht, e1]
        by_cases hu : upS (S.extract a (a + w.size)) = upS w
        · rw [if_pos hu, decide_eq_true hu, if_pos rfl, restOf_more S a _ h]
        · rw [if_neg hu, decide_eq_false hu, if_neg (by decide)]
      · intro k hk
        unfold postchaiseref12_Reader_Word.f wordA
        rw [rest_f S a false h]
        simp only [Option.bind_some]
        rw [if_neg (by decide), if_neg (by omega), if_pos (by omega), if_pos (by omega), ht, upper_f _ (by omega) k (by rw [ByteArray.size_extract]; omega), upper_f w (by omega) k (by omega), e1, ew]
        simp only [Option.bind_some]
        by_cases hu : upS (S.extract a (a + w.size)) = upS w
        · rw [if_pos (by rw [hu]), decide_eq_true hu, if_pos rfl]
        · rw [if_neg (by rw [ByteArray.toList_eq, ByteArray.toList_eq]; exact fun e => hu (tk_bytes_ext e)), decide_eq_false hu, if_neg (by decide)]
def mustF (S : ByteArray) (a : Nat) (fl : Bool) (w : ByteArray) : Bool := if wordB S a fl w = true then fl else true
theorem restOf_true (S : ByteArray) (a : Nat) : restOf S a true = ⟨#[]⟩ := rfl
theorem must_both (S : ByteArray) (a : Nat) (fl : Bool) (w : ByteArray) (hS : S.size ≤ 100000) (h : a ≤ S.size) (hw : w.size ≤ 100000) :
    token_Reader_need.f (restOf S (wordA S a fl w) fl) fl (wordB S a fl w) = some (restOf S (wordA S a fl w) (mustF S a fl w), mustF S a fl w) ∧ ∀ k, 3 * S.size + 60 < k → postchaiseref12_Reader_Must.f k S (a : Int) fl w = some (S, (wordA S a fl w : Int), mustF S a fl w) := by
  obtain ⟨_, h2⟩ := word_both S a fl w hS h hw
  constructor
  · unfold token_Reader_need.f mustF
    cases hb : wordB S a fl w with
    | true => rfl
    | false => rfl
  · intro k hk
    unfold postchaiseref12_Reader_Must.f
    rw [h2 k hk]
    unfold mustF
    cases hb : wordB S a fl w with
    | true => rfl
    | false => rfl
theorem next_both (S : ByteArray) (a : Nat) (fl : Bool) (c : UInt8) (z : Int) (hz : z = (c.toNat : Nat)) (h : a ≤ S.size) :
    token_Reader_Next.f (restOf S a fl) fl z = some (nextB (restOf S a fl) c, restOf S a fl, fl) ∧ postchaiseref12_Reader_Next.f S (a : Int) fl z = some (nextB (restOf S a fl) c, S, (a : Int), fl) := by
  subst hz
  have key : ∀ y : ByteArray, (y.data.toList = [] ∧ nextB y c = false) ∨ (y.data.toList ≠ [] ∧ 0 < y.size ∧ (bt y 0 == ((c.toNat : Nat) : Int)) = nextB y c) := by
    intro y
    unfold nextB
    cases e : y.data.toList with
    | nil => exact .inl ⟨rfl, rfl⟩
    | cons d l =>
      right
      have hs : y.data.toList.length = y.size := by simp
      rw [e, List.length_cons] at hs
      refine ⟨by simp, by omega, ?_⟩
      rw [bt_head y d l e, Bool.eq_iff_iff, beq_iff_eq, List.head?_cons, beq_iff_eq]
      constructor
      · intro h; rw [UInt8.toNat_inj.1 (by omega : d.toNat = c.toNat)]
      · intro h; rw [Option.some.inj h]
  have k := key (restOf S a fl)
  unfold token_Reader_Next.f postchaiseref12_Reader_Next.f
  rw [rest_f S a fl h, ByteArray.toList_eq]
  simp only [Option.bind_some]
  rw [ByteArray.toList_eq]
  rcases k with ⟨k1, k2⟩ | ⟨k1, k2, k3⟩
  · rw [if_pos k1, if_pos k1, k2]; exact ⟨rfl, rfl⟩
  · rw [if_neg k1, if_neg k1, if_pos (by omega), if_pos (by omega), k3]; exact ⟨rfl, rfl⟩
/-! ### Literal -/
def litR (S : ByteArray) (a : Nat) (fl : Bool) : ByteArray × Nat × Bool :=
  let a1 := wordA S a fl ⟨#[123]⟩
  let f1 := mustF S a fl ⟨#[123]⟩
  let n := (numR S a1 f1).1
  let a2 := (numR S a1 f1).2.1
  let f2 := (numR S a1 f1).2.2
  let a3 := wordA S a2 f2 ⟨#[125, 13, 10]⟩
  let f3 := mustF S a2 f2 ⟨#[125, 13, 10]⟩
  if 65536 < n ∨ ((restOf S a3 f3).size : Int) < n ∨ f3 = true then (⟨#[]⟩, a3, true) else (S.extract a3 (a3 + n.toNat), a3 + n.toNat, false)
theorem literal_both (S : ByteArray) (a : Nat) (fl : Bool) (hS : S.size ≤ 100000) (h : a ≤ S.size) : (litR S a fl).2.1 ≤ S.size ∧
    token_Reader_Literal.f (restOf S a fl) fl = some ((litR S a fl).1, restOf S (litR S a fl).2.1 (litR S a fl).2.2, (litR S a fl).2.2) ∧ ∀ k, 3 * S.size + 60 < k → postchaiseref12_Reader_Literal.f k S (a : Int) fl = some ((litR S a fl).1, S, ((litR S a fl).2.1 : Int), (litR S a fl).2.2) := by
  have w1 : (⟨#[123]⟩ : ByteArray).size ≤ 100000 := by decide
  have w2 : (⟨#[125, 13, 10]⟩ : ByteArray).size ≤ 100000 := by decide
  obtain ⟨p1, _⟩ := word_both S a fl ⟨#[123]⟩ hS h w1
  obtain ⟨q1, m1⟩ := must_both S a fl ⟨#[123]⟩ hS h w1
  have h1 := wordA_le S a fl ⟨#[123]⟩ h
  unfold litR
  obtain ⟨a1, ha1⟩ : ∃ x, wordA S a fl ⟨#[123]⟩ = x := ⟨_, rfl⟩
  obtain ⟨f1, hf1⟩ : ∃ x, mustF S a fl ⟨#[123]⟩ = x := ⟨_, rfl⟩
  rw [ha1] at p1 q1 m1 h1
  rw [hf1] at q1 m1
  simp only [ha1, hf1]
  obtain ⟨h2, n0, n1, p2, m2⟩ := number_both S a1 f1 hS h1
  obtain ⟨n, hn⟩ : ∃ x, (numR S a1 f1).1 = x := ⟨_, rfl⟩
  obtain ⟨a2, ha2⟩ : ∃ x, (numR S a1 f1).2.1 = x := ⟨_, rfl⟩
  obtain ⟨f2, hf2⟩ : ∃ x, (numR S a1 f1).2.2 = x := ⟨_, rfl⟩
  rw [hn] at n0 n1
  rw [ha2] at h2
  rw [hn, ha2, hf2] at p2 m2
  simp only [hn, ha2, hf2]
  obtain ⟨p3, _⟩ := word_both S a2 f2 ⟨#[125, 13, 10]⟩ hS h2 w2
  obtain ⟨q3, m3⟩ := must_both S a2 f2 ⟨#[125, 13, 10]⟩ hS h2 w2
  have h3 := wordA_le S a2 f2 ⟨#[125, 13, 10]⟩ h2
  obtain ⟨a3, ha3⟩ : ∃ x, wordA S a2 f2 ⟨#[125, 13, 10]⟩ = x := ⟨_, rfl⟩
  obtain ⟨f3, hf3⟩ : ∃ x, mustF S a2 f2 ⟨#[125, 13, 10]⟩ = x := ⟨_, rfl⟩
  rw [ha3] at p3 q3 m3 h3
  rw [hf3] at q3 m3
  simp only [ha3, hf3]
  have ew : wrap64 n = n := w64n (by omega) (by omega)
  have hP : token_Reader_Literal.f (restOf S a fl) fl = if 65536 < n ∨ ((restOf S a3 f3).size : Int) < n ∨ f3 = true then some (⟨#[]⟩, restOf S a3 true, true) else some (S.extract a3 (a3 + n.toNat), restOf S (a3 + n.toNat) false, false) := by
    unfold token_Reader_Literal.f
    rw [p1]
    simp only [Option.bind_some]
    rw [q1]
    simp only [Option.bind_some]
    rw [p2]
    simp only [Option.bind_some]
    rw [p3]
    simp only [Option.bind_some]
    rw [q3]
    simp only [Option.bind_some]
    rw [ew]
    by_cases c1 : n ≤ 65536
    · rw [if_pos c1]
      by_cases c2 : n ≤ ((restOf S a3 f3).size : Int)
      · rw [decide_eq_true c2]
        have e : token_Reader_need.f (restOf S a3 f3) f3 true = some (restOf S a3 f3, f3) := rfl
        rw [e]
        simp only [Option.bind_some]
        cases f3 with
        | true => rw [if_pos rfl, if_pos (.inr (.inr rfl))]
        | false =>
          have hsz := rest_sz S a3
          rw [if_neg (by decide), if_neg (by rintro (h | h | h); omega; omega; cases h)]
          unfold token_Reader_take.f
          rw [if_pos n0, if_pos c2]
          simp only [Option.bind_some]
          rw [restOf_take S a3 n.toNat (by omega), restOf_more S a3 _ h3]
      · rw [decide_eq_false c2, if_pos (.inr (.inl (by omega)))]
        rfl
    · rw [if_neg c1, if_pos (.inl (by omega))]
      rfl
  have hQ : ∀ k, 3 * S.size + 60 < k → postchaiseref12_Reader_Literal.f k S (a : Int) fl = if 65536 < n ∨ ((restOf S a3 f3).size : Int) < n ∨ f3 = true then some (⟨#[]⟩, S, (a3 : Int), true) else some (S.extract a3 (a3 + n.toNat), S, ((a3 + n.toNat : Nat) : Int), false) := by
    intro k hk
    unfold postchaiseref12_Reader_Literal.f
    rw [m1 k hk]
    simp only [Option.bind_some]
    rw [m2 k hk]
    simp only [Option.bind_some]
    rw [m3 k hk]
    simp only [Option.bind_some]
    rw [ew]
    obtain ⟨k, rfl⟩ : ∃ m, k = m + 1 := ⟨k - 1, by omega⟩
    by_cases c1 : n > 65536
    · rw [if_pos c1, if_pos (.inl c1)]
      rfl
    · rw [if_neg c1, rest_f S a3 f3 h3]
      simp only [Option.bind_some]
      by_cases c2 : n > ((restOf S a3 f3).size : Int)
      · rw [decide_eq_true c2, if_pos (.inr (.inl c2))]
        rfl
      · rw [decide_eq_false c2]
        unfold postchaiseref12_Reader_Literal.j0
        simp only [Bool.false_eq_true, if_false]
        cases f3 with
        | true => rw [if_pos rfl, if_pos (.inr (.inr rfl))]
        | false =>
          have hsz := rest_sz S a3
          have e1 : wrap64 ((a3 : Int) + n) = ((a3 + n.toNat : Nat) : Int) := by rw [w64n (by omega) (by omega)]; omega
          have e2 : wrap64 (((a3 + n.toNat : Nat) : Int) - n) = (a3 : Int) := by rw [w64n (by omega) (by omega)]; omega
          simp only [Bool.false_eq_true, if_false, or_false]
          rw [if_neg (show ¬ (65536 < n ∨ ((restOf S a3 false).size : Int) < n) by omega), e1, e2, if_pos (by omega), if_pos (by omega), if_pos (by omega), Int.toNat_natCast, Int.toNat_natCast]
  by_cases hc : 65536 < n ∨ ((restOf S a3 f3).size : Int) < n ∨ f3 = true
  · rw [if_pos hc] at hP
    rw [if_pos hc]
    exact ⟨h3, hP, fun k hk => by rw [hQ k hk, if_pos hc]⟩
  · rw [if_neg hc] at hP
    rw [if_neg hc]
    have hf : f3 = false := by cases f3 with | false => rfl | true => exact absurd (.inr (.inr rfl)) hc
    subst hf
    have hsz := rest_sz S a3
    refine ⟨?_, hP, fun k hk => by rw [hQ k hk, if_neg hc]⟩
    show a3 + n.toNat ≤ S.size
    have : ¬ ((restOf S a3 false).size : Int) < n := fun e => hc (.inr (.inl e))
    omega
end Go.Proofs.YtphaemaccdddfaaDoor.PTk
