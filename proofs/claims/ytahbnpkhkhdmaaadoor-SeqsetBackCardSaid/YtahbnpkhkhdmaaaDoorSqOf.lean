/- Package seqset: Of, Own and the document's Has and Of, in plain Lean. No condition but those that each bears. -/
import Derived.Test.YtahbnpkhkhdmaaaDoorSqIter
import Derived.Test.YtahbnpkhkhdmaaaDoorSqText
import Derived.Test.YtahbnpkhkhdmaaaDoorQSq6
import Derived.Test.YtahbnpkhkhdmaaaDoorQSq7
import Derived.Test.YtahbnpkhkhdmaaaDoorQSq8
set_option linter.unusedVariables false
set_option linter.unusedSimpArgs false
namespace Go.Proofs.YtahbnpkhkhdmaaaDoor
open Go.RowKit Go.Shelf Go.Lib PSq Go.Proofs.YtahbnpkhkhdmaaaDoorW.PrintWords Go.Proofs.YtahbnpkhkhdmaaaDoorW.PrintLast Go.Proofs.YtahbnpkhkhdmaaaDoorW.PrintMore
def ofR (r : S80) : S78 := ⟨r.f0, r.f1⟩
theorem rdR (l : List S80) {i : Nat} (hi : i < l.length) : rd_T80 l (i : Int) = l[i] := by
  unfold rd_T80
  have e : ((i : Int)).toNat = i := by omega
  rw [e, List.getD_eq_getElem?_getD, List.getElem?_eq_getElem hi]; rfl
theorem own_l0 (l : List S80) (hl : l.length ≤ 1000000) : ∀ (d i k : Nat), d + i = l.length → d < k → postchaiselaw02_Own.l0 k l ((l.take i).map ofR) (i : Int) = some (l.map ofR)
  | 0, i, k, h, hk => by
    obtain ⟨m, rfl⟩ : ∃ m, k = m + 1 := ⟨k - 1, by omega⟩
    unfold postchaiselaw02_Own.l0
    rw [if_neg (by omega), List.take_of_length_le (by omega)]
  | d + 1, i, k, h, hk => by
    obtain ⟨m, rfl⟩ : ∃ m, k = m + 1 := ⟨k - 1, by omega⟩
    have hi : i < l.length := by omega
    have ew : wrap64 ((i : Int) + 1) = ((i + 1 : Nat) : Int) := by rw [w64n (by omega) (by omega)]; omega
    have ih := own_l0 l hl d (i + 1) m (by omega) (by omega)
    have ht : (l.take (i + 1)).map ofR = (l.take i).map ofR ++ [ofR l[i]] := by rw [List.take_succ_eq_append_getElem hi, List.map_append]; rfl
    rw [ht] at ih
    unfold postchaiselaw02_Own.l0
    rw [if_pos (by omega), if_pos (by omega), if_pos (by rw [List.length_map, List.length_take]; omega), rdR l hi, ew]
    exact ih
theorem own_f (l : List S80) (hl : l.length ≤ 1000000) (k : Nat) (hk : l.length < k) : postchaiselaw02_Own.f k l = some (l.map ofR) := by
  unfold postchaiselaw02_Own.f
  exact own_l0 l hl l.length 0 k (by omega) hk
theorem has_one (r : S80) (n last : Int) : ((if r.f0 = 0 then last else r.f0) ≤ n ∧ n ≤ (if r.f1 = 0 then last else r.f1) ∨ (if r.f1 = 0 then last else r.f1) ≤ n ∧ n ≤ (if r.f0 = 0 then last else r.f0)) ↔ (loR (ofR r) last ≤ n ∧ n ≤ hiR (ofR r) last) := by
  show _ ↔ (mn (if r.f0 = 0 then last else r.f0) (if r.f1 = 0 then last else r.f1) ≤ n ∧ n ≤ mx (if r.f0 = 0 then last else r.f0) (if r.f1 = 0 then last else r.f1))
  generalize (if r.f0 = 0 then last else r.f0) = a
  generalize (if r.f1 = 0 then last else r.f1) = b
  unfold mn mx
  split <;> split <;> omega
theorem refHas_l0 (l : List S80) (n last : Nat) (hn : 0 < n) (hl : l.length ≤ 1000000) : ∀ (d i k : Nat), d + i = l.length → 2 * d < k → postchaiseref02_Has.l0 k l (n : Int) (last : Int) (i : Int) = some (hasB ((l.drop i).map ofR) last n)
  | 0, i, k, h, hk => by
    obtain ⟨m, rfl⟩ : ∃ m, k = m + 1 := ⟨k - 1, by omega⟩
    unfold postchaiseref02_Has.l0
    rw [if_neg (by omega), List.drop_eq_nil_of_le (by omega)]
    rfl
  | d + 1, i, k, h, hk => by
    obtain ⟨m, rfl⟩ : ∃ m, k = m + 1 + 1 := ⟨k - 2, by omega⟩
    have hi : i < l.length := by omega
    have ew : wrap64 ((i : Int) + 1) = ((i + 1 : Nat) : Int) := by rw [w64n (by omega) (by omega)]; omega
    have ih := refHas_l0 l n last hn hl d (i + 1) m (by omega) (by omega)
    have hdrop : l.drop i = l[i] :: l.drop (i + 1) := List.drop_eq_getElem_cons hi
    obtain ⟨r, hr⟩ : ∃ r, l[i] = r := ⟨_, rfl⟩
    have hone := has_one r n last
    have hj : ∀ a b : Int, (a = if r.f0 = 0 then (last : Int) else r.f0) → b = r.f1 → postchaiseref02_Has.j1 (m + 1) l (n : Int) (last : Int) (i : Int) a b = some (hasB ((l.drop i).map ofR) last n) := by
      intro a b ha hb
      have hcons : hasB ((l.drop i).map ofR) last n = ((decide (loR (ofR r) last ≤ n) && decide ((n : Int) ≤ hiR (ofR r) last)) || hasB ((l.drop (i + 1)).map ofR) last n) := by
        rw [hdrop, hr]; rfl
      rw [hcons]
      rw [← ha, ← hb] at hone
      have hd : (decide (loR (ofR r) last ≤ n) && decide ((n : Int) ≤ hiR (ofR r) last)) = decide (loR (ofR r) last ≤ n ∧ (n : Int) ≤ hiR (ofR r) last) := by rw [Bool.decide_and]
      rw [hd]
      unfold postchaiseref02_Has.j1
      rw [ew, ih]
      have hn0 : ((n : Int) > 0) := by omega
      by_cases hv : (loR (ofR r) last ≤ n ∧ (n : Int) ≤ hiR (ofR r) last)
      · rw [decide_eq_true hv, Bool.true_or]
        have hv2 := hone.2 hv
        by_cases hb0 : b = 0
        · rw [if_pos hb0] at hv2
          rw [if_pos hb0, if_pos hn0]
          rcases hv2 with ⟨h1, h2⟩ | ⟨h1, h2⟩
          · rw [if_pos h1, if_pos h2]
          · by_cases h3 : a ≤ n
            · rw [if_pos h3]
              by_cases h4 : (n : Int) ≤ last
              · rw [if_pos h4]
              · rw [if_neg h4, if_pos h1, if_pos h2]
            · rw [if_neg h3, if_pos h1, if_pos h2]
        · rw [if_neg hb0] at hv2
          rw [if_neg hb0, if_pos hn0]
          rcases hv2 with ⟨h1, h2⟩ | ⟨h1, h2⟩
          · rw [if_pos h1, if_pos h2]
          · by_cases h3 : a ≤ n
            · rw [if_pos h3]
              by_cases h4 : (n : Int) ≤ b
              · rw [if_pos h4]
              · rw [if_neg h4, if_pos h1, if_pos h2]
            · rw [if_neg h3, if_pos h1, if_pos h2]
      · rw [decide_eq_false hv, Bool.false_or]
        have hv2 : ¬ _ := fun h => hv (hone.1 h)
        by_cases hb0 : b = 0
        · rw [if_pos hb0] at hv2
          rw [if_pos hb0, if_pos hn0]
          by_cases h1 : a ≤ n
          · rw [if_pos h1, if_neg fun h => hv2 (.inl ⟨h1, h⟩)]
            by_cases h2 : (last : Int) ≤ n
            · rw [if_pos h2, if_neg fun h => hv2 (.inr ⟨h2, h⟩)]
            · rw [if_neg h2]
          · rw [if_neg h1]
            by_cases h2 : (last : Int) ≤ n
            · rw [if_pos h2, if_neg fun h => hv2 (.inr ⟨h2, h⟩)]
            · rw [if_neg h2]
        · rw [if_neg hb0] at hv2
          rw [if_neg hb0, if_pos hn0]
          by_cases h1 : a ≤ n
          · rw [if_pos h1, if_neg fun h => hv2 (.inl ⟨h1, h⟩)]
            by_cases h2 : b ≤ n
            · rw [if_pos h2, if_neg fun h => hv2 (.inr ⟨h2, h⟩)]
            · rw [if_neg h2]
          · rw [if_neg h1]
            by_cases h2 : b ≤ n
            · rw [if_pos h2, if_neg fun h => hv2 (.inr ⟨h2, h⟩)]
            · rw [if_neg h2]
    unfold postchaiseref02_Has.l0
    rw [if_pos (by omega), if_pos (by omega), rdR l hi, hr]
    by_cases h0 : r.f0 = 0
    · rw [if_pos h0]
      exact hj _ _ (by rw [if_pos h0]) rfl
    · rw [if_neg h0]
      exact hj _ _ (by rw [if_neg h0]) rfl
theorem refHas_f (l : List S80) (n last : Nat) (hn : 0 < n) (hl : l.length ≤ 1000) (k : Nat) (hk : 2000 < k) : postchaiseref02_Has.f k l (n : Int) (last : Int) = some (hasB (l.map ofR) last n) := by
  unfold postchaiseref02_Has.f
  have h := refHas_l0 l n last hn (by omega) l.length 0 k (by omega) (by omega)
  rw [List.drop_zero] at h
  exact h
/-! Of. -/
def U32 (l : List Int) : Prop := ∀ x ∈ l, 0 ≤ x ∧ x ≤ 4294967295
def setTo (acc : List S78) (x : Int) : List S78 := acc.set (acc.length - 1) ⟨(acc.getD (acc.length - 1) z78).f0, x⟩
def ofGo (l : List Int) : Nat → Nat → List S78 → List S78
  | 0, _, acc => acc
  | d + 1, i, acc => if l.getD i 0 = 0 ∨ (0 < i ∧ l.getD i 0 ≤ l.getD (i - 1) 0) then [] else
    if 0 < i ∧ l.getD i 0 = l.getD (i - 1) 0 + 1 then ofGo l d (i + 1) (setTo acc (l.getD i 0)) else ofGo l d (i + 1) (acc ++ [⟨l.getD i 0, l.getD i 0⟩])
theorem rdI (l : List Int) (i : Nat) : rd l (i : Int) = l.getD i 0 := by
  unfold rd
  have e : ((i : Int)).toNat = i := by omega
  rw [e]
theorem getD_u32 {l : List Int} (h : U32 l) (i : Nat) : 0 ≤ l.getD i 0 ∧ l.getD i 0 ≤ 4294967295 := by
  rw [List.getD_eq_getElem?_getD]
  cases hq : l[i]? with
  | none => exact ⟨Int.le_refl _, by decide⟩
  | some x => exact h x (List.mem_of_getElem? hq)
theorem setTo_len (acc : List S78) (x : Int) : (setTo acc x).length = acc.length := by unfold setTo; rw [List.length_set]
theorem of_l0 (l : List Int) (h32 : U32 l) (hl : l.length ≤ 1000000) : ∀ (d i k : Nat) (acc : List S78), d + i = l.length → 2 * d < k → acc.length ≤ i → (0 < i → 0 < acc.length) →
    seqset_Of.l0 k l acc l (l.length : Int) (i : Int) = some (ofGo l d i acc)
  | 0, i, k, acc, h, hk, ha, hp => by
    obtain ⟨m, rfl⟩ : ∃ m, k = m + 1 := ⟨k - 1, by omega⟩
    unfold seqset_Of.l0
    rw [if_neg (by omega)]
    rfl
  | d + 1, i, k, acc, h, hk, ha, hp => by
    obtain ⟨m, rfl⟩ : ∃ m, k = m + 1 + 1 := ⟨k - 2, by omega⟩
    have ew : wrap64 ((i : Int) + 1) = ((i + 1 : Nat) : Int) := by rw [w64n (by omega) (by omega)]; omega
    have hx := getD_u32 h32 i
    have hy := getD_u32 h32 (i - 1)
    obtain ⟨x, hxx⟩ : ∃ x, l.getD i 0 = x := ⟨_, rfl⟩
    obtain ⟨y, hyy⟩ : ∃ y, l.getD (i - 1) 0 = y := ⟨_, rfl⟩
    rw [hxx] at hx
    rw [hyy] at hy
    have hjt : seqset_Of.j1 (m + 1) l acc (i : Int) x l (l.length : Int) (i : Int) true = some [] := by unfold seqset_Of.j1; rfl
    have hjA : 0 < i → x = (y + 1) % 4294967296 → seqset_Of.j1 (m + 1) l acc (i : Int) x l (l.length : Int) (i : Int) false = some (ofGo l d (i + 1) (setTo acc x)) := by
        intro h0 hq
        unfold seqset_Of.j1
        rw [if_neg (by simp), ew]
        have e1 : wrap64 ((i : Int) - 1) = ((i - 1 : Nat) : Int) := by rw [w64n (by omega) (by omega)]; omega
        have e2 : wrap64 ((acc.length : Int) - 1) = ((acc.length - 1 : Nat) : Int) := by have := hp h0; rw [w64n (by omega) (by omega)]; omega
        have e3 : (((acc.length - 1 : Nat) : Int)).toNat = acc.length - 1 := by omega
        have e4 : rd_T78 acc ((acc.length - 1 : Nat) : Int) = acc.getD (acc.length - 1) z78 := by unfold rd_T78; rw [e3]
        rw [if_pos (by omega), e1, if_pos (by omega), if_pos (by omega), rdI, hyy, if_pos hq, e2, if_pos (by omega), if_pos (by have := hp h0; omega), e3, e4]
        exact of_l0 l h32 hl d (i + 1) m (setTo acc x) (by omega) (by omega) (by rw [setTo_len]; omega) (fun _ => by rw [setTo_len]; exact hp h0)
    have hjB : ¬ (0 < i ∧ x = (y + 1) % 4294967296) → seqset_Of.j1 (m + 1) l acc (i : Int) x l (l.length : Int) (i : Int) false = some (ofGo l d (i + 1) (acc ++ [⟨x, x⟩])) := by
        intro hq
        unfold seqset_Of.j1
        rw [if_neg (by simp), ew]
        by_cases h0 : 0 < i
        · have e1 : wrap64 ((i : Int) - 1) = ((i - 1 : Nat) : Int) := by rw [w64n (by omega) (by omega)]; omega
          rw [if_pos (by omega), e1, if_pos (by omega), if_pos (by omega), rdI, hyy, if_neg (fun h => hq ⟨h0, h⟩), if_pos (by omega)]
          exact of_l0 l h32 hl d (i + 1) m _ (by omega) (by omega) (by rw [List.length_append]; show acc.length + 1 ≤ _; omega) (fun _ => by rw [List.length_append]; exact Nat.succ_pos _)
        · rw [if_neg (by omega), if_pos (by omega)]
          exact of_l0 l h32 hl d (i + 1) m _ (by omega) (by omega) (by rw [List.length_append]; show acc.length + 1 ≤ _; omega) (fun _ => by rw [List.length_append]; exact Nat.succ_pos _)
    have hgo : ofGo l (d + 1) i acc = if x = 0 ∨ (0 < i ∧ x ≤ y) then [] else if 0 < i ∧ x = y + 1 then ofGo l d (i + 1) (setTo acc x) else ofGo l d (i + 1) (acc ++ [⟨x, x⟩]) := by rw [← hxx, ← hyy]; rfl
    have hfin : ∀ b, (b = true ↔ (x = 0 ∨ (0 < i ∧ x ≤ y))) → seqset_Of.j1 (m + 1) l acc (i : Int) x l (l.length : Int) (i : Int) b = some (ofGo l (d + 1) i acc) := by
      intro b hb
      rw [hgo]
      cases b with
      | true => rw [hjt, if_pos (hb.1 rfl)]
      | false =>
        have hn : ¬ (x = 0 ∨ (0 < i ∧ x ≤ y)) := fun h => by have := hb.2 h; cases this
        rw [if_neg hn]
        by_cases hq : 0 < i ∧ x = y + 1
        · rw [if_pos hq]
          exact hjA hq.1 (by omega)
        · rw [if_neg hq]
          exact hjB fun h => hq ⟨h.1, by
            have : ¬ x ≤ y := fun h2 => hn (.inr ⟨h.1, h2⟩)
            have h3 := h.2
            omega⟩
    unfold seqset_Of.l0
    rw [if_pos (by omega), if_pos (by omega), if_pos (by omega), rdI, hxx]
    by_cases h0 : x = 0
    · rw [if_pos h0]
      exact hfin true ⟨fun _ => .inl h0, fun _ => rfl⟩
    · rw [if_neg h0]
      by_cases hi0 : 0 < i
      · have e1 : wrap64 ((i : Int) - 1) = ((i - 1 : Nat) : Int) := by rw [w64n (by omega) (by omega)]; omega
        rw [if_pos (by omega), e1, if_pos (by omega), if_pos (by omega), rdI, hyy]
        exact hfin (decide (x ≤ y)) ⟨fun h => .inr ⟨hi0, of_decide_eq_true h⟩, fun h => decide_eq_true (h.elim (fun h => absurd h h0) (·.2))⟩
      · rw [if_neg (by omega)]
        exact hfin false ⟨fun h => (by cases h), fun h => h.elim (fun h => absurd h h0) (fun h => absurd h.1 hi0)⟩
theorem toR_set (acc : List S78) (x : Int) (ha : 0 < acc.length) : (acc.map toR).set ((acc.map toR).length - 1) (⟨((acc.map toR).getD ((acc.map toR).length - 1) z80).f0, x⟩ : S80) = (setTo acc x).map toR := by
  unfold setTo
  rw [List.map_set, List.length_map]
  congr 1
  rw [List.getD_eq_getElem?_getD, List.getD_eq_getElem?_getD, List.getElem?_map, List.getElem?_eq_getElem (by omega)]
  rfl
theorem refOf_l0 (l : List Int) (h32 : U32 l) (hl : l.length ≤ 1000000) : ∀ (d i k : Nat) (acc : List S78), d + i = l.length → 2 * d < k → acc.length ≤ i → (0 < i → 0 < acc.length) →
    postchaiseref02_Of.l0 k l (acc.map toR) (i : Int) = some ((ofGo l d i acc).map toR)
  | 0, i, k, acc, h, hk, ha, hp => by
    obtain ⟨m, rfl⟩ : ∃ m, k = m + 1 := ⟨k - 1, by omega⟩
    unfold postchaiseref02_Of.l0
    rw [if_neg (by omega)]
    rfl
  | d + 1, i, k, acc, h, hk, ha, hp => by
    obtain ⟨m, rfl⟩ : ∃ m, k = m + 1 + 1 := ⟨k - 2, by omega⟩
    have ew : wrap64 ((i : Int) + 1) = ((i + 1 : Nat) : Int) := by rw [w64n (by omega) (by omega)]; omega
    have hx := getD_u32 h32 i
    have hy := getD_u32 h32 (i - 1)
    have hlm : (acc.map toR).length = acc.length := by rw [List.length_map]
    obtain ⟨x, hxx⟩ : ∃ x, l.getD i 0 = x := ⟨_, rfl⟩
    obtain ⟨y, hyy⟩ : ∃ y, l.getD (i - 1) 0 = y := ⟨_, rfl⟩
    rw [hxx] at hx
    rw [hyy] at hy
    have happ : (acc.map toR) ++ [(⟨x, x⟩ : S80)] = (acc ++ [(⟨x, x⟩ : S78)]).map toR := by rw [List.map_append]; rfl
    have hjt : postchaiseref02_Of.j1 (m + 1) l (acc.map toR) (i : Int) true = some [] := by unfold postchaiseref02_Of.j1; rfl
    have hjA : 0 < i → (x - y) % 4294967296 = 1 → postchaiseref02_Of.j1 (m + 1) l (acc.map toR) (i : Int) false = some ((ofGo l d (i + 1) (setTo acc x)).map toR) := by
        intro h0 hq
        unfold postchaiseref02_Of.j1
        rw [if_neg (by simp), ew, rdI, hxx]
        have e1 : wrap64 ((i : Int) - 1) = ((i - 1 : Nat) : Int) := by rw [w64n (by omega) (by omega)]; omega
        have e2 : wrap64 (((acc.map toR).length : Int) - 1) = (((acc.map toR).length - 1 : Nat) : Int) := by have := hp h0; rw [hlm]; rw [w64n (by omega) (by omega)]; omega
        have e3 : ((((acc.map toR).length - 1 : Nat) : Int)).toNat = (acc.map toR).length - 1 := by omega
        have e4 : rd_T80 (acc.map toR) (((acc.map toR).length - 1 : Nat) : Int) = (acc.map toR).getD ((acc.map toR).length - 1) z80 := by unfold rd_T80; rw [e3]
        rw [if_pos (by omega), if_pos (by omega), if_pos (by omega), e1, if_pos (by omega), if_pos (by omega), rdI, hyy, if_pos hq, e2, if_pos (by omega), if_pos (by have := hp h0; omega), e3, e4, toR_set acc x (hp h0)]
        exact refOf_l0 l h32 hl d (i + 1) m (setTo acc x) (by omega) (by omega) (by rw [setTo_len]; omega) (fun _ => by rw [setTo_len]; exact hp h0)
    have hjB : ¬ (0 < i ∧ (x - y) % 4294967296 = 1) → postchaiseref02_Of.j1 (m + 1) l (acc.map toR) (i : Int) false = some ((ofGo l d (i + 1) (acc ++ [⟨x, x⟩])).map toR) := by
        intro hq
        unfold postchaiseref02_Of.j1
        rw [if_neg (by simp), ew, rdI, hxx]
        by_cases h0 : 0 < i
        · have e1 : wrap64 ((i : Int) - 1) = ((i - 1 : Nat) : Int) := by rw [w64n (by omega) (by omega)]; omega
          rw [if_pos (by omega), if_pos (by omega), if_pos (by omega), e1, if_pos (by omega), if_pos (by omega), rdI, hyy, if_neg (fun h => hq ⟨h0, h⟩), if_pos (by omega), happ]
          exact refOf_l0 l h32 hl d (i + 1) m (acc ++ [⟨x, x⟩]) (by omega) (by omega) (by rw [List.length_append]; show acc.length + 1 ≤ _; omega) (fun _ => by rw [List.length_append]; exact Nat.succ_pos _)
        · rw [if_neg (by omega), if_pos (by omega), if_pos (by omega), if_pos (by omega), happ]
          exact refOf_l0 l h32 hl d (i + 1) m (acc ++ [⟨x, x⟩]) (by omega) (by omega) (by rw [List.length_append]; show acc.length + 1 ≤ _; omega) (fun _ => by rw [List.length_append]; exact Nat.succ_pos _)
    have hgo : ofGo l (d + 1) i acc = if x = 0 ∨ (0 < i ∧ x ≤ y) then [] else if 0 < i ∧ x = y + 1 then ofGo l d (i + 1) (setTo acc x) else ofGo l d (i + 1) (acc ++ [⟨x, x⟩]) := by rw [← hxx, ← hyy]; rfl
    have hfin : ∀ b, (b = true ↔ (x = 0 ∨ (0 < i ∧ x ≤ y))) → postchaiseref02_Of.j1 (m + 1) l (acc.map toR) (i : Int) b = some ((ofGo l (d + 1) i acc).map toR) := by
      intro b hb
      rw [hgo]
      cases b with
      | true => rw [hjt, if_pos (hb.1 rfl)]; rfl
      | false =>
        have hn : ¬ (x = 0 ∨ (0 < i ∧ x ≤ y)) := fun h => by have := hb.2 h; cases this
        rw [if_neg hn]
        by_cases hq : 0 < i ∧ x = y + 1
        · rw [if_pos hq]
          exact hjA hq.1 (by omega)
        · rw [if_neg hq]
          exact hjB fun h => hq ⟨h.1, by
            have : ¬ x ≤ y := fun h2 => hn (.inr ⟨h.1, h2⟩)
            have h3 := h.2
            omega⟩
    unfold postchaiseref02_Of.l0
    rw [if_pos (by omega), if_pos (by omega), rdI, hxx]
    by_cases h0 : x = 0
    · rw [if_pos h0]
      exact hfin true ⟨fun _ => .inl h0, fun _ => rfl⟩
    · rw [if_neg h0]
      by_cases hi0 : 0 < i
      · have e1 : wrap64 ((i : Int) - 1) = ((i - 1 : Nat) : Int) := by rw [w64n (by omega) (by omega)]; omega
        rw [if_pos (by omega), e1, if_pos (by omega), if_pos (by omega), rdI, hyy]
        exact hfin (decide (x ≤ y)) ⟨fun h => .inr ⟨hi0, of_decide_eq_true h⟩, fun h => decide_eq_true (h.elim (fun h => absurd h h0) (·.2))⟩
      · rw [if_neg (by omega)]
        exact hfin false ⟨fun h => (by cases h), fun h => h.elim (fun h => absurd h h0) (fun h => absurd h.1 hi0)⟩
theorem of_f (l : List Int) (h32 : U32 l) (hl : l.length ≤ 1000) (k : Nat) (hk : 2000 < k) : seqset_Of.f k l = some (ofGo l l.length 0 []) := by
  unfold seqset_Of.f
  exact of_l0 l h32 (by omega) l.length 0 k [] (by omega) (by omega) (Nat.le_refl _) (fun h => absurd h (by omega))
theorem refOf_f (l : List Int) (h32 : U32 l) (hl : l.length ≤ 1000) (k : Nat) (hk : 2000 < k) : postchaiseref02_Of.f k l = some ((ofGo l l.length 0 []).map toR) := by
  unfold postchaiseref02_Of.f
  exact refOf_l0 l h32 (by omega) l.length 0 k [] (by omega) (by omega) (Nat.le_refl _) (fun h => absurd h (by omega))
theorem ofGo_len (l : List Int) : ∀ (d i : Nat) (acc : List S78), (ofGo l d i acc).length ≤ acc.length + d
  | 0, _, _ => Nat.le_refl _
  | d + 1, i, acc => by
    unfold ofGo
    split
    · exact Nat.zero_le _
    · split
      · have := ofGo_len l d (i + 1) (setTo acc (l.getD i 0)); rw [setTo_len] at this; omega
      · have h := ofGo_len l d (i + 1) (acc ++ [⟨l.getD i 0, l.getD i 0⟩])
        rw [List.length_append] at h
        exact Nat.le_trans h (by show acc.length + 1 + d ≤ acc.length + (d + 1); omega)
end Go.Proofs.YtahbnpkhkhdmaaaDoor
