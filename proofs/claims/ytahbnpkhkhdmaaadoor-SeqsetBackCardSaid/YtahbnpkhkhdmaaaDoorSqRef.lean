/- The document's Parse of a set, in plain Lean: it is the program's. No condition but those that each bears. -/
import Derived.Test.YtahbnpkhkhdmaaaDoorSqDec
import Derived.Test.YtahbnpkhkhdmaaaDoorQSq2
set_option linter.unusedVariables false
set_option linter.unusedSimpArgs false
namespace Go.Proofs.YtahbnpkhkhdmaaaDoor
open Go.RowKit Go.Shelf Go.Lib PSq Go.Proofs.YtahbnpkhkhdmaaaDoorW.PrintWords Go.Proofs.YtahbnpkhkhdmaaaDoorW.PrintLast Go.Proofs.YtahbnpkhkhdmaaaDoorW.PrintMore
theorem sq_bt (t : ByteArray) {i : Nat} (hi : i < t.size) : bt t (i : Int) = ((t.data.toList[i]'(by simpa using hi)).toNat : Nat) := by
  unfold bt
  have e : ((i : Int)).toNat = i := by omega
  rw [dif_pos (by rw [e]; exact hi)]
  simp only [e, Array.getElem_toList]
  rfl
theorem w64n {i : Int} (h0 : -4611686018427387904 < i) (h1 : i < 4611686018427387904) : wrap64 i = i := by
  unfold wrap64; omega
theorem bytes_ext {a b : ByteArray} (h : a.data.toList = b.data.toList) : a = b := ByteArray.ext (Array.ext' h)
theorem append_list (a b : ByteArray) : (a ++ b).data.toList = a.data.toList ++ b.data.toList := by simp
def joinF (cur : ByteArray) : List (List UInt8) → List ByteArray
  | [] => [cur]
  | p :: ps => (cur ++ ⟨p.toArray⟩) :: ps.map fun l => ⟨l.toArray⟩
theorem rdOf_last (pre : List ByteArray) (cur : ByteArray) : rdOf ByteArray.empty (pre ++ [cur]) ((pre.length : Nat) : Int) = cur := by
  unfold rdOf
  have e : ((pre.length : Nat) : Int).toNat = pre.length := by omega
  rw [e, List.getD_eq_getElem?_getD, List.getElem?_append_right (Nat.le_refl _)]
  simp
theorem set_last (pre : List ByteArray) (cur x : ByteArray) : (pre ++ [cur]).set pre.length x = pre ++ [x] := by
  rw [List.set_append_right _ _ (Nat.le_refl _)]
  simp
theorem extract_one (t : ByteArray) {i : Nat} (hi : i < t.size) : (t.extract i (i + 1)).data.toList = [t.data.toList[i]'(by simpa using hi)] := by
  have hl : t.data.toList.length = t.size := by simp
  simp only [ByteArray.data_extract, Array.toList_extract, List.extract_eq_take_drop]
  rw [show i + 1 - i = 1 by omega, List.drop_eq_getElem_cons (by omega)]
  rfl
theorem joinF_more (c : UInt8) (cur : ByteArray) (b : UInt8) (l : List UInt8) (hb : b ≠ c) (x : ByteArray) (hx : x.data.toList = [b]) : joinF (cur ++ x) (splitN c l) = joinF cur (splitN c (b :: l)) := by
  have h : splitN c (b :: l) = match splitN c l with
    | p :: ps => (b :: p) :: ps
    | [] => [[b]] := by
    conv => lhs; unfold splitN
    rw [if_neg hb]
    cases splitN c l <;> rfl
  rw [h]
  cases hs : splitN c l with
  | nil => exact absurd hs (splitN_ne c l)
  | cons p ps =>
    show (cur ++ x ++ ⟨p.toArray⟩) :: _ = (cur ++ ⟨(b :: p).toArray⟩) :: _
    congr 1
    apply bytes_ext
    rw [append_list, append_list, append_list, hx, List.append_assoc]
    rfl
theorem joinF_sep (c : UInt8) (cur : ByteArray) (l : List UInt8) : joinF cur (splitN c (c :: l)) = cur :: joinF ⟨#[]⟩ (splitN c l) := by
  have h : splitN c (c :: l) = [] :: splitN c l := by
    conv => lhs; unfold splitN
    rw [if_pos rfl]
  rw [h]
  show (cur ++ ⟨#[]⟩) :: (splitN c l).map _ = _
  congr 1
  · apply bytes_ext
    rw [append_list]
    simp
  · cases hs : splitN c l with
    | nil => exact absurd hs (splitN_ne c l)
    | cons p ps =>
      show _ = (⟨#[]⟩ ++ ⟨p.toArray⟩ : ByteArray) :: _
      rw [List.map_cons, show (⟨#[]⟩ ++ ⟨p.toArray⟩ : ByteArray) = ⟨p.toArray⟩ by apply bytes_ext; rw [append_list]; simp]
theorem split_l0 (s : ByteArray) (c : UInt8) (hs : s.size ≤ 1000000) : ∀ (d i : Nat) (pre : List ByteArray) (cur : ByteArray) (k : Nat), d + i = s.size → d < k → pre.length ≤ i → cur.size ≤ i →
    postchaiseref02_Split.l0 k s ((c.toNat : Nat) : Int) (pre ++ [cur]) (i : Int) = some (pre ++ joinF cur (splitN c (s.data.toList.drop i)))
  | 0, i, pre, cur, k, h, hk, hp, hc => by
    obtain ⟨m, rfl⟩ : ∃ m, k = m + 1 := ⟨k - 1, by omega⟩
    have hl : s.data.toList.length = s.size := by simp
    unfold postchaiseref02_Split.l0
    rw [if_neg (by omega), List.drop_eq_nil_of_le (by omega)]
    show some (pre ++ [cur]) = some (pre ++ [cur ++ ⟨#[]⟩])
    have : cur ++ ⟨#[]⟩ = cur := by apply bytes_ext; rw [append_list]; simp
    rw [this]
  | d + 1, i, pre, cur, k, h, hk, hp, hc => by
    obtain ⟨m, rfl⟩ : ∃ m, k = m + 1 := ⟨k - 1, by omega⟩
    have hl : s.data.toList.length = s.size := by simp
    have hi : i < s.size := by omega
    have hb := sq_bt s hi
    have hdrop : s.data.toList.drop i = s.data.toList[i]'(by omega) :: s.data.toList.drop (i + 1) := List.drop_eq_getElem_cons (by omega)
    obtain ⟨b, hbb⟩ : ∃ b, s.data.toList[i]'(by omega) = b := ⟨_, rfl⟩
    rw [hbb] at hb hdrop
    have ew : wrap64 ((i : Int) + 1) = ((i + 1 : Nat) : Int) := by rw [w64n (by omega) (by omega)]; omega
    have hlen : (pre ++ [cur]).length = pre.length + 1 := by simp
    have ew2 : wrap64 (((pre ++ [cur]).length : Int) - 1) = ((pre.length : Nat) : Int) := by rw [hlen, w64n (by omega) (by omega)]; omega
    unfold postchaiseref02_Split.l0
    rw [if_pos (by omega), if_pos (by omega), hb, hdrop]
    by_cases hbc : b = c
    · subst hbc
      rw [if_pos rfl, if_pos (by omega), ew, joinF_sep, split_l0 s b hs d (i + 1) (pre ++ [cur]) ⟨#[]⟩ m (by omega) (by omega) (by omega) (Nat.zero_le _), List.append_assoc]
      rfl
    · have hne : ¬ ((b.toNat : Nat) : Int) = ((c.toNat : Nat) : Int) := fun e => hbc (UInt8.toNat_inj.1 (by omega))
      have hx := extract_one s hi
      rw [hbb] at hx
      have hz : (s.extract i (i + 1)).size = 1 := by rw [ByteArray.size_extract]; omega
      have hti : ((i : Int)).toNat = i := by omega
      have hti2 : (((i + 1 : Nat) : Int)).toNat = i + 1 := by omega
      have htp : (((pre.length : Nat) : Int)).toNat = pre.length := by omega
      rw [if_neg hne, ew2, ew, rdOf_last, hti, hti2, htp, set_last, if_pos (by omega), if_pos (by omega), if_pos (by omega), if_pos (by omega), if_pos (by omega), split_l0 s c hs d (i + 1) pre _ m (by omega) (by omega) (by omega) (by rw [ByteArray.size_append]; omega), joinF_more c cur b _ hbc _ hx]
theorem split_f (s : ByteArray) (c : UInt8) (hs : s.size ≤ 1000000) (k : Nat) (hk : s.size < k) : postchaiseref02_Split.f k s ((c.toNat : Nat) : Int) = some (parts c s) := by
  unfold postchaiseref02_Split.f
  have h := split_l0 s c hs s.size 0 [] ⟨#[]⟩ k (by omega) hk (Nat.zero_le _) (Nat.zero_le _)
  rw [List.nil_append, List.drop_zero, List.nil_append] at h
  have e : ((0 : Nat) : Int) = 0 := rfl
  rw [e] at h
  rw [h]
  unfold parts
  cases hs : splitN c s.data.toList with
  | nil => exact absurd hs (splitN_ne c _)
  | cons p ps =>
    show some ((⟨#[]⟩ ++ ⟨p.toArray⟩ : ByteArray) :: _) = _
    rw [List.map_cons]
    have : (⟨#[]⟩ ++ ⟨p.toArray⟩ : ByteArray) = ⟨p.toArray⟩ := by apply bytes_ext; rw [append_list]; simp
    rw [this]
/-! Number, end. -/
instance (c : UInt8) : Decidable (isD c) := by unfold isD; infer_instance
theorem val_take_lt {l : List UInt8} (i : Nat) (hd : ∀ c ∈ l.take i, isD c) (hl : l.length ≤ 10) : val (l.take i) < 10000000000 := by
  have h := val_lt hd
  have h2 : 10 ^ (l.take i).length ≤ 10 ^ 10 := Nat.pow_le_pow_right (by omega) (by rw [List.length_take]; omega)
  have h3 : (10 : Nat) ^ 10 = 10000000000 := by decide
  omega
theorem number_l0 (s : ByteArray) (most : Nat) (hs : s.size ≤ 10) : ∀ (d i k : Nat), d + i = s.size → d < k → (∀ c ∈ s.data.toList.take i, isD c) →
    postchaiseref02_Number.l0 k s (most : Int) (val (s.data.toList.take i) : Nat) (i : Int) = if (∀ c ∈ s.data.toList.drop i, isD c) then some (((val s.data.toList : Nat) : Int), decide (val s.data.toList ≤ most)) else some ((0 : Int), false)
  | 0, i, k, h, hk, hd => by
    obtain ⟨m, rfl⟩ : ∃ m, k = m + 1 := ⟨k - 1, by omega⟩
    have hl : s.data.toList.length = s.size := by simp
    unfold postchaiseref02_Number.l0
    rw [if_neg (by omega), List.drop_eq_nil_of_le (by omega), if_pos (by simp), List.take_of_length_le (by omega)]
    congr 2
    simp
  | d + 1, i, k, h, hk, hd => by
    obtain ⟨m, rfl⟩ : ∃ m, k = m + 1 := ⟨k - 1, by omega⟩
    have hl : s.data.toList.length = s.size := by simp
    have hi : i < s.size := by omega
    have hb := sq_bt s hi
    have hdrop : s.data.toList.drop i = s.data.toList[i]'(by omega) :: s.data.toList.drop (i + 1) := List.drop_eq_getElem_cons (by omega)
    have htake : s.data.toList.take (i + 1) = s.data.toList.take i ++ [s.data.toList[i]'(by omega)] := List.take_succ_eq_append_getElem (by omega)
    obtain ⟨b, hbb⟩ : ∃ b, s.data.toList[i]'(by omega) = b := ⟨_, rfl⟩
    rw [hbb] at hb hdrop htake
    have hvl := val_take_lt i hd (by omega)
    have hbl := b.toNat_lt
    have ew : wrap64 ((i : Int) + 1) = ((i + 1 : Nat) : Int) := by rw [w64n (by omega) (by omega)]; omega
    unfold postchaiseref02_Number.l0
    rw [if_pos (by omega), if_pos (by omega), hb, hdrop]
    by_cases h1 : b.toNat < 48
    · rw [if_pos (by omega), if_neg fun h => by have := (h b List.mem_cons_self).1; omega]
    · rw [if_neg (by omega)]
      by_cases h2 : 57 < b.toNat
      · rw [if_pos (by omega), if_neg fun h => by have := (h b List.mem_cons_self).2; omega]
      · rw [if_neg (by omega)]
        have hbd : isD b := ⟨by omega, by omega⟩
        have hv : IntKind.u64.wrap (IntKind.u64.wrap (10 * ((val (s.data.toList.take i) : Nat) : Int)) + (((b.toNat : Nat) : Int) - 48) % 256) = ((val (s.data.toList.take (i + 1)) : Nat) : Int) := by
          rw [htake, val_snoc, IntKind.wrap_u64, IntKind.wrap_u64]
          omega
        rw [hv, ew, number_l0 s most hs d (i + 1) m (by omega) (by omega) (by
          rw [htake]
          intro c hc
          rcases List.mem_append.1 hc with hc | hc
          · exact hd c hc
          · rw [List.mem_singleton.1 hc]; exact hbd)]
        by_cases hrest : ∀ c ∈ s.data.toList.drop (i + 1), isD c
        · rw [if_pos hrest, if_pos]
          intro c hc
          rcases List.mem_cons.1 hc with rfl | hc
          · exact hbd
          · exact hrest c hc
        · rw [if_neg hrest, if_neg]
          exact fun h => hrest fun c hc => h c (List.mem_cons_of_mem _ hc)
/-- What the document's Number answers: all is digits, of a number's own form. -/
theorem number_f (s : ByteArray) (most : Nat) (k : Nat) (hk : 12 < k) :
    postchaiseref02_Number.f k s (most : Int) = if s.data.toList ≠ [] ∧ s.size ≤ 10 ∧ (s.data.toList.length = 1 ∨ s.data.toList.head? ≠ some 48) ∧ (∀ c ∈ s.data.toList, isD c) then some (((val s.data.toList : Nat) : Int), decide (val s.data.toList ≤ most)) else some ((0 : Int), false) := by
  obtain ⟨m, rfl⟩ : ∃ m, k = m + 1 := ⟨k - 1, by omega⟩
  have hl : s.data.toList.length = s.size := by simp
  have hj : ∀ b, postchaiseref02_Number.j0 (m + 1) s (most : Int) b = if b then some (0, false) else postchaiseref02_Number.l0 m s (most : Int) 0 0 := fun b => by
    unfold postchaiseref02_Number.j0
    rfl
  unfold postchaiseref02_Number.f
  by_cases h1 : s.size < 1
  · rw [if_pos (by omega), hj, if_pos rfl, if_neg fun h => h.1 (List.length_eq_zero_iff.1 (by omega))]
  · rw [if_neg (by omega)]
    by_cases h2 : 10 < s.size
    · rw [if_pos (by omega), hj, if_pos rfl, if_neg fun h => by omega]
    · rw [if_neg (by omega)]
      have hn : s.data.toList ≠ [] := fun e => by rw [e] at hl; simp at hl; omega
      have hl0 := number_l0 s most (by omega) s.size 0 m (by omega) (by omega) (by simp)
      rw [List.drop_zero, List.take_zero] at hl0
      have e0 : ((val ([] : List UInt8) : Nat) : Int) = 0 := rfl
      have e1 : ((0 : Nat) : Int) = 0 := rfl
      rw [e0, e1] at hl0
      have hhead : s.data.toList.head? = some (s.data.toList[0]'(by omega)) := by
        rw [List.head?_eq_getElem?, List.getElem?_eq_getElem (by omega)]
      have hb := sq_bt s (i := 0) (by omega)
      rw [e1] at hb
      by_cases h3 : 1 < s.size
      · rw [if_pos (by omega), if_pos (by omega), hj, hb, hhead]
        by_cases h4 : s.data.toList[0]'(by omega) = 48
        · rw [h4]
          rw [if_pos (by rfl), if_neg fun h => by
            rcases h.2.2.1 with h | h
            · omega
            · exact h rfl]
        · have h5 : (((s.data.toList[0]'(by omega)).toNat : Nat) : Int) ≠ 48 := fun e => h4 (UInt8.toNat_inj.1 (by
            have : (48 : UInt8).toNat = 48 := rfl
            omega))
          rw [if_neg (by simpa using h5), hl0]
          by_cases hd : ∀ c ∈ s.data.toList, isD c
          · rw [if_pos hd, if_pos ⟨hn, by omega, .inr fun e => h4 (Option.some.inj e), hd⟩]
          · rw [if_neg hd, if_neg fun h => hd h.2.2.2]
      · rw [if_neg (by omega), hj, if_neg (by simp), hl0]
        by_cases hd : ∀ c ∈ s.data.toList, isD c
        · rw [if_pos hd, if_pos ⟨hn, by omega, .inl (by omega), hd⟩]
        · rw [if_neg hd, if_neg fun h => hd h.2.2.2]
/-- The document's end is the program's. -/
theorem end_f (s : ByteArray) (k : Nat) (hk : 12 < k) : ∃ (n : Int) (b : Bool), postchaiseref02_end.f k s = some (n, b) ∧ ((b = true ∧ ∃ u : Nat, endOf s = some u ∧ n = u) ∨ (b = false ∧ endOf s = none)) := by
  have hl : s.data.toList.length = s.size := by simp
  unfold postchaiseref02_end.f
  rw [ByteArray.toList_eq]
  by_cases hst : s.data.toList = [42]
  · rw [if_pos hst]
    exact ⟨0, true, rfl, .inl ⟨rfl, 0, by unfold endOf; rw [if_pos hst], rfl⟩⟩
  · have hf := number_f s 4294967295 k hk
    have e : ((4294967295 : Nat) : Int) = 4294967295 := rfl
    rw [e] at hf
    rw [if_neg hst, hf]
    by_cases hc : s.data.toList ≠ [] ∧ s.size ≤ 10 ∧ (s.data.toList.length = 1 ∨ s.data.toList.head? ≠ some 48) ∧ (∀ c ∈ s.data.toList, isD c)
    · rw [if_pos hc]
      simp only [Option.bind_some]
      by_cases hm : val s.data.toList ≤ 4294967295
      · rw [decide_eq_true hm, if_pos rfl]
        refine ⟨_, _, rfl, ?_⟩
        by_cases h0 : 0 < val s.data.toList
        · exact .inl ⟨decide_eq_true (by omega), val s.data.toList, endOf_num ⟨hc.1, hc.2.2.2, hc.2.2.1, rfl, h0, hm⟩, by omega⟩
        · refine .inr ⟨decide_eq_false (by omega), ?_⟩
          cases he : endOf s with
          | none => rfl
          | some u =>
            rcases endOf_cases he with ⟨h, _⟩ | h
            · exact absurd h hst
            · exact absurd h.2.2.2.1 (by have := h.2.2.2.2.1; omega)
      · rw [decide_eq_false hm, if_neg (by simp)]
        refine ⟨_, _, rfl, .inr ⟨rfl, ?_⟩⟩
        cases he : endOf s with
        | none => rfl
        | some u =>
          rcases endOf_cases he with ⟨h, _⟩ | h
          · exact absurd h hst
          · exact absurd h.2.2.2.1 (by have := h.2.2.2.2.2; omega)
    · rw [if_neg hc]
      simp only [Option.bind_some]
      rw [if_neg (by simp)]
      refine ⟨_, _, rfl, .inr ⟨rfl, ?_⟩⟩
      cases he : endOf s with
      | none => rfl
      | some u =>
        rcases endOf_cases he with ⟨h, _⟩ | h
        · exact absurd h hst
        · refine absurd ⟨h.1, ?_, h.2.2.1, h.2.1⟩ hc
          have h1 := canon _ _ rfl h.1 h.2.1 h.2.2.1
          rw [h.2.2.2.1] at h1
          have h2 := dec_len 9 u (by have := h.2.2.2.2.2; omega)
          rw [h1] at h2; omega
end Go.Proofs.YtahbnpkhkhdmaaaDoor
