/- The reference's Parse, in plain Lean: its scan against the parts of a text; its Lower is the program's. No condition but those that each bears. -/
import Derived.Test.YtahbnpkhkhdmaaaDoorFlText
set_option linter.unusedVariables false
set_option linter.unusedSimpArgs false
namespace Go.Proofs.YtahbnpkhkhdmaaaDoor
open Go.RowKit Go.Shelf PFl Go.Proofs.YtahbnpkhkhdmaaaDoorW.PrintWords Go.Proofs.YtahbnpkhkhdmaaaDoorW.PrintLast Go.Proofs.YtahbnpkhkhdmaaaDoorW.PrintMore
theorem splitN_plain {c : UInt8} : ∀ {l : List UInt8}, (∀ b ∈ l, b ≠ c) → splitN c l = [l]
  | [], _ => rfl
  | b :: l, h => by
    unfold splitN
    rw [if_neg (h b List.mem_cons_self), splitN_plain fun x hx => h x (List.mem_cons_of_mem _ hx)]
theorem splitN_at {c : UInt8} : ∀ {l m : List UInt8}, (∀ b ∈ l, b ≠ c) → splitN c (l ++ c :: m) = l :: splitN c m
  | [], m, _ => by
    show splitN c (c :: m) = _
    conv => lhs; unfold splitN
    rw [if_pos rfl]
  | b :: l, m, h => by
    show splitN c (b :: (l ++ c :: m)) = _
    conv => lhs; unfold splitN
    rw [if_neg (h b List.mem_cons_self), splitN_at fun x hx => h x (List.mem_cons_of_mem _ hx)]
theorem bt_nat (t : ByteArray) {i : Nat} (hi : i < t.size) : bt t (i : Int) = ((t.data.toList[i]'(by simpa using hi)).toNat : Nat) := by
  unfold bt
  have e : ((i : Int)).toNat = i := by omega
  rw [dif_pos (by rw [e]; exact hi)]
  simp only [e, Array.getElem_toList]
  rfl
theorem extract_list (t : ByteArray) (a b : Nat) : (t.extract a b).data.toList = (t.data.toList.drop a).take (b - a) := by
  simp [ByteArray.data_extract, List.take_drop, List.extract_eq_take_drop]
/-- The scan of a text t: behind the parts that are done, at i, no blank since f. -/
structure Scan (t : ByteArray) (out : Int) (f i : Nat) : Prop where
  fi : f ≤ i
  it : i ≤ t.size
  no : ∀ j, f ≤ j → j < i → bt t (j : Int) ≠ 32
  o0 : 0 ≤ out
  o1 : out < 256
  done : ∃ pre, parts 32 t = pre ++ parts 32 (t.extract f t.size) ∧ orAll pre 0 = some out
theorem Scan.start (t : ByteArray) : Scan t 0 0 0 := ⟨Nat.le_refl _, Nat.zero_le _, fun j h1 h2 => absurd h2 (Nat.not_lt_zero j), by omega, by omega, [], by simp, rfl⟩
theorem Scan.on {t : ByteArray} {out : Int} {f i : Nat} (h : Scan t out f i) (hi : i < t.size) (hb : bt t (i : Int) ≠ 32) : Scan t out f (i + 1) :=
  ⟨by have := h.fi; omega, by omega, fun j h1 h2 => by
    by_cases e : j = i
    · rw [e]; exact hb
    · exact h.no j h1 (by omega), h.o0, h.o1, h.done⟩
theorem u8_toNat_32 {b : UInt8} (h : (b.toNat : Int) = 32) : b = 32 := by
  apply UInt8.toNat_inj.1
  have : b.toNat = 32 := by omega
  rw [this]; rfl
theorem Scan.mem {t : ByteArray} {out : Int} {f i : Nat} (h : Scan t out f i) : ∀ b ∈ (t.extract f i).data.toList, b ≠ 32 := by
  intro b hb e
  rw [extract_list] at hb
  obtain ⟨j, hj, hjb⟩ := List.getElem_of_mem hb
  have hl : t.data.toList.length = t.size := by simp
  rw [List.length_take, List.length_drop, hl] at hj
  have h1 := h.fi
  have h2 := h.it
  have := h.no (f + j) (by omega) (by omega)
  rw [bt_nat t (by omega)] at this
  apply this
  rw [List.getElem_take, List.getElem_drop] at hjb
  rw [hjb, e]; rfl
/-- At a blank: the part between is the next one. -/
theorem Scan.part {t : ByteArray} {out : Int} {f i : Nat} (h : Scan t out f i) (hi : i < t.size) (hb : bt t (i : Int) = 32) : parts 32 (t.extract f t.size) = t.extract f i :: parts 32 (t.extract (i + 1) t.size) := by
  have hl : t.data.toList.length = t.size := by simp
  have h1 := h.fi
  have e : (t.extract f t.size).data.toList = (t.extract f i).data.toList ++ 32 :: (t.extract (i + 1) t.size).data.toList := by
    simp only [extract_list]
    have e2 : t.data.toList.drop f = (t.data.toList.drop f).take (i - f) ++ t.data.toList.drop i := by
      have := (List.take_append_drop (i - f) (t.data.toList.drop f)).symm
      rw [List.drop_drop, show f + (i - f) = i from by omega] at this
      exact this
    have e3 : t.data.toList.drop i = 32 :: t.data.toList.drop (i + 1) := by
      rw [List.drop_eq_getElem_cons (by omega)]
      congr 1
      exact u8_toNat_32 (by rw [← hb, bt_nat t hi])
    rw [List.take_of_length_le (by rw [List.length_drop]; omega), List.take_of_length_le (l := List.drop (i + 1) _) (by rw [List.length_drop]; omega), ← e3]
    exact e2
  unfold parts
  rw [e, splitN_at h.mem, List.map_cons]
theorem Scan.last {t : ByteArray} {out : Int} {f : Nat} (h : Scan t out f t.size) : parts 32 (t.extract f t.size) = [t.extract f t.size] := by
  unfold parts
  rw [splitN_plain h.mem]
  rfl
theorem Scan.next {t : ByteArray} {out v : Int} {f i : Nat} (h : Scan t out f i) (hi : i < t.size) (hb : bt t (i : Int) = 32) (hf : flagOf (t.extract f i) = (v, true)) (h0 : 0 ≤ Go.bits .or .u8 out v) (h1 : Go.bits .or .u8 out v < 256) :
    Scan t (Go.bits .or .u8 out v) (i + 1) (i + 1) := by
  obtain ⟨pre, hp, ho⟩ := h.done
  refine ⟨Nat.le_refl _, by omega, fun j h1 h2 => by omega, h0, h1, pre ++ [t.extract f i], by rw [hp, h.part hi hb, List.append_assoc]; rfl, ?_⟩
  rw [orAll_append, ho, hf]
  rfl
theorem Scan.finish {t : ByteArray} {out v : Int} {f : Nat} (h : Scan t out f t.size) (hf : flagOf (t.extract f t.size) = (v, true)) : orAll (parts 32 t) 0 = some (Go.bits .or .u8 out v) := by
  obtain ⟨pre, hp, ho⟩ := h.done
  rw [hp, h.last, orAll_append, ho, hf]
  rfl
theorem Scan.fails {t : ByteArray} {out v : Int} {f i : Nat} (h : Scan t out f i) (hi : i = t.size ∨ (i < t.size ∧ bt t (i : Int) = 32)) (hf : flagOf (t.extract f i) = (v, false)) : orAll (parts 32 t) 0 = none := by
  obtain ⟨pre, hp, ho⟩ := h.done
  have h1 : orAll (pre ++ [t.extract f i]) 0 = none := by rw [orAll_append, ho, hf]; rfl
  rcases hi with rfl | ⟨hi, hb⟩
  · rw [hp, h.last]; exact h1
  · rw [hp, h.part hi hb, show pre ++ t.extract f i :: parts 32 (t.extract (i + 1) t.size) = (pre ++ [t.extract f i]) ++ parts 32 (t.extract (i + 1) t.size) by rw [List.append_assoc]; rfl]
    exact orAll_none _ _ _ h1
/-- No text is two names. -/
theorem name5_apart : (List.range 5).all (fun i => (List.range 5).all fun j => i == j || (lowS (name5 i)).data.toList != (lowS (name5 j)).data.toList) = true := by kernel_rfl
theorem hit_one {x : ByteArray} {i j : Nat} (hi : i < 5) (hj : j < 5) (h1 : hit x i = true) (h2 : hit x j = true) : i = j := by
  rw [hit_eq] at h1 h2
  unfold hitC at h1 h2
  have e1 := eq_of_beq h1
  have e2 := eq_of_beq h2
  have h := List.all_eq_true.1 (List.all_eq_true.1 name5_apart i (by simp; omega)) j (by simp; omega)
  rw [e1, e2] at h
  simpa using h
/-- What the reference has found among the first k names. -/
def found5 (x : ByteArray) (k : Nat) (r : Int) : Prop := (r = -1 ∧ ∀ j, j < k → hit x j = false) ∨ ∃ j, j < k ∧ hit x j = true ∧ r = (j : Int)
theorem found5_zero (x : ByteArray) : found5 x 0 (-1) := .inl ⟨rfl, fun j h => absurd h (Nat.not_lt_zero j)⟩
theorem found5_yes {x : ByteArray} {k : Nat} (h : hit x k = true) : found5 x (k + 1) k := .inr ⟨k, Nat.lt_succ_self k, h, rfl⟩
theorem found5_no {x : ByteArray} {k : Nat} {r : Int} (h : found5 x k r) (hh : hit x k = false) : found5 x (k + 1) r := by
  rcases h with ⟨h1, h2⟩ | ⟨j, h1, h2, h3⟩
  · exact .inl ⟨h1, fun j hj => by
      by_cases e : j = k
      · rw [e]; exact hh
      · exact h2 j (by omega)⟩
  · exact .inr ⟨j, by omega, h2, h3⟩
theorem found5_end {x : ByteArray} {r : Int} (h : found5 x 5 r) : (r = -1 ∧ flagOf x = (0, false)) ∨ ∃ j : Nat, j < 5 ∧ r = (j : Int) ∧ flagOf x = ((2 : Int) ^ j % 256, true) := by
  rcases h with ⟨h1, h2⟩ | ⟨j, h1, h2, h3⟩
  · exact .inl ⟨h1, flagOf_none h2⟩
  · refine .inr ⟨j, h1, h3, flagOf_hit h1 (fun i hi => ?_) h2⟩
    cases hh : hit x i with
    | false => rfl
    | true => have := hit_one (by omega) h1 hh h2; omega
theorem or_all : (List.range 256).all (fun o => (List.range 5).all fun f => (if bitAt (o : Int) f then (o : Int) else ((o : Int) + 2 ^ f % 256) % 256) == Go.bits .or .u8 (o : Int) (2 ^ f % 256) && decide (0 ≤ Go.bits .or .u8 (o : Int) (2 ^ f % 256)) && decide (Go.bits .or .u8 (o : Int) (2 ^ f % 256) < 256)) = true := by kernel_rfl
theorem or_at {o : Int} (h0 : 0 ≤ o) (h1 : o < 256) {f : Nat} (hf : f < 5) : (if bitAt o f then o else (o + 2 ^ f % 256) % 256) = Go.bits .or .u8 o (2 ^ f % 256) ∧ 0 ≤ Go.bits .or .u8 o (2 ^ f % 256) ∧ Go.bits .or .u8 o (2 ^ f % 256) < 256 := by
  have h := List.all_eq_true.1 (List.all_eq_true.1 or_all o.toNat (by simp; omega)) f (by simp; omega)
  have e : ((o.toNat : Nat) : Int) = o := by omega
  rw [e, Bool.and_eq_true, Bool.and_eq_true] at h
  exact ⟨eq_of_beq h.1.1, of_decide_eq_true h.1.2, of_decide_eq_true h.2⟩
/-! The brackets. -/
theorem parseS_short {s : ByteArray} (h : s.size < 2) : parseS s = (0, 2) := by
  unfold parseS
  rw [if_neg]
  intro hc
  rw [Bool.and_eq_true] at hc
  have hl : s.data.toList.length = s.size := by simp
  obtain ⟨h1, h2⟩ := hc
  match hs : s.data.toList with
  | [] => rw [hs] at h1; cases h1
  | [b] =>
    rw [hs] at h1 h2
    have h1' : Lib.hasPrefix [b] [40] = true := h1
    have : Lib.trimPrefix [b] [40] = [] := by unfold Lib.trimPrefix; rw [h1']; rfl
    rw [this] at h2
    cases h2
  | b :: c :: l => rw [hs] at hl; simp at hl; omega
theorem prefix_iff (b : UInt8) (l : List UInt8) : Lib.hasPrefix (b :: l) [40] = (b == 40) := by
  show ((40 : UInt8) == b && List.isPrefixOf [] l) = _
  rw [show List.isPrefixOf [] l = true by cases l <;> rfl, Bool.and_true]
  exact Bool.beq_comm ..
theorem suffix_iff (l : List UInt8) (b : UInt8) : Lib.hasSuffix (l ++ [b]) [41] = (b == 41) := by
  unfold Lib.hasSuffix List.isSuffixOf
  rw [List.reverse_append]
  show ((41 : UInt8) == b && List.isPrefixOf [] l.reverse) = _
  rw [show List.isPrefixOf [] l.reverse = true by cases l.reverse <;> rfl, Bool.and_true]
  exact Bool.beq_comm ..
theorem parse_shape {s : ByteArray} (h : 2 ≤ s.size) : ∃ a m b, s.data.toList = a :: (m ++ [b]) ∧ bt s 0 = (a.toNat : Nat) ∧ bt s ((s.size : Int) - 1) = (b.toNat : Nat) ∧ (s.extract 1 (s.size - 1)).data.toList = m := by
  have hl : s.data.toList.length = s.size := by simp
  match hs : s.data.toList, hl with
  | [], hl => simp at hl; omega
  | a :: r, hl =>
    have hr : r ≠ [] := by intro e; subst e; simp at hl; omega
    refine ⟨a, r.dropLast, r.getLast hr, by rw [List.dropLast_concat_getLast], ?_, ?_, ?_⟩
    · have := bt_nat s (i := 0) (by omega)
      simp only [hs] at this
      exact this
    · have e : ((s.size : Int) - 1) = ((s.size - 1 : Nat) : Int) := by omega
      rw [e, bt_nat s (by omega)]
      simp only [hs]
      rw [← List.getLast_cons (a := a) hr, List.getLast_eq_getElem]
      have h2 : s.size - 1 = (a :: r).length - 1 := by simp at hl ⊢; omega
      simp only [h2]
    · rw [extract_list, hs]
      simp only [List.drop_succ_cons, List.drop_zero]
      rw [List.dropLast_eq_take]
      congr 1
      simp at hl; omega
theorem parseS_first {s : ByteArray} (h : 2 ≤ s.size) (hb : bt s 0 ≠ 40) : parseS s = (0, 2) := by
  obtain ⟨a, m, b, e, ha, _, _⟩ := parse_shape h
  unfold parseS
  rw [e, prefix_iff, show (a == 40) = false from beq_eq_false_iff_ne.2 (fun h => hb (by rw [ha, h]; rfl))]
  rfl
theorem parseS_last {s : ByteArray} (h : 2 ≤ s.size) (hb : bt s ((s.size : Int) - 1) ≠ 41) : parseS s = (0, 2) := by
  obtain ⟨a, m, b, e, _, hb2, _⟩ := parse_shape h
  unfold parseS
  rw [e]
  by_cases ha : (a == 40) = true
  · rw [prefix_iff, ha, show Lib.trimPrefix (a :: (m ++ [b])) [40] = m ++ [b] by unfold Lib.trimPrefix; rw [prefix_iff, ha]; rfl, suffix_iff, show (b == 41) = false from beq_eq_false_iff_ne.2 (fun h => hb (by rw [hb2, h]; rfl))]
    rfl
  · rw [prefix_iff, show (a == 40) = false by simpa using ha]
    rfl
theorem parseS_in {s : ByteArray} (h : 2 ≤ s.size) (h1 : bt s 0 = 40) (h2 : bt s ((s.size : Int) - 1) = 41) :
    parseS s = if (s.extract 1 (s.size - 1)).size = 0 then (0, 0) else orOut (orAll (parts 32 (s.extract 1 (s.size - 1))) 0) := by
  obtain ⟨a, m, b, e, ha, hb2, hm⟩ := parse_shape h
  have ea : a = 40 := by
    apply UInt8.toNat_inj.1
    have : a.toNat = 40 := by omega
    rw [this]; rfl
  have eb : b = 41 := by
    apply UInt8.toNat_inj.1
    have : b.toNat = 41 := by omega
    rw [this]; rfl
  subst ea eb
  have hi : inner s = s.extract 1 (s.size - 1) := by
    unfold inner
    rw [e, show Lib.trimPrefix (40 :: (m ++ [41])) [40] = m ++ [41] by unfold Lib.trimPrefix; rw [prefix_iff]; rfl]
    unfold Lib.trimSuffix
    rw [suffix_iff, if_pos (by rfl)]
    have : (m ++ [41]).take ((m ++ [(41 : UInt8)]).length - [(41 : UInt8)].length) = m := by simp
    rw [this, ← hm]
  unfold parseS
  rw [hi, e, prefix_iff, show Lib.trimPrefix (40 :: (m ++ [41])) [40] = m ++ [41] by unfold Lib.trimPrefix; rw [prefix_iff]; rfl, suffix_iff, if_pos (by rfl)]
/-! Lower. -/
theorem low_bt (c : UInt8) : ((lowB c).toNat : Int) = if (c.toNat : Int) ≥ 65 then (if (c.toNat : Int) ≤ 90 then ((c.toNat : Int) + 32) % 256 else c.toNat) else c.toNat := by
  have := c.toNat_lt
  unfold lowB
  by_cases h : 65 ≤ c.toNat ∧ c.toNat ≤ 90
  · rw [if_pos h, if_pos (by omega), if_pos (by omega), UInt8.toNat_ofNat']
    omega
  · rw [if_neg h]
    split
    · rw [if_neg (by omega)]
    · rfl
def preL (s : ByteArray) (i : Nat) : ByteArray := ⟨((s.data.toList.take i).map lowB).toArray⟩
theorem preL_size (s : ByteArray) {i : Nat} (hi : i ≤ s.size) : (preL s i).size = i := by
  show ((s.data.toList.take i).map lowB).toArray.size = i
  have hl : s.data.toList.length = s.size := by simp
  rw [List.size_toArray, List.length_map, List.length_take]
  omega
theorem preL_next (s : ByteArray) {i : Nat} (hi : i < s.size) {v : Int} (hv : v = ((lowB (s.data.toList[i]'(by simpa using hi))).toNat : Nat)) : preL s i ++ strOfNums [v] = preL s (i + 1) := by
  refine ByteArray.ext (Array.ext' ?_)
  have hl : s.data.toList.length = s.size := by simp
  have e : (preL s i ++ strOfNums [v]).data.toList = (preL s i).data.toList ++ (strOfNums [v]).data.toList := by simp
  rw [e, strOfNums_data]
  show (s.data.toList.take i).map lowB ++ [UInt8.ofNat v.toNat] = (s.data.toList.take (i + 1)).map lowB
  rw [List.take_succ_eq_append_getElem (by omega), List.map_append, hv]
  simp
theorem w64i {i : Int} (h0 : 0 ≤ i) (h1 : i < 4611686018427387904) : wrap64 i = i := by
  unfold wrap64; omega
theorem lower_l0 (s : ByteArray) (hs : s.size ≤ 140737488351232) : ∀ (d i : Nat), d + i = s.size → postchaiseref01_Lower.l0 (d + 1) s (preL s i) (i : Int) = some (lowS s)
  | 0, i, h => by
    unfold postchaiseref01_Lower.l0
    rw [if_neg (by omega)]
    unfold preL lowS
    rw [List.take_of_length_le (by simp; omega)]
  | d + 1, i, h => by
    have ih := lower_l0 s hs d (i + 1) (by omega)
    have hi : i < s.size := by omega
    have hb := bt_nat s hi
    have hlow := low_bt (s.data.toList[i]'(by simpa using hi))
    rw [← hb] at hlow
    have hz : ∀ v : Int, (preL s i).size + (strOfNums [v]).size ≤ 9223372036854775807 := fun v => by
      rw [preL_size s (by omega), strOfNums_size]
      simp; omega
    have ew : wrap64 ((i : Int) + 1) = ((i + 1 : Nat) : Int) := by rw [w64i (by omega) (by omega)]; omega
    unfold postchaiseref01_Lower.l0
    rw [if_pos (by omega), if_pos (by omega)]
    by_cases h1 : bt s (i : Int) ≥ 65
    · rw [if_pos h1] at hlow ⊢
      by_cases h2 : bt s (i : Int) ≤ 90
      · rw [if_pos h2] at hlow ⊢
        simp only [Option.bind_some]
        rw [if_pos (hz _), ew, preL_next s hi hlow.symm]
        exact ih
      · rw [if_neg h2] at hlow ⊢
        simp only [Option.bind_some]
        rw [if_pos (hz _), ew, preL_next s hi hlow.symm]
        exact ih
    · rw [if_neg h1] at hlow ⊢
      simp only [Option.bind_some]
      rw [if_pos (hz _), ew, preL_next s hi hlow.symm]
      exact ih
theorem refLower_any (s : ByteArray) (w : World) (hs : s.size ≤ 140737488351232) : Calls Tryd.prog 36 #[.string s] w fun e w' => e = .returned (.string (lowS s)) ∧ Hd (Below w.heap.size w w') :=
  (postchaiseref01_Lower.calls (s.size + 1) s (lowS s) w (lower_l0 s hs s.size 0 (by omega))).mono fun _ _ h => ⟨h.1, ⟨h.2⟩⟩
end Go.Proofs.YtahbnpkhkhdmaaaDoor
