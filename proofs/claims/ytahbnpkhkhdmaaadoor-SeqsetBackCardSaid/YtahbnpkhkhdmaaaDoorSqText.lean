/- A set's text, in plain Lean: the document's is the program's. No condition but those that each bears. -/
import Derived.Test.YtahbnpkhkhdmaaaDoorSqRef
import Derived.Test.YtahbnpkhkhdmaaaDoorQSq3
import Derived.Test.YtahbnpkhkhdmaaaDoorSqHand
set_option linter.unusedVariables false
set_option linter.unusedSimpArgs false
namespace Go.Proofs.YtahbnpkhkhdmaaaDoor
section
open Go.RowKit Go.Shelf Go.Lib PSq Go.Proofs.YtahbnpkhkhdmaaaDoorW.PrintWords Go.Proofs.YtahbnpkhkhdmaaaDoorW.PrintLast Go.Proofs.YtahbnpkhkhdmaaaDoorW.PrintMore
def toR (r : S78) : S80 := ⟨r.f0, r.f1⟩
theorem mem_of_index {l : List UInt8} {c : UInt8} (h : indexByte l c ≠ -1) : c ∈ l := by
  obtain ⟨i, hi⟩ : ∃ i : Nat, indexByte l c = i := ⟨(indexByte l c).toNat, by have := indexByte_ge l c; omega⟩
  exact List.mem_of_getElem? (indexByte_some hi).1
/-- A part of a text at its colons, as the document takes it. -/
theorem rangeOf_parts (x : ByteArray) : ((parts 58 x).length = 1 ∧ parts 58 x = [x] ∧ rangeOf x = mkR (endOf x) (endOf x)) ∨
    (∃ a b, parts 58 x = [a, b] ∧ rangeOf x = mkR (endOf a) (endOf b)) ∨ (2 < (parts 58 x).length ∧ rangeOf x = none) := by
  by_cases hi : indexByte x.data.toList 58 = -1
  · refine .inl ⟨by rw [parts_none hi]; rfl, parts_none hi, ?_⟩
    unfold rangeOf cutAt
    rw [if_pos hi]; rfl
  · obtain ⟨i, hii⟩ : ∃ i : Nat, indexByte x.data.toList 58 = i := ⟨(indexByte x.data.toList 58).toNat, by have := indexByte_ge x.data.toList 58; omega⟩
    obtain ⟨_, hp⟩ := parts_some hii
    have hr : rangeOf x = mkR (endOf (x.extract 0 i)) (endOf (x.extract (i + 1) x.size)) := by
      unfold rangeOf cutAt
      rw [if_neg hi, hii]
      rfl
    by_cases h2 : indexByte (x.extract (i + 1) x.size).data.toList 58 = -1
    · refine .inr (.inl ⟨_, _, ?_, hr⟩)
      rw [hp, parts_none h2]
    · refine .inr (.inr ⟨?_, ?_⟩)
      · obtain ⟨j, hj⟩ : ∃ j : Nat, indexByte (x.extract (i + 1) x.size).data.toList 58 = j := ⟨(indexByte (x.extract (i + 1) x.size).data.toList 58).toNat, by have := indexByte_ge (x.extract (i + 1) x.size).data.toList 58; omega⟩
        rw [hp, (parts_some hj).2]
        have := splitN_ne 58 ((x.extract (i + 1) x.size).extract (j + 1) (x.extract (i + 1) x.size).size).data.toList
        have h3 : 0 < (parts 58 ((x.extract (i + 1) x.size).extract (j + 1) (x.extract (i + 1) x.size).size)).length := by
          unfold parts
          rw [List.length_map]
          exact List.length_pos_iff.2 this
        simp only [List.length_cons]
        omega
      · rw [hr, endOf_colon (mem_of_index h2), mkR_none]
def refOut : Option (List S80) → List S80 × Int
  | none => ([], 2)
  | some l => if 64 < l.length then ([], 9) else (l, 0)
theorem endOf_le {s : ByteArray} {u : Nat} (h : endOf s = some u) : u ≤ 4294967295 := by
  rcases endOf_cases h with ⟨_, rfl⟩ | h
  · omega
  · exact h.2.2.2.2.2
theorem refParse_l0 (l : List ByteArray) (hl : l.length ≤ 1000) (hx : ∀ x ∈ l, x.size ≤ 1000) : ∀ (d i : Nat) (acc : List S80) (k : Nat), d + i = l.length → acc.length ≤ i → d + 1100 < k →
    postchaiseref02_Parse.l0 k l acc (i : Int) = some (refOut ((rangesOf (l.drop i)).map fun r => acc ++ r.map toR))
  | 0, i, acc, k, h, ha, hk => by
    obtain ⟨m, rfl⟩ : ∃ m, k = m + 1 := ⟨k - 1, by omega⟩
    unfold postchaiseref02_Parse.l0
    rw [if_neg (by omega), List.drop_eq_nil_of_le (by omega)]
    show _ = some (refOut (some (acc ++ [])))
    rw [List.append_nil]
    show _ = some (if 64 < acc.length then ([], 9) else (acc, 0))
    by_cases h64 : 64 < acc.length
    · rw [if_pos (by omega), if_pos h64]
    · rw [if_neg (by omega), if_neg h64]
  | d + 1, i, acc, k, h, ha, hk => by
    obtain ⟨m, rfl⟩ : ∃ m, k = m + 1 := ⟨k - 1, by omega⟩
    have hi : i < l.length := by omega
    have hti : ((i : Int)).toNat = i := by omega
    have hrd : rdOf ByteArray.empty l (i : Int) = l[i] := by
      unfold rdOf
      rw [hti, List.getD_eq_getElem?_getD, List.getElem?_eq_getElem hi]; rfl
    have hdrop : l.drop i = l[i] :: l.drop (i + 1) := List.drop_eq_getElem_cons hi
    obtain ⟨x, hxx⟩ : ∃ x, l[i] = x := ⟨_, rfl⟩
    have hxs : x.size ≤ 1000 := by rw [← hxx]; exact hx _ (List.getElem_mem hi)
    rw [hxx] at hrd hdrop
    have ew : wrap64 ((i : Int) + 1) = ((i + 1 : Nat) : Int) := by rw [w64n (by omega) (by omega)]; omega
    have hsp := split_f x 58 (by omega) m (by omega)
    have e58 : (((58 : UInt8).toNat : Nat) : Int) = 58 := rfl
    rw [e58] at hsp
    unfold postchaiseref02_Parse.l0
    rw [if_pos (by omega), if_pos (by omega), hrd, hsp, hdrop]
    simp only [Option.bind_some]
    have hstep : ∀ a b : ByteArray, rangeOf x = mkR (endOf a) (endOf b) →
        ((postchaiseref02_end.f m a).bind fun bt156 => (postchaiseref02_end.f m b).bind fun bt159 => (if bt156.2 = true then (if bt159.2 = true then (if acc.length < 17592186044416 then (postchaiseref02_Parse.l0 m l (acc ++ [(⟨bt156.1, bt159.1⟩ : S80)]) (wrap64 ((i : Int) + 1))) else (none)) else (some (([] : List (S80)), 2))) else (some (([] : List (S80)), 2)))) =
        some (refOut ((rangesOf (x :: l.drop (i + 1))).map fun r => acc ++ r.map toR)) := by
      intro a b hr
      obtain ⟨n1, b1, hf1, h1⟩ := end_f a m (by omega)
      obtain ⟨n2, b2, hf2, h2⟩ := end_f b m (by omega)
      rw [hf1, Option.bind_some, hf2, Option.bind_some]
      show (if b1 = true then _ else _) = _
      have hro : rangesOf (x :: l.drop (i + 1)) = (rangeOf x).bind fun r => (rangesOf (l.drop (i + 1))).map (r :: ·) := rfl
      rcases h1 with ⟨rfl, u1, hu1, rfl⟩ | ⟨rfl, hn1⟩
      · rw [if_pos rfl]
        rcases h2 with ⟨rfl, u2, hu2, rfl⟩ | ⟨rfl, hn2⟩
        · rw [if_pos rfl, if_pos (by omega), ew, refParse_l0 l hl hx d (i + 1) _ m (by omega) (by simp; omega) (by omega), hro, hr, hu1, hu2]
          show _ = some (refOut (((rangesOf (l.drop (i + 1))).map (_ :: ·)).map _))
          cases rangesOf (l.drop (i + 1)) with
          | none => rfl
          | some r => simp [toR]
        · rw [if_neg (by simp), hro, hr, hn2, mkR_none]; rfl
      · rw [if_neg (by simp), hro, hr, hn1]
        have : mkR none (endOf b) = none := rfl
        rw [this]; rfl
    rcases rangeOf_parts x with ⟨h1, hp, hr⟩ | ⟨a, b, hp, hr⟩ | ⟨h1, hr⟩
    · rw [hp]
      have ew2 : wrap64 ((([x] : List ByteArray).length : Int) - 1) = 0 := by simp [wrap64]
      rw [if_neg (by simp), if_pos (by simp), ew2]
      have e0 : rdOf ByteArray.empty [x] 0 = x := rfl
      rw [e0]
      have := hstep x x hr
      simp only [if_pos (show (0 : Int) ≤ 0 from Int.le_refl _), if_pos (show (0 : Int) < (([x] : List ByteArray).length : Int) by simp)]
      exact this
    · rw [hp]
      have ew2 : wrap64 ((([a, b] : List ByteArray).length : Int) - 1) = 1 := by simp [wrap64]
      rw [if_neg (by simp), if_pos (by simp), ew2]
      have e0 : rdOf ByteArray.empty [a, b] 0 = a := rfl
      have e1 : rdOf ByteArray.empty [a, b] 1 = b := rfl
      rw [e0, e1]
      have := hstep a b hr
      simp only [if_pos (show (0 : Int) ≤ 1 by decide), if_pos (show (1 : Int) < (([a, b] : List ByteArray).length : Int) by simp)]
      exact this
    · rw [if_pos (by omega)]
      have hro : rangesOf (x :: l.drop (i + 1)) = (rangeOf x).bind fun r => (rangesOf (l.drop (i + 1))).map (r :: ·) := rfl
      rw [hro, hr]; rfl
theorem refParse_f (s : ByteArray) (hs : s.size ≤ 900) (k : Nat) (hk : 2200 < k) : postchaiseref02_Parse.f k s = some (refOut ((rangesOf (parts 44 s)).map fun r => r.map toR)) := by
  have hsp := split_f s 44 (by omega) k (by omega)
  have e44 : (((44 : UInt8).toNat : Nat) : Int) = 44 := rfl
  rw [e44] at hsp
  unfold postchaiseref02_Parse.f
  rw [hsp]
  simp only [Option.bind_some]
  have hc := parts_count 44 s
  have h := refParse_l0 (parts 44 s) (by omega) (fun x hx => by have := parts_each hx; omega) (parts 44 s).length 0 [] k (by omega) (Nat.zero_le _) (by omega)
  rw [List.drop_zero] at h
  have e : ((0 : Nat) : Int) = 0 := rfl
  rw [e] at h
  rw [h]
  simp
end
section
open Go.RowKit Go.Shelf Go.Lib PSq Go.Proofs.YtahbnpkhkhdmaaaDoorW.PrintWords Go.Proofs.YtahbnpkhkhdmaaaDoorW.PrintLast Go.Proofs.YtahbnpkhkhdmaaaDoorW.PrintMore
/-- An end's text. -/
def endT (n : Int) : ByteArray := if n = 0 then ⟨#[42]⟩ else ⟨(decDigits n.toNat).toArray⟩
/-- A range's text. -/
def rangeT (r : S78) : ByteArray := if r.f1 = r.f0 then endT r.f0 else endT r.f0 ++ (⟨#[58]⟩ ++ endT r.f1)
/-- The numbers are of 32 bits. -/
def R32 (l : List S78) : Prop := ∀ r ∈ l, (0 ≤ r.f0 ∧ r.f0 ≤ 4294967295) ∧ (0 ≤ r.f1 ∧ r.f1 ≤ 4294967295)
theorem rangeOf_32 {x : ByteArray} {r : S78} (h : rangeOf x = some r) : (0 ≤ r.f0 ∧ r.f0 ≤ 4294967295) ∧ (0 ≤ r.f1 ∧ r.f1 ≤ 4294967295) := by
  unfold rangeOf at h
  cases h1 : endOf (cutAt 58 x).1 with
  | none => rw [h1] at h; cases h
  | some u =>
    cases h2 : endOf (if (cutAt 58 x).2.2 then (cutAt 58 x).2.1 else (cutAt 58 x).1) with
    | none => rw [h1, h2] at h; cases h
    | some v =>
      rw [h1, h2] at h
      obtain rfl := Option.some.inj h
      have := endOf_le h1
      have := endOf_le h2
      exact ⟨⟨by show (0 : Int) ≤ (u : Int); omega, by show (u : Int) ≤ _; omega⟩, ⟨by show (0 : Int) ≤ (v : Int); omega, by show (v : Int) ≤ _; omega⟩⟩
theorem rangesOf_32 : ∀ (p : List ByteArray) (l : List S78), rangesOf p = some l → R32 l
  | [], l, h => by cases h; exact fun r hr => absurd hr List.not_mem_nil
  | y :: ys, l, h => by
    simp only [rangesOf] at h
    obtain ⟨r, hr, h⟩ := Option.bind_eq_some_iff.1 h
    obtain ⟨l', h', rfl⟩ := Option.map_eq_some_iff.1 h
    intro q hq
    rcases List.mem_cons.1 hq with rfl | hq
    · exact rangeOf_32 hr
    · exact rangesOf_32 ys l' h' q hq
theorem endT_size {n : Int} (h0 : 0 ≤ n) (h1 : n ≤ 4294967295) : (endT n).size ≤ 10 := by
  unfold endT
  split
  · show (1 : Nat) ≤ 10; omega
  · have := dec_len 9 n.toNat (by omega)
    show (decDigits n.toNat).toArray.size ≤ 10
    rw [List.size_toArray]; omega
theorem rangeT_size {r : S78} (h : (0 ≤ r.f0 ∧ r.f0 ≤ 4294967295) ∧ (0 ≤ r.f1 ∧ r.f1 ≤ 4294967295)) : (rangeT r).size ≤ 21 := by
  have h1 := endT_size h.1.1 h.1.2
  have h2 := endT_size h.2.1 h.2.2
  have h3 : (⟨#[58]⟩ : ByteArray).size = 1 := rfl
  unfold rangeT
  split
  · omega
  · rw [ByteArray.size_append, ByteArray.size_append]; omega
/-! The document's numeral. -/
theorem digit_piece {d : Nat} (h : d < 10) : ((⟨#[48, 49, 50, 51, 52, 53, 54, 55, 56, 57]⟩ : ByteArray).extract d (d + 1)).data.toList = [UInt8.ofNat (48 + d)] := by
  match d, h with
  | 0, _ => decide
  | 1, _ => decide
  | 2, _ => decide
  | 3, _ => decide
  | 4, _ => decide
  | 5, _ => decide
  | 6, _ => decide
  | 7, _ => decide
  | 8, _ => decide
  | 9, _ => decide
theorem num_l0 : ∀ (n u : Nat) (acc : ByteArray) (k : Nat), u < 10 ^ (n + 1) → n < k → u < 18446744073709551616 → acc.size + n ≤ 1000 → postchaiseref02_Num.l0 k (u : Int) acc = some (⟨(decDigits u).toArray⟩ ++ acc)
  | n, u, acc, k, hu, hk, h64, ha => by
    obtain ⟨m, rfl⟩ : ∃ m, k = m + 1 := ⟨k - 1, by omega⟩
    unfold postchaiseref02_Num.l0
    by_cases h : u < 10
    · have hw : IntKind.u64.wrap ((u : Int) + 1) = ((u + 1 : Nat) : Int) := by rw [IntKind.wrap_u64]; omega
      have e1 : ((u : Int)).toNat = u := by omega
      have e2 : (((u + 1 : Nat) : Int)).toNat = u + 1 := by omega
      have hz : ((⟨#[48, 49, 50, 51, 52, 53, 54, 55, 56, 57]⟩ : ByteArray).extract u (u + 1)).size ≤ 10 := by
        rw [ByteArray.size_extract]
        have : (⟨#[48, 49, 50, 51, 52, 53, 54, 55, 56, 57]⟩ : ByteArray).size = 10 := rfl
        omega
      rw [if_neg (by omega), if_pos (by omega), hw, if_pos (by omega), if_pos (by omega), e1, e2, if_pos (by omega)]
      congr 1
      apply bytes_ext
      rw [append_list, append_list, digit_piece h, decDigits, dif_pos h]
    · match n, hu with
      | 0, hu => omega
      | n + 1, hu =>
        have e0 : Int.tmod (u : Int) 10 = ((u % 10 : Nat) : Int) := by
          rw [Int.tmod_eq_emod_of_nonneg (by omega)]; omega
        have ed : IntKind.u64.wrap (Int.tdiv (u : Int) 10) = ((u / 10 : Nat) : Int) := by
          rw [Int.tdiv_eq_ediv_of_nonneg (by omega), IntKind.wrap_u64]; omega
        have hw : IntKind.u64.wrap (((u % 10 : Nat) : Int) + 1) = ((u % 10 + 1 : Nat) : Int) := by rw [IntKind.wrap_u64]; omega
        have e1 : (((u % 10 : Nat) : Int)).toNat = u % 10 := by omega
        have e2 : (((u % 10 + 1 : Nat) : Int)).toNat = u % 10 + 1 := by omega
        have hz : ((⟨#[48, 49, 50, 51, 52, 53, 54, 55, 56, 57]⟩ : ByteArray).extract (u % 10) (u % 10 + 1)).size = 1 := by
          rw [ByteArray.size_extract]
          have : (⟨#[48, 49, 50, 51, 52, 53, 54, 55, 56, 57]⟩ : ByteArray).size = 10 := rfl
          omega
        rw [if_pos (by omega), e0, ed, hw, if_pos (by omega), if_pos (by omega), if_pos (by omega), e1, e2, if_pos (by omega),
          num_l0 n (u / 10) _ m (by rw [Nat.pow_succ] at hu; omega) (by omega) (by omega) (by rw [ByteArray.size_append]; omega)]
        congr 1
        apply bytes_ext
        rw [append_list, append_list, append_list, digit_piece (by omega)]
        have : decDigits u = decDigits (u / 10) ++ [UInt8.ofNat (48 + u % 10)] := by rw [decDigits, dif_neg h]
        show decDigits (u / 10) ++ ([UInt8.ofNat (48 + u % 10)] ++ acc.data.toList) = decDigits u ++ acc.data.toList
        rw [this, List.append_assoc]
theorem one_f {n : Int} (h0 : 0 ≤ n) (h1 : n ≤ 4294967295) (k : Nat) (hk : 20 < k) : postchaiseref02_one.f k n = some (endT n) := by
  unfold postchaiseref02_one.f endT
  by_cases h : n = 0
  · rw [if_pos h, if_pos h]
  · obtain ⟨u, rfl⟩ : ∃ u : Nat, n = u := ⟨n.toNat, by omega⟩
    have hw : IntKind.u64.wrap (u : Int) = (u : Int) := by rw [IntKind.wrap_u64]; omega
    have e1 : ((u : Int)).toNat = u := by omega
    rw [if_neg h, if_neg h, hw, e1]
    unfold postchaiseref02_Num.f
    rw [num_l0 9 u ⟨#[]⟩ k (by omega) (by omega) (by omega) (by show (0 : Nat) + 9 ≤ 1000; omega)]
    simp only [Option.bind_some]
    congr 1
    apply bytes_ext
    rw [append_list]
    simp
theorem text_f {n : Int} (h0 : 0 ≤ n) (h1 : n ≤ 4294967295) : seqset_text.f n = some (endT n) := by
  unfold seqset_text.f endT
  by_cases h : n = 0
  · rw [if_pos h, if_pos h]
  · have hw : IntKind.u64.wrap n = n := by rw [IntKind.wrap_u64]; omega
    rw [if_neg h, if_neg h, hw]
    unfold strconv_FormatUint_59.f
    rw [if_pos ⟨h0, by omega, rfl⟩]
    rfl
/-! The whole text. -/
def listT (l : List S78) : List (List UInt8) := l.map fun r => (rangeT r).data.toList
theorem tail_len : ∀ (L : List (List UInt8)), (∀ x ∈ L, x.length ≤ 21) → (joinTail [44] L).length ≤ 22 * L.length
  | [], _ => by simp [joinTail]
  | y :: r, h => by
    have hy := h y (by simp)
    have := tail_len r (fun x hx => h x (by simp [hx]))
    have e : joinTail [44] (y :: r) = ([44] ++ y) ++ joinTail [44] r := by simp [joinTail]
    rw [e, List.length_append, List.length_append]
    simp only [List.length_cons, List.length_nil]
    omega
theorem tail_cons (y : List UInt8) (r : List (List UInt8)) : joinTail [44] (y :: r) = [44] ++ y ++ joinTail [44] r := by simp [joinTail]
theorem listT_len {l : List S78} (h : R32 l) : ∀ x ∈ listT l, x.length ≤ 21 := by
  intro x hx
  obtain ⟨r, hr, rfl⟩ := List.mem_map.1 hx
  have := rangeT_size (h r hr)
  simpa using this
/-- A set's text. -/
def setT (l : List S78) : ByteArray := ⟨(Lib.join (listT l) [44]).toArray⟩
theorem rd78 (l : List S78) {i : Nat} (hi : i < l.length) : rd_T78 l (i : Int) = l[i] := by
  unfold rd_T78
  have e : ((i : Int)).toNat = i := by omega
  rw [e, List.getD_eq_getElem?_getD, List.getElem?_eq_getElem hi]; rfl
theorem rd80 (l : List S78) {i : Nat} (hi : i < l.length) : rd_T80 (l.map toR) (i : Int) = toR l[i] := by
  unfold rd_T80
  have e : ((i : Int)).toNat = i := by omega
  rw [e, List.getD_eq_getElem?_getD, List.getElem?_map, List.getElem?_eq_getElem hi]; rfl
theorem string_l0 (l : List S78) (h32 : R32 l) (hl : l.length ≤ 1000) : ∀ (d i : Nat) (k : Nat), d + i = l.length → d < k →
    seqset_Set_String.l0 k ((l.take i).map rangeT) l (l.length : Int) (i : Int) = some (setT l)
  | 0, i, k, h, hk => by
    obtain ⟨m, rfl⟩ : ∃ m, k = m + 1 := ⟨k - 1, by omega⟩
    have e : ((l.take i).map rangeT).map (·.data.toList) = listT l := by rw [List.take_of_length_le (by omega), List.map_map]; rfl
    have hj : (Lib.join (listT l) [44]).length ≤ 140737488355328 := by
      cases hl2 : l with
      | nil => simp [listT, Lib.join_nil]
      | cons r rs =>
        have h3 := listT_len h32
        rw [hl2] at h3
        show (Lib.join ((rangeT r).data.toList :: listT rs) [44]).length ≤ _
        rw [Lib.join_cons, List.length_append]
        have h4 := tail_len (listT rs) (fun x hx => h3 x (List.mem_cons_of_mem _ hx))
        have h5 := h3 ((rangeT r).data.toList) List.mem_cons_self
        have h6 : (listT rs).length = rs.length := by simp [listT]
        rw [hl2] at hl
        simp only [List.length_cons] at hl
        omega
    unfold seqset_Set_String.l0
    rw [if_neg (by omega)]
    unfold strings_Join.f
    have e44 : (⟨#[44]⟩ : ByteArray).data.toList = [44] := rfl
    rw [e, e44, if_pos ⟨hj, by rw [List.length_map, List.length_take]; omega⟩]
    rfl
  | d + 1, i, k, h, hk => by
    obtain ⟨m, rfl⟩ : ∃ m, k = m + 1 := ⟨k - 1, by omega⟩
    have hi : i < l.length := by omega
    have hr := h32 l[i] (List.getElem_mem hi)
    have ew : wrap64 ((i : Int) + 1) = ((i + 1 : Nat) : Int) := by rw [w64n (by omega) (by omega)]; omega
    have h1 := endT_size hr.1.1 hr.1.2
    have h2 := endT_size hr.2.1 hr.2.2
    have h3 : (⟨#[58]⟩ : ByteArray).size = 1 := rfl
    have hlen : ((l.take i).map rangeT).length ≤ 1000 := by rw [List.length_map, List.length_take]; omega
    have ht : (l.take (i + 1)).map rangeT = (l.take i).map rangeT ++ [rangeT l[i]] := by rw [List.take_succ_eq_append_getElem hi, List.map_append]; rfl
    have ih := string_l0 l h32 hl d (i + 1) m (by omega) (by omega)
    rw [ht] at ih
    unfold seqset_Set_String.l0
    rw [if_pos (by omega), if_pos (by omega), if_pos (by omega), rd78 l hi, text_f hr.1.1 hr.1.2]
    simp only [Option.bind_some]
    by_cases he : l[i].f1 = l[i].f0
    · have hT : rangeT l[i] = endT l[i].f0 := by unfold rangeT; rw [if_pos he]
      rw [if_pos he, if_pos (by omega), ew, ← hT]
      exact ih
    · have hT : rangeT l[i] = endT l[i].f0 ++ (⟨#[58]⟩ ++ endT l[i].f1) := by unfold rangeT; rw [if_neg he]
      rw [if_neg he, text_f hr.2.1 hr.2.2]
      simp only [Option.bind_some]
      rw [if_pos (by omega), if_pos (by rw [ByteArray.size_append]; omega), if_pos (by omega), ew, ← hT]
      exact ih
theorem string_f (l : List S78) (h32 : R32 l) (hl : l.length ≤ 1000) (k : Nat) (hk : 1000 < k) : seqset_Set_String.f k l = some (setT l) := by
  unfold seqset_Set_String.f
  exact string_l0 l h32 hl l.length 0 k (by omega) (by omega)
/-- What the document has written behind i ranges. -/
def preT (l : List S78) (i : Nat) : ByteArray := ⟨(Lib.join (listT (l.take i)) [44]).toArray⟩
theorem join_snoc (L : List (List UInt8)) (y : List UInt8) (hL : L ≠ []) : Lib.join (L ++ [y]) [44] = Lib.join L [44] ++ [44] ++ y := by
  cases L with
  | nil => exact absurd rfl hL
  | cons x r =>
    rw [List.cons_append, Lib.join_cons, Lib.join_cons]
    have : joinTail [44] (r ++ [y]) = joinTail [44] r ++ ([44] ++ y) := by simp [joinTail]
    rw [this]
    simp
theorem preT_size {l : List S78} (h32 : R32 l) (i : Nat) : (preT l i).size ≤ 22 * (l.length + 1) := by
  show (Lib.join (listT (l.take i)) [44]).toArray.size ≤ _
  rw [List.size_toArray]
  have hR : R32 (l.take i) := fun r hr => h32 r (List.mem_of_mem_take hr)
  have hlen : (l.take i).length ≤ l.length := by rw [List.length_take]; omega
  cases hl2 : l.take i with
  | nil => simp [listT, Lib.join_nil]
  | cons r rs =>
    rw [hl2] at hR hlen
    have h3 := listT_len hR
    show (Lib.join ((rangeT r).data.toList :: listT rs) [44]).length ≤ _
    rw [Lib.join_cons, List.length_append]
    have h4 := tail_len (listT rs) (fun x hx => h3 x (List.mem_cons_of_mem _ hx))
    have h5 := h3 ((rangeT r).data.toList) List.mem_cons_self
    have h6 : (listT rs).length = rs.length := by simp [listT]
    simp only [List.length_cons] at hlen
    omega
theorem refText_l0 (l : List S78) (h32 : R32 l) (hl : l.length ≤ 1000) : ∀ (d i : Nat) (k : Nat), d + i = l.length → 2 * d + 30 < k →
    postchaiseref02_Text.l0 k (l.map toR) (preT l i) (i : Int) = some (setT l)
  | 0, i, k, h, hk => by
    obtain ⟨m, rfl⟩ : ∃ m, k = m + 1 := ⟨k - 1, by omega⟩
    unfold postchaiseref02_Text.l0
    rw [if_neg (by rw [List.length_map]; omega)]
    unfold preT setT
    rw [List.take_of_length_le (by omega)]
  | d + 1, i, k, h, hk => by
    obtain ⟨m, rfl⟩ : ∃ m, k = m + 1 + 1 := ⟨k - 2, by omega⟩
    have hi : i < l.length := by omega
    have hr := h32 l[i] (List.getElem_mem hi)
    have ew : wrap64 ((i : Int) + 1) = ((i + 1 : Nat) : Int) := by rw [w64n (by omega) (by omega)]; omega
    have h1 := endT_size hr.1.1 hr.1.2
    have h2 := endT_size hr.2.1 hr.2.2
    have h3 : (⟨#[58]⟩ : ByteArray).size = 1 := rfl
    have h4 : (⟨#[44]⟩ : ByteArray).size = 1 := rfl
    have hps := preT_size h32 i
    have ht : l.take (i + 1) = l.take i ++ [l[i]] := List.take_succ_eq_append_getElem hi
    have ih := refText_l0 l h32 hl d (i + 1) m (by omega) (by omega)
    have hlm : ((l.map toR).length : Int) = l.length := by rw [List.length_map]
    -- the rest of a round, from the text p on
    have hrest : ∀ p : ByteArray, p.size ≤ 100000 → p ++ rangeT l[i] = preT l (i + 1) → postchaiseref02_Text.j1 (m + 1) (l.map toR) p (i : Int) = some (setT l) := by
      intro p hp hpe
      unfold postchaiseref02_Text.j1
      rw [if_pos (by omega), hlm, if_pos (by omega), rd80 l hi]
      show ((postchaiseref02_one.f m l[i].f0).bind _) = _
      rw [one_f hr.1.1 hr.1.2 m (by omega)]
      simp only [Option.bind_some]
      rw [if_pos (by omega)]
      show (if l[i].f0 = l[i].f1 then _ else _) = _
      by_cases he : l[i].f0 = l[i].f1
      · have hT : rangeT l[i] = endT l[i].f0 := by unfold rangeT; rw [if_pos he.symm]
        rw [if_pos he, ew, ← hT, hpe]
        exact ih
      · have hT : rangeT l[i] = endT l[i].f0 ++ (⟨#[58]⟩ ++ endT l[i].f1) := by unfold rangeT; rw [if_neg fun e => he e.symm]
        have e2 : p ++ endT l[i].f0 ++ ⟨#[58]⟩ ++ endT l[i].f1 = preT l (i + 1) := by
          rw [← hpe, hT]
          apply bytes_ext
          simp only [append_list, List.append_assoc]
        rw [if_neg he, if_pos (by rw [ByteArray.size_append]; omega)]
        show ((postchaiseref02_one.f m l[i].f1).bind _) = _
        rw [one_f hr.2.1 hr.2.2 m (by omega)]
        simp only [Option.bind_some]
        rw [if_pos (by rw [ByteArray.size_append, ByteArray.size_append]; omega), ew, e2]
        exact ih
    have hlist : ∀ p : ByteArray, p.data.toList ++ (rangeT l[i]).data.toList = Lib.join (listT (l.take (i + 1))) [44] → p ++ rangeT l[i] = preT l (i + 1) := fun p hp => by
      apply bytes_ext
      rw [append_list]
      exact hp
    have hmap : listT (l.take (i + 1)) = listT (l.take i) ++ [(rangeT l[i]).data.toList] := by rw [ht]; unfold listT; rw [List.map_append]; rfl
    unfold postchaiseref02_Text.l0
    rw [if_pos (by rw [hlm]; omega)]
    by_cases h0 : 0 < i
    · rw [if_pos (by omega), if_pos (by omega)]
      refine hrest (preT l i ++ ⟨#[44]⟩) (by rw [ByteArray.size_append]; omega) (hlist _ ?_)
      rw [hmap, join_snoc _ _ (by
        intro e
        have hlen : (listT (l.take i)).length = i := by unfold listT; rw [List.length_map, List.length_take]; omega
        rw [e] at hlen
        have h00 : 0 = i := hlen
        omega), append_list]
      rfl
    · obtain rfl : i = 0 := by omega
      rw [if_neg (by omega)]
      refine hrest (preT l 0) (by omega) (hlist _ ?_)
      rw [hmap]
      show ([] : List UInt8) ++ _ = Lib.join ([] ++ [_]) [44]
      rw [List.nil_append, List.nil_append, Lib.join_one]
theorem refText_f (l : List S78) (h32 : R32 l) (hl : l.length ≤ 1000) (k : Nat) (hk : 2100 < k) : postchaiseref02_Text.f k (l.map toR) = some (setT l) := by
  unfold postchaiseref02_Text.f
  exact refText_l0 l h32 hl l.length 0 k (by omega) (by omega)
theorem same_l0 (l : List S78) (hl : l.length ≤ 1000000) : ∀ (d i : Nat) (k : Nat), d + i = l.length → d < k → postchaiselaw02_Same.l0 k l (l.map toR) (i : Int) = some true
  | 0, i, k, h, hk => by
    obtain ⟨m, rfl⟩ : ∃ m, k = m + 1 := ⟨k - 1, by omega⟩
    unfold postchaiselaw02_Same.l0
    rw [if_neg (by omega)]
  | d + 1, i, k, h, hk => by
    obtain ⟨m, rfl⟩ : ∃ m, k = m + 1 := ⟨k - 1, by omega⟩
    have hi : i < l.length := by omega
    have ew : wrap64 ((i : Int) + 1) = ((i + 1 : Nat) : Int) := by rw [w64n (by omega) (by omega)]; omega
    unfold postchaiselaw02_Same.l0
    rw [if_pos (by omega), if_pos (by omega), if_pos (by rw [List.length_map]; omega), rd78 l hi, rd80 l hi, if_pos (show l[i].f0 = (toR l[i]).f0 from rfl), if_pos (show l[i].f1 = (toR l[i]).f1 from rfl), ew]
    exact same_l0 l hl d (i + 1) m (by omega) (by omega)
theorem same_f (l : List S78) (hl : l.length ≤ 1000000) (k : Nat) (hk : l.length < k) : postchaiselaw02_Same.f k l (l.map toR) = some true := by
  unfold postchaiselaw02_Same.f
  rw [if_pos (by rw [List.length_map])]
  exact same_l0 l hl l.length 0 k (by omega) (by omega)
end
end Go.Proofs.YtahbnpkhkhdmaaaDoor
