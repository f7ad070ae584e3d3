/- How a text is written, in plain Lean: the document's way is the program's. No condition but those that each bears. -/
import Derived.Test.YtphaemaccdddfaaDoorTkRef
import Derived.Test.YtphaemaccdddfaaDoorQTq1
import Derived.Test.YtphaemaccdddfaaDoorQTq2
set_option linter.unusedVariables false
set_option linter.unusedSimpArgs false
namespace Go.Proofs.YtphaemaccdddfaaDoor.PTk
open Go.RowKit Go.Shelf Go.Lib Go.Proofs.YtphaemaccdddfaaDoorW.PrintWords Go.Proofs.YtphaemaccdddfaaDoorW.PrintLast Go.Proofs.YtphaemaccdddfaaDoorW.PrintMore
/-! The document's numeral. -/
theorem digit_piece {d : Nat} (h : d < 10) : ((⟨#[48, 49, 50, 51, 52, 53, 54, 55, 56, 57]⟩ : ByteArray).extract d (d + 1)).data.toList = [UInt8.ofNat (48 + d)] := by
  match d, h with
  | 0, _ => decide
  | 1, _ => decide
  | 2, _ => decide
  | 3, _ => decide
  | 4, _ => decide
  | 5, _ => decide
  | 6, _ => decide
  | 7, _ => decide
  | 8, _ => decide
  | 9, _ => decide
theorem num_l0 : ∀ (n u : Nat) (acc : ByteArray) (k : Nat), u < 10 ^ (n + 1) → n < k → u < 18446744073709551616 → acc.size + n ≤ 1000 → postchaiseref02_Num.l0 k (u : Int) acc = some (⟨(decDigits u).toArray⟩ ++ acc)
  | n, u, acc, k, hu, hk, h64, ha => by
    obtain ⟨m, rfl⟩ : ∃ m, k = m + 1 := ⟨k - 1, by omega⟩
    unfold postchaiseref02_Num.l0
    by_cases h : u < 10
    · have hw : IntKind.u64.wrap ((u : Int) + 1) = ((u + 1 : Nat) : Int) := by rw [IntKind.wrap_u64]; omega
      have e1 : ((u : Int)).toNat = u := by omega
      have e2 : (((u + 1 : Nat) : Int)).toNat = u + 1 := by omega
      have hz : ((⟨#[48, 49, 50, 51, 52, 53, 54, 55, 56, 57]⟩ : ByteArray).extract u (u + 1)).size ≤ 10 := by
        rw [ByteArray.size_extract]
        have : (⟨#[48, 49, 50, 51, 52, 53, 54, 55, 56, 57]⟩ : ByteArray).size = 10 := rfl
        omega
      rw [if_neg (by omega), if_pos (by omega), hw, if_pos (by omega), if_pos (by omega), e1, e2, if_pos (by omega)]
      congr 1
      apply tk_bytes_ext
      rw [append_list, append_list, digit_piece h, decDigits, dif_pos h]
    · match n, hu with
      | 0, hu => omega
      | n + 1, hu =>
        have e0 : Int.tmod (u : Int) 10 = ((u % 10 : Nat) : Int) := by
          rw [Int.tmod_eq_emod_of_nonneg (by omega)]; omega
        have ed : IntKind.u64.wrap (Int.tdiv (u : Int) 10) = ((u / 10 : Nat) : Int) := by
          rw [Int.tdiv_eq_ediv_of_nonneg (by omega), IntKind.wrap_u64]; omega
        have hw : IntKind.u64.wrap (((u % 10 : Nat) : Int) + 1) = ((u % 10 + 1 : Nat) : Int) := by rw [IntKind.wrap_u64]; omega
        have e1 : (((u % 10 : Nat) : Int)).toNat = u % 10 := by omega
        have e2 : (((u % 10 + 1 : Nat) : Int)).toNat = u % 10 + 1 := by omega
        have hz : ((⟨#[48, 49, 50, 51, 52, 53, 54, 55, 56, 57]⟩ : ByteArray).extract (u % 10) (u % 10 + 1)).size = 1 := by
          rw [ByteArray.size_extract]
          have : (⟨#[48, 49, 50, 51, 52, 53, 54, 55, 56, 57]⟩ : ByteArray).size = 10 := rfl
          omega
        rw [if_pos (by omega), e0, ed, hw, if_pos (by omega), if_pos (by omega), if_pos (by omega), e1, e2, if_pos (by omega),
          num_l0 n (u / 10) _ m (by rw [Nat.pow_succ] at hu; omega) (by omega) (by omega) (by rw [ByteArray.size_append]; omega)]
        congr 1
        apply tk_bytes_ext
        rw [append_list, append_list, append_list, digit_piece (by omega)]
        have : decDigits u = decDigits (u / 10) ++ [UInt8.ofNat (48 + u % 10)] := by rw [decDigits, dif_neg h]
        show decDigits (u / 10) ++ ([UInt8.ofNat (48 + u % 10)] ++ acc.data.toList) = decDigits u ++ acc.data.toList
        rw [this, List.append_assoc]
theorem num_f (u : Nat) (hu : u < 10000000) (k : Nat) (hk : 20 < k) : postchaiseref02_Num.f k (u : Int) = some ⟨(decDigits u).toArray⟩ := by
  have h := num_l0 6 u ⟨#[]⟩ k (by simpa using hu) (by omega) (by omega) (by show 0 + 6 ≤ 1000; omega)
  unfold postchaiseref02_Num.f
  rw [h]
  exact congrArg some (tk_bytes_ext (by rw [append_list]; simp))
def endsL (l : List UInt8) : Bool := l.any fun c => c == 13 || c == 10
theorem endsL_cons (c : UInt8) (l : List UInt8) : endsL (c :: l) = ((c == 13 || c == 10) || endsL l) := rfl
theorem hasEnds_eq (s : ByteArray) : hasEnds s = endsL s.data.toList := by
  unfold hasEnds
  generalize s.data.toList = l
  induction l with
  | nil => rfl
  | cons c l ih =>
    rw [endsL_cons, ← ih]
    have hge := indexAny_ge [13, 10] l
    have hc : ([13, 10] : List UInt8).contains c = (c == 13 || c == 10) := by simp [List.contains_cons]; rfl
    rw [show indexAny (c :: l) [13, 10] = if ([13, 10] : List UInt8).contains c then 0 else if indexAny l [13, 10] == -1 then -1 else indexAny l [13, 10] + 1 from rfl, hc]
    cases h : (c == 13 || c == 10) with
    | true => rw [if_pos rfl]; rfl
    | false =>
      rw [if_neg (by decide), Bool.false_or]
      by_cases h1 : indexAny l [13, 10] = -1
      · rw [h1]; rfl
      · rw [if_neg (by simpa using h1)]
        rw [decide_eq_true (by omega), decide_eq_true (by omega)]
theorem nq_u8 (c d : UInt8) (h : c ≠ d) : ¬ ((c.toNat : Nat) : Int) = (d.toNat : Nat) := fun e => h (UInt8.toNat_inj.1 (Int.ofNat.inj e))
def escB (l : List UInt8) : List UInt8 := l.flatMap fun c => if c = 34 ∨ c = 92 then [92, c] else [c]
theorem escB_cons (c : UInt8) (l : List UInt8) : escB (c :: l) = (if c = 34 ∨ c = 92 then [92, c] else [c]) ++ escB l := by unfold escB; rw [List.flatMap_cons]
def braced (s : ByteArray) : ByteArray := (((⟨#[123]⟩ : ByteArray) ++ ⟨(decDigits s.size).toArray⟩) ++ (⟨#[125, 13, 10]⟩ : ByteArray)) ++ s
/-- How a text is written. -/
def quoteOf (s : ByteArray) : ByteArray :=
  if s.data.toList ≠ [] ∧ alen s = s.size then s else if 100 < s.size ∨ endsL s.data.toList = true then braced s else ⟨(34 :: (escB s.data.toList ++ [34])).toArray⟩
theorem atom_all (s : ByteArray) (hs : s.size ≤ 1000000) : ∃ r y fl, token_Reader_Atom.f s false = some (r, y, fl) ∧ (r.toList = s.toList ↔ (s.data.toList = [] ∨ alen s = s.size)) := by
  have hl : s.data.toList.length = s.size := by simp
  have hle := wlen_size atomB s
  unfold token_Reader_Atom.f
  rw [if_pos (by omega)]
  by_cases h0 : alen s = 0
  · rw [if_pos h0]
    refine ⟨_, _, _, rfl, ?_⟩
    rw [ByteArray.toList_eq, ByteArray.toList_eq]
    constructor
    · intro h; exact .inl h.symm
    · rintro (h | h)
      · rw [h]
      · have : s.data.toList = [] := List.length_eq_zero_iff.1 (by omega)
        rw [this]
  · rw [if_neg h0]
    refine ⟨_, _, _, rfl, ?_⟩
    rw [ByteArray.toList_eq, ByteArray.toList_eq, list_extract, List.drop_zero]
    constructor
    · intro h
      have := congrArg List.length h
      rw [List.length_take, hl] at this
      have h2 : alen s ≤ s.size := hle
      exact .inr (by omega)
    · rintro (h | h)
      · rw [h]; simp
      · rw [List.take_of_length_le (by omega)]
theorem quote_l0 (s : ByteArray) (hs : s.size ≤ 1000000) : ∀ (d i k : Nat) (acc : List Int), d + i = s.size → d < k → acc.length ≤ 2 * i + 1 → token_Quote.l0 k s acc (s.size : Int) (i : Int) = some (strOfNums (acc ++ (escB (s.data.toList.drop i)).map (fun c => ((c.toNat : Nat) : Int)) ++ [34]))
  | 0, i, k, acc, h, hk, ha => by
    obtain ⟨m, rfl⟩ : ∃ m, k = m + 1 := ⟨k - 1, by omega⟩
    have hl : s.data.toList.length = s.size := by simp
    unfold token_Quote.l0
    rw [if_neg (by omega), if_pos (by omega), List.drop_eq_nil_of_le (by omega)]
    simp [escB]
  | d + 1, i, k, acc, h, hk, ha => by
    obtain ⟨m, rfl⟩ : ∃ m, k = m + 1 := ⟨k - 1, by omega⟩
    have hlt : i < s.size := by omega
    have hl : i < s.data.toList.length := by simpa using hlt
    have ew : wrap64 ((i : Int) + 1) = ((i + 1 : Nat) : Int) := by rw [w64n (by omega) (by omega)]; omega
    have hdrop : s.data.toList.drop i = s.data.toList[i]'hl :: s.data.toList.drop (i + 1) := List.drop_eq_getElem_cons hl
    have hb := sq_bt s hlt
    obtain ⟨c, hc⟩ : ∃ c, s.data.toList[i]'hl = c := ⟨_, rfl⟩
    rw [hc] at hdrop hb
    have e1 : ∀ (x : Int) (w : List Int), (acc ++ [x]).length ≤ 2 * (i + 1) + 1 := fun x w => by rw [List.length_append, List.length_singleton]; omega
    have e2 : ∀ (x y : Int), ((acc ++ [x]) ++ [y]).length ≤ 2 * (i + 1) + 1 := fun x y => by simp only [List.length_append, List.length_singleton]; omega
    have key1 : ∀ z : Int, z = (c.toNat : Nat) → ¬ (c = 34 ∨ c = 92) → token_Quote.l0 m s (acc ++ [z]) (s.size : Int) ((i + 1 : Nat) : Int) = some (strOfNums (acc ++ (escB (s.data.toList.drop i)).map (fun c => ((c.toNat : Nat) : Int)) ++ [34])) := by
      intro z hz hn
      rw [quote_l0 s hs d (i + 1) m _ (by omega) (by omega) (e1 z []), hdrop, escB_cons, if_neg hn, hz]
      simp
    have key2 : (c = 34 ∨ c = 92) → token_Quote.l0 m s ((acc ++ [92]) ++ [((c.toNat : Nat) : Int)]) (s.size : Int) ((i + 1 : Nat) : Int) = some (strOfNums (acc ++ (escB (s.data.toList.drop i)).map (fun c => ((c.toNat : Nat) : Int)) ++ [34])) := by
      intro hn
      rw [quote_l0 s hs d (i + 1) m _ (by omega) (by omega) (e2 _ _), hdrop, escB_cons, if_pos hn]
      simp
    unfold token_Quote.l0
    rw [if_pos (by omega), if_pos (by omega), if_pos (by omega), hb, ew]
    simp only [Option.bind_some]
    have ha2 : acc.length < 140737488355328 := by omega
    have ha3 : (acc ++ [(92 : Int)]).length < 140737488355328 := by rw [List.length_append, List.length_singleton]; omega
    by_cases h34 : c = 34
    · rw [if_pos (by rw [h34]; rfl), if_pos ha2, if_pos ha3]
      exact key2 (.inl h34)
    · rw [if_neg (show ¬ ((c.toNat : Nat) : Int) = 34 from nq_u8 c 34 h34)]
      by_cases h92 : c = 92
      · rw [if_pos (by rw [h92]; rfl), if_pos ha2, if_pos ha3]
        exact key2 (.inr h92)
      · rw [if_neg (show ¬ ((c.toNat : Nat) : Int) = 92 from nq_u8 c 92 h92), if_pos ha2]
        exact key1 _ rfl (by rintro (h | h); exact h34 h; exact h92 h)
theorem nums_str (l : List UInt8) : strOfNums (([34] : List Int) ++ l.map (fun c => ((c.toNat : Nat) : Int)) ++ [34]) = ⟨(34 :: (l ++ [34])).toArray⟩ := by
  have e : ((fun n : Int => UInt8.ofNat n.toNat) ∘ fun c : UInt8 => ((c.toNat : Nat) : Int)) = id := by funext c; simp
  apply tk_bytes_ext
  simp [strOfNums, e]
theorem quote_f (s : ByteArray) (hs : s.size ≤ 1000000) (k : Nat) (hk : s.size + 3 < k) : token_Quote.f k s = some (quoteOf s) := by
  obtain ⟨r, y, fl, hA, hiff⟩ := atom_all s hs
  have hl : s.data.toList.length = s.size := by simp
  obtain ⟨k, rfl⟩ : ∃ m, k = m + 2 := ⟨k - 2, by omega⟩
  have h10 : (10 : Nat) ^ (6 + 1) = 10000000 := by decide
  have hdl : (decDigits s.size).length ≤ 7 := dec_len 6 s.size (by rw [h10]; omega)
  have hj1 : token_Quote.j1 (k + 1) s true = some (braced s) := by
    unfold token_Quote.j1
    simp only [if_true]
    have e1 : (⟨(decDigits s.size).toArray⟩ : ByteArray).size = (decDigits s.size).length := by show (decDigits s.size).toArray.size = _; simp
    have e2 : (⟨#[123]⟩ : ByteArray).size = 1 := rfl
    have e3 : (⟨#[125]⟩ : ByteArray).size = 1 := rfl
    have e4 : (⟨#[13, 10]⟩ : ByteArray).size = 2 := rfl
    have hi : strconv_Itoa_52.f (s.size : Int) = some ⟨(decDigits s.size).toArray⟩ := by
      unfold strconv_Itoa_52.f
      rw [if_pos ⟨by omega, by omega⟩, Int.toNat_natCast]
    rw [hi]
    simp only [Option.bind_some, ByteArray.size_append, e1, e2, e3, e4]
    rw [if_pos (by omega), if_pos (by omega), if_pos (by omega), if_pos (by omega)]
    refine congrArg some (tk_bytes_ext ?_)
    unfold braced
    simp only [append_list, List.append_assoc]
    rfl
  have hj0 : token_Quote.j0 (k + 2) s false = some (if 100 < s.size ∨ endsL s.data.toList = true then braced s else ⟨(34 :: (escB s.data.toList ++ [34])).toArray⟩) := by
    unfold token_Quote.j0
    simp only [Bool.false_eq_true, if_false]
    by_cases h1 : 100 < s.size
    · rw [if_pos (by omega), hj1, if_pos (.inl h1)]
    · rw [if_neg (by omega)]
      have hc : strings_ContainsAny.f s ⟨#[13, 10]⟩ = some (endsL s.data.toList) := by
        unfold strings_ContainsAny.f
        rw [if_pos ⟨hs, rfl⟩, hasEnds_eq]
      rw [hc]
      simp only [Option.bind_some]
      cases he : endsL s.data.toList with
      | true => rw [hj1, if_pos (.inr rfl)]
      | false =>
        rw [if_neg (by rintro (h | h); exact h1 h; cases h)]
        unfold token_Quote.j1
        simp only [Bool.false_eq_true, if_false]
        have h := quote_l0 s hs s.size 0 k [34] (by omega) (by omega) (by simp)
        rw [List.drop_zero] at h
        have e0 : ((0 : Nat) : Int) = 0 := rfl
        rw [e0] at h
        rw [h, nums_str]
  unfold token_Quote.f
  have hr : token_Read.f s = some (s, false) := rfl
  rw [hr]
  simp only [Option.bind_some]
  rw [hA]
  simp only [Option.bind_some]
  unfold quoteOf
  by_cases he : s.data.toList = []
  · rw [if_neg (show ¬ (s.data.toList ≠ [] ∧ alen s = s.size) from fun h => h.1 he), if_pos (hiff.2 (.inl he))]
    have hb : (s.toList != ([] : List UInt8)) = false := by rw [ByteArray.toList_eq, he]; rfl
    rw [hb]
    exact hj0
  · by_cases ha : alen s = s.size
    · rw [if_pos (hiff.2 (.inr ha)), if_pos (show s.data.toList ≠ [] ∧ alen s = s.size from ⟨he, ha⟩)]
      have hb : (s.toList != ([] : List UInt8)) = true := by rw [ByteArray.toList_eq]; exact bne_iff_ne.2 he
      rw [hb]
      unfold token_Quote.j0
      simp only [if_true]
    · rw [if_neg (show ¬ r.toList = s.toList from fun h => by rcases hiff.1 h with h | h; exact he h; exact ha h), if_neg (show ¬ (s.data.toList ≠ [] ∧ alen s = s.size) from fun h => ha h.2)]
      exact hj0
/-! The document's way. -/
theorem rquote_j2f (s : ByteArray) (hs : s.size ≤ 1000000) (acc : ByteArray) (hacc : acc.size ≤ 2 * s.size + 1) (p : Bool) (i : Int) (k : Nat) (hk : 20 < k) : postchaiseref12_Quote.j2 (k + 1) s acc p i false = some (if p = true then acc ++ ⟨#[34]⟩ else braced s) := by
  unfold postchaiseref12_Quote.j2
  simp only [Bool.false_eq_true, if_false]
  cases p with
  | true => rw [if_pos rfl, if_pos rfl, if_pos (by omega)]
  | false =>
    simp only [Bool.false_eq_true, if_false]
    have h10 : (10 : Nat) ^ (6 + 1) = 10000000 := by decide
    have hdl : (decDigits s.size).length ≤ 7 := dec_len 6 s.size (by rw [h10]; omega)
    have e1 : (⟨(decDigits s.size).toArray⟩ : ByteArray).size = (decDigits s.size).length := by show (decDigits s.size).toArray.size = _; simp
    have e2 : (⟨#[123]⟩ : ByteArray).size = 1 := rfl
    have e4 : (⟨#[125, 13, 10]⟩ : ByteArray).size = 3 := rfl
    rw [num_f s.size (by omega) k hk]
    simp only [Option.bind_some, ByteArray.size_append, e1, e2, e4]
    rw [if_pos (by omega), if_pos (by omega), if_pos (by omega)]
    rfl
theorem rquote_l0 (s : ByteArray) (hs : s.size ≤ 1000000) : ∀ (d i k : Nat) (acc : ByteArray), d + i = s.size → 3 * d + 40 < k → acc.size ≤ 2 * i + 1 →
    postchaiseref12_Quote.l0 k s acc true (i : Int) = some (if endsL (s.data.toList.drop i) = true then braced s else ⟨(acc.data.toList ++ (escB (s.data.toList.drop i) ++ [34])).toArray⟩)
  | 0, i, k, acc, h, hk, ha => by
    obtain ⟨m, rfl⟩ : ∃ m, k = m + 1 + 1 := ⟨k - 2, by omega⟩
    have hl : s.data.toList.length = s.size := by simp
    unfold postchaiseref12_Quote.l0
    rw [if_neg (by omega), rquote_j2f s hs acc (by omega) true _ m (by omega), List.drop_eq_nil_of_le (by omega)]
    refine congrArg some (tk_bytes_ext ?_)
    rw [if_pos rfl, if_neg (by decide), append_list]
    simp [escB]
  | d + 1, i, k, acc, h, hk, ha => by
    obtain ⟨m, rfl⟩ : ∃ m, k = m + 1 + 1 + 1 := ⟨k - 3, by omega⟩
    have hlt : i < s.size := by omega
    have hl : i < s.data.toList.length := by simpa using hlt
    have ew : wrap64 ((i : Int) + 1) = ((i + 1 : Nat) : Int) := by rw [w64n (by omega) (by omega)]; omega
    have hdrop : s.data.toList.drop i = s.data.toList[i]'hl :: s.data.toList.drop (i + 1) := List.drop_eq_getElem_cons hl
    have hb := sq_bt s hlt
    have hx : (s.extract i (i + 1)).data.toList = [s.data.toList[i]'hl] := by
      rw [list_extract, List.drop_take, Nat.add_sub_cancel_left, hdrop]; rfl
    obtain ⟨c, hc⟩ : ∃ c, s.data.toList[i]'hl = c := ⟨_, rfl⟩
    rw [hc] at hdrop hb hx
    have hx1 : s.extract i (i + 1) = ⟨#[c]⟩ := tk_bytes_ext hx
    have hs1 : (⟨#[c]⟩ : ByteArray).size = 1 := rfl
    have hs2 : (⟨#[92]⟩ : ByteArray).size = 1 := rfl
    have fin : ∀ (acc' : ByteArray), acc'.size ≤ 2 * (i + 1) + 1 → postchaiseref12_Quote.l0 m s acc' false ((i + 1 : Nat) : Int) = some (braced s) := by
      intro acc' ha'
      obtain ⟨q, rfl⟩ : ∃ q, m = q + 1 + 1 := ⟨m - 2, by omega⟩
      unfold postchaiseref12_Quote.l0
      rw [rquote_j2f s hs acc' (by omega) false _ q (by omega)]
      simp
    have sz1 : (acc ++ (⟨#[c]⟩ : ByteArray)).size ≤ 2 * (i + 1) + 1 := by rw [ByteArray.size_append, hs1]; omega
    have sz2 : ((acc ++ (⟨#[92]⟩ : ByteArray)) ++ (⟨#[c]⟩ : ByteArray)).size ≤ 2 * (i + 1) + 1 := by rw [ByteArray.size_append, ByteArray.size_append, hs1, hs2]; omega
    have f1 : acc.size + 1 ≤ 9223372036854775807 := by omega
    have f2 : (acc ++ (⟨#[92]⟩ : ByteArray)).size + (⟨#[c]⟩ : ByteArray).size ≤ 9223372036854775807 := by rw [ByteArray.size_append, hs1, hs2]; omega
    have f3 : acc.size + (⟨#[c]⟩ : ByteArray).size ≤ 9223372036854775807 := by rw [hs1]; omega
    have g0 : (0 : Int) ≤ (i : Int) := by omega
    have g1 : (i : Int) < (s.size : Int) := by omega
    have g2 : (i : Int) ≤ ((i + 1 : Nat) : Int) := by omega
    have g3 : ((i + 1 : Nat) : Int) ≤ (s.size : Int) := by omega
    have t1 : ((i : Int)).toNat = i := by omega
    have t2 : (((i + 1 : Nat) : Int)).toNat = i + 1 := by omega
    have ih1 := rquote_l0 s hs d (i + 1) m (acc ++ ⟨#[c]⟩) (by omega) (by omega) sz1
    have ih2 := rquote_l0 s hs d (i + 1) m ((acc ++ ⟨#[92]⟩) ++ ⟨#[c]⟩) (by omega) (by omega) sz2
    have u34 : (((c.toNat : Nat) : Int) = 34) = (c = 34) := propext ⟨fun h => by false_or_by_contra; rename_i hn; exact nq_u8 c 34 hn h, fun h => by rw [h]; rfl⟩
    have u92 : (((c.toNat : Nat) : Int) = 92) = (c = 92) := propext ⟨fun h => by false_or_by_contra; rename_i hn; exact nq_u8 c 92 hn h, fun h => by rw [h]; rfl⟩
    have u13 : (((c.toNat : Nat) : Int) = 13) = (c = 13) := propext ⟨fun h => by false_or_by_contra; rename_i hn; exact nq_u8 c 13 hn h, fun h => by rw [h]; rfl⟩
    have u10 : (((c.toNat : Nat) : Int) == 10) = (c == 10) := by
      rw [Bool.eq_iff_iff, beq_iff_eq, beq_iff_eq]
      exact ⟨fun h => by false_or_by_contra; rename_i hn; exact nq_u8 c 10 hn h, fun h => by rw [h]; rfl⟩
    have step3 : ∀ b, postchaiseref12_Quote.j3 (m + 1) s acc true (i : Int) b = if c = 34 ∨ c = 92 then postchaiseref12_Quote.l0 m s ((acc ++ ⟨#[92]⟩) ++ ⟨#[c]⟩) (!b) ((i + 1 : Nat) : Int) else postchaiseref12_Quote.l0 m s (acc ++ ⟨#[c]⟩) (!b) ((i + 1 : Nat) : Int) := by
      intro b
      unfold postchaiseref12_Quote.j3
      simp only [hb, ew, u34, u92]
      cases b with
      | true =>
        simp only [if_true, Bool.not_true, if_pos g0, if_pos g1, if_pos g2, if_pos g3, t1, t2, hx1, if_pos f1, if_pos f2, if_pos f3]
        by_cases h34 : c = 34
        · rw [if_pos h34, if_pos (show c = 34 ∨ c = 92 from .inl h34)]
        · rw [if_neg h34]
          by_cases h92 : c = 92
          · rw [if_pos h92, if_pos (show c = 34 ∨ c = 92 from .inr h92)]
          · rw [if_neg h92, if_neg (show ¬ (c = 34 ∨ c = 92) by rintro (h | h); exact h34 h; exact h92 h)]
      | false =>
        simp only [Bool.false_eq_true, if_false, Bool.not_false, if_pos g0, if_pos g1, if_pos g2, if_pos g3, t1, t2, hx1, if_pos f1, if_pos f2, if_pos f3]
        by_cases h34 : c = 34
        · rw [if_pos h34, if_pos (show c = 34 ∨ c = 92 from .inl h34)]
        · rw [if_neg h34]
          by_cases h92 : c = 92
          · rw [if_pos h92, if_pos (show c = 34 ∨ c = 92 from .inr h92)]
          · rw [if_neg h92, if_neg (show ¬ (c = 34 ∨ c = 92) by rintro (h | h); exact h34 h; exact h92 h)]
    have step2 : postchaiseref12_Quote.l0 (m + 1 + 1 + 1) s acc true (i : Int) = postchaiseref12_Quote.j3 (m + 1) s acc true (i : Int) (c == 13 || c == 10) := by
      unfold postchaiseref12_Quote.l0
      rw [if_pos g1]
      unfold postchaiseref12_Quote.j2
      simp only [if_true, if_pos g0, if_pos g1, hb, u13, u10]
      by_cases h13 : c = 13
      · rw [if_pos h13, h13]; rfl
      · rw [if_neg h13, beq_eq_false_iff_ne.2 h13, Bool.false_or]
    rw [step2, step3, hdrop, endsL_cons, escB_cons]
    cases hcr : (c == 13 || c == 10) with
    | true =>
      simp only [Bool.not_true, Bool.true_or, if_true]
      split
      · exact fin _ sz2
      · exact fin _ sz1
    | false =>
      simp only [Bool.not_false, Bool.false_or]
      by_cases hq : c = 34 ∨ c = 92
      · rw [if_pos hq, if_pos hq, ih2]
        split
        · rfl
        · exact congrArg some (tk_bytes_ext (by simp [append_list]))
      · rw [if_neg hq, if_neg hq, ih1]
        split
        · rfl
        · exact congrArg some (tk_bytes_ext (by simp [append_list]))
theorem rquote_j0 (s : ByteArray) (hs : s.size ≤ 1000000) (k : Nat) (hk : 3 * s.size + 50 < k) : postchaiseref12_Quote.j0 k s false = some (if 100 < s.size ∨ endsL s.data.toList = true then braced s else ⟨(34 :: (escB s.data.toList ++ [34])).toArray⟩) := by
  obtain ⟨k, rfl⟩ : ∃ m, k = m + 1 + 1 + 1 := ⟨k - 3, by omega⟩
  unfold postchaiseref12_Quote.j0
  simp only [Bool.false_eq_true, if_false]
  by_cases h1 : 100 < s.size
  · rw [decide_eq_false (by omega), if_pos (.inl h1)]
    unfold postchaiseref12_Quote.l0
    have h2 := rquote_j2f s hs ⟨#[34]⟩ (by show 1 ≤ _; omega) false 0 k (by omega)
    by_cases h3 : (0 : Int) < (s.size : Int)
    · rw [if_pos h3, h2]; simp
    · rw [if_neg h3, h2]; simp
  · rw [decide_eq_true (by omega)]
    have h2 := rquote_l0 s hs s.size 0 (k + 1 + 1) ⟨#[34]⟩ (by omega) (by omega) (by show 1 ≤ _; omega)
    have e0 : ((0 : Nat) : Int) = 0 := rfl
    rw [List.drop_zero, e0] at h2
    rw [h2]
    by_cases he : endsL s.data.toList = true
    · rw [if_pos he, if_pos (.inr he)]
    · rw [if_neg he, if_neg (show ¬ (100 < s.size ∨ endsL s.data.toList = true) by rintro (h | h); exact h1 h; exact he h)]; rfl
theorem rquote_f (s : ByteArray) (hs : s.size ≤ 1000000) (k : Nat) (hk : 3 * s.size + 50 < k) : postchaiseref12_Quote.f k s = some (quoteOf s) := by
  have hj0 := rquote_j0 s hs k hk
  have hle := wlen_size atomB s
  unfold postchaiseref12_Quote.f quoteOf
  rw [ByteArray.toList_eq]
  by_cases he : s.data.toList = []
  · rw [if_pos he, if_neg (show ¬ (s.data.toList ≠ [] ∧ alen s = s.size) from fun h => h.1 he)]
    exact hj0
  · rw [if_neg he, row_a s hs k (by omega)]
    simp only [Option.bind_some]
    by_cases ha : alen s = s.size
    · rw [if_pos (show s.data.toList ≠ [] ∧ alen s = s.size from ⟨he, ha⟩)]
      have hb : (((alen s : Nat) : Int) == ((s.size : Nat) : Int)) = true := by rw [ha]; simp
      rw [hb]
      obtain ⟨k, rfl⟩ : ∃ m, k = m + 1 := ⟨k - 1, by omega⟩
      unfold postchaiseref12_Quote.j0
      simp only [if_true]
    · rw [if_neg (show ¬ (s.data.toList ≠ [] ∧ alen s = s.size) from fun h => ha h.2)]
      have hb : (((alen s : Nat) : Int) == ((s.size : Nat) : Int)) = false := beq_eq_false_iff_ne.2 (by omega)
      rw [hb]
      exact hj0
end Go.Proofs.YtphaemaccdddfaaDoor.PTk
