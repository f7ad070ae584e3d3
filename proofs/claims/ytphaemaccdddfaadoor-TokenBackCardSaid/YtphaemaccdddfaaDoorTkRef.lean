/- The document's readers, in plain Lean: they are the program's. No condition but those that each bears. -/
import Derived.Test.YtphaemaccdddfaaDoorDec
import Derived.Test.YtphaemaccdddfaaDoorQTk2
import Derived.Test.YtphaemaccdddfaaDoorQTk3
set_option linter.unusedVariables false
set_option linter.unusedSimpArgs false
namespace Go.Proofs.YtphaemaccdddfaaDoor.PTk
open Go.RowKit Go.Shelf Go.Lib Go.Proofs.YtphaemaccdddfaaDoorW.PrintWords Go.Proofs.YtphaemaccdddfaaDoorW.PrintLast Go.Proofs.YtphaemaccdddfaaDoorW.PrintMore
theorem sq_bt (t : ByteArray) {i : Nat} (hi : i < t.size) : bt t (i : Int) = ((t.data.toList[i]'(by simpa using hi)).toNat : Nat) := by
  unfold bt
  have e : ((i : Int)).toNat = i := by omega
  rw [dif_pos (by rw [e]; exact hi)]
  simp only [e, Array.getElem_toList]
  rfl
theorem w64n {i : Int} (h0 : -4611686018427387904 < i) (h1 : i < 4611686018427387904) : wrap64 i = i := by
  unfold wrap64; omega
theorem tk_bytes_ext {a b : ByteArray} (h : a.data.toList = b.data.toList) : a = b := ByteArray.ext (Array.ext' h)
theorem append_list (a b : ByteArray) : (a ++ b).data.toList = a.data.toList ++ b.data.toList := by simp
/-! Number. -/
instance (c : UInt8) : Decidable (isD c) := by unfold isD; infer_instance
theorem val_take_lt {l : List UInt8} (i : Nat) (hd : ∀ c ∈ l.take i, isD c) (hl : l.length ≤ 10) : val (l.take i) < 10000000000 := by
  have h := val_lt hd
  have h2 : 10 ^ (l.take i).length ≤ 10 ^ 10 := Nat.pow_le_pow_right (by omega) (by rw [List.length_take]; omega)
  have h3 : (10 : Nat) ^ 10 = 10000000000 := by decide
  omega
theorem number_l0 (s : ByteArray) (most : Nat) (hs : s.size ≤ 10) : ∀ (d i k : Nat), d + i = s.size → d < k → (∀ c ∈ s.data.toList.take i, isD c) →
    postchaiseref02_Number.l0 k s (most : Int) (val (s.data.toList.take i) : Nat) (i : Int) = if (∀ c ∈ s.data.toList.drop i, isD c) then some (((val s.data.toList : Nat) : Int), decide (val s.data.toList ≤ most)) else some ((0 : Int), false)
  | 0, i, k, h, hk, hd => by
    obtain ⟨m, rfl⟩ : ∃ m, k = m + 1 := ⟨k - 1, by omega⟩
    have hl : s.data.toList.length = s.size := by simp
    unfold postchaiseref02_Number.l0
    rw [if_neg (by omega), List.drop_eq_nil_of_le (by omega), if_pos (by simp), List.take_of_length_le (by omega)]
    congr 2
    simp
  | d + 1, i, k, h, hk, hd => by
    obtain ⟨m, rfl⟩ : ∃ m, k = m + 1 := ⟨k - 1, by omega⟩
    have hl : s.data.toList.length = s.size := by simp
    have hi : i < s.size := by omega
    have hb := sq_bt s hi
    have hdrop : s.data.toList.drop i = s.data.toList[i]'(by omega) :: s.data.toList.drop (i + 1) := List.drop_eq_getElem_cons (by omega)
    have htake : s.data.toList.take (i + 1) = s.data.toList.take i ++ [s.data.toList[i]'(by omega)] := List.take_succ_eq_append_getElem (by omega)
    obtain ⟨b, hbb⟩ : ∃ b, s.data.toList[i]'(by omega) = b := ⟨_, rfl⟩
    rw [hbb] at hb hdrop htake
    have hvl := val_take_lt i hd (by omega)
    have hbl := b.toNat_lt
    have ew : wrap64 ((i : Int) + 1) = ((i + 1 : Nat) : Int) := by rw [w64n (by omega) (by omega)]; omega
    unfold postchaiseref02_Number.l0
    rw [if_pos (by omega), if_pos (by omega), hb, hdrop]
    by_cases h1 : b.toNat < 48
    · rw [if_pos (by omega), if_neg fun h => by have := (h b List.mem_cons_self).1; omega]
    · rw [if_neg (by omega)]
      by_cases h2 : 57 < b.toNat
      · rw [if_pos (by omega), if_neg fun h => by have := (h b List.mem_cons_self).2; omega]
      · rw [if_neg (by omega)]
        have hbd : isD b := ⟨by omega, by omega⟩
        have hv : IntKind.u64.wrap (IntKind.u64.wrap (10 * ((val (s.data.toList.take i) : Nat) : Int)) + (((b.toNat : Nat) : Int) - 48) % 256) = ((val (s.data.toList.take (i + 1)) : Nat) : Int) := by
          rw [htake, val_snoc, IntKind.wrap_u64, IntKind.wrap_u64]
          omega
        rw [hv, ew, number_l0 s most hs d (i + 1) m (by omega) (by omega) (by
          rw [htake]
          intro c hc
          rcases List.mem_append.1 hc with hc | hc
          · exact hd c hc
          · rw [List.mem_singleton.1 hc]; exact hbd)]
        by_cases hrest : ∀ c ∈ s.data.toList.drop (i + 1), isD c
        · rw [if_pos hrest, if_pos]
          intro c hc
          rcases List.mem_cons.1 hc with rfl | hc
          · exact hbd
          · exact hrest c hc
        · rw [if_neg hrest, if_neg]
          exact fun h => hrest fun c hc => h c (List.mem_cons_of_mem _ hc)
/-- What the document's Number answers: all is digits, of a number's own form. -/
theorem number_f (s : ByteArray) (most : Nat) (k : Nat) (hk : 12 < k) :
    postchaiseref02_Number.f k s (most : Int) = if s.data.toList ≠ [] ∧ s.size ≤ 10 ∧ (s.data.toList.length = 1 ∨ s.data.toList.head? ≠ some 48) ∧ (∀ c ∈ s.data.toList, isD c) then some (((val s.data.toList : Nat) : Int), decide (val s.data.toList ≤ most)) else some ((0 : Int), false) := by
  obtain ⟨m, rfl⟩ : ∃ m, k = m + 1 := ⟨k - 1, by omega⟩
  have hl : s.data.toList.length = s.size := by simp
  have hj : ∀ b, postchaiseref02_Number.j0 (m + 1) s (most : Int) b = if b then some (0, false) else postchaiseref02_Number.l0 m s (most : Int) 0 0 := fun b => by
    unfold postchaiseref02_Number.j0
    rfl
  unfold postchaiseref02_Number.f
  by_cases h1 : s.size < 1
  · rw [if_pos (by omega), hj, if_pos rfl, if_neg fun h => h.1 (List.length_eq_zero_iff.1 (by omega))]
  · rw [if_neg (by omega)]
    by_cases h2 : 10 < s.size
    · rw [if_pos (by omega), hj, if_pos rfl, if_neg fun h => by omega]
    · rw [if_neg (by omega)]
      have hn : s.data.toList ≠ [] := fun e => by rw [e] at hl; simp at hl; omega
      have hl0 := number_l0 s most (by omega) s.size 0 m (by omega) (by omega) (by simp)
      rw [List.drop_zero, List.take_zero] at hl0
      have e0 : ((val ([] : List UInt8) : Nat) : Int) = 0 := rfl
      have e1 : ((0 : Nat) : Int) = 0 := rfl
      rw [e0, e1] at hl0
      have hhead : s.data.toList.head? = some (s.data.toList[0]'(by omega)) := by
        rw [List.head?_eq_getElem?, List.getElem?_eq_getElem (by omega)]
      have hb := sq_bt s (i := 0) (by omega)
      rw [e1] at hb
      by_cases h3 : 1 < s.size
      · rw [if_pos (by omega), if_pos (by omega), hj, hb, hhead]
        by_cases h4 : s.data.toList[0]'(by omega) = 48
        · rw [h4]
          rw [if_pos (by rfl), if_neg fun h => by
            rcases h.2.2.1 with h | h
            · omega
            · exact h rfl]
        · have h5 : (((s.data.toList[0]'(by omega)).toNat : Nat) : Int) ≠ 48 := fun e => h4 (UInt8.toNat_inj.1 (by
            have : (48 : UInt8).toNat = 48 := rfl
            omega))
          rw [if_neg (by simpa using h5), hl0]
          by_cases hd : ∀ c ∈ s.data.toList, isD c
          · rw [if_pos hd, if_pos ⟨hn, by omega, .inr fun e => h4 (Option.some.inj e), hd⟩]
          · rw [if_neg hd, if_neg fun h => hd h.2.2.2]
      · rw [if_neg (by omega), hj, if_neg (by simp), hl0]
        by_cases hd : ∀ c ∈ s.data.toList, isD c
        · rw [if_pos hd, if_pos ⟨hn, by omega, .inl (by omega), hd⟩]
        · rw [if_neg hd, if_neg fun h => hd h.2.2.2]

theorem numOf_eq (x : ByteArray) : numOf x = if (x.data.toList ≠ [] ∧ x.size ≤ 10 ∧ (x.data.toList.length = 1 ∨ x.data.toList.head? ≠ some 48) ∧ (∀ c ∈ x.data.toList, isD c)) ∧ val x.data.toList ≤ 4294967295 then some (val x.data.toList) else none := by
  by_cases h : (x.data.toList ≠ [] ∧ x.size ≤ 10 ∧ (x.data.toList.length = 1 ∨ x.data.toList.head? ≠ some 48) ∧ (∀ c ∈ x.data.toList, isD c)) ∧ val x.data.toList ≤ 4294967295
  · rw [if_pos h]
    obtain ⟨⟨hn, _, hh, hd⟩, hv⟩ := h
    have hp := parse_val 4294967295 (Nat.le_refl _) x.data.toList 0 hd (by omega)
    rw [Nat.zero_mul, Nat.zero_add] at hp
    have hp2 : parseUintB 32 x.data.toList = .ok (val x.data.toList) := by
      unfold parseUintB
      rw [if_neg hn]
      exact hp
    unfold numOf
    rw [hp2]
    simp only
    rw [if_pos (canon _ _ rfl hn hd hh)]
  · rw [if_neg h]
    unfold numOf
    cases hp : parseUintB 32 x.data.toList
    case ok u =>
      simp only
      split
      · next e =>
        exfalso
        have hu : u < 10 ^ (9 + 1) := by have := parseUintB_le hp; have h2 : (10 : Nat) ^ (9 + 1) = 10000000000 := by decide
                                         omega
        have hl : x.data.toList.length = x.size := by simp
        have hlen := dec_len 9 u hu
        rw [e] at hlen
        have hv : val x.data.toList = u := by rw [← e]; exact val_dec u
        refine h ⟨⟨by rw [← e]; exact dec_ne u, by omega, ?_, by rw [← e]; exact dec_all u⟩, by rw [hv]; have := parseUintB_le hp; omega⟩
        by_cases h0 : 0 < u
        · exact .inr (by rw [← e]; exact dec_head u h0)
        · obtain rfl : u = 0 := by omega
          exact .inl (by rw [← e, decDigits, dif_pos (by omega)]; rfl)
      · rfl
    all_goals rfl
/-! ### Rows of bytes -/
theorem ref_atomic (c : UInt8) : postchaiseref12_Atomic.f ((c.toNat : Nat) : Int) = some (atomB c) := by
  have h : ∀ n : Fin 256, postchaiseref12_Atomic.f ((n.val : Nat) : Int) = some (atomB (UInt8.ofNat n.val)) := by decide +kernel
  have h2 := h ⟨c.toNat, c.toNat_lt⟩
  rwa [show UInt8.ofNat c.toNat = c from UInt8.ofNat_toNat] at h2
theorem row_0 (s : ByteArray) (hs : s.size ≤ 1000000) : ∀ (d i k : Nat), d + i = s.size → d < k → i ≤ alen s → postchaiseref12_row.l0 k s 0 (i : Int) = some (alen s : Int)
  | 0, i, k, h, hk, hi => by
    obtain ⟨m, rfl⟩ : ∃ m, k = m + 1 := ⟨k - 1, by omega⟩
    have := wlen_size atomB s
    unfold postchaiseref12_row.l0
    rw [if_neg (by omega), show alen s = i by unfold alen at *; omega]
  | d + 1, i, k, h, hk, hi => by
    obtain ⟨m, rfl⟩ : ∃ m, k = m + 1 := ⟨k - 1, by omega⟩
    have hlt : i < s.size := by omega
    have hl : i < s.data.toList.length := by simpa using hlt
    have ew : wrap64 ((i : Int) + 1) = ((i + 1 : Nat) : Int) := by rw [w64n (by omega) (by omega)]; omega
    unfold postchaiseref12_row.l0
    rw [if_pos (by omega), if_pos rfl, if_pos (by omega), sq_bt s hlt, ref_atomic, ew]
    simp only [Option.bind_some]
    cases hp : atomB (s.data.toList[i]'hl) with
    | true =>
      rw [if_pos rfl]
      exact row_0 s hs d (i + 1) m (by omega) (by omega) (wlen_step atomB _ i hl hi hp)
    | false =>
      rw [if_neg (by decide), if_neg (by decide), show alen s = i from wlen_stop atomB _ i hl hi hp]
theorem row_1 (s : ByteArray) (hs : s.size ≤ 1000000) : ∀ (d i k : Nat), d + i = s.size → d < k → i ≤ dlen s → postchaiseref12_row.l0 k s 1 (i : Int) = some (dlen s : Int)
  | 0, i, k, h, hk, hi => by
    obtain ⟨m, rfl⟩ : ∃ m, k = m + 1 := ⟨k - 1, by omega⟩
    have := wlen_size digB s
    unfold postchaiseref12_row.l0
    rw [if_neg (by omega), show dlen s = i by unfold dlen at *; omega]
  | d + 1, i, k, h, hk, hi => by
    obtain ⟨m, rfl⟩ : ∃ m, k = m + 1 := ⟨k - 1, by omega⟩
    have hlt : i < s.size := by omega
    have hl : i < s.data.toList.length := by simpa using hlt
    have ew : wrap64 ((i : Int) + 1) = ((i + 1 : Nat) : Int) := by rw [w64n (by omega) (by omega)]; omega
    unfold postchaiseref12_row.l0
    rw [if_pos (by omega), if_neg (by decide), if_pos rfl, if_pos (by omega), sq_bt s hlt, ew]
    have hu : digB (s.data.toList[i]'hl) = (decide (48 ≤ (s.data.toList[i]'hl).toNat) && decide ((s.data.toList[i]'hl).toNat ≤ 57)) := rfl
    by_cases h1 : 48 ≤ (s.data.toList[i]'hl).toNat
    · rw [if_pos (by omega)]
      by_cases h2 : (s.data.toList[i]'hl).toNat ≤ 57
      · rw [if_pos (by omega)]
        exact row_1 s hs d (i + 1) m (by omega) (by omega) (wlen_step digB _ i hl hi (by rw [hu, decide_eq_true h1, decide_eq_true h2]; rfl))
      · rw [if_neg (by omega), show dlen s = i from wlen_stop digB _ i hl hi (by rw [hu, decide_eq_false h2]; simp)]
    · rw [if_neg (by omega), show dlen s = i from wlen_stop digB _ i hl hi (by rw [hu, decide_eq_false h1]; rfl)]
theorem row_a (s : ByteArray) (hs : s.size ≤ 1000000) (k : Nat) (hk : s.size < k) : postchaiseref12_row.f k s 0 = some (alen s : Int) := row_0 s hs s.size 0 k (by omega) hk (Nat.zero_le _)
theorem row_d (s : ByteArray) (hs : s.size ≤ 1000000) (k : Nat) (hk : s.size < k) : postchaiseref12_row.f k s 1 = some (dlen s : Int) := row_1 s hs s.size 0 k (by omega) hk (Nat.zero_le _)
/-! ### Upper -/
theorem strOf_one (c : UInt8) (z : Int) (h : z = (c.toNat : Nat)) : strOfNums [z] = ⟨#[c]⟩ := by
  subst h
  simp [strOfNums]
theorem upper_l0 (s : ByteArray) (hs : s.size ≤ 1000000) : ∀ (d i k : Nat) (acc : ByteArray), d + i = s.size → d < k → acc.size = i → postchaiseref12_Upper.l0 k s acc (i : Int) = some (acc ++ ⟨((s.data.toList.drop i).map upB).toArray⟩)
  | 0, i, k, acc, h, hk, ha => by
    obtain ⟨m, rfl⟩ : ∃ m, k = m + 1 := ⟨k - 1, by omega⟩
    have hl : s.data.toList.length = s.size := by simp
    unfold postchaiseref12_Upper.l0
    rw [if_neg (by omega), List.drop_eq_nil_of_le (by omega)]
    exact congrArg some (tk_bytes_ext (by rw [append_list]; simp))
  | d + 1, i, k, acc, h, hk, ha => by
    obtain ⟨m, rfl⟩ : ∃ m, k = m + 1 := ⟨k - 1, by omega⟩
    have hlt : i < s.size := by omega
    have hl : i < s.data.toList.length := by simpa using hlt
    have ew : wrap64 ((i : Int) + 1) = ((i + 1 : Nat) : Int) := by rw [w64n (by omega) (by omega)]; omega
    have hdrop : s.data.toList.drop i = s.data.toList[i]'hl :: s.data.toList.drop (i + 1) := List.drop_eq_getElem_cons hl
    have hub := up_byte (s.data.toList[i]'hl)
    have hb := sq_bt s hlt
    obtain ⟨c, hc⟩ : ∃ c, s.data.toList[i]'hl = c := ⟨_, rfl⟩
    rw [hc] at hdrop hub hb
    have hc8 := c.toNat_lt
    have key : ∀ z : Int, z = ((upB c).toNat : Nat) → (if acc.size + (strOfNums [z]).size ≤ 9223372036854775807 then postchaiseref12_Upper.l0 m s (acc ++ strOfNums [z]) ((i + 1 : Nat) : Int) else none) = some (acc ++ ⟨((s.data.toList.drop i).map upB).toArray⟩) := by
      intro z hz
      rw [strOf_one (upB c) z hz]
      have h1 : (⟨#[upB c]⟩ : ByteArray).size = 1 := rfl
      rw [if_pos (by omega), upper_l0 s hs d (i + 1) m _ (by omega) (by omega) (by rw [ByteArray.size_append, h1]; omega), hdrop]
      exact congrArg some (tk_bytes_ext (by simp [append_list]))
    unfold postchaiseref12_Upper.l0
    rw [if_pos (by omega), if_pos (by omega), hb, ew]
    simp only [Option.bind_some]
    by_cases h1 : (97 : Int) ≤ (c.toNat : Nat)
    · rw [if_pos h1]
      by_cases h2 : ((c.toNat : Nat) : Int) ≤ 122
      · rw [if_pos h2]
        rw [if_pos ⟨h1, h2⟩] at hub
        exact key _ (by omega)
      · rw [if_neg h2]
        rw [if_neg (fun h => h2 h.2)] at hub
        exact key _ hub.symm
    · rw [if_neg h1]
      rw [if_neg (fun h => h1 h.1)] at hub
      exact key _ hub.symm
theorem upper_f (s : ByteArray) (hs : s.size ≤ 1000000) (k : Nat) (hk : s.size < k) : postchaiseref12_Upper.f k s = some (upS s) := by
  have h := upper_l0 s hs s.size 0 k ⟨#[]⟩ (by omega) hk rfl
  rw [List.drop_zero] at h
  unfold postchaiseref12_Upper.f
  exact h.trans (congrArg some (tk_bytes_ext (by rw [append_list]; simp [upS])))
/-! ### The two readers side by side -/
/-- What is left of a text behind its first a bytes; nothing, to a reader that gave up. -/
def restOf (S : ByteArray) (a : Nat) (fl : Bool) : ByteArray := if fl = true then ⟨#[]⟩ else S.extract a S.size
theorem restOf_size (S : ByteArray) (a : Nat) (fl : Bool) : (restOf S a fl).size ≤ S.size := by
  unfold restOf
  split
  · exact Nat.zero_le _
  · rw [ByteArray.size_extract]; omega
theorem restOf_more (S : ByteArray) (a n : Nat) (h : a ≤ S.size) : (restOf S a false).extract n (restOf S a false).size = restOf S (a + n) false := by
  have hS : S.data.toList.length = S.size := by simp
  have e : restOf S a false = S.extract a S.size := rfl
  have e2 : restOf S (a + n) false = S.extract (a + n) S.size := rfl
  rw [e, e2]
  have hl : (S.extract a S.size).size = S.size - a := by rw [ByteArray.size_extract]; omega
  apply tk_bytes_ext
  rw [list_extract, list_extract, list_extract, hl, ← hS, List.take_length, List.take_of_length_le (by rw [List.length_drop]; omega), List.drop_drop]
theorem restOf_take (S : ByteArray) (a n : Nat) (h : a + n ≤ S.size) : (restOf S a false).extract 0 n = S.extract a (a + n) := by
  have hS : S.data.toList.length = S.size := by simp
  have e : restOf S a false = S.extract a S.size := rfl
  rw [e]
  apply tk_bytes_ext
  rw [list_extract, list_extract, list_extract, ← hS, List.take_length, List.drop_zero, List.take_drop]
theorem rest_f (S : ByteArray) (a : Nat) (fl : Bool) (h : a ≤ S.size) : postchaiseref12_Reader_Rest.f S (a : Int) fl = some (restOf S a fl, S, (a : Int), fl) := by
  unfold postchaiseref12_Reader_Rest.f restOf
  cases fl with
  | true => rw [if_pos rfl, if_pos rfl]
  | false => rw [if_neg (by decide), if_pos (by omega), if_pos (by omega), if_neg (by decide)]; rfl
/-- A call of the program's reader and one of the document's come to the same. -/
def Both {α : Type} (S : ByteArray) (p : Option (α × ByteArray × Bool)) (q : Nat → Option (α × ByteArray × Int × Bool)) : Prop :=
  ∃ r a' fl', a' ≤ S.size ∧ p = some (r, restOf S a' fl', fl') ∧ ∀ k, 3 * S.size + 60 < k → q k = some (r, S, (a' : Int), fl')
theorem atom_both (S : ByteArray) (a : Nat) (fl : Bool) (hS : S.size ≤ 100000) (h : a ≤ S.size) : Both S (token_Reader_Atom.f (restOf S a fl) fl) (fun k => postchaiseref12_Reader_Atom.f k S (a : Int) fl) := by
  have hz := restOf_size S a fl
  have hle : alen (restOf S a fl) ≤ (restOf S a fl).size := wlen_size atomB _
  have href : ∀ k, 3 * S.size + 60 < k → postchaiseref12_Reader_Atom.f k S (a : Int) fl = if alen (restOf S a fl) = 0 then some (⟨#[]⟩, S, (a : Int), true) else some ((restOf S a fl).extract 0 (alen (restOf S a fl)), S, ((a + alen (restOf S a fl) : Nat) : Int), fl) := by
    intro k hk
    unfold postchaiseref12_Reader_Atom.f
    rw [rest_f S a fl h]
    simp only [Option.bind_some]
    rw [row_a _ (by omega) k (by omega)]
    simp only [Option.bind_some]
    by_cases h0 : alen (restOf S a fl) = 0
    · rw [if_pos (by omega), if_pos h0]; rfl
    · rw [if_neg (by omega), if_neg h0]
      have hfl : fl = false := by
        cases fl with
        | false => rfl
        | true => exfalso; have e : (restOf S a true).size = 0 := rfl
                  omega
      subst hfl
      have hsz : (restOf S a false).size = S.size - a := by show (S.extract a S.size).size = _; rw [ByteArray.size_extract]; omega
      obtain ⟨n, hn⟩ : ∃ n, alen (restOf S a false) = n := ⟨_, rfl⟩
      rw [hn] at hle h0 ⊢
      have e1 : wrap64 ((a : Int) + (n : Int)) = ((a + n : Nat) : Int) := by rw [w64n (by omega) (by omega)]; omega
      have e2 : wrap64 (((a + n : Nat) : Int) - (n : Int)) = (a : Int) := by rw [w64n (by omega) (by omega)]; omega
      rw [e1, e2, if_pos (by omega), if_pos (by omega), if_pos (by omega), Int.toNat_natCast, Int.toNat_natCast, restOf_take S a n (by omega)]
  unfold token_Reader_Atom.f
  rw [if_pos (by omega)]
  by_cases h0 : alen (restOf S a fl) = 0
  · rw [if_pos h0]
    exact ⟨⟨#[]⟩, a, true, h, rfl, fun k hk => by show postchaiseref12_Reader_Atom.f k S (a : Int) fl = _; rw [href k hk, if_pos h0]⟩
  · rw [if_neg h0]
    have hfl : fl = false := by
      cases fl with
      | false => rfl
      | true => exfalso; have e : (restOf S a true).size = 0 := rfl
                omega
    subst hfl
    have hsz : (restOf S a false).size = S.size - a := by show (S.extract a S.size).size = _; rw [ByteArray.size_extract]; omega
    exact ⟨_, a + alen (restOf S a false), false, by omega, by rw [restOf_more S a _ h], fun k hk => by show postchaiseref12_Reader_Atom.f k S (a : Int) false = _; rw [href k hk, if_neg h0]⟩
end Go.Proofs.YtphaemaccdddfaaDoor.PTk
