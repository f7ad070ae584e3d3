/- What is quoted is read as it was, in plain Lean. No condition but those that each bears. -/
import Derived.Test.YtphaemaccdddfaaDoorTkQuo
import Derived.Test.YtphaemaccdddfaaDoorQTk1
set_option linter.unusedVariables false
set_option linter.unusedSimpArgs false
namespace Go.Proofs.YtphaemaccdddfaaDoor.PTk
open Go.RowKit Go.Shelf Go.Lib Go.Proofs.YtphaemaccdddfaaDoorW.PrintWords Go.Proofs.YtphaemaccdddfaaDoorW.PrintLast Go.Proofs.YtphaemaccdddfaaDoorW.PrintMore
theorem two_parts {y : ByteArray} {a b : List UInt8} (h : y.data.toList = a ++ b) : y.extract 0 a.length = ⟨a.toArray⟩ ∧ y.extract a.length y.size = ⟨b.toArray⟩ ∧ y.size = a.length + b.length := by
  have hs : y.data.toList.length = y.size := by simp
  refine ⟨tk_bytes_ext ?_, tk_bytes_ext ?_, by rw [← hs, h, List.length_append]⟩
  · rw [list_extract, h]; simp
  · rw [list_extract, ← hs, List.take_length, h]; simp
theorem size_lst {y : ByteArray} {l : List UInt8} (h : y.data.toList = l) : y.size = l.length := by rw [← h]; simp
theorem size_tail {y z : ByteArray} {a l : List UInt8} (h : y.data.toList = a ++ l) (h1 : z.data.toList = l) {n : Nat} (hy : y.size ≤ n) : z.size ≤ n := by
  rw [size_lst h1]
  rw [size_lst h, List.length_append] at hy
  omega
theorem wlen_app (P : UInt8 → Bool) : ∀ (a : List UInt8) (c : UInt8) (b : List UInt8), (∀ x ∈ a, P x = true) → P c = false → wlen P (a ++ c :: b) = a.length
  | [], c, b, _, hc => by rw [List.nil_append, wlen_cons, hc]; rfl
  | x :: a, c, b, ha, hc => by
    rw [List.cons_append, wlen_cons, if_pos (ha x List.mem_cons_self), wlen_app P a c b (fun y hy => ha y (List.mem_cons_of_mem _ hy)) hc, List.length_cons]
theorem wlen_full (P : UInt8 → Bool) : ∀ (a : List UInt8), wlen P a = a.length → ∀ x ∈ a, P x = true
  | [], _, x, hx => by simp at hx
  | c :: a, h, x, hx => by
    rw [wlen_cons] at h
    split at h
    · next hc =>
      rcases List.mem_cons.1 hx with rfl | hx
      · exact hc
      · exact wlen_full P a (by rw [List.length_cons] at h; omega) x hx
    · rw [List.length_cons] at h; omega
theorem quoB_all : ∀ (l out r : List UInt8), endsL l = false → quoB (escB l ++ 34 :: r) out = some (out ++ l, r)
  | [], out, r, _ => by
    show quoB (34 :: r) out = _
    rw [quoB_34, List.append_nil]
  | c :: l, out, r, h => by
    rw [endsL_cons, Bool.or_eq_false_iff] at h
    obtain ⟨h1, h2⟩ := h
    rw [escB_cons]
    by_cases hq : c = 34 ∨ c = 92
    · rw [if_pos hq]
      show quoB (92 :: c :: (escB l ++ 34 :: r)) out = _
      rw [quoB_esc c _ out hq, quoB_all l _ r h2, List.append_assoc]; rfl
    · rw [if_neg hq]
      show quoB (c :: (escB l ++ 34 :: r)) out = _
      rw [quoB_else c _ out (fun e => hq (.inl e)) (fun e => hq (.inr e))]
      show (if c = 13 ∨ c = 10 then none else quoB (escB l ++ 34 :: r) (out ++ [c])) = _
      rw [Bool.or_eq_false_iff] at h1
      rw [if_neg (by rintro (e | e); exact (beq_eq_false_iff_ne.1 h1.1) e; exact (beq_eq_false_iff_ne.1 h1.2) e), quoB_all l _ r h2, List.append_assoc]; rfl
theorem nextB_head {y : ByteArray} {c : UInt8} {l : List UInt8} (h : y.data.toList = c :: l) (d : UInt8) : nextB y d = (c == d) := by
  unfold nextB
  rw [h, List.head?_cons, Bool.eq_iff_iff, beq_iff_eq, beq_iff_eq]
  exact ⟨Option.some.inj, fun e => by rw [e]⟩
theorem next_f {y : ByteArray} {c : UInt8} {l : List UInt8} (h : y.data.toList = c :: l) (d : UInt8) : token_Reader_Next.f y false ((d.toNat : Nat) : Int) = some (c == d, y, false) := by
  have hs : y.data.toList.length = y.size := by simp
  rw [h, List.length_cons] at hs
  unfold token_Reader_Next.f
  rw [if_neg (by rw [ByteArray.toList_eq, h]; simp), if_pos (by omega), bt_head y c l h]
  have e : (((c.toNat : Nat) : Int) == ((d.toNat : Nat) : Int)) = (c == d) := by
    rw [Bool.eq_iff_iff, beq_iff_eq, beq_iff_eq]
    exact ⟨fun h => UInt8.toNat_inj.1 (Int.ofNat.inj h), fun h => by rw [h]⟩
  rw [e]
theorem word_f {y : ByteArray} (a : ByteArray) {b : List UInt8} (h : y.data.toList = a.data.toList ++ b) (hy : y.size ≤ 1000000) : token_Reader_Word.f y false a = some (true, ⟨b.toArray⟩, false) := by
  have ha : a.data.toList.length = a.size := by simp
  obtain ⟨h1, h2, h3⟩ := two_parts h
  rw [ha] at h1 h2 h3
  have e : (⟨a.data.toList.toArray⟩ : ByteArray) = a := tk_bytes_ext (by simp)
  unfold token_Reader_Word.f
  rw [if_pos ⟨by omega, by omega⟩, if_neg (by decide), if_neg (by omega), h1, e, if_pos rfl, h2]
theorem dec_not (u : Nat) : ∀ x ∈ decDigits u, digB x = true := fun x hx => by
  have := dec_all u x hx
  unfold digB
  rw [decide_eq_true this.1, decide_eq_true this.2]; rfl
theorem number_dec {y : ByteArray} (u : Nat) (h0 : 0 < u) (hu : u ≤ 1000000) {c : UInt8} {b : List UInt8} (hc : digB c = false) (h : y.data.toList = decDigits u ++ c :: b) (hy : y.size ≤ 1000000) : token_Reader_Number.f y false = some ((u : Int), ⟨(c :: b).toArray⟩, false) := by
  have hd : dlen y = (decDigits u).length := by unfold dlen; rw [h]; exact wlen_app digB _ c b (dec_not u) hc
  obtain ⟨h1, h2, h3⟩ := two_parts h
  unfold token_Reader_Number.f
  rw [if_pos (by omega), hd, h1, h2]
  have hn : numOf ⟨(decDigits u).toArray⟩ = some u := by
    have e : (⟨(decDigits u).toArray⟩ : ByteArray).data.toList = decDigits u := rfl
    have e2 : (⟨(decDigits u).toArray⟩ : ByteArray).size = (decDigits u).length := by show (decDigits u).toArray.size = _; simp
    have h10 : (10 : Nat) ^ (9 + 1) = 10000000000 := by decide
    rw [numOf_eq, e, e2, val_dec, if_pos ⟨⟨dec_ne u, dec_len 9 u (by omega), .inr (dec_head u h0), dec_all u⟩, by omega⟩]
  rw [hn]
theorem blank_f (t : List UInt8) (ht : t.length ≤ 900000) : token_Reader_Blank.f ⟨(32 :: t).toArray⟩ false = some (⟨t.toArray⟩, false) := by
  have hz : (⟨(32 :: t).toArray⟩ : ByteArray).size = t.length + 1 := by show (32 :: t).toArray.size = _; simp
  unfold token_Reader_Blank.f
  rw [word_f (y := ⟨(32 :: t).toArray⟩) ⟨#[32]⟩ (b := t) rfl (by omega)]
  rfl
theorem string_q1 (x : ByteArray) (t : List UInt8) (hx : x.size ≤ 1000) (ht : t.length ≤ 900000) (y : ByteArray) (h1 : x.data.toList ≠ [] ∧ alen x = x.size) (hy : y.data.toList = (x).data.toList ++ 32 :: t) (hys : y.size ≤ 1000000) :
    token_Reader_String.f y false = some (x, ⟨(32 :: t).toArray⟩, false) := by
  have hl : x.data.toList.length = x.size := by simp
  have ex : (⟨x.data.toList.toArray⟩ : ByteArray) = x := tk_bytes_ext (by simp)
  have hall : ∀ b ∈ x.data.toList, atomB b = true := wlen_full atomB _ (by have := h1.2; unfold alen at this; omega)
  have ha : alen y = x.size := by
    unfold alen
    rw [hy, wlen_app atomB _ 32 t hall (by decide), hl]
  obtain ⟨p1, p2, p3⟩ := two_parts hy
  rw [hl, ex] at p1
  rw [hl] at p2
  obtain ⟨c, l, hcl⟩ : ∃ c l, x.data.toList = c :: l := by
    cases e : x.data.toList with
    | nil => exact absurd e h1.1
    | cons c l => exact ⟨c, l, rfl⟩
  have hc := hall c (by rw [hcl]; exact List.mem_cons_self)
  have hyc : y.data.toList = c :: (l ++ 32 :: t) := by rw [hy, hcl]; rfl
  have n34 : (c == 34) = false := beq_eq_false_iff_ne.2 (fun e => by subst e; revert hc; decide)
  have n123 : (c == 123) = false := beq_eq_false_iff_ne.2 (fun e => by subst e; revert hc; decide)
  have e34 := next_f hyc 34
  have e123 := next_f hyc 123
  rw [n34] at e34
  rw [n123] at e123
  have hsz : 0 < x.size := by rw [← hl, hcl]; simp
  unfold token_Reader_String.f
  rw [show token_Reader_Next.f y false 34 = some (false, y, false) from e34]
  simp only [Option.bind_some, Bool.false_eq_true, if_false]
  rw [show token_Reader_Next.f y false 123 = some (false, y, false) from e123]
  simp only [Option.bind_some, Bool.false_eq_true, if_false]
  unfold token_Reader_Atom.f
  rw [if_pos (by omega), ha, if_neg (by omega), p1, p2]
  rfl
theorem q2_facts (x : ByteArray) (t : List UInt8) (hx : x.size ≤ 1000) (ht : t.length ≤ 900000) (y : ByteArray) (h2 : 100 < x.size ∨ endsL x.data.toList = true) (hy : y.data.toList = (braced x).data.toList ++ 32 :: t) (hys : y.size ≤ 1000000) :
    ∃ y1 y2 y3 : ByteArray, token_Reader_Next.f y false 34 = some (false, y, false) ∧ token_Reader_Next.f y false 123 = some (true, y, false) ∧ token_Reader_Word.f y false ⟨#[123]⟩ = some (true, y1, false) ∧ token_Reader_Number.f y1 false = some ((x.size : Int), y2, false) ∧ token_Reader_Word.f y2 false ⟨#[125, 13, 10]⟩ = some (true, y3, false) ∧ y3.extract 0 x.size = x ∧ y3.extract x.size y3.size = ⟨(32 :: t).toArray⟩ ∧ x.size ≤ y3.size ∧ y3.size ≤ 1000000 := by
  have hl : x.data.toList.length = x.size := by simp
  have ex : (⟨x.data.toList.toArray⟩ : ByteArray) = x := tk_bytes_ext (by simp)
  have hpos : 0 < x.size := by
    rcases h2 with h | h
    · omega
    · cases e : x.data.toList with
      | nil => rw [e] at h; cases h
      | cons c l => rw [← hl, e]; simp
  obtain ⟨r, hr⟩ : ∃ r, x.data.toList ++ 32 :: t = r := ⟨_, rfl⟩
  have hy1 : y.data.toList = (⟨#[123]⟩ : ByteArray).data.toList ++ (decDigits x.size ++ 125 :: 13 :: 10 :: r) := by
    rw [hy, ← hr]
    unfold braced
    have d3 : (⟨#[125, 13, 10]⟩ : ByteArray).data.toList = [125, 13, 10] := rfl
    have dD : (⟨(decDigits x.size).toArray⟩ : ByteArray).data.toList = decDigits x.size := rfl
    simp only [append_list, List.append_assoc, d3, dD, List.cons_append, List.nil_append]
  obtain ⟨y3, l3⟩ : ∃ y3 : ByteArray, y3.data.toList = r := ⟨⟨r.toArray⟩, rfl⟩
  obtain ⟨y2, l2⟩ : ∃ y2 : ByteArray, y2.data.toList = (⟨#[125, 13, 10]⟩ : ByteArray).data.toList ++ r := ⟨⟨(125 :: 13 :: 10 :: r).toArray⟩, rfl⟩
  obtain ⟨y1, l1⟩ : ∃ y1 : ByteArray, y1.data.toList = decDigits x.size ++ 125 :: 13 :: 10 :: r := ⟨⟨(decDigits x.size ++ 125 :: 13 :: 10 :: r).toArray⟩, rfl⟩
  have b3 : (⟨r.toArray⟩ : ByteArray) = y3 := tk_bytes_ext l3.symm
  have b2 : (⟨(125 :: 13 :: 10 :: r).toArray⟩ : ByteArray) = y2 := tk_bytes_ext l2.symm
  have b1 : (⟨(decDigits x.size ++ 125 :: 13 :: 10 :: r).toArray⟩ : ByteArray) = y1 := tk_bytes_ext l1.symm
  have s1 : y1.size ≤ 1000000 := size_tail hy1 l1 hys
  have s2 : y2.size ≤ 1000000 := size_tail l1 l2 s1
  have e34 := next_f (y := y) (c := 123) (l := decDigits x.size ++ 125 :: 13 :: 10 :: r) hy1 34
  rw [show ((123 : UInt8) == 34) = false from by decide] at e34
  have e123 := next_f (y := y) (c := 123) (l := decDigits x.size ++ 125 :: 13 :: 10 :: r) hy1 123
  rw [show ((123 : UInt8) == 123) = true from by decide] at e123
  have w1 := word_f ⟨#[123]⟩ hy1 hys
  rw [b1] at w1
  have n1 := number_dec x.size hpos (by omega) (c := 125) (by decide) l1 s1
  rw [b2] at n1
  have w2 := word_f ⟨#[125, 13, 10]⟩ l2 s2
  rw [b3] at w2
  have s3 : y3.size ≤ 1000000 := size_tail l2 l3 s2
  rw [← hr] at l3
  obtain ⟨p5, p6, p7⟩ := two_parts l3
  rw [hl, ex] at p5
  rw [hl] at p6 p7
  exact ⟨y1, y2, y3, e34, e123, w1, n1, w2, p5, p6, by omega, s3⟩
theorem need_f (y : ByteArray) : token_Reader_need.f y false true = some (y, false) := rfl
theorem take_all {y : ByteArray} (n : Nat) (hn : n ≤ y.size) (hy : y.size ≤ 1000000) : token_Reader_take.f y false (n : Int) = some (y.extract 0 n, y.extract n y.size, false) := by
  unfold token_Reader_take.f
  rw [if_pos (by omega), if_pos (by omega), Int.toNat_natCast]
theorem string_q2 (x : ByteArray) (t : List UInt8) (hx : x.size ≤ 1000) (ht : t.length ≤ 900000) (y : ByteArray) (h2 : 100 < x.size ∨ endsL x.data.toList = true) (hy : y.data.toList = (braced x).data.toList ++ 32 :: t) (hys : y.size ≤ 1000000) :
    token_Reader_String.f y false = some (x, ⟨(32 :: t).toArray⟩, false) := by
  obtain ⟨y1, y2, y3, e34, e123, w1, n1, w2, p5, p6, p7, s3⟩ := q2_facts x t hx ht y h2 hy hys
  have ew : wrap64 ((x.size : Nat) : Int) = (x.size : Nat) := w64n (by omega) (by omega)
  clear hy h2
  unfold token_Reader_String.f
  rw [show token_Reader_Next.f y false 34 = some (false, y, false) from e34]
  simp only [Option.bind_some, Bool.false_eq_true, if_false]
  rw [show token_Reader_Next.f y false 123 = some (true, y, false) from e123]
  simp only [Option.bind_some, if_true]
  unfold token_Reader_Literal.f
  obtain ⟨W64, hW⟩ : ∃ f, wrap64 = f := ⟨_, rfl⟩
  rw [hW]
  rw [hW] at ew
  clear hW
  rw [w1]
  simp only [Option.bind_some]
  rw [need_f]
  simp only [Option.bind_some]
  rw [n1]
  simp only [Option.bind_some]
  rw [w2]
  simp only [Option.bind_some]
  rw [need_f]
  simp only [Option.bind_some, ew]
  have q7 : ((x.size : Nat) : Int) ≤ ((y3.size : Nat) : Int) := Int.ofNat_le.2 p7
  have q8 : ((y3.size : Nat) : Int) ≤ 9223372036854775807 := by omega
  rw [if_pos (by omega), decide_eq_true q7, need_f]
  simp only [Option.bind_some, Bool.false_eq_true, if_false]
  rw [take_all x.size p7 s3, p5, p6]
  simp only [Option.bind_some]
  all_goals rfl
theorem string_q3 (x : ByteArray) (t : List UInt8) (hx : x.size ≤ 1000) (ht : t.length ≤ 900000) (y : ByteArray) (h2 : ¬ (100 < x.size ∨ endsL x.data.toList = true)) (hy : y.data.toList = (⟨(34 :: (escB x.data.toList ++ [34])).toArray⟩ : ByteArray).data.toList ++ 32 :: t) (hys : y.size ≤ 1000000) :
    token_Reader_String.f y false = some (x, ⟨(32 :: t).toArray⟩, false) := by
  have hl : x.data.toList.length = x.size := by simp
  have ex : (⟨x.data.toList.toArray⟩ : ByteArray) = x := tk_bytes_ext (by simp)
  have he : endsL x.data.toList = false := by cases h : endsL x.data.toList with | false => rfl | true => exact absurd (.inr h) h2
  have hy1 : y.data.toList = 34 :: (escB x.data.toList ++ 34 :: 32 :: t) := by
    rw [hy]
    show 34 :: (escB x.data.toList ++ [34]) ++ 32 :: t = _
    simp
  have e34 := next_f hy1 34
  have hz : 1 ≤ y.size := by
    have hs : y.data.toList.length = y.size := by simp
    rw [hy1, List.length_cons] at hs; omega
  unfold token_Reader_String.f
  rw [show token_Reader_Next.f y false 34 = some (true, y, false) from e34]
  simp only [Option.bind_some, if_true]
  unfold token_Reader_quoted.f
  rw [if_pos ⟨hz, by omega⟩, hy1]
  have hq := quoB_all x.data.toList [] (32 :: t) he
  rw [List.nil_append] at hq
  rw [show (34 :: (escB x.data.toList ++ 34 :: 32 :: t)).tail = escB x.data.toList ++ 34 :: 32 :: t from rfl, hq]
  simp only [Bool.false_eq_true, if_false, ex]
  rfl
theorem string_quote (x : ByteArray) (t : List UInt8) (hx : x.size ≤ 1000) (ht : t.length ≤ 900000) (y : ByteArray)  (hy : y.data.toList = (quoteOf x).data.toList ++ 32 :: t) (hys : y.size ≤ 1000000) :
    token_Reader_String.f y false = some (x, ⟨(32 :: t).toArray⟩, false) := by
  unfold quoteOf at hy
  by_cases h1 : x.data.toList ≠ [] ∧ alen x = x.size
  · rw [if_pos h1] at hy
    exact string_q1 x t hx ht y h1 hy hys
  · rw [if_neg h1] at hy
    by_cases h2 : 100 < x.size ∨ endsL x.data.toList = true
    · rw [if_pos h2] at hy
      exact string_q2 x t hx ht y h2 hy hys
    · rw [if_neg h2] at hy
      exact string_q3 x t hx ht y h2 hy hys
end Go.Proofs.YtphaemaccdddfaaDoor.PTk
