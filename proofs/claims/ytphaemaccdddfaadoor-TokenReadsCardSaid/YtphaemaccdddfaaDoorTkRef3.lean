/- The document's String, in plain Lean: it is the program's. No condition but those that each bears. -/
import Derived.Test.YtphaemaccdddfaaDoorTkRef2
set_option linter.unusedVariables false
set_option linter.unusedSimpArgs false
namespace Go.Proofs.YtphaemaccdddfaaDoor.PTk
open Go.RowKit Go.Shelf Go.Lib Go.Proofs.YtphaemaccdddfaaDoorW.PrintWords Go.Proofs.YtphaemaccdddfaaDoorW.PrintLast Go.Proofs.YtphaemaccdddfaaDoorW.PrintMore
theorem wr_add (a k : Nat) (h : a ≤ 100000) (hk : k ≤ 1000) : wrap64 ((a : Int) + (k : Int)) = ((a + k : Nat) : Int) := by rw [w64n (by omega) (by omega)]; omega
theorem ne_u8 (c d : UInt8) (h : c ≠ d) : ¬ ((c.toNat : Nat) : Int) = (d.toNat : Nat) := fun e => h (UInt8.toNat_inj.1 (Int.ofNat.inj e))
set_option maxHeartbeats 2000000 in
/-- The document's loop over a quoted text is the program's. -/
theorem quo_l0 (S : ByteArray) (hS : S.size ≤ 100000) : ∀ (n a : Nat) (out : ByteArray), S.size - a ≤ n → a ≤ S.size → out.size ≤ a →
    ∃ (r : ByteArray) (a' : Nat) (fl' : Bool), a' ≤ S.size ∧ (∀ k, 2 * n + 2 < k → postchaiseref12_Reader_String.l0 k out S (a : Int) false = some (r, S, (a' : Int), fl')) ∧
      ((∃ o rest, quoB (S.data.toList.drop a) out.data.toList = some (o, rest) ∧ r = ⟨o.toArray⟩ ∧ fl' = false ∧ restOf S a' false = ⟨rest.toArray⟩) ∨ (quoB (S.data.toList.drop a) out.data.toList = none ∧ r = ⟨#[]⟩ ∧ fl' = true)) := by
  intro n
  induction n using Nat.strongRecOn with
  | _ n ih =>
    intro a out hn ha ho
    have hl : S.data.toList.length = S.size := by simp
    have hrl := rest_list S a
    have hsz := rest_sz S a
    have hrf := rest_f S a false ha
    cases e : S.data.toList.drop a with
    | nil =>
      rw [e] at hrl
      refine ⟨⟨#[]⟩, a, true, ha, fun k hk => ?_, .inr ⟨rfl, rfl, rfl⟩⟩
      obtain ⟨k, rfl⟩ : ∃ m, k = m + 1 + 1 := ⟨k - 2, by omega⟩
      unfold postchaiseref12_Reader_String.l0
      rw [hrf]
      simp only [Option.bind_some]
      rw [ByteArray.toList_eq, hrl, if_pos rfl]
      unfold postchaiseref12_Reader_String.j1
      rw [if_pos rfl]; rfl
    | cons c l =>
      rw [e] at hrl
      have hlen : S.size - a = l.length + 1 := by
        have h1 : (S.data.toList.drop a).length = S.data.toList.length - a := List.length_drop
        rw [e, hl, List.length_cons] at h1
        omega
      obtain ⟨n, rfl⟩ : ∃ m, n = m + 1 := ⟨n - 1, by omega⟩
      have HB0 := Hd.mk (bt_head _ c l hrl)
      obtain ⟨f1, f2, f3⟩ := first_one hrl
      have hdr : S.data.toList.drop (a + 1) = l := by rw [← List.drop_drop, e]; rfl
      have ew1 : wrap64 ((a : Int) + 1) = ((a + 1 : Nat) : Int) := wr_add a 1 (Nat.le_trans ha hS) (by decide)
      have ew2 : wrap64 ((a : Int) + 2) = ((a + 2 : Nat) : Int) := wr_add a 2 (Nat.le_trans ha hS) (by decide)
      have l0eq : ∀ k, postchaiseref12_Reader_String.l0 (k + 1) out S (a : Int) false = if ((c.toNat : Nat) : Int) = 13 then postchaiseref12_Reader_String.j1 k out (restOf S a false) true S (a : Int) false else postchaiseref12_Reader_String.j1 k out (restOf S a false) (((c.toNat : Nat) : Int) == 10) S (a : Int) false := by
        intro k
        unfold postchaiseref12_Reader_String.l0
        rw [hrf]
        simp only [Option.bind_some]
        rw [ByteArray.toList_eq, hrl, if_neg (by simp), if_pos (by omega), HB0.out]
      have bad : ∀ k, postchaiseref12_Reader_String.j1 (k + 1) out (restOf S a false) true S (a : Int) false = some (⟨#[]⟩, S, (a : Int), true) := by
        intro k
        unfold postchaiseref12_Reader_String.j1
        rw [if_pos rfl]; rfl
      have un : ∀ (x y : UInt8), ((x.toNat : Nat) : Int) = (y.toNat : Nat) → x = y := fun x y h => UInt8.toNat_inj.1 (Int.ofNat.inj h)
      by_cases h34 : c = 34
      · subst h34
        have hq := quoB_34 l out.data.toList
        refine ⟨out, a + 1, false, by omega, fun k hk => ?_, .inl ⟨_, _, hq, by rfl, rfl, ?_⟩⟩
        · obtain ⟨k, rfl⟩ : ∃ m, k = m + 1 + 1 := ⟨k - 2, by omega⟩
          rw [l0eq, if_neg (by decide)]
          unfold postchaiseref12_Reader_String.j1
          rw [if_neg (by decide), if_pos (by omega), HB0.out, if_pos (by decide), ew1]
        · apply tk_bytes_ext
          rw [rest_list, hdr]
      · by_cases h92 : c = 92
        · subst h92
          have j1eq : ∀ k, postchaiseref12_Reader_String.l0 (k + 1 + 1) out S (a : Int) false = if ((restOf S a false).size : Int) < 2 then some (⟨#[]⟩, S, (a : Int), true) else if bt (restOf S a false) 1 = 34 ∨ bt (restOf S a false) 1 = 92 then (if out.size + ((restOf S a false).extract 1 2).size ≤ 9223372036854775807 then postchaiseref12_Reader_String.l0 k (out ++ (restOf S a false).extract 1 2) S ((a + 2 : Nat) : Int) false else none) else some (⟨#[]⟩, S, (a : Int), true) := by
            intro k
            rw [l0eq, if_neg (by decide)]
            unfold postchaiseref12_Reader_String.j1
            rw [if_neg (by decide), if_pos (by omega), HB0.out, if_neg (by decide), if_pos (by decide), ew2]
            by_cases h2 : ((restOf S a false).size : Int) < 2
            · rw [if_pos h2, if_pos h2]; rfl
            · rw [if_neg h2, if_neg h2, if_pos (by omega)]
              by_cases h3 : bt (restOf S a false) 1 = 34
              · rw [if_pos h3, if_pos (show bt (restOf S a false) 1 = 34 ∨ bt (restOf S a false) 1 = 92 from .inl h3), if_pos (show 1 ≤ 2 by decide), if_pos (show (2 : Int) ≤ (restOf S a false).size by omega)]
              · rw [if_neg h3]
                by_cases h4 : bt (restOf S a false) 1 = 92
                · rw [if_pos h4, if_pos (show bt (restOf S a false) 1 = 34 ∨ bt (restOf S a false) 1 = 92 from .inr h4), if_pos (show 1 ≤ 2 by decide), if_pos (show (2 : Int) ≤ (restOf S a false).size by omega)]
                · rw [if_neg h4, if_neg (by rintro (h | h); exact h3 h; exact h4 h)]; rfl
          cases l with
          | nil =>
            refine ⟨⟨#[]⟩, a, true, ha, fun k hk => ?_, .inr ⟨quoB_end _, rfl, rfl⟩⟩
            obtain ⟨k, rfl⟩ : ∃ m, k = m + 1 + 1 := ⟨k - 2, by omega⟩
            have : (restOf S a false).size = 1 := by rw [hsz, hlen]; rfl
            rw [j1eq, if_pos (by omega)]
          | cons d l' =>
            have h1 : 1 < (restOf S a false).size := by rw [hsz, hlen, List.length_cons]; omega
            have HB1 : Hd (bt (restOf S a false) 1 = (d.toNat : Nat)) := by
              constructor
              have h := sq_bt (restOf S a false) (i := 1) h1
              have e1 : ((1 : Nat) : Int) = 1 := rfl
              rw [e1] at h
              rw [h]
              have e2 : (restOf S a false).data.toList[1]? = some d := by rw [hrl]; rfl
              have e3 : (restOf S a false).data.toList[1]? = some ((restOf S a false).data.toList[1]'(by simpa using h1)) := List.getElem?_eq_getElem _
              rw [e2] at e3
              rw [← Option.some.inj e3]
            have hx : (restOf S a false).extract 1 2 = ⟨#[d]⟩ := tk_bytes_ext (by rw [list_extract, hrl]; rfl)
            have hx1 : (⟨#[d]⟩ : ByteArray).size = 1 := rfl
            by_cases hd : d = 34 ∨ d = 92
            · have hd2 : bt (restOf S a false) 1 = 34 ∨ bt (restOf S a false) 1 = 92 := by
                rw [HB1.out]
                rcases hd with rfl | rfl
                · exact .inl rfl
                · exact .inr rfl
              have hdr2 : S.data.toList.drop (a + 2) = l' := by rw [← List.drop_drop, e]; rfl
              have hl2 : S.size - a = l'.length + 2 := by rw [hlen, List.length_cons]
              obtain ⟨r, a', fl', h1', h2', h3'⟩ := ih n (by omega) (a + 2) (out ++ ⟨#[d]⟩) (by omega) (by omega) (by rw [ByteArray.size_append, hx1]; omega)
              refine ⟨r, a', fl', h1', fun k hk => ?_, ?_⟩
              · obtain ⟨k, rfl⟩ : ∃ m, k = m + 1 + 1 := ⟨k - 2, by omega⟩
                rw [j1eq, if_neg (by omega), if_pos hd2, hx, if_pos (by rw [hx1]; omega)]
                exact h2' k (by omega)
              · rw [hdr2, append_list] at h3'
                rw [quoB_esc d l' _ hd]
                exact h3'
            · have hd2 : ¬ (bt (restOf S a false) 1 = 34 ∨ bt (restOf S a false) 1 = 92) := by
                rw [HB1.out]
                rintro (h | h)
                · exact hd (.inl (un d 34 h))
                · exact hd (.inr (un d 92 h))
              refine ⟨⟨#[]⟩, a, true, ha, fun k hk => ?_, .inr ⟨quoB_bad d l' _ hd, rfl, rfl⟩⟩
              obtain ⟨k, rfl⟩ : ∃ m, k = m + 1 + 1 := ⟨k - 2, by omega⟩
              rw [j1eq, if_neg (by omega), if_neg hd2]
        · have hx1 : (⟨#[c]⟩ : ByteArray).size = 1 := rfl
          have hx0 : 0 < ((restOf S a false).size : Int) := by omega
          have hx2 : 1 ≤ ((restOf S a false).size : Int) := by omega
          have hx3 : out.size + (⟨#[c]⟩ : ByteArray).size ≤ 9223372036854775807 := by rw [hx1]; omega
          obtain ⟨r, a', fl', h1', h2', h3'⟩ := ih n (by omega) (a + 1) (out ++ ⟨#[c]⟩) (by omega) (by omega) (by rw [ByteArray.size_append, hx1]; omega)
          have n34 : Hd (¬ ((c.toNat : Nat) : Int) = 34) := ⟨ne_u8 c 34 h34⟩
          have n92 : Hd (¬ ((c.toNat : Nat) : Int) = 92) := ⟨ne_u8 c 92 h92⟩
          have hq := quoB_else c l out.data.toList h34 h92
          by_cases h13 : c = 13
          · subst h13
            refine ⟨⟨#[]⟩, a, true, ha, fun k hk => ?_, .inr ⟨hq, rfl, rfl⟩⟩
            obtain ⟨k, rfl⟩ : ∃ m, k = m + 1 + 1 := ⟨k - 2, by omega⟩
            rw [l0eq, if_pos (by decide), bad]
          · have n13 : Hd (¬ ((c.toNat : Nat) : Int) = 13) := ⟨ne_u8 c 13 h13⟩
            by_cases h10 : c = 10
            · subst h10
              refine ⟨⟨#[]⟩, a, true, ha, fun k hk => ?_, .inr ⟨hq, rfl, rfl⟩⟩
              obtain ⟨k, rfl⟩ : ∃ m, k = m + 1 + 1 := ⟨k - 2, by omega⟩
              rw [l0eq, if_neg (by decide)]
              exact bad k
            · have n10 : Hd (¬ ((c.toNat : Nat) : Int) = 10) := ⟨ne_u8 c 10 h10⟩
              refine ⟨r, a', fl', h1', fun k hk => ?_, ?_⟩
              · obtain ⟨k, rfl⟩ : ∃ m, k = m + 1 + 1 := ⟨k - 2, by omega⟩
                rw [l0eq, if_neg n13.out, beq_eq_false_iff_ne.2 n10.out]
                unfold postchaiseref12_Reader_String.j1
                rw [if_neg (by decide), if_pos hx0, HB0.out, if_neg n34.out, if_neg n92.out, if_pos (by decide), if_pos hx2, f1, if_pos hx3, ew1]
                exact h2' k (by omega)
              · rw [hdr, append_list] at h3'
                rw [hq]
                show (∃ o rest, (if c = 13 ∨ c = 10 then none else quoB l (out.data.toList ++ [c])) = some (o, rest) ∧ _) ∨ ((if c = 13 ∨ c = 10 then none else quoB l (out.data.toList ++ [c])) = none ∧ _)
                rw [if_neg (by rintro (h | h); exact h13 h; exact h10 h)]
                exact h3'
theorem string_both (S : ByteArray) (a : Nat) (fl : Bool) (hS : S.size ≤ 100000) (h : a ≤ S.size) : Both S (token_Reader_String.f (restOf S a fl) fl) (fun k => postchaiseref12_Reader_String.f k S (a : Int) fl) := by
  obtain ⟨p34, q34⟩ := next_both S a fl 34 34 rfl h
  obtain ⟨p123, q123⟩ := next_both S a fl 123 123 rfl h
  have hz := restOf_size S a fl
  by_cases h34 : nextB (restOf S a fl) 34 = true
  · obtain ⟨l, hl⟩ := nextB_eq h34
    have hfl : fl = false := by
      cases fl with
      | false => rfl
      | true => have e : (restOf S a true).data.toList = [] := rfl
                rw [e] at hl; cases hl
    subst hfl
    have h123 : nextB (restOf S a false) 123 = false := by unfold nextB; rw [hl]; rfl
    obtain ⟨f1, f2, f3⟩ := first_one hl
    have hsz := rest_sz S a
    have hrl := rest_list S a
    have hdr : S.data.toList.drop (a + 1) = l := by rw [← List.drop_drop, ← hrl, hl]; rfl
    obtain ⟨r, a', fl', h1', h2', h3'⟩ := quo_l0 S hS S.size (a + 1) ⟨#[]⟩ (by omega) (by omega) (by show 0 ≤ a + 1; omega)
    rw [hdr] at h3'
    refine ⟨r, a', fl', h1', ?_, fun k hk => ?_⟩
    · unfold token_Reader_String.f
      rw [p34]
      simp only [Option.bind_some]
      rw [if_pos h34]
      unfold token_Reader_quoted.f
      rw [if_pos ⟨by omega, by omega⟩, hl]
      rcases h3' with ⟨o, rest, e1, e2, e3, e4⟩ | ⟨e1, e2, e3⟩
      · rw [e2, e3, e4]
        show ((match quoB l [] with
          | some (out, rest) => if false = true then some (⟨#[]⟩, ⟨#[]⟩, true) else some (⟨out.toArray⟩, ⟨rest.toArray⟩, false)
          | none => some (⟨#[]⟩, ⟨#[]⟩, true)) : Option (ByteArray × ByteArray × Bool)).bind _ = _
        rw [show quoB l [] = some (o, rest) from e1]; rfl
      · rw [e2, e3]
        show ((match quoB l [] with
          | some (out, rest) => if false = true then some (⟨#[]⟩, ⟨#[]⟩, true) else some (⟨out.toArray⟩, ⟨rest.toArray⟩, false)
          | none => some (⟨#[]⟩, ⟨#[]⟩, true)) : Option (ByteArray × ByteArray × Bool)).bind _ = _
        rw [show quoB l [] = none from e1]; rfl
    · show postchaiseref12_Reader_String.f k S (a : Int) false = _
      unfold postchaiseref12_Reader_String.f
      rw [q123]
      simp only [Option.bind_some]
      rw [if_neg (by rw [h123]; decide), q34]
      simp only [Option.bind_some]
      rw [if_pos h34, show wrap64 ((a : Int) + 1) = ((a + 1 : Nat) : Int) from wr_add a 1 (Nat.le_trans h hS) (by decide)]
      exact h2' k (by omega)
  · by_cases h123 : nextB (restOf S a fl) 123 = true
    · obtain ⟨h1, h2, h3⟩ := literal_both S a fl hS h
      refine ⟨(litR S a fl).1, (litR S a fl).2.1, (litR S a fl).2.2, h1, ?_, fun k hk => ?_⟩
      · unfold token_Reader_String.f
        rw [p34]
        simp only [Option.bind_some]
        rw [if_neg h34, p123]
        simp only [Option.bind_some]
        rw [if_pos h123, h2]; rfl
      · show postchaiseref12_Reader_String.f k S (a : Int) fl = _
        unfold postchaiseref12_Reader_String.f
        rw [q123]
        simp only [Option.bind_some]
        rw [if_pos h123, h3 k hk]; rfl
    · obtain ⟨r, a', fl', h1, h2, h3⟩ := atom_both S a fl hS h
      refine ⟨r, a', fl', h1, ?_, fun k hk => ?_⟩
      · unfold token_Reader_String.f
        rw [p34]
        simp only [Option.bind_some]
        rw [if_neg h34, p123]
        simp only [Option.bind_some]
        rw [if_neg h123, h2]; rfl
      · show postchaiseref12_Reader_String.f k S (a : Int) fl = _
        unfold postchaiseref12_Reader_String.f
        rw [q123]
        simp only [Option.bind_some]
        rw [if_neg h123, q34]
        simp only [Option.bind_some]
        have h3 := h3 k hk
        simp only at h3
        rw [if_neg h34, h3]; rfl
theorem blank_both (S : ByteArray) (a : Nat) (fl : Bool) (hS : S.size ≤ 100000) (h : a ≤ S.size) : token_Reader_Blank.f (restOf S a fl) fl = some (restOf S (wordA S a fl ⟨#[32]⟩) (mustF S a fl ⟨#[32]⟩), mustF S a fl ⟨#[32]⟩) := by
  have w1 : (⟨#[32]⟩ : ByteArray).size ≤ 100000 := by decide
  obtain ⟨p1, _⟩ := word_both S a fl ⟨#[32]⟩ hS h w1
  obtain ⟨q1, m1⟩ := must_both S a fl ⟨#[32]⟩ hS h w1
  unfold token_Reader_Blank.f
  rw [p1]
  simp only [Option.bind_some]
  rw [q1]; rfl
end Go.Proofs.YtphaemaccdddfaaDoor.PTk
