/- The document's Parse of a set, its text, in plain Lean: they are the program's. No condition but those that each bears. -/
import Derived.Test.YtahbnpkhkhdmaaaDoorSqRef
import Derived.Test.YtahbnpkhkhdmaaaDoorQSq3
set_option linter.unusedVariables false
set_option linter.unusedSimpArgs false
namespace Go.Proofs.YtahbnpkhkhdmaaaDoor
open Go.RowKit Go.Shelf Go.Lib PSq Go.Proofs.YtahbnpkhkhdmaaaDoorW.PrintWords Go.Proofs.YtahbnpkhkhdmaaaDoorW.PrintLast Go.Proofs.YtahbnpkhkhdmaaaDoorW.PrintMore
def toR (r : S78) : S80 := ⟨r.f0, r.f1⟩
theorem mem_of_index {l : List UInt8} {c : UInt8} (h : indexByte l c ≠ -1) : c ∈ l := by
  obtain ⟨i, hi⟩ : ∃ i : Nat, indexByte l c = i := ⟨(indexByte l c).toNat, by have := indexByte_ge l c; omega⟩
  exact List.mem_of_getElem? (indexByte_some hi).1
/-- A part of a text at its colons, as the document takes it. -/
theorem rangeOf_parts (x : ByteArray) : ((parts 58 x).length = 1 ∧ parts 58 x = [x] ∧ rangeOf x = mkR (endOf x) (endOf x)) ∨
    (∃ a b, parts 58 x = [a, b] ∧ rangeOf x = mkR (endOf a) (endOf b)) ∨ (2 < (parts 58 x).length ∧ rangeOf x = none) := by
  by_cases hi : indexByte x.data.toList 58 = -1
  · refine .inl ⟨by rw [parts_none hi]; rfl, parts_none hi, ?_⟩
    unfold rangeOf cutAt
    rw [if_pos hi]; rfl
  · obtain ⟨i, hii⟩ : ∃ i : Nat, indexByte x.data.toList 58 = i := ⟨(indexByte x.data.toList 58).toNat, by have := indexByte_ge x.data.toList 58; omega⟩
    obtain ⟨_, hp⟩ := parts_some hii
    have hr : rangeOf x = mkR (endOf (x.extract 0 i)) (endOf (x.extract (i + 1) x.size)) := by
      unfold rangeOf cutAt
      rw [if_neg hi, hii]
      rfl
    by_cases h2 : indexByte (x.extract (i + 1) x.size).data.toList 58 = -1
    · refine .inr (.inl ⟨_, _, ?_, hr⟩)
      rw [hp, parts_none h2]
    · refine .inr (.inr ⟨?_, ?_⟩)
      · obtain ⟨j, hj⟩ : ∃ j : Nat, indexByte (x.extract (i + 1) x.size).data.toList 58 = j := ⟨(indexByte (x.extract (i + 1) x.size).data.toList 58).toNat, by have := indexByte_ge (x.extract (i + 1) x.size).data.toList 58; omega⟩
        rw [hp, (parts_some hj).2]
        have := splitN_ne 58 ((x.extract (i + 1) x.size).extract (j + 1) (x.extract (i + 1) x.size).size).data.toList
        have h3 : 0 < (parts 58 ((x.extract (i + 1) x.size).extract (j + 1) (x.extract (i + 1) x.size).size)).length := by
          unfold parts
          rw [List.length_map]
          exact List.length_pos_iff.2 this
        simp only [List.length_cons]
        omega
      · rw [hr, endOf_colon (mem_of_index h2), mkR_none]
def refOut : Option (List S80) → List S80 × Int
  | none => ([], 2)
  | some l => if 64 < l.length then ([], 9) else (l, 0)
theorem endOf_le {s : ByteArray} {u : Nat} (h : endOf s = some u) : u ≤ 4294967295 := by
  rcases endOf_cases h with ⟨_, rfl⟩ | h
  · omega
  · exact h.2.2.2.2.2
theorem refParse_l0 (l : List ByteArray) (hl : l.length ≤ 1000) (hx : ∀ x ∈ l, x.size ≤ 1000) : ∀ (d i : Nat) (acc : List S80) (k : Nat), d + i = l.length → acc.length ≤ i → d + 1100 < k →
    postchaiseref02_Parse.l0 k l acc (i : Int) = some (refOut ((rangesOf (l.drop i)).map fun r => acc ++ r.map toR))
  | 0, i, acc, k, h, ha, hk => by
    obtain ⟨m, rfl⟩ : ∃ m, k = m + 1 := ⟨k - 1, by omega⟩
    unfold postchaiseref02_Parse.l0
    rw [if_neg (by omega), List.drop_eq_nil_of_le (by omega)]
    show _ = some (refOut (some (acc ++ [])))
    rw [List.append_nil]
    show _ = some (if 64 < acc.length then ([], 9) else (acc, 0))
    by_cases h64 : 64 < acc.length
    · rw [if_pos (by omega), if_pos h64]
    · rw [if_neg (by omega), if_neg h64]
  | d + 1, i, acc, k, h, ha, hk => by
    obtain ⟨m, rfl⟩ : ∃ m, k = m + 1 := ⟨k - 1, by omega⟩
    have hi : i < l.length := by omega
    have hti : ((i : Int)).toNat = i := by omega
    have hrd : rdOf ByteArray.empty l (i : Int) = l[i] := by
      unfold rdOf
      rw [hti, List.getD_eq_getElem?_getD, List.getElem?_eq_getElem hi]; rfl
    have hdrop : l.drop i = l[i] :: l.drop (i + 1) := List.drop_eq_getElem_cons hi
    obtain ⟨x, hxx⟩ : ∃ x, l[i] = x := ⟨_, rfl⟩
    have hxs : x.size ≤ 1000 := by rw [← hxx]; exact hx _ (List.getElem_mem hi)
    rw [hxx] at hrd hdrop
    have ew : wrap64 ((i : Int) + 1) = ((i + 1 : Nat) : Int) := by rw [w64n (by omega) (by omega)]; omega
    have hsp := split_f x 58 (by omega) m (by omega)
    have e58 : (((58 : UInt8).toNat : Nat) : Int) = 58 := rfl
    rw [e58] at hsp
    unfold postchaiseref02_Parse.l0
    rw [if_pos (by omega), if_pos (by omega), hrd, hsp, hdrop]
    simp only [Option.bind_some]
    have hstep : ∀ a b : ByteArray, rangeOf x = mkR (endOf a) (endOf b) →
        ((postchaiseref02_end.f m a).bind fun bt156 => (postchaiseref02_end.f m b).bind fun bt159 => (if bt156.2 = true then (if bt159.2 = true then (if acc.length < 17592186044416 then (postchaiseref02_Parse.l0 m l (acc ++ [(⟨bt156.1, bt159.1⟩ : S80)]) (wrap64 ((i : Int) + 1))) else (none)) else (some (([] : List (S80)), 2))) else (some (([] : List (S80)), 2)))) =
        some (refOut ((rangesOf (x :: l.drop (i + 1))).map fun r => acc ++ r.map toR)) := by
      intro a b hr
      obtain ⟨n1, b1, hf1, h1⟩ := end_f a m (by omega)
      obtain ⟨n2, b2, hf2, h2⟩ := end_f b m (by omega)
      rw [hf1, Option.bind_some, hf2, Option.bind_some]
      show (if b1 = true then _ else _) = _
      have hro : rangesOf (x :: l.drop (i + 1)) = (rangeOf x).bind fun r => (rangesOf (l.drop (i + 1))).map (r :: ·) := rfl
      rcases h1 with ⟨rfl, u1, hu1, rfl⟩ | ⟨rfl, hn1⟩
      · rw [if_pos rfl]
        rcases h2 with ⟨rfl, u2, hu2, rfl⟩ | ⟨rfl, hn2⟩
        · rw [if_pos rfl, if_pos (by omega), ew, refParse_l0 l hl hx d (i + 1) _ m (by omega) (by simp; omega) (by omega), hro, hr, hu1, hu2]
          show _ = some (refOut (((rangesOf (l.drop (i + 1))).map (_ :: ·)).map _))
          cases rangesOf (l.drop (i + 1)) with
          | none => rfl
          | some r => simp [toR]
        · rw [if_neg (by simp), hro, hr, hn2, mkR_none]; rfl
      · rw [if_neg (by simp), hro, hr, hn1]
        have : mkR none (endOf b) = none := rfl
        rw [this]; rfl
    rcases rangeOf_parts x with ⟨h1, hp, hr⟩ | ⟨a, b, hp, hr⟩ | ⟨h1, hr⟩
    · rw [hp]
      have ew2 : wrap64 ((([x] : List ByteArray).length : Int) - 1) = 0 := by simp [wrap64]
      rw [if_neg (by simp), if_pos (by simp), ew2]
      have e0 : rdOf ByteArray.empty [x] 0 = x := rfl
      rw [e0]
      have := hstep x x hr
      simp only [if_pos (show (0 : Int) ≤ 0 from Int.le_refl _), if_pos (show (0 : Int) < (([x] : List ByteArray).length : Int) by simp)]
      exact this
    · rw [hp]
      have ew2 : wrap64 ((([a, b] : List ByteArray).length : Int) - 1) = 1 := by simp [wrap64]
      rw [if_neg (by simp), if_pos (by simp), ew2]
      have e0 : rdOf ByteArray.empty [a, b] 0 = a := rfl
      have e1 : rdOf ByteArray.empty [a, b] 1 = b := rfl
      rw [e0, e1]
      have := hstep a b hr
      simp only [if_pos (show (0 : Int) ≤ 1 by decide), if_pos (show (1 : Int) < (([a, b] : List ByteArray).length : Int) by simp)]
      exact this
    · rw [if_pos (by omega)]
      have hro : rangesOf (x :: l.drop (i + 1)) = (rangeOf x).bind fun r => (rangesOf (l.drop (i + 1))).map (r :: ·) := rfl
      rw [hro, hr]; rfl
theorem refParse_f (s : ByteArray) (hs : s.size ≤ 900) (k : Nat) (hk : 2200 < k) : postchaiseref02_Parse.f k s = some (refOut ((rangesOf (parts 44 s)).map fun r => r.map toR)) := by
  have hsp := split_f s 44 (by omega) k (by omega)
  have e44 : (((44 : UInt8).toNat : Nat) : Int) = 44 := rfl
  rw [e44] at hsp
  unfold postchaiseref02_Parse.f
  rw [hsp]
  simp only [Option.bind_some]
  have hc := parts_count 44 s
  have h := refParse_l0 (parts 44 s) (by omega) (fun x hx => by have := parts_each hx; omega) (parts 44 s).length 0 [] k (by omega) (Nat.zero_le _) (by omega)
  rw [List.drop_zero] at h
  have e : ((0 : Nat) : Int) = 0 := rfl
  rw [e] at h
  rw [h]
  simp
end Go.Proofs.YtahbnpkhkhdmaaaDoor
