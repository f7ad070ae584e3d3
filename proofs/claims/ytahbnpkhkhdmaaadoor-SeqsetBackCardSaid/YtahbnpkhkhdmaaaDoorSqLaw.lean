/- The law SeqsetParses, in plain Lean. No condition but those that each bears. -/
import Derived.Test.YtahbnpkhkhdmaaaDoorSqText
import Derived.Test.YtahbnpkhkhdmaaaDoorQSq5
set_option linter.unusedVariables false
set_option linter.unusedSimpArgs false
namespace Go.Proofs.YtahbnpkhkhdmaaaDoor
open Go.RowKit Go.Shelf Go.Lib PSq Go.Proofs.YtahbnpkhkhdmaaaDoorW.PrintWords Go.Proofs.YtahbnpkhkhdmaaaDoorW.PrintLast Go.Proofs.YtahbnpkhkhdmaaaDoorW.PrintMore
def exA : ByteArray := ⟨#[50, 58, 52, 44, 49, 44, 42]⟩
theorem dec_small {u : Nat} (h : u < 10) : decDigits u = [UInt8.ofNat (48 + u)] := by rw [decDigits, dif_pos h]
theorem end_digit {u : Nat} (h0 : 0 < u) (h : u < 10) : endOf ⟨#[UInt8.ofNat (48 + u)]⟩ = some u := by
  apply endOf_num
  show IsNum [UInt8.ofNat (48 + u)] u
  rw [← dec_small h]
  exact isNum_dec h0 (by omega)
theorem range_1 : rangeOf ⟨#[50, 58, 52]⟩ = some ⟨2, 4⟩ := by
  unfold rangeOf
  have e1 : (cutAt 58 ⟨#[50, 58, 52]⟩) = (⟨#[50]⟩, ⟨#[52]⟩, true) := by decide +kernel
  rw [e1]
  show mkR (endOf ⟨#[50]⟩) (endOf ⟨#[52]⟩) = _
  rw [show endOf ⟨#[50]⟩ = some 2 from end_digit (u := 2) (by omega) (by omega), show endOf ⟨#[52]⟩ = some 4 from end_digit (u := 4) (by omega) (by omega)]
  rfl
theorem range_2 : rangeOf ⟨#[49]⟩ = some ⟨1, 1⟩ := by
  unfold rangeOf
  have e1 : (cutAt 58 ⟨#[49]⟩) = (⟨#[49]⟩, ⟨#[]⟩, false) := by decide +kernel
  rw [e1]
  show mkR (endOf ⟨#[49]⟩) (endOf ⟨#[49]⟩) = _
  rw [show endOf ⟨#[49]⟩ = some 1 from end_digit (u := 1) (by omega) (by omega)]
  rfl
theorem range_3 : rangeOf ⟨#[42]⟩ = some ⟨0, 0⟩ := by
  unfold rangeOf
  have e1 : (cutAt 58 ⟨#[42]⟩) = (⟨#[42]⟩, ⟨#[]⟩, false) := by decide +kernel
  rw [e1]
  show mkR (endOf ⟨#[42]⟩) (endOf ⟨#[42]⟩) = _
  rw [show endOf ⟨#[42]⟩ = some 0 by unfold endOf; exact if_pos rfl]
  rfl
theorem range_4 : rangeOf ⟨#[48, 49]⟩ = none := by
  unfold rangeOf
  have e1 : (cutAt 58 ⟨#[48, 49]⟩) = (⟨#[48, 49]⟩, ⟨#[]⟩, false) := by decide +kernel
  rw [e1]
  show mkR (endOf ⟨#[48, 49]⟩) (endOf ⟨#[48, 49]⟩) = _
  rw [show endOf ⟨#[48, 49]⟩ = none by
    cases he : endOf ⟨#[48, 49]⟩ with
    | none => rfl
    | some u =>
      rcases endOf_cases he with ⟨h, _⟩ | h
      · cases h
      · rcases h.2.2.1 with h | h
        · cases h
        · exact absurd rfl h]
  rfl
theorem parse_1 : seqset_Parse.f exA = some ([⟨2, 4⟩, ⟨1, 1⟩, ⟨0, 0⟩], 0) := by
  unfold seqset_Parse.f
  rw [if_pos (by decide)]
  have e : parts 44 exA = [⟨#[50, 58, 52]⟩, ⟨#[49]⟩, ⟨#[42]⟩] := by rfl
  rw [e]
  simp only [rangesOf, range_1, range_2, range_3, Option.bind_some, Option.map_some]
  rfl
theorem parse_2 : seqset_Parse.f ⟨#[48, 49]⟩ = some ([], 2) := by
  unfold seqset_Parse.f
  rw [if_pos (by decide)]
  have e : parts 44 ⟨#[48, 49]⟩ = [⟨#[48, 49]⟩] := by rfl
  rw [e]
  simp only [rangesOf, range_4, Option.bind_none]
  rfl
theorem endT_digit {u : Nat} (h0 : 0 < u) (h : u < 10) : endT (u : Int) = ⟨#[UInt8.ofNat (48 + u)]⟩ := by
  unfold endT
  rw [if_neg (by omega)]
  have e : ((u : Int)).toNat = u := by omega
  rw [e, dec_small h]
theorem set_1 : setT [⟨2, 4⟩, ⟨1, 1⟩, ⟨0, 0⟩] = exA := by
  have e2 : endT 2 = ⟨#[50]⟩ := endT_digit (u := 2) (by omega) (by omega)
  have e4 : endT 4 = ⟨#[52]⟩ := endT_digit (u := 4) (by omega) (by omega)
  have e1 : endT 1 = ⟨#[49]⟩ := endT_digit (u := 1) (by omega) (by omega)
  have e0 : endT 0 = ⟨#[42]⟩ := rfl
  have r1 : rangeT ⟨2, 4⟩ = ⟨#[50, 58, 52]⟩ := by
    show (if (4 : Int) = 2 then endT 2 else endT 2 ++ (⟨#[58]⟩ ++ endT 4)) = _
    rw [if_neg (by decide), e2, e4]; rfl
  have r2 : rangeT ⟨1, 1⟩ = ⟨#[49]⟩ := by
    show (if (1 : Int) = 1 then endT 1 else _) = _
    rw [if_pos rfl, e1]
  have r3 : rangeT ⟨0, 0⟩ = ⟨#[42]⟩ := by
    show (if (0 : Int) = 0 then endT 0 else _) = _
    rw [if_pos rfl, e0]
  unfold setT listT
  simp only [List.map_cons, List.map_nil, r1, r2, r3]
  rfl
theorem r32_1 : R32 [⟨2, 4⟩, ⟨1, 1⟩, ⟨0, 0⟩] := by
  intro r hr
  simp at hr
  rcases hr with rfl | rfl | rfl <;> decide
theorem awake_f (k : Nat) (hk : 2000 < k) : postchaiselaw02_awake.f k = some true := by
  have hh : ∀ (n : Int) (b : Bool), seqset_Set_Has.f 10 [⟨2, 4⟩, ⟨1, 1⟩, ⟨0, 0⟩] n 9 = some b → seqset_Set_Has.f k [⟨2, 4⟩, ⟨1, 1⟩, ⟨0, 0⟩] n 9 = some b := fun n b h => at_rounds (seqset_Set_Has.mono _ n 9) (by omega) h
  have h1 := hh 9 true (by decide +kernel)
  have h2 := hh 3 true (by decide +kernel)
  have h3 := hh 5 false (by decide +kernel)
  have hs := string_f _ r32_1 (by decide) k (by omega)
  have p1 := parse_1
  unfold exA at p1
  unfold postchaiselaw02_awake.f
  rw [p1, parse_2]
  simp only [Option.bind_some]
  rw [if_pos trivial, if_pos trivial, h1]
  simp only [Option.bind_some]
  rw [if_pos trivial, h2]
  simp only [Option.bind_some]
  rw [if_pos trivial, h3]
  simp only [Option.bind_some]
  rw [if_neg (by simp), hs, set_1]
  simp only [Option.bind_some, ByteArray.toList_eq]
  rfl
theorem out_both (o : Option (List S78)) : refOut (o.map fun r => r.map toR) = ((parseOut o).1.map toR, (parseOut o).2) := by
  cases o with
  | none => rfl
  | some l =>
    show (if 64 < (l.map toR).length then (([] : List S80), (9 : Int)) else (l.map toR, 0)) = ((if 64 < l.length then (([] : List S78), (9 : Int)) else (l, 0)).1.map toR, (if 64 < l.length then (([] : List S78), (9 : Int)) else (l, 0)).2)
    rw [List.length_map]
    split <;> rfl
theorem out_ok {s : ByteArray} : R32 (parseOut (rangesOf (parts 44 s))).1 ∧ (parseOut (rangesOf (parts 44 s))).1.length ≤ 64 := by
  cases h : rangesOf (parts 44 s) with
  | none => exact ⟨fun r hr => absurd hr List.not_mem_nil, Nat.zero_le _⟩
  | some l =>
    show R32 (if 64 < l.length then (([] : List S78), (9 : Int)) else (l, 0)).1 ∧ (if 64 < l.length then (([] : List S78), (9 : Int)) else (l, 0)).1.length ≤ 64
    split
    · exact ⟨fun r hr => absurd hr List.not_mem_nil, Nat.zero_le _⟩
    · next h64 => exact ⟨rangesOf_32 _ _ h, by show l.length ≤ 64; omega⟩
theorem seqsetParses_f (s : ByteArray) (hs : s.size ≤ 140737488351232) : postchaiselaw02_SeqsetParses.f 3000 s = some true := by
  unfold postchaiselaw02_SeqsetParses.f
  by_cases h : 600 < s.size
  · rw [if_pos (by omega)]
  · have hp : seqset_Parse.f s = some (parseOut (rangesOf (parts 44 s))) := by unfold seqset_Parse.f; rw [if_pos (by omega)]
    have hr := refParse_f s (by omega) 3000 (by omega)
    rw [out_both] at hr
    obtain ⟨h32, h64⟩ := out_ok (s := s)
    obtain ⟨⟨l, e⟩, hl⟩ : ∃ r, parseOut (rangesOf (parts 44 s)) = r := ⟨_, rfl⟩
    rw [hl] at hp hr h32 h64
    dsimp only at hr h32 h64
    rw [if_neg (by omega), hp, hr]
    simp only [Option.bind_some]
    rw [same_f l (by omega) 3000 (by omega)]
    simp only [Option.bind_some]
    rw [if_pos trivial, if_pos trivial, string_f l h32 (by omega) 3000 (by omega), refText_f l h32 (by omega) 3000 (by omega)]
    simp only [Option.bind_some]
    rw [if_pos trivial, awake_f 3000 (by omega)]
    rfl
end Go.Proofs.YtahbnpkhkhdmaaaDoor
