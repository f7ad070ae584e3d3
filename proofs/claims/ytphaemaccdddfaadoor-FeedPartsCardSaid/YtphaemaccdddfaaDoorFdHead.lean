/- Package feed: head, walked. The premise says what package variables hold. -/
import Derived.Test.YtphaemaccdddfaaDoorFdPlain
set_option linter.unusedVariables false
set_option linter.unusedSimpArgs false
namespace Go.Proofs.YtphaemaccdddfaaDoor.PTk
open Go.RowKit Go.Shelf Go.Proofs.YtphaemaccdddfaaDoorW.PrintWords Go.Proofs.YtphaemaccdddfaaDoorW.PrintLast Go.Proofs.YtphaemaccdddfaaDoorW.PrintMore
theorem number_some (x : ByteArray) (hx : x.size ≤ 1000000) : ∃ n y fl, token_Reader_Number.f x false = some (n, y, fl) := by
  unfold token_Reader_Number.f
  rw [if_pos (by omega)]
  split
  · exact ⟨_, _, _, rfl⟩
  · exact ⟨_, _, _, rfl⟩
theorem suffix_place (s : ByteArray) (i : Nat) (hi : Lib.lastIndexByte s 123 = (i : Int)) (h : Lib.hasSuffix s.data.toList [125] = true) : i + 1 ≤ s.size - 1 ∧ 1 ≤ s.size := by
  rcases Lib.lastIdx_spec s 123 s.size with ⟨e, _⟩ | ⟨j, hj, e, hc, _⟩
  · have : Lib.lastIndexByte s 123 = -1 := e
    omega
  · have : Lib.lastIndexByte s 123 = (j : Int) := e
    obtain rfl : j = i := by omega
    have hsz : s.data.toList.length = s.size := by simp
    unfold Lib.hasSuffix at h
    obtain ⟨pre, hpre⟩ := List.isSuffixOf_iff_suffix.1 h
    have hl : pre.length + 1 = s.size := by rw [← hsz, ← hpre, List.length_append, List.length_singleton]
    by_cases h2 : j + 1 ≤ s.size - 1
    · exact ⟨h2, by omega⟩
    · exfalso
      have hjp : j = pre.length := by omega
      have hd : s.data[j]! = 125 := by
        have h3 : s.data.toList[j]? = some 125 := by rw [← hpre, List.getElem?_append_right (by omega), hjp]; simp
        have h4 : s.data[j]? = some 125 := by rw [← Array.getElem?_toList]; exact h3
        rw [getElem!_def, h4]
      rw [hd] at hc
      exact absurd hc (by decide)
set_option maxRecDepth 100000 in
set_option maxHeartbeats 1000000 in
theorem head_any (s : ByteArray) (w : World) (hG : GlobOk w) (hs : s.size ≤ 1000000) :
    Calls Tryd.prog 79 #[.string s] w fun e w' => e = .returned (.tuple #[.int .i64 (headF s).1, .bool (headF s).2]) ∧ Hd (Below w.heap.size w w') := by
  have HL := Hd.mk (Tryd.strings_LastIndexByte s 123 (by omega) w)
  have HS := Hd.mk (Tryd.strings_HasSuffix s ⟨#[125]⟩ w (by omega))
  have HF := Hd.mk (show headF s = if Lib.lastIndexByte s 123 < 0 then (0, false) else
    if Lib.hasSuffix s.data.toList [125] = false then (0, false) else
    match token_Reader_Number.f (s.extract ((Lib.lastIndexByte s 123).toNat + 1) (s.size - 1)) false with
    | some (n, y, fl) => (n, !fl && y.toList == ([] : List UInt8))
    | none => (0, false) from rfl)
  have HRng := Hd.mk (headF_range s)
  have hplace := suffix_place s
  obtain ⟨i, hi⟩ : ∃ i, Lib.lastIndexByte s 123 = i := ⟨_, rfl⟩
  obtain ⟨sf, hsf⟩ : ∃ sf, Lib.hasSuffix s.data.toList [125] = sf := ⟨_, rfl⟩
  rw [hi] at HL HF hplace
  rw [show Lib.hasSuffix s.data.toList (⟨#[125]⟩ : ByteArray).data.toList = sf from hsf] at HS
  rw [hsf] at HF hplace
  clear hi hsf
  by_cases hneg : i < 0
  · have HF2 := Hd.mk (HF.out.trans (if_pos hneg))
    have hb : decide (i < 0) = true := decide_eq_true hneg
    clear hneg hplace HF HRng
    go_enter Tryd.func79, Tryd.ntmps79
    go_wp2_with (go_at_call 97; have hx := HL.out; (with_reducible refine hx.mono ?_); clear hx; rintro e w1 ⟨rfl, rfl⟩)
    all_goals go_ret2
    rw [HF2.out]
    exact ⟨rfl, ⟨Below.refl _ _⟩⟩
  · have hb : decide (i < 0) = false := decide_eq_false hneg
    obtain ⟨iN, rfl⟩ : ∃ iN : Nat, i = (iN : Int) := ⟨i.toNat, by omega⟩
    cases sf with
    | false =>
      have HF2 := Hd.mk (HF.out.trans ((if_neg hneg).trans (if_pos rfl)))
      clear hneg hplace HF HRng
      go_enter Tryd.func79, Tryd.ntmps79
      go_wp2_with (first
        | (go_at_call 97; have hx := HL.out; (with_reducible refine hx.mono ?_); clear hx; rintro e w1 ⟨rfl, rfl⟩)
        | (go_at_call 98; have hx := HS.out; (with_reducible refine hx.mono ?_); clear hx; rintro e w1 ⟨rfl, rfl⟩))
      all_goals go_ret2
      rw [HF2.out]
      exact ⟨rfl, ⟨Below.refl _ _⟩⟩
    | true =>
      obtain ⟨hp1, hp2⟩ := hplace iN rfl rfl
      have HF2 := Hd.mk (HF.out.trans ((if_neg hneg).trans (if_neg (by decide))))
      rw [show ((iN : Int)).toNat = iN from rfl] at HF2
      have hxs : (s.extract (iN + 1) (s.size - 1)).size ≤ 1000000 := by rw [ByteArray.size_extract]; omega
      obtain ⟨x, hx⟩ : ∃ x, s.extract (iN + 1) (s.size - 1) = x := ⟨_, rfl⟩
      rw [hx] at HF2 hxs
      obtain ⟨n, y, fl, hnf⟩ := number_some x hxs
      rw [hnf] at HF2
      replace HF2 : Hd (headF s = (n, !fl && y.toList == ([] : List UInt8))) := HF2
      have hr := HRng.out
      rw [HF2.out] at hr
      dsimp only at hr
      obtain ⟨hr1, hr2⟩ := hr
      have hwr : IntKind.i64.wrap n = n := by rw [IntKind.wrap_i64]; omega
      have HRd : Hd (Calls Tryd.prog 8 #[.string x] w fun e W' => ∃ g, e = .returned (.pointer (some ⟨g, 0, none⟩)) ∧ Hd (IsS54 w W' g x false ∧ Below w.heap.size w W')) :=
        ⟨(token_Read.calls x x false w w (Below.refl _ _) rfl).mono fun _ _ ⟨g, h1, h2, _, h4⟩ => ⟨g, h1, ⟨⟨h2.1, h2.2⟩, h4⟩⟩⟩
      have HNm : Hd (∀ W g, IsS54 w W g x false → Below w.heap.size w W → Calls Tryd.prog 14 #[.pointer (some ⟨g, 0, none⟩)] W fun e W' => e = .returned (.int .u32 n) ∧ Hd (IsS54 w W' g y fl ∧ Below w.heap.size w W')) :=
        ⟨fun W g h1 h2 => (token_Reader_Number.calls g x false n y fl w W hG h1 h2 hnf).mono fun _ _ ⟨k1, k2, k3, _⟩ => ⟨k1, ⟨k2, k3⟩⟩⟩
      have HEn : Hd (∀ W g, IsS54 w W g y fl → Below w.heap.size w W → Calls Tryd.prog 11 #[.pointer (some ⟨g, 0, none⟩)] W fun e W' => e = .returned (.bool (!fl && y.toList == ([] : List UInt8))) ∧ Hd (Below w.heap.size w W')) :=
        ⟨fun W g h1 h2 => (token_Reader_End.calls g y fl (!fl && y.toList == ([] : List UInt8)) y fl w W h1 h2 (by cases fl <;> rfl)).mono fun _ _ ⟨k1, _, k3, _⟩ => ⟨k1, ⟨k3⟩⟩⟩
      obtain ⟨en, hen⟩ : ∃ en, (!fl && y.toList == ([] : List UInt8)) = en := ⟨_, rfl⟩
      rw [hen] at HEn HF2
      have h0 : (0 : Int) ≤ (iN : Int) + 1 := by omega
      have h1 : (iN : Int) + 1 ≤ (s.size : Int) - 1 := by omega
      have h2 : (s.size : Int) - 1 ≤ (s.size : Int) := by omega
      have hb2 : (s.size : Int) ≤ 9223372036854775807 := by omega
      have e1 : ((iN : Int) + 1).toNat = iN + 1 := by omega
      have e2 : ((s.size : Int) - 1).toNat = s.size - 1 := by omega
      have HX := Hd.mk hx
      clear hneg hplace HF HRng hen hnf hG hx
      go_enter Tryd.func79, Tryd.ntmps79
      go_wp2_with (first
        | (go_at_call 97; have hx := HL.out; (with_reducible refine hx.mono ?_); clear hx; rintro e w1 ⟨rfl, rfl⟩)
        | (go_at_call 98; have hx := HS.out; (with_reducible refine hx.mono ?_); clear hx; rintro e w1 ⟨rfl, rfl⟩)
        | (go_at_call 8; (try rw [HX.out]); have hx := HRd.out; (with_reducible refine hx.mono ?_); clear hx; rintro e w2 ⟨g, rfl, HI⟩)
        | (go_at_call 14; have hx := HNm.out w2 g HI.out.1 HI.out.2; (with_reducible refine hx.mono ?_); clear hx; rintro e w3 ⟨rfl, HI3⟩)
        | (go_at_call 11; have hx := HEn.out w3 g HI3.out.1 HI3.out.2; (with_reducible refine hx.mono ?_); clear hx; rintro e w4 ⟨rfl, HB4⟩))
      all_goals go_ret2
      rw [HF2.out]
      exact ⟨rfl, HB4⟩
end Go.Proofs.YtphaemaccdddfaaDoor.PTk
