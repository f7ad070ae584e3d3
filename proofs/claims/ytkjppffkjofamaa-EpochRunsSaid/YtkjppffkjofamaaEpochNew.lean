/- Package epoch: Words, New; the law's made. No condition but those that each contract bears. -/
import Derived.Test.YtkjppffkjofamaaEpochMake
set_option linter.unusedVariables false
set_option linter.unusedSimpArgs false
namespace Go.Proofs.Ytkjppffkjofamaa
open Go.RowKit Go.Shelf
def wordsOf (r : Int) : Int := if 1 ≤ r ∧ r ≤ 8 then r + 1 else 0
theorem words_any (r : Int) (w : World) : Calls Try.prog 19 #[.int .i64 r] w fun e w' => e = .returned (.int .i64 (wordsOf r)) ∧ w = w' := by
  by_cases h1 : r < 1
  · rw [show wordsOf r = 0 from if_neg (by omega)]
    go_enter Try.func19, Try.ntmps19
    go_wp2
    go_ret
    exact ⟨rfl, rfl⟩
  · by_cases h2 : 8 < r
    · rw [show wordsOf r = 0 from if_neg (by omega)]
      go_enter Try.func19, Try.ntmps19
      go_wp2
      go_ret
      exact ⟨rfl, rfl⟩
    · rw [show wordsOf r = r + 1 from if_pos (by omega)]
      go_enter Try.func19, Try.ntmps19
      go_wp2
      go_ret
      exact ⟨rfl, rfl⟩
/-- There is no such epoch: no memory. -/
theorem epNew_nil (word r : Int) (w : World) : Calls Try.prog 17 #[.pointer none, .int .i64 word, .int .i64 r] w fun e w' => e = .returned (.tuple #[.pointer none, .int .i64 11]) ∧ w = w' := by
  go_enter Try.func17, Try.ntmps17
  go_wp2
  go_ret2
  exact ⟨rfl, rfl⟩
theorem epNew_no (M : MemS) (bm : Nat) (word r : Int) (w : World) (hm : MemAt w bm M) (h : ¬ (1 ≤ r ∧ r ≤ 8) ∨ word < 0 ∨ (M.n : Int) - (r + 1) < word) :
    Calls Try.prog 17 #[.pointer (some ⟨bm, 0, none⟩), .int .i64 word, .int .i64 r] w fun e w' => e = .returned (.tuple #[.pointer none, .int .i64 11]) ∧ w = w' := by
  have hw := words_any r w
  have hl := len_any M bm w hm
  have hn := hm.nle
  by_cases h1 : 1 ≤ r ∧ r ≤ 8
  · rw [show wordsOf r = r + 1 from if_pos h1] at hw
    have hz : (r + 1 == 0) = false := beq_eq_false_iff_ne.2 (by omega)
    have HW : Hd _ := ⟨hw⟩
    have HL : Hd _ := ⟨hl⟩
    clear hw hl hm
    by_cases h2 : word < 0
    · clear h
      go_enter Try.func17, Try.ntmps17
      go_wp2_with (first | (go_at_call 19; refine HW.out.mono ?_; rintro e w' ⟨rfl, rfl⟩) | (go_at_call 33; refine HL.out.mono ?_; rintro e w' ⟨rfl, rfl⟩))
      go_ret2
      exact ⟨rfl, rfl⟩
    · have h3 : (M.n : Int) - (r + 1) < word := by omega
      have hwr : IntKind.i64.wrap ((M.n : Int) - (r + 1)) = (M.n : Int) - (r + 1) := by rw [IntKind.wrap_i64]; omega
      clear h
      go_enter Try.func17, Try.ntmps17
      go_wp2_with (first | (go_at_call 19; refine HW.out.mono ?_; rintro e w' ⟨rfl, rfl⟩) | (go_at_call 33; refine HL.out.mono ?_; rintro e w' ⟨rfl, rfl⟩))
      go_ret2
      exact ⟨rfl, rfl⟩
  · rw [show wordsOf r = 0 from if_neg h1] at hw
    have HW : Hd _ := ⟨hw⟩
    clear hw hl hm h
    go_enter Try.func17, Try.ntmps17
    go_wp2_with (go_at_call 19; refine HW.out.mono ?_; rintro e w' ⟨rfl, rfl⟩)
    go_ret2
    exact ⟨rfl, rfl⟩
end Go.Proofs.Ytkjppffkjofamaa
