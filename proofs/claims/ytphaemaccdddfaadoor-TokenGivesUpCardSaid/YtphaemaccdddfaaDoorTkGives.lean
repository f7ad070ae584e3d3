/- The walk of TokenGivesUp: who gave up has nothing more. The premise says what package variables hold. -/
import Derived.Test.YtphaemaccdddfaaDoorTkAwake
set_option linter.unusedVariables false
set_option linter.unusedSimpArgs false
namespace Go.Proofs.YtphaemaccdddfaaDoor.PTk
open Go.RowKit Go.Shelf Go.Proofs.YtphaemaccdddfaaDoorW.PrintWords Go.Proofs.YtphaemaccdddfaaDoorW.PrintLast Go.Proofs.YtphaemaccdddfaaDoorW.PrintMore
theorem gu_atom : token_Reader_Atom.f ⟨#[]⟩ true = some (⟨#[]⟩, ⟨#[]⟩, true) := by decide +kernel
theorem gu_number : token_Reader_Number.f ⟨#[]⟩ true = some (0, ⟨#[]⟩, true) := by decide +kernel
theorem gu_string : token_Reader_String.f ⟨#[]⟩ true = some (⟨#[]⟩, ⟨#[]⟩, true) := by decide +kernel
theorem gu_literal : token_Reader_Literal.f ⟨#[]⟩ true = some (⟨#[]⟩, ⟨#[]⟩, true) := by decide +kernel
theorem gu_word : token_Reader_Word.f ⟨#[]⟩ true ⟨#[]⟩ = some (false, ⟨#[]⟩, true) := by decide +kernel
theorem gu_next : token_Reader_Next.f ⟨#[]⟩ true 97 = some (false, ⟨#[]⟩, true) := by decide +kernel
set_option maxHeartbeats 1000000 in
theorem givesUp_any (w : World) (hG : GlobOk w) (s : ByteArray) (_ : s.size ≤ 140737488351232) : Calls Tryd.prog 3 #[.string s] w fun e w' => e = .returned (.bool true) ∧ Hd (Below w.heap.size w w') := by
  have HG := Hd.mk hG
  clear hG
  by_cases hs : (s.size : Int) ≤ 300
  · go_enter Tryd.func3, Tryd.ntmps3
    go_wp2_with (first
      | (go_at_call 8; have hx := rd_read w w s (Below.refl _ _); (with_reducible refine hx.mono ?_); clear hx; rintro e w1 ⟨g1, rfl, HR1⟩)
      | (go_at_call 9; have hx := rd_fail HR1.out.1; (with_reducible refine hx.mono ?_); clear hx; rintro e w2 ⟨rfl, HR2⟩)
      | (go_at_call 10; have hx := rd_ok HR2.out.1; (with_reducible refine hx.mono ?_); clear hx; rintro e w3 ⟨rfl, HR3⟩)
      | (go_at_call 11; have hx := rd_end HR3.out.1; (with_reducible refine hx.mono ?_); clear hx; rintro e w4 ⟨rfl, HR4⟩)
      | (go_at_call 12; have hx := rd_left HR4.out.1; (with_reducible refine hx.mono ?_); clear hx; rintro e w5 ⟨rfl, HR5⟩)
      | (go_at_call 13; have hx := rd_atom HR5.out.1 _ _ _ gu_atom; (with_reducible refine hx.mono ?_); clear hx; rintro e w6 ⟨rfl, HR6⟩)
      | (go_at_call 14; have hx := rd_number HR6.out.1 HG.out _ _ _ gu_number; (with_reducible refine hx.mono ?_); clear hx; rintro e w7 ⟨rfl, HR7⟩)
      | (go_at_call 15; have hx := rd_string HR7.out.1 HG.out _ _ _ gu_string; (with_reducible refine hx.mono ?_); clear hx; rintro e w8 ⟨rfl, HR8⟩)
      | (go_at_call 16; have hx := rd_literal HR8.out.1 HG.out _ _ _ gu_literal; (with_reducible refine hx.mono ?_); clear hx; rintro e w9 ⟨rfl, HR9⟩)
      | (go_at_call 17; have hx := rd_word HR9.out.1 _ _ _ _ gu_word; (with_reducible refine hx.mono ?_); clear hx; rintro e w10 ⟨rfl, HR10⟩)
      | (go_at_call 18; have hx := rd_next HR10.out.1 _ _ _ _ gu_next; (with_reducible refine hx.mono ?_); clear hx; rintro e w11 ⟨rfl, HR11⟩)
      | (go_at_call 10; have hx := rd_ok HR11.out.1; (with_reducible refine hx.mono ?_); clear hx; rintro e w12 ⟨rfl, HR12⟩)
      | (go_at_call 19; have hx := tk_awake w12 (HG.out.on HR12.out.1.below); (with_reducible refine hx.mono ?_); clear hx; rintro e w13 ⟨rfl, HR13⟩))
    go_ret
    exact ⟨rfl, ⟨HR12.out.1.below.trans (HR13.out.mono HR12.out.1.below.size)⟩⟩
  · go_enter Tryd.func3, Tryd.ntmps3
    go_wp2_with fail
    go_ret
    exact ⟨rfl, ⟨Below.refl _ _⟩⟩
end Go.Proofs.YtphaemaccdddfaaDoor.PTk
