/- strings.ContainsAny at the line ends, strconv.Itoa, in the print's forms. No condition but those that each contract bears. -/
import Derived.Test.YtphaemaccdddfaaDoorTkAny
import Derived.Test.YtphaemaccdddfaaDoorQTk2
set_option linter.unusedVariables false
set_option linter.unusedSimpArgs false
namespace Go.Proofs.YtphaemaccdddfaaDoor.PTk
open Go.RowKit Go.Shelf Go.Proofs.YtphaemaccdddfaaDoorW.PrintWords Go.Proofs.YtphaemaccdddfaaDoorW.PrintLast Go.Proofs.YtphaemaccdddfaaDoorW.PrintMore
def strings_ContainsAny.f (s chars : ByteArray) : Option Bool := if s.size ≤ 1000000 ∧ chars = ⟨#[13, 10]⟩ then some (hasEnds s) else none
theorem strings_ContainsAny.calls (a0 a1 : ByteArray) (r : Bool) (w : World) (h : strings_ContainsAny.f a0 a1 = some r) :
    Calls Tryd.prog 51 #[.string a0, .string a1] w fun e w' => e = .returned (.bool r) ∧ Below w.heap.size w w' := by
  unfold strings_ContainsAny.f at h
  split at h
  · next hs =>
    obtain ⟨hs, rfl⟩ := hs
    obtain rfl := Option.some.inj h
    exact (containsAny_crlf a0 w hs).mono fun _ _ ⟨h1, h2⟩ => ⟨h1, h2.out⟩
  · cases h
def strconv_Itoa_52.f (a0 : Int) : Option ByteArray := if 0 ≤ a0 ∧ a0 ≤ 9223372036854775807 then some ⟨(Lib.decDigits a0.toNat).toArray⟩ else none
theorem strconv_Itoa_52.calls (a0 : Int) (r : ByteArray) (w : World) (hG : GlobOk w) (h : strconv_Itoa_52.f a0 = some r) :
    Calls Tryd.prog 52 #[.int .i64 a0] w fun e w' => e = .returned (.string r) ∧ Below w.heap.size w w' := by
  unfold strconv_Itoa_52.f at h
  split at h
  · next hs =>
    obtain rfl := Option.some.inj h
    refine (Tryd.strconv_Itoa a0 (by omega) hs.2 w hG.tab).mono ?_
    rintro e w' ⟨h1, k, os, h2⟩
    have e1 : Lib.itoa a0 = Lib.decDigits a0.toNat := by unfold Lib.itoa; rw [if_neg (by omega)]
    rw [e1] at h1
    refine ⟨h1, ?_⟩
    rw [h2]
    exact below_grow w k os
  · cases h
end Go.Proofs.YtphaemaccdddfaaDoor.PTk
