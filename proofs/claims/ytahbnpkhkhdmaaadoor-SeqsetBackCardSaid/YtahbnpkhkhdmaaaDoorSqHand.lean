/- What the print leaves to be proved by hand of chapter 02: Parse, strconv.FormatUint, strings.Join, in the print's forms. No condition but those that each bears. -/
import Derived.Test.YtahbnpkhkhdmaaaDoorSqParse
set_option linter.unusedVariables false
set_option linter.unusedSimpArgs false
namespace Go.Proofs.YtahbnpkhkhdmaaaDoor.PSq
open Go.RowKit Go.Shelf Go.Proofs.YtahbnpkhkhdmaaaDoorW.PrintWords Go.Proofs.YtahbnpkhkhdmaaaDoorW.PrintLast Go.Proofs.YtahbnpkhkhdmaaaDoorW.PrintMore
def seqset_Parse.f (s : ByteArray) : Option (List S78 × Int) := if s.size ≤ 1000000 then some (parseOut (rangesOf (parts 44 s))) else none
theorem seqset_Parse.calls (a0 : ByteArray) (r1 : List (S78)) (r2 : Int) (w : World) (hG : GlobOk w) (h : seqset_Parse.f a0 = some (r1, r2)) :
    Calls Tryd.prog 20 #[.string a0] w fun e w' => ∃ v0_ : Value, e = .returned (.tuple #[v0_, .int .i64 r2]) ∧ Kd.R k78 78 w' w.heap.size (fun _ => True) v0_ r1 ∧ Below w.heap.size w w' := by
  unfold seqset_Parse.f at h
  split at h
  · next hs =>
    have h1 := (callsIn_wide (n := 20)).1 (sqParse_any a0 w hs hG 20 (by omega))
    rw [Option.some.inj h] at h1
    exact h1
  · cases h
def strconv_FormatUint_59.f (a0 a1 : Int) : Option ByteArray := if 0 ≤ a0 ∧ a0 < 18446744073709551616 ∧ a1 = 10 then some ⟨(Lib.decDigits a0.toNat).toArray⟩ else none
theorem strconv_FormatUint_59.calls (a0 a1 : Int) (r : ByteArray) (w : World) (hG : GlobOk w) (h : strconv_FormatUint_59.f a0 a1 = some r) :
    Calls Tryd.prog 59 #[.int .u64 a0, .int .i64 a1] w fun e w' => e = .returned (.string r) ∧ Below w.heap.size w w' := by
  unfold strconv_FormatUint_59.f at h
  split at h
  · next hs =>
    obtain ⟨h0, h1, rfl⟩ := hs
    obtain ⟨u, rfl⟩ : ∃ u : Nat, a0 = u := ⟨a0.toNat, by omega⟩
    obtain rfl := Option.some.inj h
    have e : ((u : Int)).toNat = u := by omega
    rw [e]
    exact (formatUint_any u (by omega) w hG).mono fun _ _ g => ⟨g.1, g.2.out⟩
  · cases h
def strings_Join.f (l : List ByteArray) (sep : ByteArray) : Option ByteArray :=
  if (Lib.join (l.map (·.data.toList)) sep.data.toList).length ≤ 140737488355328 ∧ l.length ≤ 140737488355328 then some ⟨(Lib.join (l.map (·.data.toList)) sep.data.toList).toArray⟩ else none
theorem strings_Join.calls (A0 : Option Addr) (c0 : Nat) (l0 : List ByteArray) (a1 : ByteArray) (r : ByteArray) (w : World) (hr0 : Kd.C Kd.string w A0 l0.length l0) (hc0 : l0.length ≤ c0) (h : strings_Join.f l0 a1 = some r) :
    Calls Tryd.prog 38 #[.slice A0 l0.length c0, .string a1] w fun e w' => e = .returned (.string r) ∧ Below w.heap.size w w' := by
  unfold strings_Join.f at h
  split at h
  · next hs =>
    obtain rfl := Option.some.inj h
    cases l0 with
    | nil => exact (Tryd.strings_Join_none A0 c0 a1 w).mono (by rintro e w' ⟨rfl, rfl⟩; exact ⟨rfl, Below.refl _ _⟩)
    | cons x l =>
      have hc : ∀ i : Nat, i < (x :: l).length → ∃ ad, A0 = some ad ∧ w.cell? (ad.add i) = some (.string ((x :: l).getD i ByteArray.empty)) := fun i hi => by
        obtain ⟨ad, e1, e2⟩ := Kd.at_string hr0 i (by omega) (by omega)
        have e3 : ((i : Int)).toNat = i := by omega
        unfold rdOf at e2
        rw [e3] at e2
        exact ⟨ad, e1, e2⟩
      obtain ⟨ad, rfl, h0⟩ := hc 0 (by simp)
      obtain ⟨b, o, rfl⟩ : ∃ b o, ad = ⟨b, o, none⟩ := by
        have e0 : ad.add 0 = ad := by simp [Addr.add]
        rw [e0] at h0
        exact ⟨_, _, plain_of_cell h0⟩
      refine Tryd.strings_Join b o c0 (x :: l) a1 w (fun j y hy => ?_) ?_ hs.2 hc0 hs.1
      · obtain ⟨hj, hjy⟩ := List.getElem?_eq_some_iff.1 hy
        obtain ⟨ad', e1, e2⟩ := hc j hj
        cases e1
        rw [add_off] at e2
        rw [e2, List.getD_eq_getElem?_getD, hy]
        rfl
      · have := lt_of_cell h0
        rw [add_off] at this
        exact this
  · cases h
end Go.Proofs.YtahbnpkhkhdmaaaDoor.PSq
