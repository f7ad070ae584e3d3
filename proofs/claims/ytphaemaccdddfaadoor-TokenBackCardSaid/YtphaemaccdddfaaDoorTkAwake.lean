/- Package token: readers between a law's calls; the law's 'awake'; the walk of TokenGivesUp. The premises say what package variables hold. -/
import Derived.Test.YtphaemaccdddfaaDoorQTk1
set_option linter.unusedVariables false
set_option linter.unusedSimpArgs false
namespace Go.Proofs.YtphaemaccdddfaaDoor.PTk
open Go.RowKit Go.Shelf Go.Proofs.YtphaemaccdddfaaDoorW.PrintWords Go.Proofs.YtphaemaccdddfaaDoorW.PrintLast Go.Proofs.YtphaemaccdddfaaDoorW.PrintMore
/-- A reader, in a world that the law has come to. -/
structure Rd (w W : World) (g : Nat) (y : ByteArray) (fl : Bool) : Prop where
  is : IsS54 w W g y fl
  below : Below w.heap.size w W
theorem Rd.keep {w W W' : World} {g g' : Nat} {y : ByteArray} {fl : Bool} (h : Rd w W g y fl) (hb : Below w.heap.size w W') (hk : KeepBut W W' g' none) (hne : g ≠ g') : Rd w W' g y fl :=
  ⟨⟨(hk.2 g h.is.lt hne (by simp)).trans h.is.1, h.is.2⟩, hb⟩
theorem Rd.on {w W W' : World} {g : Nat} {y : ByteArray} {fl : Bool} (h : Rd w W g y fl) (hb : Below W.heap.size W W') : Rd w W' g y fl := ⟨h.is.below hb, h.below.trans (hb.mono h.below.size)⟩
/-- What a call on a reader leaves: that reader, all others as they were. -/
def RdPost (w W : World) (g : Nat) (y : ByteArray) (fl : Bool) (W' : World) : Prop := Rd w W' g y fl ∧ KeepBut W W' g none
theorem rd_read (w W : World) (s : ByteArray) (hB : Below w.heap.size w W) : Calls Tryd.prog 8 #[.string s] W fun e W' => ∃ g, e = .returned (.pointer (some ⟨g, 0, none⟩)) ∧ Hd (Rd w W' g s false ∧ W.heap.size ≤ g ∧ Below W.heap.size W W') :=
  (token_Read.calls s s false W W (Below.refl _ _) rfl).mono fun _ _ ⟨g, h1, h2, _, h4⟩ => ⟨g, h1, ⟨⟨⟨h2.1, Nat.le_trans hB.size h2.2⟩, hB.trans (h4.mono hB.size)⟩, h2.2, h4⟩⟩
section
variable {w W : World} {g : Nat} {y : ByteArray} {fl : Bool} (h : Rd w W g y fl)
include h
theorem rd_fail : Calls Tryd.prog 9 #[.pointer (some ⟨g, 0, none⟩)] W fun e W' => e = .returned (.tuple #[]) ∧ Hd (RdPost w W g ⟨#[]⟩ true W') :=
  (token_Reader_Fail.calls g y fl ⟨#[]⟩ true w W h.is h.below rfl).mono fun _ _ ⟨h1, h2, h3, h4⟩ => ⟨h1, ⟨⟨h2, h3⟩, h4⟩⟩
theorem rd_ok : Calls Tryd.prog 10 #[.pointer (some ⟨g, 0, none⟩)] W fun e W' => e = .returned (.bool (!fl)) ∧ Hd (RdPost w W g y fl W') :=
  (token_Reader_Ok.calls g y fl (!fl) y fl w W h.is h.below rfl).mono fun _ _ ⟨h1, h2, h3, h4⟩ => ⟨h1, ⟨⟨h2, h3⟩, h4⟩⟩
theorem rd_end : Calls Tryd.prog 11 #[.pointer (some ⟨g, 0, none⟩)] W fun e W' => e = .returned (.bool (!fl && y.toList == ([] : List UInt8))) ∧ Hd (RdPost w W g y fl W') :=
  (token_Reader_End.calls g y fl (!fl && y.toList == ([] : List UInt8)) y fl w W h.is h.below (by cases fl <;> rfl)).mono fun _ _ ⟨h1, h2, h3, h4⟩ => ⟨h1, ⟨⟨h2, h3⟩, h4⟩⟩
theorem rd_left : Calls Tryd.prog 12 #[.pointer (some ⟨g, 0, none⟩)] W fun e W' => e = .returned (.int .i64 (y.size : Int)) ∧ Hd (RdPost w W g y fl W') :=
  (token_Reader_Left.calls g y fl (y.size : Int) y fl w W h.is h.below rfl).mono fun _ _ ⟨h1, h2, h3, h4⟩ => ⟨h1, ⟨⟨h2, h3⟩, h4⟩⟩
theorem rd_next (c : Int) (r : Bool) (y' : ByteArray) (fl' : Bool) (hf : token_Reader_Next.f y fl c = some (r, y', fl')) : Calls Tryd.prog 18 #[.pointer (some ⟨g, 0, none⟩), .int .u8 c] W fun e W' => e = .returned (.bool r) ∧ Hd (RdPost w W g y' fl' W') :=
  (token_Reader_Next.calls g y fl c r y' fl' w W h.is h.below hf).mono fun _ _ ⟨h1, h2, h3, h4⟩ => ⟨h1, ⟨⟨h2, h3⟩, h4⟩⟩
theorem rd_word (a : ByteArray) (r : Bool) (y' : ByteArray) (fl' : Bool) (hf : token_Reader_Word.f y fl a = some (r, y', fl')) : Calls Tryd.prog 17 #[.pointer (some ⟨g, 0, none⟩), .string a] W fun e W' => e = .returned (.bool r) ∧ Hd (RdPost w W g y' fl' W') :=
  (token_Reader_Word.calls g y fl a r y' fl' w W h.is h.below hf).mono fun _ _ ⟨h1, h2, h3, h4⟩ => ⟨h1, ⟨⟨h2, h3⟩, h4⟩⟩
theorem rd_atom (r : ByteArray) (y' : ByteArray) (fl' : Bool) (hf : token_Reader_Atom.f y fl = some (r, y', fl')) : Calls Tryd.prog 13 #[.pointer (some ⟨g, 0, none⟩)] W fun e W' => e = .returned (.string r) ∧ Hd (RdPost w W g y' fl' W') :=
  (token_Reader_Atom.calls g y fl r y' fl' w W h.is h.below hf).mono fun _ _ ⟨h1, h2, h3, h4⟩ => ⟨h1, ⟨⟨h2, h3⟩, h4⟩⟩
theorem rd_number (hG : GlobOk w) (r : Int) (y' : ByteArray) (fl' : Bool) (hf : token_Reader_Number.f y fl = some (r, y', fl')) : Calls Tryd.prog 14 #[.pointer (some ⟨g, 0, none⟩)] W fun e W' => e = .returned (.int .u32 r) ∧ Hd (RdPost w W g y' fl' W') :=
  (token_Reader_Number.calls g y fl r y' fl' w W hG h.is h.below hf).mono fun _ _ ⟨h1, h2, h3, h4⟩ => ⟨h1, ⟨⟨h2, h3⟩, h4⟩⟩
theorem rd_string (hG : GlobOk w) (r : ByteArray) (y' : ByteArray) (fl' : Bool) (hf : token_Reader_String.f y fl = some (r, y', fl')) : Calls Tryd.prog 15 #[.pointer (some ⟨g, 0, none⟩)] W fun e W' => e = .returned (.string r) ∧ Hd (RdPost w W g y' fl' W') :=
  (token_Reader_String.calls g y fl r y' fl' w W hG h.is h.below hf).mono fun _ _ ⟨h1, h2, h3, h4⟩ => ⟨h1, ⟨⟨h2, h3⟩, h4⟩⟩
theorem rd_literal (hG : GlobOk w) (r : ByteArray) (y' : ByteArray) (fl' : Bool) (hf : token_Reader_Literal.f y fl = some (r, y', fl')) : Calls Tryd.prog 16 #[.pointer (some ⟨g, 0, none⟩)] W fun e W' => e = .returned (.string r) ∧ Hd (RdPost w W g y' fl' W') :=
  (token_Reader_Literal.calls g y fl r y' fl' w W hG h.is h.below hf).mono fun _ _ ⟨h1, h2, h3, h4⟩ => ⟨h1, ⟨⟨h2, h3⟩, h4⟩⟩
theorem rd_blank (y' : ByteArray) (fl' : Bool) (hf : token_Reader_Blank.f y fl = some (y', fl')) : Calls Tryd.prog 32 #[.pointer (some ⟨g, 0, none⟩)] W fun e W' => e = .returned (.tuple #[]) ∧ Hd (RdPost w W g y' fl' W') :=
  (token_Reader_Blank.calls g y fl y' fl' w W h.is h.below hf).mono fun _ _ ⟨h1, h2, h3, h4⟩ => ⟨h1, ⟨⟨h2, h3⟩, h4⟩⟩
end
theorem aw_string : token_Reader_String.f ⟨#[34, 97, 92, 34, 98, 34]⟩ false = some (⟨#[97, 34, 98]⟩, ⟨#[]⟩, false) := by decide +kernel
theorem aw_literal : token_Reader_Literal.f ⟨#[123, 50, 125, 13, 10, 120, 121, 122]⟩ false = some (⟨#[120, 121]⟩, ⟨#[122]⟩, false) := by decide +kernel
set_option maxHeartbeats 1000000 in
theorem tk_awake (w : World) (hG : GlobOk w) : Calls Tryd.prog 19 #[] w fun e w' => e = .returned (.bool true) ∧ Hd (Below w.heap.size w w') := by
  have HG := Hd.mk hG
  clear hG
  go_enter Tryd.func19, Tryd.ntmps19
  go_wp2_with (first
    | (go_at_call 8; have hx := rd_read w w ⟨#[34, 97, 92, 34, 98, 34]⟩ (Below.refl _ _); (with_reducible refine hx.mono ?_); clear hx; rintro e w1 ⟨g1, rfl, HR1⟩)
    | (go_at_call 8; have hx := rd_read w w1 ⟨#[123, 50, 125, 13, 10, 120, 121, 122]⟩ HR1.out.1.below; (with_reducible refine hx.mono ?_); clear hx; rintro e w2 ⟨g2, rfl, HR2⟩)
    | (go_at_call 15; have hx := rd_string (HR1.out.1.on HR2.out.2.2) HG.out _ _ _ aw_string; (with_reducible refine hx.mono ?_); clear hx; rintro e w3 ⟨rfl, HR3⟩; have hne : Hd (g2 ≠ g1) := ⟨by have h1 := HR1.out.1.is.lt; have h2 := HR2.out.2.1; omega⟩)
    | (go_at_call 16; have hx := rd_literal (HR2.out.1.keep HR3.out.1.below HR3.out.2 hne.out) HG.out _ _ _ aw_literal; (with_reducible refine hx.mono ?_); clear hx; rintro e w4 ⟨rfl, HR4⟩)
    | (go_at_call 11; have hx := rd_end (HR3.out.1.keep HR4.out.1.below HR4.out.2 (fun h => hne.out h.symm)); (with_reducible refine hx.mono ?_); clear hx; rintro e w5 ⟨rfl, HR5⟩)
    | (go_at_call 12; have hx := rd_left (HR4.out.1.keep HR5.out.1.below HR5.out.2 hne.out); (with_reducible refine hx.mono ?_); clear hx; rintro e w6 ⟨rfl, HR6⟩))
  go_ret
  exact ⟨rfl, ⟨HR6.out.1.below⟩⟩
end Go.Proofs.YtphaemaccdddfaaDoor.PTk
