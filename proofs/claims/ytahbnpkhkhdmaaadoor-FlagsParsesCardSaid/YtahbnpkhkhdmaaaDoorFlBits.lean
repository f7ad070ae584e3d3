/- The reference's Change against the program's, in plain Lean. No condition but those that each bears. -/
import Derived.Test.YtahbnpkhkhdmaaaDoorFlText
set_option linter.unusedVariables false
set_option linter.unusedSimpArgs false
namespace Go.Proofs.YtahbnpkhkhdmaaaDoor
open Go.RowKit Go.Shelf PFl Go.Proofs.YtahbnpkhkhdmaaaDoorW.PrintWords Go.Proofs.YtahbnpkhkhdmaaaDoorW.PrintLast Go.Proofs.YtahbnpkhkhdmaaaDoorW.PrintMore
theorem bits_bv (a : BitVec 8) : BitVec.ofInt 8 (IntKind.u8.wrap (a.toNat : Int)) = a := by
  have h : IntKind.u8.wrap (a.toNat : Int) = (a.toNat : Int) := by
    rw [IntKind.wrap_u8]
    have := a.isLt
    omega
  rw [h, BitVec.ofInt_natCast]
  simp
theorem or_bv (x y : Int) : Go.bits .and .u8 (Go.bits .or .u8 x y) 31 = IntKind.u8.wrap ((((BitVec.ofInt 8 x ||| BitVec.ofInt 8 y) &&& 31#8).toNat : Nat) : Int) := by
  show IntKind.u8.wrap ((BitVec.ofInt 8 (IntKind.u8.wrap ((BitVec.ofInt 8 x ||| BitVec.ofInt 8 y).toNat : Int)) &&& BitVec.ofInt 8 31).toNat : Int) = _
  rw [bits_bv]; rfl
theorem mod_all : (List.range 256).all (fun s => BitVec.ofInt 8 ((s : Int) % 32) == BitVec.ofInt 8 (s : Int) &&& 31#8) = true := by kernel_rfl
theorem andnot_bv (x y : Int) : Go.bits .and .u8 (Go.bits .andNot .u8 x y) 31 = IntKind.u8.wrap ((((BitVec.ofInt 8 x &&& ~~~ BitVec.ofInt 8 y) &&& 31#8).toNat : Nat) : Int) := by
  show IntKind.u8.wrap ((BitVec.ofInt 8 (IntKind.u8.wrap ((BitVec.ofInt 8 x &&& ~~~ BitVec.ofInt 8 y).toNat : Int)) &&& BitVec.ofInt 8 31).toNat : Int) = _
  rw [bits_bv]; rfl
theorem and_bv (x : Int) : Go.bits .and .u8 x 31 = IntKind.u8.wrap (((BitVec.ofInt 8 x &&& 31#8).toNat : Nat) : Int) := rfl
theorem mod_at {s : Int} (h0 : 0 ≤ s) (h1 : s < 256) : BitVec.ofInt 8 (s % 32) = BitVec.ofInt 8 s &&& 31#8 := by
  have h := List.all_eq_true.1 mod_all s.toNat (by simp; omega)
  have e : ((s.toNat : Nat) : Int) = s := by omega
  rw [e] at h
  exact eq_of_beq h
theorem bv_or (a b m : BitVec 8) : (a &&& m ||| b &&& m) &&& m = (a ||| b) &&& m := by
  ext i hi
  simp only [BitVec.getElem_and, BitVec.getElem_or]
  cases a[i] <;> cases b[i] <;> cases m[i] <;> rfl
theorem bv_andnot (a b m : BitVec 8) : (a &&& m &&& ~~~ (b &&& m)) &&& m = (a &&& ~~~ b) &&& m := by
  ext i hi
  simp only [BitVec.getElem_and, BitVec.getElem_not]
  cases a[i] <;> cases b[i] <;> cases m[i] <;> rfl
theorem bv_and (a m : BitVec 8) : (a &&& m) &&& m = a &&& m := by
  ext i hi
  simp only [BitVec.getElem_and]
  cases a[i] <;> cases m[i] <;> rfl
theorem changeF_mod {s o : Int} (how : Int) (hs : 0 ≤ s) (hs' : s < 256) (ho : 0 ≤ o) (ho' : o < 256) : changeF (s % 32) how (o % 32) = changeF s how o := by
  unfold changeF
  rw [or_bv, or_bv, andnot_bv, andnot_bv, and_bv, and_bv, and_bv, and_bv, mod_at hs hs', mod_at ho ho', bv_or, bv_andnot, bv_and, bv_and]
theorem bit_all : (List.range 256).all (fun s => (List.range 5).all fun i => postchaiseref01_Bit.f (s : Int) (i : Int) == postchaiseref01_Bit.f ((s : Int) % 32) (i : Int) && postchaiseref01_Bit.f (s : Int) (i : Int) == some (bitAt (s : Int) i)) = true := by kernel_rfl
theorem bit_both {s : Int} (h0 : 0 ≤ s) (h1 : s < 256) {i : Nat} (hi : i < 5) : postchaiseref01_Bit.f s (i : Int) = postchaiseref01_Bit.f (s % 32) (i : Int) ∧ postchaiseref01_Bit.f s (i : Int) = some (bitAt s i) := by
  have h := List.all_eq_true.1 (List.all_eq_true.1 bit_all s.toNat (by simp; omega)) i (by simp; omega)
  have e : ((s.toNat : Nat) : Int) = s := by omega
  rw [e, Bool.and_eq_true] at h
  exact ⟨eq_of_beq h.1, eq_of_beq h.2⟩
theorem bit_mod {s : Int} (h0 : 0 ≤ s) (h1 : s < 256) (i : Int) (hi : i < 5) : postchaiseref01_Bit.f s i = postchaiseref01_Bit.f (s % 32) i := by
  by_cases hn : 0 ≤ i
  · obtain ⟨j, rfl⟩ : ∃ j : Nat, i = j := ⟨i.toNat, by omega⟩
    exact (bit_both h0 h1 (by omega)).1
  · unfold postchaiseref01_Bit.f
    rw [if_neg hn, if_neg hn]
end Go.Proofs.YtahbnpkhkhdmaaaDoor
