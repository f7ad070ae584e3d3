/- Has, in plain Lean: bit by bit. No condition but those that each bears. -/
import Derived.Test.YtahbnpkhkhdmaaaDoorFlChange
set_option linter.unusedVariables false
set_option linter.unusedSimpArgs false
namespace Go.Proofs.YtahbnpkhkhdmaaaDoor
open Go.RowKit Go.Shelf PFl Go.Proofs.YtahbnpkhkhdmaaaDoorW.PrintWords Go.Proofs.YtahbnpkhkhdmaaaDoorW.PrintLast Go.Proofs.YtahbnpkhkhdmaaaDoorW.PrintMore
def hasBits (s o : Int) : Bool := (List.range 5).all fun k => !bitAt o k || bitAt s k
theorem has_small : (List.range 32).all (fun s => (List.range 32).all fun o => hasF (s : Int) (o : Int) == hasBits (s : Int) (o : Int)) = true := by kernel_rfl
theorem hasF_bv (s o : Int) : hasF s o = (IntKind.u8.wrap ((((BitVec.ofInt 8 o &&& 31#8) &&& ~~~ BitVec.ofInt 8 s).toNat : Nat) : Int) == 0) := by
  show (IntKind.u8.wrap ((BitVec.ofInt 8 (IntKind.u8.wrap ((BitVec.ofInt 8 o &&& BitVec.ofInt 8 31).toNat : Int)) &&& ~~~ BitVec.ofInt 8 s).toNat : Int) == 0) = _
  rw [bits_bv]; rfl
theorem bv_has (a b m : BitVec 8) : ((a &&& m) &&& m) &&& ~~~ (b &&& m) = (a &&& m) &&& ~~~ b := by
  ext i hi
  simp only [BitVec.getElem_and, BitVec.getElem_not]
  cases a[i] <;> cases b[i] <;> cases m[i] <;> rfl
theorem has_mod {s o : Int} (hs : 0 ≤ s) (hs' : s < 256) (ho : 0 ≤ o) (ho' : o < 256) : hasF (s % 32) (o % 32) = hasF s o := by
  rw [hasF_bv, hasF_bv, mod_at hs hs', mod_at ho ho', bv_has]
theorem bitAt_mod {s : Int} (hs : 0 ≤ s) (hs' : s < 256) {k : Nat} (hk : k < 5) : bitAt (s % 32) k = bitAt s k := by
  have h1 := bit_both hs hs' hk
  have h2 := bit_both (s := s % 32) (by omega) (by omega) hk
  exact (Option.some.inj (h1.2.symm.trans (h1.1.trans h2.2))).symm
theorem has_at {s o : Int} (hs : 0 ≤ s) (hs' : s < 256) (ho : 0 ≤ o) (ho' : o < 256) : hasF s o = hasBits s o := by
  rw [← has_mod hs hs' ho ho']
  have h := List.all_eq_true.1 (List.all_eq_true.1 has_small (s % 32).toNat (by simp; omega)) (o % 32).toNat (by simp; omega)
  have e : (((s % 32).toNat : Nat) : Int) = s % 32 := by omega
  have e2 : (((o % 32).toNat : Nat) : Int) = o % 32 := by omega
  rw [e, e2] at h
  rw [eq_of_beq h]
  unfold hasBits
  have hb : ∀ k, k < 5 → ((!bitAt (o % 32) k || bitAt (s % 32) k) = (!bitAt o k || bitAt s k)) := fun k hk => by rw [bitAt_mod hs hs' hk, bitAt_mod ho ho' hk]
  simp only [List.range_succ, List.range_zero, List.nil_append, List.cons_append, List.all_cons, List.all_nil, hb 0 (by omega), hb 1 (by omega), hb 2 (by omega), hb 3 (by omega), hb 4 (by omega)]
end Go.Proofs.YtahbnpkhkhdmaaaDoor
