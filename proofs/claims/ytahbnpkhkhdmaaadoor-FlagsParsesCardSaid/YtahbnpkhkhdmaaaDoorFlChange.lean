/- The reference's Change is the program's, in plain Lean. No condition but those that each bears. -/
import Derived.Test.YtahbnpkhkhdmaaaDoorFlBits
set_option linter.unusedVariables false
set_option linter.unusedSimpArgs false
namespace Go.Proofs.YtahbnpkhkhdmaaaDoor
open Go.RowKit Go.Shelf PFl Go.Proofs.YtahbnpkhkhdmaaaDoorW.PrintWords Go.Proofs.YtahbnpkhkhdmaaaDoorW.PrintLast Go.Proofs.YtahbnpkhkhdmaaaDoorW.PrintMore
theorem change_hear {s s' o o' how how' : Int} (h : ∀ i : Int, i < 5 → postchaiseref01_Bit.f s i = postchaiseref01_Bit.f s' i) (h2 : ∀ i : Int, i < 5 → postchaiseref01_Bit.f o i = postchaiseref01_Bit.f o' i)
    (e0 : (how = 0) = (how' = 0)) (e1 : (how = 1) = (how' = 1)) (e2 : (how = 2) = (how' = 2)) : ∀ k,
    (∀ x7 x8, postchaiseref01_Change.l0 k s how o x7 x8 = postchaiseref01_Change.l0 k s' how' o' x7 x8) ∧
    (∀ x7 x8 a b c, postchaiseref01_Change.j1 k s how o x7 x8 a b c = postchaiseref01_Change.j1 k s' how' o' x7 x8 a b c) ∧
    (∀ x7 x8 a b c, postchaiseref01_Change.j2 k s how o x7 x8 a b c = postchaiseref01_Change.j2 k s' how' o' x7 x8 a b c)
  | 0 => ⟨fun _ _ => rfl, fun _ _ _ _ _ => rfl, fun _ _ _ _ _ => rfl⟩
  | k + 1 => by
    obtain ⟨i0, i1, i2⟩ := change_hear h h2 e0 e1 e2 k
    refine ⟨fun x7 x8 => ?_, fun x7 x8 a b c => ?_, fun x7 x8 a b c => ?_⟩
    · unfold postchaiseref01_Change.l0
      split
      · next hlt => rw [h _ hlt, h2 _ hlt]; simp only [e0, i1]
      · rfl
    · unfold postchaiseref01_Change.j1
      simp only [e1, i2]
    · unfold postchaiseref01_Change.j2
      simp only [e2, i0]
theorem change_all : [0, 1, 2, 3].all (fun h : Int => (List.range 32).all fun s => (List.range 32).all fun o => decide (postchaiseref01_Change.f 60 (s : Int) h (o : Int) = some (changeF (s : Int) h (o : Int)))) = true := by kernel_rfl
theorem change_small {s o h : Int} (hs : 0 ≤ s) (hs' : s < 32) (ho : 0 ≤ o) (ho' : o < 32) (hh : h ∈ [(0 : Int), 1, 2, 3]) : postchaiseref01_Change.f 60 s h o = some (changeF s h o) := by
  have t := List.all_eq_true.1 (List.all_eq_true.1 (List.all_eq_true.1 change_all h hh) s.toNat (by simp; omega)) o.toNat (by simp; omega)
  have e : ((s.toNat : Nat) : Int) = s := by omega
  have e2 : ((o.toNat : Nat) : Int) = o := by omega
  rw [e, e2] at t
  exact of_decide_eq_true t
theorem change_at {s o : Int} (how : Int) (hs : 0 ≤ s) (hs' : s < 256) (ho : 0 ≤ o) (ho' : o < 256) : postchaiseref01_Change.f 60 s how o = some (changeF s how o) := by
  rw [← changeF_mod how hs hs' ho ho']
  by_cases hh : how ∈ [(0 : Int), 1, 2, 3]
  · rw [← change_small (by omega) (by omega) (by omega) (by omega) hh]
    exact (change_hear (bit_mod hs hs') (bit_mod ho ho') rfl rfl rfl 60).1 0 0
  · have n0 : how ≠ 0 := fun e => hh (by rw [e]; simp)
    have n1 : how ≠ 1 := fun e => hh (by rw [e]; simp)
    have n2 : how ≠ 2 := fun e => hh (by rw [e]; simp)
    have e : changeF (s % 32) how (o % 32) = changeF (s % 32) 3 (o % 32) := by
      unfold changeF
      rw [if_neg n0, if_neg n1, if_neg n2]; rfl
    rw [e, ← change_small (h := 3) (by omega) (by omega) (by omega) (by omega) (by simp)]
    exact (change_hear (bit_mod hs hs') (bit_mod ho ho') (by simp [n0]) (by simp [n1]) (by simp [n2]) 60).1 0 0
end Go.Proofs.YtahbnpkhkhdmaaaDoor
