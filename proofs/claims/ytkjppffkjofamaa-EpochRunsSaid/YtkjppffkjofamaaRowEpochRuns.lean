/- The row of the law EpochRuns: for every input the call returns true, and the input reads as it did. No condition. -/
import Derived.Test.YtkjppffkjofamaaRows
import Derived.Test.YtkjppffkjofamaaOpen
import Derived.Test.YtkjppffkjofamaaRunsLaw
import Derived.WalkKit
import Derived.ProofKit
import Derived.OpenShut
import Derived.ShutString
import Derived.ChangeOld
import Derived.Below
import Derived.SizedLaws
import Derived.Deep.Strs
import Derived.Lib.SmallJoins
namespace Go.Proofs.Ytkjppffkjofamaa.epochRuns
open Go.ChangeShapes Go.WideShapes Go.ChangeAt Go.RowKit
open Go.ChangeMaps (open_string shut_string)
set_option linter.unusedVariables false
set_option linter.unusedSimpArgs false
theorem own : ownKnob Try.prog.godebug = none := by kernel_rfl
theorem laidOut : laidOutB Try.prog = true := by kernel_rfl
set_option maxRecDepth 100000 in
theorem lifted (os : Os) (started : os.Started) (H : Type) (enc : TypeId × Value → H) :
    ReturnsInHanded {} Try.checked os 4 .any (Rows.epochRunsSpec.pre6 enc Try.prog Try.f4 Rows.epochRunsRow.domain false) (Rows.epochRunsSpec.post enc Try.prog Try.f4 false true false false) := by
  refine returnsInHanded_of_change_sized (C := Try.checked) own started (by kernel_rfl) Try.func4
    (ChangeSpec.witness6 (enc := enc) (C := Try.checked) false ⟨#[], #[.agg #[.int .i64 0, .slice none 0 0, .slice none 0 0]], []⟩ 8 (by kernel_rfl) (by kernel_rfl) (by kernel_rfl) (by kernel_rfl)) ?_
  intro W base args ds gs before hval0 hW hcnd hsz0 _
  have hsz : (DataW.weightsEach Try.prog (Try.f4.params.toList ++ Rows.epochRunsSpec.plain.varTypes Try.prog) (ds ++ gs)).all (· ≤ reachBytes) = true := hsz0
  have hval : ∀ (j : Nat) t v, Try.f4.params[j]? = some t → args[j]? = some v → Value.okWide Try.prog W .any base t v := hval0
  have hW' := hW
  obtain ⟨p, q, hA0, hV, rfl, hfz, hnd⟩ := hW
  have hA : DataW.TrodAll enc Try.prog W 0 (fun _ => true) true Try.f4.params.toList args.toList ds p := hA0
  rw [Try.params4] at hA hval hsz
  obtain ⟨v0, vs0, d0, ds0, p0, q0, hargs, rfl, rfl, h0, r0⟩ := trodAll_cons hA
  obtain ⟨rfl, rfl, rfl⟩ := trodAll_nil r0
  obtain rfl : args = #[v0] := by cases args; simp_all
  obtain ⟨rfl, rfl⟩ := trodVars_none hV
  have lt0 : ∀ x ∈ p0, x.block < W.heap.size := by obtain ⟨m, hm⟩ := h0; exact DataW.trod_lt m _ _ _ hm
  obtain ⟨z0_0, z0_1, z0_2, y0_0, y0_1, y0_2, n0, rfl, rfl, rfl, g0_0, g0_1, g0_2⟩ := Go.Joins.open_agg3 Try.underlying43 (by kernel_rfl) (by kernel_rfl) (hval 0 43 v0 rfl rfl) h0
  obtain ⟨a0_0, e0_0, _, w0_0⟩ := DataW.trod_int Try.underlying3 g0_0
  obtain rfl := (List.cons.inj e0_0).1
  obtain ⟨a0_1, len0_1, cap0_1, l0_1, e0_1, hcap0_1, w0_1⟩ := field_slice (RActs W) Try.underlying41 (by kernel_rfl : Try.prog.cellsOf 44 = 1) g0_1 acts_open
  obtain rfl := (List.cons.inj e0_1).1
  obtain ⟨a0_2, len0_2, cap0_2, l0_2, e0_2, hcap0_2, w0_2⟩ := field_slice (RInt .i64) Try.underlying28 (by kernel_rfl : Try.prog.cellsOf 3 = 1) g0_2 (rint_open Try.underlying3)
  obtain rfl := (List.cons.inj e0_2).1
  clear hA0 hval0 hsz0 hsz
  refine (runs_law W a0_0 w0_0 a0_1 len0_1 cap0_1 l0_1 w0_1 hcap0_1 a0_2 len0_2 cap0_2 l0_2 w0_2 hcap0_2).mono fun e W' ⟨he, bel⟩ => ?_
  subst he
  exact ⟨_, rfl, _, _, _, [], _, [], hW', trodAll_mk1 (shut_bool Try.underlying4 _), (trodAll_cons_mk (Below.trod laidOut (by kernel_rfl) (of_decide_eq_true (by kernel_rfl)) h0 bel lt0) trodAll_mk0), rfl, bel.frame _, fun h => by cases h⟩
theorem over : Rows.epochRunsRow.holds Try.pinned (OpenSpec.ofChange Rows.epochRunsSpec) :=
  OpenClaim.holds_of_wide 4 Try.f4 rfl rfl rfl rfl rfl rfl rfl ⟨rfl, rfl, rfl, rfl, rfl⟩ rfl rfl rfl rfl rfl (by kernel_rfl) Try.func4 (by kernel_rfl)
    (of_decide_eq_true (by kernel_rfl)) (by unfold Func.isWrapper; first | (rw [if_pos (by decide +kernel)]; kernel_rfl) | (rw [if_neg (by decide +kernel)]; exact ⟨rfl, rfl⟩))
    (fun os started H enc _ => lifted os started H enc)
theorem proved : Rows.EpochRunsSaid := over
end Go.Proofs.Ytkjppffkjofamaa.epochRuns
namespace Go.Proofs.Ytkjppffkjofamaa
/-- The row, under a short name, for the claim. -/
theorem epochRuns_holds : Rows.EpochRunsSaid := epochRuns.proved
#print axioms epochRuns_holds
end Go.Proofs.Ytkjppffkjofamaa
