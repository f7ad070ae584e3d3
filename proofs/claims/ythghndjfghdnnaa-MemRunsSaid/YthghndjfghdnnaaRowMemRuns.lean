/- The row of the law MemRuns: for every input the call returns true, and the input reads as it did. No condition. -/
import Derived.Test.YthghndjfghdnnaaRows
import Derived.Test.YthghndjfghdnnaaOpen
import Derived.Test.YthghndjfghdnnaaMemRuns
import Derived.WalkKit
import Derived.ProofKit
import Derived.OpenShut
import Derived.ShutString
import Derived.ChangeOld
import Derived.Below
import Derived.SizedLaws
import Derived.Deep.Strs
import Derived.Lib.SmallJoins
namespace Go.Proofs.Ythghndjfghdnnaa.memRuns
open Go.ChangeShapes Go.WideShapes Go.ChangeAt Go.RowKit
open Go.ChangeMaps (open_string shut_string)
set_option linter.unusedVariables false
set_option linter.unusedSimpArgs false
theorem own : ownKnob Try.prog.godebug = none := by kernel_rfl
theorem laidOut : laidOutB Try.prog = true := by kernel_rfl
theorem open54 {H : Type} {enc : TypeId × Value → H} {w : World} {spare : Nat → Bool} {held : Bool} :
    ∀ fuel cs x, DataW.trod enc Try.prog w 0 spare held fuel 54 cs = some x → cs.length = 4 → ∃ p, ROp p cs := by
  intro fuel cs x h hl
  match cs, hl with
  | [c0, c1, c2, c3], _ =>
    obtain ⟨y0_0, y0_1, y0_2, y0_3, n0, _, _, h0_0, h0_1, h0_2, h0_3⟩ := Go.Joins.trod_struct4 Try.underlying54 h
    simp only [(by kernel_rfl : Try.prog.cellsOf 5 = 1), List.drop, List.take, List.take_zero, List.drop_zero] at h0_0
    obtain ⟨v0, ev0, _, wv0⟩ := DataW.trod_int Try.underlying5 h0_0
    obtain rfl := (List.cons.inj ev0).1
    simp only [(by kernel_rfl : Try.prog.cellsOf 3 = 1), List.drop, List.take, List.take_zero, List.drop_zero] at h0_1
    obtain ⟨v1, ev1, _, wv1⟩ := DataW.trod_int Try.underlying3 h0_1
    obtain rfl := (List.cons.inj ev1).1
    simp only [(by kernel_rfl : Try.prog.cellsOf 37 = 1), List.drop, List.take, List.take_zero, List.drop_zero] at h0_2
    obtain ⟨v2, ev2, _, wv2⟩ := DataW.trod_int Try.underlying37 h0_2
    obtain rfl := (List.cons.inj ev2).1
    simp only [(by kernel_rfl : Try.prog.cellsOf 37 = 1), List.drop, List.take, List.take_zero, List.drop_zero] at h0_3
    obtain ⟨v3, ev3, _, wv3⟩ := DataW.trod_int Try.underlying37 h0_3
    obtain rfl := (List.cons.inj ev3).1
    exact ⟨(v0, v1, v2, v3), rfl, wv0, wv1, wv2, wv3⟩
set_option maxRecDepth 100000 in
theorem lifted (os : Os) (started : os.Started) (H : Type) (enc : TypeId × Value → H) :
    ReturnsInHanded {} Try.checked os 6 .any (Rows.memRunsSpec.pre6 enc Try.prog Try.f6 Rows.memRunsRow.domain false) (Rows.memRunsSpec.post enc Try.prog Try.f6 false true false false) := by
  refine returnsInHanded_of_change_sized (C := Try.checked) own started (by kernel_rfl) Try.func6
    (ChangeSpec.witness6 (enc := enc) (C := Try.checked) false ⟨#[], #[.int .i64 0, .slice none 0 0], []⟩ 8 (by kernel_rfl) (by kernel_rfl) (by kernel_rfl) (by kernel_rfl)) ?_
  intro W base args ds gs before hval0 hW hcnd hsz0 _
  have hsz : (DataW.weightsEach Try.prog (Try.f6.params.toList ++ Rows.memRunsSpec.plain.varTypes Try.prog) (ds ++ gs)).all (· ≤ reachBytes) = true := hsz0
  have hval : ∀ (j : Nat) t v, Try.f6.params[j]? = some t → args[j]? = some v → Value.okWide Try.prog W .any base t v := hval0
  have hW' := hW
  obtain ⟨p, q, hA0, hV, rfl, hfz, hnd⟩ := hW
  have hA : DataW.TrodAll enc Try.prog W 0 (fun _ => true) true Try.f6.params.toList args.toList ds p := hA0
  rw [Try.params6] at hA hval hsz
  obtain ⟨v0, vs0, d0, ds0, p0, q0, hargs, rfl, rfl, h0, r0⟩ := trodAll_cons hA
  obtain ⟨v1, vs1, d1, ds1, p1, q1, rfl, rfl, rfl, h1, r1⟩ := trodAll_cons r0
  obtain ⟨rfl, rfl, rfl⟩ := trodAll_nil r1
  obtain rfl : args = #[v0, v1] := by cases args; simp_all
  obtain ⟨rfl, rfl⟩ := trodVars_none hV
  obtain ⟨a0, rfl, rfl, rfl, w0⟩ := open_int Try.underlying3 (hval 0 3 v0 rfl rfl) h0
  obtain ⟨a1, len1, cap1, rfl⟩ := okWide_slice Try.underlying49 (hval 1 49 v1 rfl rfl)
  have lt1 : ∀ x ∈ p1, x.block < W.heap.size := by obtain ⟨m, hm⟩ := h1; exact DataW.trod_lt m _ _ _ hm
  obtain ⟨l1, hcap1, _, w1⟩ := open_recs (ROp) Try.underlying49 (by kernel_rfl : Try.prog.cellsOf 54 = 4) h1 open54
  have y1 := sized_recs hsz (j := 1) (t := 49) rfl rfl Try.underlying49 (by kernel_rfl : Try.prog.bytesOf 54 = 32) h1
  clear hA0 hval0 hsz0 hsz
  refine (memRuns_any W a0 w0 a1 len1 cap1 l1 w1 hcap1 y1).mono fun e W' ⟨he, bel⟩ => ?_
  subst he
  exact ⟨_, rfl, _, _, _, [], _, [], hW', trodAll_mk1 (shut_bool Try.underlying4 _), (trodAll_cons_mk (shut_int Try.underlying3 w0) (trodAll_cons_mk (Below.trod laidOut (by kernel_rfl) (of_decide_eq_true (by kernel_rfl)) h1 bel lt1) trodAll_mk0)), rfl, bel.frame _, fun h => by cases h⟩
theorem over : Rows.memRunsRow.holds Try.pinned (OpenSpec.ofChange Rows.memRunsSpec) :=
  OpenClaim.holds_of_wide 6 Try.f6 rfl rfl rfl rfl rfl rfl rfl ⟨rfl, rfl, rfl, rfl, rfl⟩ rfl rfl rfl rfl rfl (by kernel_rfl) Try.func6 (by kernel_rfl)
    (of_decide_eq_true (by kernel_rfl)) (by unfold Func.isWrapper; first | (rw [if_pos (by decide +kernel)]; kernel_rfl) | (rw [if_neg (by decide +kernel)]; exact ⟨rfl, rfl⟩))
    (fun os started H enc _ => lifted os started H enc)
theorem proved : Rows.MemRunsSaid := over
end Go.Proofs.Ythghndjfghdnnaa.memRuns
namespace Go.Proofs.Ythghndjfghdnnaa
/-- The row, under a short name, for the claim. -/
theorem memRuns_holds : Rows.MemRunsSaid := memRuns.proved
#print axioms memRuns_holds
end Go.Proofs.Ythghndjfghdnnaa
