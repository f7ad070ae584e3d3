/- The row of the law TreeWalks: for every input the call returns true, and the input reads as it did. No condition. -/
import Derived.Test.YtkcnakaneiocjaaRows
import Derived.Test.YtkcnakaneiocjaaOpen
import Derived.Test.YtkcnakaneiocjaaTrWlk
import Derived.WalkKit
import Derived.ProofKit
import Derived.OpenShut
import Derived.ShutString
import Derived.ChangeOld
import Derived.Below
import Derived.SizedLaws
import Derived.Deep.Strs
import Derived.Lib.SmallJoins
namespace Go.Proofs.Ytkcnakaneiocjaa.treeWalks
open Go.ChangeShapes Go.WideShapes Go.ChangeAt Go.RowKit
open Go.ChangeMaps (open_string shut_string)
set_option linter.unusedVariables false
set_option linter.unusedSimpArgs false
theorem own : ownKnob Try.prog.godebug = none := by kernel_rfl
theorem laidOut : laidOutB Try.prog = true := by kernel_rfl
set_option maxRecDepth 100000 in
theorem open41 {H : Type} {enc : TypeId × Value → H} {w : World} {spare : Nat → Bool} {held : Bool} :
    ∀ fuel cs x, DataW.trod enc Try.prog w 0 spare held fuel 41 cs = some x → cs.length = 3 → ∃ p, RRec p cs := by
  intro fuel cs x h hl
  match cs, hl with
  | [c0, c1, c2], _ =>
    obtain ⟨y0_0, y0_1, y0_2, n0, _, _, h0_0, h0_1, h0_2⟩ := Go.Deep.trod_struct3 Try.underlying41 h
    simp only [(by kernel_rfl : Try.prog.cellsOf 30 = 1), List.drop, List.take, List.take_zero, List.drop_zero] at h0_0
    obtain ⟨v0, ev0, _, wv0⟩ := DataW.trod_int Try.underlying30 h0_0
    obtain rfl := (List.cons.inj ev0).1
    simp only [(by kernel_rfl : Try.prog.cellsOf 5 = 1), List.drop, List.take, List.take_zero, List.drop_zero] at h0_1
    obtain ⟨v1, ev1, _, wv1⟩ := DataW.trod_int Try.underlying5 h0_1
    obtain rfl := (List.cons.inj ev1).1
    simp only [(by kernel_rfl : Try.prog.cellsOf 9 = 1), List.drop, List.take, List.take_zero, List.drop_zero] at h0_2
    obtain ⟨v2, ev2, _, wv2⟩ := DataW.trod_string Try.underlying9 h0_2
    obtain rfl := (List.cons.inj ev2).1
    exact ⟨(v0, v1, v2), rfl, wv0, wv1, wv2⟩
set_option maxRecDepth 100000 in
theorem lifted (os : Os) (started : os.Started) (H : Type) (enc : TypeId × Value → H) :
    ReturnsInHanded {} Try.checked os 5 .any (Rows.treeWalksSpec.pre6 enc Try.prog Try.f5 Rows.treeWalksRow.domain false) (Rows.treeWalksSpec.post enc Try.prog Try.f5 false true false false) := by
  refine returnsInHanded_of_change_sized (C := Try.checked) own started (by kernel_rfl) Try.func5
    (ChangeSpec.witness6 (enc := enc) (C := Try.checked) false ⟨#[], #[.slice none 0 0, .int .u8 0, .int .u8 0], []⟩ 8 (by kernel_rfl) (by kernel_rfl) (by kernel_rfl) (by kernel_rfl)) ?_
  intro W base args ds gs before hval0 hW hcnd hsz0 _
  have hsz : (DataW.weightsEach Try.prog (Try.f5.params.toList ++ Rows.treeWalksSpec.plain.varTypes Try.prog) (ds ++ gs)).all (· ≤ reachBytes) = true := hsz0
  have hval : ∀ (j : Nat) t v, Try.f5.params[j]? = some t → args[j]? = some v → Value.okWide Try.prog W .any base t v := hval0
  have hW' := hW
  obtain ⟨p, q, hA0, hV, rfl, hfz, hnd⟩ := hW
  have hA : DataW.TrodAll enc Try.prog W 0 (fun _ => true) true Try.f5.params.toList args.toList ds p := hA0
  rw [Try.params5] at hA hval hsz
  obtain ⟨v0, vs0, d0, ds0, p0, q0, hargs, rfl, rfl, h0, r0⟩ := trodAll_cons hA
  obtain ⟨v1, vs1, d1, ds1, p1, q1, rfl, rfl, rfl, h1, r1⟩ := trodAll_cons r0
  obtain ⟨v2, vs2, d2, ds2, p2, q2, rfl, rfl, rfl, h2, r2⟩ := trodAll_cons r1
  obtain ⟨rfl, rfl, rfl⟩ := trodAll_nil r2
  obtain rfl : args = #[v0, v1, v2] := by cases args; simp_all
  obtain ⟨rfl, rfl⟩ := trodVars_none hV
  obtain ⟨a0, len0, cap0, rfl⟩ := okWide_slice Try.underlying22 (hval 0 22 v0 rfl rfl)
  have lt0 : ∀ x ∈ p0, x.block < W.heap.size := by obtain ⟨m, hm⟩ := h0; exact DataW.trod_lt m _ _ _ hm
  obtain ⟨l0, hcap0, _, w0⟩ := open_recs (RRec) Try.underlying22 (by kernel_rfl : Try.prog.cellsOf 41 = 3) h0 open41
  have y0 := sized_recs hsz (j := 0) (t := 22) rfl rfl Try.underlying22 (by kernel_rfl : Try.prog.bytesOf 41 = 24) h0
  obtain ⟨a1, rfl, rfl, rfl, w1⟩ := open_int Try.underlying5 (hval 1 5 v1 rfl rfl) h1
  obtain ⟨a2, rfl, rfl, rfl, w2⟩ := open_int Try.underlying5 (hval 2 5 v2 rfl rfl) h2
  clear hA0 hval0 hsz0 hsz
  refine (PTr.treeWalks_any W a0 len0 cap0 l0 w0 hcap0 y0 a1 w1 a2 w2).mono fun e W' ⟨he, bel⟩ => ?_
  subst he
  exact ⟨_, rfl, _, _, _, [], _, [], hW', trodAll_mk1 (shut_bool Try.underlying4 _), (trodAll_cons_mk (Below.trod laidOut (by kernel_rfl) (of_decide_eq_true (by kernel_rfl)) h0 bel lt0) (trodAll_cons_mk (shut_int Try.underlying5 w1) (trodAll_cons_mk (shut_int Try.underlying5 w2) trodAll_mk0))), rfl, bel.frame _, fun h => by cases h⟩
theorem over : Rows.treeWalksRow.holds Try.pinned (OpenSpec.ofChange Rows.treeWalksSpec) :=
  OpenClaim.holds_of_wide 5 Try.f5 rfl rfl rfl rfl rfl rfl rfl ⟨rfl, rfl, rfl, rfl, rfl⟩ rfl rfl rfl rfl rfl (by kernel_rfl) Try.func5 (by kernel_rfl)
    (of_decide_eq_true (by kernel_rfl)) (by unfold Func.isWrapper; first | (rw [if_pos (by decide +kernel)]; kernel_rfl) | (rw [if_neg (by decide +kernel)]; exact ⟨rfl, rfl⟩))
    (fun os started H enc _ => lifted os started H enc)
theorem proved : Rows.TreeWalksSaid := over
end Go.Proofs.Ytkcnakaneiocjaa.treeWalks
namespace Go.Proofs.Ytkcnakaneiocjaa
/-- The row, under a short name, for the claim. -/
theorem treeWalks_holds : Rows.TreeWalksSaid := treeWalks.proved
#print axioms treeWalks_holds
end Go.Proofs.Ytkcnakaneiocjaa
