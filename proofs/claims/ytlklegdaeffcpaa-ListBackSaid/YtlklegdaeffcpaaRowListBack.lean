/- The row of the law ListBack: for every input the call returns true, and the input reads as it did. No condition. -/
import Derived.Test.YtlklegdaeffcpaaRows
import Derived.Test.YtlklegdaeffcpaaOpen
import Derived.Test.YtlklegdaeffcpaaListRows3
import Derived.WalkKit
import Derived.ProofKit
import Derived.OpenShut
import Derived.ShutString
import Derived.ChangeOld
import Derived.Below
import Derived.SizedLaws
import Derived.Deep.Strs
import Derived.Lib.SmallJoins
namespace Go.Proofs.Ytlklegdaeffcpaa.listBack
open Go.ChangeShapes Go.WideShapes Go.ChangeAt Go.RowKit
open Go.ChangeMaps (open_string shut_string)
set_option linter.unusedVariables false
set_option linter.unusedSimpArgs false
theorem own : ownKnob Try.prog.godebug = none := by kernel_rfl
theorem laidOut : laidOutB Try.prog = true := by kernel_rfl
set_option maxRecDepth 100000 in
theorem open40 {H : Type} {enc : TypeId × Value → H} {w : World} {spare : Nat → Bool} {held : Bool} :
    ∀ fuel cs x, DataW.trod enc Try.prog w 0 spare held fuel 40 cs = some x → cs.length = 2 → ∃ p, REnt p cs := by
  intro fuel cs x h hl
  match cs, hl with
  | [c0, c1], _ =>
    obtain ⟨y0_0, y0_1, n0, _, _, h0_0, h0_1⟩ := trod_struct2 Try.underlying40 h
    simp only [(by kernel_rfl : Try.prog.cellsOf 32 = 1), List.drop, List.take, List.take_zero, List.drop_zero] at h0_0
    obtain ⟨v0, ev0, _, wv0⟩ := DataW.trod_int Try.underlying32 h0_0
    obtain rfl := (List.cons.inj ev0).1
    simp only [(by kernel_rfl : Try.prog.cellsOf 5 = 1), List.drop, List.take, List.take_zero, List.drop_zero] at h0_1
    obtain ⟨v1, ev1, _, wv1⟩ := DataW.trod_int Try.underlying5 h0_1
    obtain rfl := (List.cons.inj ev1).1
    exact ⟨(v0, v1), rfl, wv0, wv1⟩
set_option maxRecDepth 100000 in
theorem lifted (os : Os) (started : os.Started) (H : Type) (enc : TypeId × Value → H) :
    ReturnsInHanded {} Try.checked os 5 .any (Rows.listBackSpec.pre6 enc Try.prog Try.f5 Rows.listBackRow.domain false) (Rows.listBackSpec.post enc Try.prog Try.f5 false true false false) := by
  refine returnsInHanded_of_change_sized (C := Try.checked) own started (by kernel_rfl) Try.func5
    (ChangeSpec.witness6 (enc := enc) (C := Try.checked) false ⟨#[], #[.slice none 0 0, .slice none 0 0], []⟩ 8 (by kernel_rfl) (by kernel_rfl) (by kernel_rfl) (by kernel_rfl)) ?_
  intro W base args ds gs before hval0 hW hcnd hsz0 _
  have hsz : (DataW.weightsEach Try.prog (Try.f5.params.toList ++ Rows.listBackSpec.plain.varTypes Try.prog) (ds ++ gs)).all (· ≤ reachBytes) = true := hsz0
  have hval : ∀ (j : Nat) t v, Try.f5.params[j]? = some t → args[j]? = some v → Value.okWide Try.prog W .any base t v := hval0
  have hW' := hW
  obtain ⟨p, q, hA0, hV, rfl, hfz, hnd⟩ := hW
  have hA : DataW.TrodAll enc Try.prog W 0 (fun _ => true) true Try.f5.params.toList args.toList ds p := hA0
  rw [Try.params5] at hA hval hsz
  obtain ⟨v0, vs0, d0, ds0, p0, q0, hargs, rfl, rfl, h0, r0⟩ := trodAll_cons hA
  obtain ⟨v1, vs1, d1, ds1, p1, q1, rfl, rfl, rfl, h1, r1⟩ := trodAll_cons r0
  obtain ⟨rfl, rfl, rfl⟩ := trodAll_nil r1
  obtain rfl : args = #[v0, v1] := by cases args; simp_all
  obtain ⟨rfl, rfl⟩ := trodVars_none hV
  obtain ⟨a0, len0, cap0, rfl⟩ := okWide_slice Try.underlying22 (hval 0 22 v0 rfl rfl)
  have lt0 : ∀ x ∈ p0, x.block < W.heap.size := by obtain ⟨m, hm⟩ := h0; exact DataW.trod_lt m _ _ _ hm
  obtain ⟨l0, hcap0, _, w0⟩ := open_recs (REnt) Try.underlying22 (by kernel_rfl : Try.prog.cellsOf 40 = 2) h0 open40
  have y0 := sized_recs hsz (j := 0) (t := 22) rfl rfl Try.underlying22 (by kernel_rfl : Try.prog.bytesOf 40 = 8) h0
  obtain ⟨a1, len1, cap1, rfl⟩ := okWide_slice Try.underlying22 (hval 1 22 v1 rfl rfl)
  have lt1 : ∀ x ∈ p1, x.block < W.heap.size := by obtain ⟨m, hm⟩ := h1; exact DataW.trod_lt m _ _ _ hm
  obtain ⟨l1, hcap1, _, w1⟩ := open_recs (REnt) Try.underlying22 (by kernel_rfl : Try.prog.cellsOf 40 = 2) h1 open40
  have y1 := sized_recs hsz (j := 1) (t := 22) rfl rfl Try.underlying22 (by kernel_rfl : Try.prog.bytesOf 40 = 8) h1
  clear hA0 hval0 hsz0 hsz
  refine (listBack_any W a0 len0 cap0 l0 w0 hcap0 y0 a1 len1 cap1 l1 w1 hcap1 y1).mono fun e W' ⟨he, bel⟩ => ?_
  subst he
  exact ⟨_, rfl, _, _, _, [], _, [], hW', trodAll_mk1 (shut_bool Try.underlying4 _), (trodAll_cons_mk (Below.trod laidOut (by kernel_rfl) (of_decide_eq_true (by kernel_rfl)) h0 bel lt0) (trodAll_cons_mk (Below.trod laidOut (by kernel_rfl) (of_decide_eq_true (by kernel_rfl)) h1 bel lt1) trodAll_mk0)), rfl, bel.frame _, fun h => by cases h⟩
theorem over : Rows.listBackRow.holds Try.pinned (OpenSpec.ofChange Rows.listBackSpec) :=
  OpenClaim.holds_of_wide 5 Try.f5 rfl rfl rfl rfl rfl rfl rfl ⟨rfl, rfl, rfl, rfl, rfl⟩ rfl rfl rfl rfl rfl (by kernel_rfl) Try.func5 (by kernel_rfl)
    (of_decide_eq_true (by kernel_rfl)) (by unfold Func.isWrapper; first | (rw [if_pos (by decide +kernel)]; kernel_rfl) | (rw [if_neg (by decide +kernel)]; exact ⟨rfl, rfl⟩))
    (fun os started H enc _ => lifted os started H enc)
theorem proved : Rows.ListBackSaid := over
end Go.Proofs.Ytlklegdaeffcpaa.listBack
namespace Go.Proofs.Ytlklegdaeffcpaa
/-- The row, under a short name, for the claim. -/
theorem listBack_holds : Rows.ListBackSaid := listBack.proved
#print axioms listBack_holds
end Go.Proofs.Ytlklegdaeffcpaa
