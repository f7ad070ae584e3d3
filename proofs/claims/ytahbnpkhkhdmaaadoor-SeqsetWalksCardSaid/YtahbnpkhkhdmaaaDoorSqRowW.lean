/- The row of SeqsetWalks; its tied card: the set's walk gives the numbers at hand that it means, in their order, each once. No condition. -/
import Derived.Test.YtahbnpkhkhdmaaaDoorSqWalks
import Derived.Test.YtahbnpkhkhdmaaaDoorOpen
import Derived.Below
import Derived.Test.YtahbnpkhkhdmaaaDoorCards
import Derived.Test.YtahbnpkhkhdmaaaDoorTie
import Derived.ProofKit
import Derived.OpenShut
import Derived.LaidMore
import Derived.LaidLaws
import Derived.Lay
import Derived.SevenTiedAt
import Derived.Stop.Joined
import Derived.ShutString
import Derived.SizedLaws
import Derived.Lib.LaidTab
set_option linter.unusedVariables false
set_option linter.unusedSimpArgs false
namespace Go.Proofs.YtahbnpkhkhdmaaaDoor
open Go.ChangeShapes Go.WideShapes Go.ChangeAt Go.RowKit
open Go.ChangeMaps (open_string shut_string)
def laidS : List (String × DataW Unit) := [("math/bits.deBruijn32tab", Rows.laid_math_bits_deBruijn32tab), ("math/bits.deBruijn64tab", Rows.laid_math_bits_deBruijn64tab), ("internal/strconv.uint64pow10", Rows.laid_internal_strconv_uint64pow10), ("unicode/utf8.acceptRanges", Rows.laid_unicode_utf8_acceptRanges), ("strconv.ErrRange", Rows.laid_strconv_ErrRange), ("strconv.ErrSyntax", Rows.laid_strconv_ErrSyntax), ("unicode/utf8.first", Rows.laid_unicode_utf8_first)]
theorem own : ownKnob Tryd.prog.godebug = none := by kernel_rfl
theorem glob_laid {W : World} (h : laidMetH Tryd.prog laidS W) : GlobOk W := by
  rw [MakeChecks.laidMetH_plain _ _ _ (by kernel_rfl)] at h
  obtain ⟨ps, ⟨g0, t0, cs0, f0, p0, q0, hg0, ht0, hv0, hd0, ⟨g1, t1, cs1, f1, p1, q1, hg1, ht1, hv1, hd1, ⟨g2, t2, cs2, f2, p2, q2, hg2, ht2, hv2, hd2, ⟨g3, t3, cs3, f3, p3, q3, hg3, ht3, hv3, hd3, ⟨g4, t4, cs4, f4, p4, q4, hg4, ht4, hv4, hd4, ⟨g5, t5, cs5, f5, p5, q5, hg5, ht5, hv5, hd5, _⟩, _⟩, _⟩, _⟩, _⟩, _⟩, _⟩ := h
  refine ⟨?_, ?_, ?_⟩
  · obtain rfl := Option.some.inj (g_tab.symm.trans hg2)
    obtain rfl := Option.some.inj ((show (Tryd.prog.globals[6]?).map (·.type) = some 136 by kernel_rfl).symm.trans ht2)
    have hd : DataW.trod (fun _ => ()) Tryd.prog W 0 (fun _ => true) false f2 136 cs2.toList = some (Lib.tabData .u64 Lib.pow10Tab, p2) := hd2
    unfold Lib.TabIs
    rw [hv2, ← Lib.cells_of_tab Tryd.underlying136 Tryd.underlying97 (by kernel_rfl) (by kernel_rfl) hd]
  · obtain rfl := Option.some.inj (g_errS.symm.trans hg5)
    obtain rfl := Option.some.inj ((show (Tryd.prog.globals[4]?).map (·.type) = some 93 by kernel_rfl).symm.trans ht5)
    obtain ⟨_, u, v, hcs, _, _⟩ := iface_of_trod Tryd.underlying93 hd5
    exact ⟨u, v, by rw [hv5, Array.eq_one_of_toList hcs]⟩
  · obtain rfl := Option.some.inj (g_errR.symm.trans hg4)
    obtain rfl := Option.some.inj ((show (Tryd.prog.globals[5]?).map (·.type) = some 93 by kernel_rfl).symm.trans ht4)
    obtain ⟨_, u, v, hcs, _, _⟩ := iface_of_trod Tryd.underlying93 hd4
    exact ⟨u, v, by rw [hv4, Array.eq_one_of_toList hcs]⟩
open Go.Proofs.YtahbnpkhkhdmaaaDoorW.PrintWords PSq
def RRng (p : Int × Int) (cs : List Value) : Prop := cs = [.int .u32 p.1, .int .u32 p.2] ∧ (Lit.int .u32 p.1).wf = true ∧ (Lit.int .u32 p.2).wf = true
def toRng (p : Int × Int) : S80 := ⟨p.1, p.2⟩
set_option maxRecDepth 100000 in
theorem openRng {H : Type} {enc : TypeId × Value → H} {w : World} {spare : Nat → Bool} {held : Bool} :
    ∀ fuel cs x, DataW.trod enc Tryd.prog w 0 spare held fuel 80 cs = some x → cs.length = 2 → ∃ p, RRng p cs := by
  intro fuel cs x h hl
  match cs, hl with
  | [c0, c1], _ =>
    obtain ⟨y0, y1, n0, _, _, h0, h1⟩ := trod_struct2 Tryd.underlying80 h
    simp only [(by kernel_rfl : Tryd.prog.cellsOf 58 = 1), List.drop, List.take, List.take_zero, List.drop_zero] at h0
    obtain ⟨v0, e0, _, w0⟩ := DataW.trod_int Tryd.underlying58 h0
    obtain rfl := (List.cons.inj e0).1
    simp only [(by kernel_rfl : Tryd.prog.cellsOf 58 = 1), List.drop, List.take, List.take_zero, List.drop_zero] at h1
    obtain ⟨v1, e1, _, w1⟩ := DataW.trod_int Tryd.underlying58 h1
    obtain rfl := (List.cons.inj e1).1
    exact ⟨(v0, v1), rfl, w0, w1⟩
theorem c_rng {w : World} {A : Option Addr} {n : Nat} {ps : List (Int × Int)} (h : Recs RRng 2 w A n ps) : Kd.C k80 w A n (ps.map toRng) := by
  obtain ⟨h1, h2, h3⟩ := h
  refine ⟨by simpa using h1, h2, fun hn => ?_⟩
  obtain ⟨ad, e, hc⟩ := h3 hn
  refine ⟨ad, e, fun j p hj => ?_⟩
  rw [List.getElem?_map] at hj
  obtain ⟨q, hq, rfl⟩ := Option.map_eq_some_iff.1 hj
  obtain ⟨c, a1, a2, a3⟩ := hc j q hq
  have e2 := a2.1
  subst e2
  exact ⟨_, a1, k80_mk w (toRng q), a3⟩
theorem c_u32 {w : World} {A : Option Addr} {n : Nat} {ps : List Int} (h : Recs (RInt .u32) 1 w A n ps) : Kd.C (Kd.int .u32) w A n ps := by
  obtain ⟨h1, h2, h3⟩ := h
  refine ⟨h1, h2, fun hn => ?_⟩
  obtain ⟨ad, e, hc⟩ := h3 hn
  refine ⟨ad, e, fun j p hj => ?_⟩
  obtain ⟨c, a1, a2, a3⟩ := hc j p hj
  exact ⟨_, a1, a2.1, a3⟩
theorem u32_range {a : Int} (h : (Lit.int .u32 a).wf = true) : 0 ≤ a ∧ a < 4294967296 := by
  have e : (Lit.int .u32 a).wf = (decide (IntKind.u32.min ≤ a) && decide (a ≤ IntKind.u32.max)) := rfl
  rw [e, Bool.and_eq_true, decide_eq_true_eq, decide_eq_true_eq] at h
  have h1 : IntKind.u32.min = 0 := rfl
  have h2 : IntKind.u32.max = 4294967295 := rfl
  omega
theorem u16_range {a : Int} (h : (Lit.int .u16 a).wf = true) : 0 ≤ a ∧ a < 65536 := by
  have e : (Lit.int .u16 a).wf = (decide (IntKind.u16.min ≤ a) && decide (a ≤ IntKind.u16.max)) := rfl
  rw [e, Bool.and_eq_true, decide_eq_true_eq, decide_eq_true_eq] at h
  have h1 : IntKind.u16.min = 0 := rfl
  have h2 : IntKind.u16.max = 65535 := rfl
  omega
theorem u32_recs {w : World} {A : Option Addr} {n : Nat} {ps : List Int} (h : Recs (RInt .u32) 1 w A n ps) : U32 ps := by
  intro x hx
  obtain ⟨j, hj⟩ := List.mem_iff_getElem?.1 hx
  obtain ⟨h1, _, h3⟩ := h
  have hlt := (List.getElem?_eq_some_iff.1 hj).1
  obtain ⟨ad, _, hc⟩ := h3 (by omega)
  obtain ⟨c, _, a2, _⟩ := hc j x hj
  have := u32_range a2.2
  omega
theorem laidOut : laidOutB Tryd.prog = true := by kernel_rfl
namespace seqsetWalks
set_option maxRecDepth 100000 in
theorem lifted (os : Os) (started : os.Started) (H : Type) (enc : TypeId × Value → H) :
    ReturnsInHanded {} Tryd.checked os 7 .any (fun w args => (Rows.seqsetWalksSpec.pre enc Tryd.prog Tryd.f7 Rows.seqsetWalksRow.domain false w args ∧ laidMetH Tryd.prog laidS w) ∧ sizedMet enc Tryd.prog Tryd.f7 (OpenSpec.ofChange Rows.seqsetWalksSpec) false w args)
      (Rows.seqsetWalksSpec.post enc Tryd.prog Tryd.f7 false true false false) := by
  refine returnsInHanded_of_change_and (C := Tryd.checked) (X := fun w _ => laidMetH Tryd.prog laidS w) (fun _ _ _ hh h => h.of_heap hh) own started (by kernel_rfl) Tryd.func7
    (ChangeSpec.witness_shaped (enc := enc) (C := Tryd.checked) (os := os) (X := fun w _ => laidMetH Tryd.prog laidS w) false (World.laidAll Tryd.prog os laidS) #[.slice none 0 0, .int .u16 0, .slice none 0 0] 8 (World.laidAll_os _ _ _)
      (World.shaped_of_ZipB (by kernel_rfl) (by kernel_rfl)) (by kernel_rfl) (by kernel_rfl) (by kernel_rfl)
      (by rw [MakeChecks.laidMetH_plain _ _ _ (by kernel_rfl)]; exact laidMet_laidAll _ (by kernel_rfl) (by kernel_rfl))) ?_
  intro W base args ds gs before hval0 hW hc hsz0 hL hq
  have hsz : (DataW.weightsEach Tryd.prog (Tryd.f7.params.toList ++ Rows.seqsetWalksSpec.plain.varTypes Tryd.prog) (ds ++ gs)).all (· ≤ reachBytes) = true := hsz0
  have hval : ∀ (j : Nat) t v, Tryd.f7.params[j]? = some t → args[j]? = some v → Value.okWide Tryd.prog W .any base t v := hval0
  have hW' := hW
  obtain ⟨p, q, hA0, hV, rfl, hfz, hnd⟩ := hW
  have hA : DataW.TrodAll enc Tryd.prog W 0 (fun _ => true) true Tryd.f7.params.toList args.toList ds p := hA0
  rw [Tryd.params7] at hA hval
  obtain ⟨v0, vs0, d0, ds0, p0, q0, hargs, rfl, rfl, h0, r0⟩ := trodAll_cons hA
  obtain ⟨v1, vs1, d1, ds1, p1, q1, rfl, rfl, rfl, h1, r1⟩ := trodAll_cons r0
  obtain ⟨v2, vs2, d2, ds2, p2, q2, rfl, rfl, rfl, h2, r2⟩ := trodAll_cons r1
  obtain ⟨rfl, rfl, rfl⟩ := trodAll_nil r2
  obtain rfl : args = #[v0, v1, v2] := by cases args; simp_all
  obtain ⟨rfl, rfl⟩ := trodVars_none hV
  obtain ⟨a0, len0, cap0, rfl⟩ := okWide_slice Tryd.underlying47 (hval 0 47 v0 rfl rfl)
  have lt0 : ∀ x ∈ p0, x.block < W.heap.size := by obtain ⟨m, hm⟩ := h0; exact DataW.trod_lt m _ _ _ hm
  obtain ⟨l0, hcap0, _, w0⟩ := open_recs RRng Tryd.underlying47 (by kernel_rfl : Tryd.prog.cellsOf 80 = 2) h0 openRng
  obtain ⟨a1, rfl, rfl, rfl, w1⟩ := open_int Tryd.underlying52 (hval 1 52 v1 rfl rfl) h1
  obtain ⟨a2, len2, cap2, rfl⟩ := okWide_slice Tryd.underlying53 (hval 2 53 v2 rfl rfl)
  have lt2 : ∀ x ∈ p2, x.block < W.heap.size := by obtain ⟨m, hm⟩ := h2; exact DataW.trod_lt m _ _ _ hm
  obtain ⟨l2, hcap2, _, w2⟩ := open_recs (RInt .u32) Tryd.underlying53 (by kernel_rfl : Tryd.prog.cellsOf 58 = 1) h2 (rint_open Tryd.underlying58)
  have hN := glob_laid hL
  have rg := u16_range w1
  have c0 := c_rng w0
  have c2 := c_u32 w2
  have u2 := u32_recs w2
  obtain ⟨e0, _, _⟩ := w0
  obtain ⟨e2, _, _⟩ := w2
  have f0 : (l0.map toRng).length = len0 := by simpa using e0
  subst e2
  clear hA0 hval0 hsz0 hsz
  rw [← f0] at c0
  have k := seqsetWalks_any W a0 cap0 (l0.map toRng) a1 a2 cap2 l2 c0 (by omega) rg.1 rg.2 c2 hcap2 u2 hN 20 (Nat.le_refl _)
  rw [f0] at k
  refine ((callsIn_wide (n := 20)).1 k).mono fun e W' ⟨he, bel⟩ => ?_
  subst he
  exact ⟨_, rfl, _, _, _, [], _, [], hW', trodAll_mk1 (shut_bool Tryd.underlying4 _), (trodAll_cons_mk (Below.trod laidOut (by kernel_rfl) (of_decide_eq_true (by kernel_rfl)) h0 bel lt0) (trodAll_cons_mk (shut_int Tryd.underlying52 w1) (trodAll_cons_mk (Below.trod laidOut (by kernel_rfl) (of_decide_eq_true (by kernel_rfl)) h2 bel lt2) trodAll_mk0))), rfl, bel.frame _, fun h => by cases h⟩
theorem holds : Rows.SeqsetWalksSaid :=
  OpenClaim.holds_of_wide 7 Tryd.f7 rfl rfl rfl rfl rfl rfl rfl ⟨rfl, rfl, rfl, rfl, rfl⟩ rfl rfl rfl rfl rfl (by kernel_rfl) Tryd.func7 (by kernel_rfl)
    (of_decide_eq_true (by kernel_rfl)) (by unfold Func.isWrapper; first | (rw [if_pos (by decide +kernel)]; kernel_rfl) | (rw [if_neg (by decide +kernel)]; exact ⟨rfl, rfl⟩))
    (fun os started H enc _ => lifted os started H enc)
theorem card_holds : Rows.SeqsetWalksCardSaid :=
  Claim7.holds_tied_plain_at .later [] [.data, .data, .data, .data, .sentinel, .sentinel, .pinned] true (true, "a05e9ec925f6a43409b70bf8f0e6ae7d1c44d97a77606053f5dea31443dda426") true holds (fun _ h => by cases h) (by kernel_rfl) (fun _ h => by cases h) seqsetWalks_row_tie rfl ⟨rfl, rfl⟩ (by kernel_rfl) rfl
    (fun f fn hf hfn => by
      obtain rfl : f = 7 := Option.some.inj ((show Tryd.prog.funcNamed "postchaise/postchaiselaw02.SeqsetWalks" = some 7 by kernel_rfl).symm.trans hf) |>.symm
      obtain rfl : fn = Tryd.f7 := (Option.some.inj (Tryd.func7.symm.trans hfn)).symm
      exact ⟨by kernel_rfl, fun j t ht => by
        rw [Tryd.params7] at ht
        have hm : t ∈ [47, 52, 53] := by simpa using Array.mem_of_getElem? ht
        have hall : ([47, 52, 53].all fun u => !Tryd.prog.wantsStandIn u) = true := by kernel_rfl
        exact (show Tryd.prog.wantsStandIn t = false by simpa using List.all_eq_true.1 hall t hm)⟩)
    (by kernel_rfl)
end seqsetWalks
/-- The card, under a short name, for the claim. -/
theorem seqsetWalks_holds : Rows.SeqsetWalksCardSaid := seqsetWalks.card_holds
#print axioms seqsetWalks_holds
end Go.Proofs.YtahbnpkhkhdmaaaDoor
