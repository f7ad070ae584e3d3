/- Package flags: what the listed variables read as; the row of FlagsBack; its tied card. No condition. -/
import Derived.Test.YtahbnpkhkhdmaaaDoorFlBack
import Derived.Test.YtahbnpkhkhdmaaaDoorCards
import Derived.Test.YtahbnpkhkhdmaaaDoorTie
import Derived.ProofKit
import Derived.OpenShut
import Derived.LaidMore
import Derived.Lay
import Derived.SevenTiedAt
import Derived.Stop.Joined
import Derived.ShutString
set_option linter.unusedVariables false
set_option linter.unusedSimpArgs false
namespace Go.Proofs.YtahbnpkhkhdmaaaDoor
open Go.ChangeShapes Go.WideShapes Go.ChangeAt Go.RowKit
def laidF : List (String × DataW Unit) := [("unicode/utf8.acceptRanges", Rows.laid_unicode_utf8_acceptRanges), ("postchaise/flags.names", Rows.laid_postchaise_flags_names), ("unicode/utf8.first", Rows.laid_unicode_utf8_first)]
theorem own : ownKnob Tryd.prog.godebug = none := by kernel_rfl
theorem names_laid {W : World} (h : laidMetH Tryd.prog laidF W) : ∃ bn on cn, NamesAt W bn on cn := by
  rw [MakeChecks.laidMetH_plain _ _ _ (by kernel_rfl)] at h
  obtain ⟨ps, ⟨g0, t0, cs0, f0, p0, q0, hg0, ht0, hv0, hd0, ⟨g1, t1, cs1, f1, p1, q1, hg1, ht1, hv1, hd1, _⟩, _⟩, _, _⟩ := h
  obtain rfl := Option.some.inj ((show Tryd.prog.globalNamed "postchaise/flags.names" = some 0 by kernel_rfl).symm.trans hg1)
  obtain rfl := Option.some.inj ((show (Tryd.prog.globals[0]?).map (·.type) = some 34 by kernel_rfl).symm.trans ht1)
  have c9 : Tryd.prog.cellsOf 9 = 1 := by kernel_rfl
  rcases DataW.trod_slice Tryd.underlying34 hd1 with ⟨_, hx⟩ | ⟨a, len, cap, elems, rest, n, _, hcs, hx, _, hle, _, hlen, hel, _, _⟩
  · simp [Rows.laid_postchaise_flags_names] at hx
  have e1 : (elems.map (·.1)) = (List.range 5).map fun i => (.lit (.string (name5 i).data.toList) : DataW Unit) := by
    have e := (Prod.mk.inj hx).1
    unfold Rows.laid_postchaise_flags_names at e
    exact (DataW.slice.inj e).1.symm
  have hl5 : len = 5 := by
    have := congrArg List.length e1
    simpa [hlen] using this
  subst hl5
  have hw : W.cell? ⟨0, 0, none⟩ = some (.slice (some a) 5 cap) := by
    have := World.var?_cell hg1 hv1 0
    rw [Array.eq_one_of_toList hcs] at this
    simpa using this
  have hcell : ∀ i, i < 5 → W.cell? (a.add i) = some (.string (name5 i)) := by
    intro i hi
    have h1 := hel i hi
    rw [c9, Nat.mul_one] at h1
    have h2 : (elems.map (·.1))[i]? = some (.lit (.string (name5 i).data.toList)) := by rw [e1]; simp [hi]
    obtain ⟨y, hy, hy2⟩ := (List.getElem?_map ▸ h2 : (elems[i]?).map (·.1) = some (.lit (.string (name5 i).data.toList))) |> Option.map_eq_some_iff.1
    rw [hy] at h1
    obtain ⟨cs, hcs2, ht⟩ := Option.bind_eq_some_iff.1 h1
    obtain ⟨s, rfl, rfl, _⟩ := DataW.trod_string Tryd.underlying9 ht
    have hs : s = name5 i := bytes_inj (by simpa using hy2)
    rw [cell_of_cells?_one hcs2, hs]
  have h0 := hcell 0 (by omega)
  have ha : a.add 0 = a := by simp [Addr.add]
  rw [ha] at h0
  have hp := plain_of_cell h0
  refine ⟨a.block, a.off, cap, ?_, fun i hi => ?_⟩
  · rw [← hp]; exact hw
  · have := hcell i hi
    rw [hp, add_off] at this
    exact this
theorem u8_range {a : Int} (h : (Lit.int .u8 a).wf = true) : 0 ≤ a ∧ a < 256 := by
  have e : (Lit.int .u8 a).wf = (decide (IntKind.u8.min ≤ a) && decide (a ≤ IntKind.u8.max)) := rfl
  rw [e, Bool.and_eq_true, decide_eq_true_eq, decide_eq_true_eq] at h
  have h1 : IntKind.u8.min = 0 := rfl
  have h2 : IntKind.u8.max = 255 := rfl
  omega
namespace flagsBack
set_option maxRecDepth 100000 in
theorem lifted (os : Os) (started : os.Started) (H : Type) (enc : TypeId × Value → H) :
    ReturnsInHanded {} Tryd.checked os 5 .any (fun w args => (Rows.flagsBackSpec.pre enc Tryd.prog Tryd.f5 Rows.flagsBackRow.domain false w args ∧ laidMetH Tryd.prog laidF w) ∧ sizedMet enc Tryd.prog Tryd.f5 (OpenSpec.ofChange Rows.flagsBackSpec) false w args)
      (Rows.flagsBackSpec.post enc Tryd.prog Tryd.f5 false true false false) := by
  refine returnsInHanded_of_change_and (C := Tryd.checked) (X := fun w _ => laidMetH Tryd.prog laidF w) (fun _ _ _ hh h => h.of_heap hh) own started (by kernel_rfl) Tryd.func5
    (ChangeSpec.witness_shaped (enc := enc) (C := Tryd.checked) (os := os) (X := fun w _ => laidMetH Tryd.prog laidF w) false (World.laidAll Tryd.prog os laidF) #[.int .u8 0, .int .u8 0] 8 (World.laidAll_os _ _ _)
      (World.shaped_of_ZipB (by kernel_rfl) (by kernel_rfl)) (by kernel_rfl) (by kernel_rfl) (by kernel_rfl)
      (by rw [MakeChecks.laidMetH_plain _ _ _ (by kernel_rfl)]; exact laidMet_laidAll _ (by kernel_rfl) (by kernel_rfl))) ?_
  intro W base args ds gs before hval0 hW hc _ hL _
  have hval : ∀ (j : Nat) t v, Tryd.f5.params[j]? = some t → args[j]? = some v → Value.okWide Tryd.prog W .any base t v := hval0
  have hW' := hW
  obtain ⟨p, q, hA0, hV, rfl, hfz, hnd⟩ := hW
  have hA : DataW.TrodAll enc Tryd.prog W 0 (fun _ => true) true Tryd.f5.params.toList args.toList ds p := hA0
  rw [Tryd.params5] at hA hval
  obtain ⟨v0, vs0, d0, ds0, p0, q0, hargs, rfl, rfl, h0, r0⟩ := trodAll_cons hA
  obtain ⟨v1, vs1, d1, ds1, p1, q1, rfl, rfl, rfl, h1, r1⟩ := trodAll_cons r0
  obtain ⟨rfl, rfl, rfl⟩ := trodAll_nil r1
  obtain rfl : args = #[v0, v1] := by cases args; simp_all
  obtain ⟨rfl, rfl⟩ := trodVars_none hV
  obtain ⟨a0, rfl, rfl, rfl, w0⟩ := open_int Tryd.underlying5 (hval 0 5 v0 rfl rfl) h0
  obtain ⟨a1, rfl, rfl, rfl, w1⟩ := open_int Tryd.underlying5 (hval 1 5 v1 rfl rfl) h1
  obtain ⟨bn, on, cn, hN⟩ := names_laid hL
  have r0 := u8_range w0
  have r1 := u8_range w1
  clear hA0 hval0
  refine (flagsBack_any a0 a1 W r0.1 r0.2 r1.1 r1.2 hN).mono fun e W' ⟨he, bel⟩ => ?_
  subst he
  exact ⟨_, rfl, _, _, _, [], _, [], hW', trodAll_mk1 (shut_bool Tryd.underlying4 _), (trodAll_cons_mk (shut_int Tryd.underlying5 w0) (trodAll_cons_mk (shut_int Tryd.underlying5 w1) trodAll_mk0)), rfl, bel.frame _, fun h => by cases h⟩
theorem holds : Rows.FlagsBackSaid :=
  OpenClaim.holds_of_wide 5 Tryd.f5 rfl rfl rfl rfl rfl rfl rfl ⟨rfl, rfl, rfl, rfl, rfl⟩ rfl rfl rfl rfl rfl (by kernel_rfl) Tryd.func5 (by kernel_rfl)
    (of_decide_eq_true (by kernel_rfl)) (by unfold Func.isWrapper; first | (rw [if_pos (by decide +kernel)]; kernel_rfl) | (rw [if_neg (by decide +kernel)]; exact ⟨rfl, rfl⟩))
    (fun os started H enc _ => lifted os started H enc)
theorem card_holds : Rows.FlagsBackCardSaid :=
  Claim7.holds_tied_plain_at .later [] [.data, .data, .pinned] true (true, "a05e9ec925f6a43409b70bf8f0e6ae7d1c44d97a77606053f5dea31443dda426") true holds (fun _ h => by cases h) (by kernel_rfl) (fun _ h => by cases h) flagsBack_row_tie rfl ⟨rfl, rfl⟩ (by kernel_rfl) rfl
    (fun f fn hf hfn => by
      obtain rfl : f = 5 := Option.some.inj ((show Tryd.prog.funcNamed "postchaise/postchaiselaw01.FlagsBack" = some 5 by kernel_rfl).symm.trans hf) |>.symm
      obtain rfl : fn = Tryd.f5 := (Option.some.inj (Tryd.func5.symm.trans hfn)).symm
      exact ⟨by kernel_rfl, fun j t ht => by
        rw [Tryd.params5] at ht
        have hm : t ∈ [5, 5] := by simpa using Array.mem_of_getElem? ht
        have hall : ([5, 5].all fun u => !Tryd.prog.wantsStandIn u) = true := by kernel_rfl
        exact (show Tryd.prog.wantsStandIn t = false by simpa using List.all_eq_true.1 hall t hm)⟩)
    (by kernel_rfl)
end flagsBack
/-- The card, under a short name, for the claim. -/
theorem flagsBack_holds : Rows.FlagsBackCardSaid := flagsBack.card_holds
#print axioms flagsBack_holds
end Go.Proofs.YtahbnpkhkhdmaaaDoor
