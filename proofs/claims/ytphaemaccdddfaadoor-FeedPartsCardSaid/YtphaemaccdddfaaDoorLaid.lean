/- What the listed package variables read as. No condition but that they are laid. -/
import Derived.Test.YtphaemaccdddfaaDoorNum
import Derived.Test.YtphaemaccdddfaaDoorRows
import Derived.ProofKit
import Derived.OpenShut
import Derived.LaidMore
import Derived.LaidLaws
import Derived.Lay
import Derived.Lib.LaidTab
set_option linter.unusedVariables false
set_option linter.unusedSimpArgs false
namespace Go.Proofs.YtphaemaccdddfaaDoor
open Go.ChangeShapes Go.WideShapes Go.ChangeAt Go.RowKit
def laidL : List (String × DataW Unit) := [("math/bits.deBruijn32tab", Rows.laid_math_bits_deBruijn32tab), ("math/bits.deBruijn64tab", Rows.laid_math_bits_deBruijn64tab), ("internal/strconv.uint64pow10", Rows.laid_internal_strconv_uint64pow10), ("strconv.ErrRange", Rows.laid_strconv_ErrRange), ("strconv.ErrSyntax", Rows.laid_strconv_ErrSyntax)]
theorem own : ownKnob Tryd.prog.godebug = none := by kernel_rfl
theorem laidOut : laidOutB Tryd.prog = true := by kernel_rfl
theorem glob_laid {W : World} (h : laidMetH Tryd.prog laidL W) : GlobOk W := by
  rw [MakeChecks.laidMetH_plain _ _ _ (by kernel_rfl)] at h
  obtain ⟨ps, ⟨g0, t0, cs0, f0, p0, q0, hg0, ht0, hv0, hd0, ⟨g1, t1, cs1, f1, p1, q1, hg1, ht1, hv1, hd1, ⟨g2, t2, cs2, f2, p2, q2, hg2, ht2, hv2, hd2, ⟨g3, t3, cs3, f3, p3, q3, hg3, ht3, hv3, hd3, ⟨g4, t4, cs4, f4, p4, q4, hg4, ht4, hv4, hd4, _, _⟩, _⟩, _⟩, _⟩, _⟩, _, _⟩ := h
  refine ⟨?_, ?_, ?_⟩
  · obtain rfl := Option.some.inj (g_tab.symm.trans hg2)
    obtain rfl := Option.some.inj ((show (Tryd.prog.globals[2]?).map (·.type) = some 114 by kernel_rfl).symm.trans ht2)
    have hd : DataW.trod (fun _ => ()) Tryd.prog W 0 (fun _ => true) false f2 114 cs2.toList = some (Lib.tabData .u64 Lib.pow10Tab, p2) := hd2
    unfold Lib.TabIs
    rw [hv2, ← Lib.cells_of_tab Tryd.underlying114 Tryd.underlying57 (by kernel_rfl) (by kernel_rfl) hd]
  · obtain rfl := Option.some.inj (g_errS.symm.trans hg4)
    obtain rfl := Option.some.inj ((show (Tryd.prog.globals[0]?).map (·.type) = some 59 by kernel_rfl).symm.trans ht4)
    obtain ⟨_, u, v, hcs, _, _⟩ := iface_of_trod Tryd.underlying59 hd4
    exact ⟨u, v, by rw [hv4, Array.eq_one_of_toList hcs]⟩
  · obtain rfl := Option.some.inj (g_errR.symm.trans hg3)
    obtain rfl := Option.some.inj ((show (Tryd.prog.globals[1]?).map (·.type) = some 59 by kernel_rfl).symm.trans ht3)
    obtain ⟨_, u, v, hcs, _, _⟩ := iface_of_trod Tryd.underlying59 hd3
    exact ⟨u, v, by rw [hv3, Array.eq_one_of_toList hcs]⟩
end Go.Proofs.YtphaemaccdddfaaDoor
