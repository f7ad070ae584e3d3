/- What package variables hold; strconv.FormatUint at base 10. No condition but those that each contract bears. -/
import Derived.Test.YtphaemaccdddfaaDoorTouch
import Derived.Test.YtphaemaccdddfaaDoorFlShelf
import Derived.Test.YtphaemaccdddfaaDoorRows
import Derived.Shelf.LaysM
import Derived.Shelf.Strconv.Itoa1
import Derived.Shelf.Strconv.Itoa2
import Derived.Shelf.Unicode.PredsPay
import Derived.Lib.AppendIntMem
import Derived.Lib.Walk
import Derived.Lib.ItoaMem
import Derived.Lib.AtoiErrMem
import Derived.Lib.IndexLaws
import Derived.WalkKit
import Derived.BigCall
import Derived.BigGuard
import Derived.OwnWalk
set_option linter.unusedVariables false
set_option linter.unusedSimpArgs false
namespace Go.Proofs.YtphaemaccdddfaaDoor
open Go.RowKit Go.Shelf Go.Sort Go.Lib
/-- What the package variables that strconv reads hold. -/
structure GlobOk (w : World) : Prop where
  tab : Lib.TabIs Tryd.prog w "internal/strconv.uint64pow10" .u64 Lib.pow10Tab
  errS : ∃ tp p, w.var? Tryd.prog "strconv.ErrSyntax" = some #[.iface tp p]
  errR : ∃ tp p, w.var? Tryd.prog "strconv.ErrRange" = some #[.iface tp p]
theorem var_below {P : Program} {n : String} {g : Nat} {cs : Array Value} {w w' : World} (hg : P.globalNamed n = some g) (h : w.var? P n = some cs) (hb : Below w.heap.size w w') : w'.var? P n = some cs := by
  unfold World.var? at h ⊢
  rw [hg] at h ⊢
  simp only [Option.bind_some] at h ⊢
  have hlt : g < w.heap.size := by
    cases e : w.heap[g]? with
    | none => rw [e] at h; cases h
    | some o => exact (Array.getElem?_eq_some_iff.1 e).1
  rw [hb.block g hlt]
  exact h
theorem g_tab : Tryd.prog.globalNamed "internal/strconv.uint64pow10" = some 2 := by kernel_rfl
theorem g_errS : Tryd.prog.globalNamed "strconv.ErrSyntax" = some 0 := by kernel_rfl
theorem g_errR : Tryd.prog.globalNamed "strconv.ErrRange" = some 1 := by kernel_rfl
theorem GlobOk.on {w w' : World} (h : GlobOk w) (hb : Below w.heap.size w w') : GlobOk w' :=
  ⟨var_below g_tab h.tab hb, by obtain ⟨tp, p, e⟩ := h.errS; exact ⟨tp, p, var_below g_errS e hb⟩, by obtain ⟨tp, p, e⟩ := h.errR; exact ⟨tp, p, var_below g_errR e hb⟩⟩
theorem below_grow (w : World) (k : Nat) (os : Array Obj) : Below w.heap.size w (grow (w.drewN k) os) :=
  ⟨rfl, rfl, rfl, by show w.heap.size ≤ (w.heap ++ os).size; rw [Array.size_append]; omega, fun g hg => Lib.heap_grow_old w k os g hg⟩
set_option maxHeartbeats 6400000 in
set_option maxRecDepth 100000 in
theorem formatUint_in (u : Nat) (hu64 : u < 18446744073709551616) (w : World) (htab : Lib.TabIs Tryd.prog w "internal/strconv.uint64pow10" .u64 Lib.pow10Tab) :
    Calls Tryd.prog 58 #[.int .u64 u, .int .i64 10] w fun e w' => e = .returned (.string ⟨(Lib.decDigits u).toArray⟩) ∧ Hd (Below w.heap.size w w') := by
  by_cases hs : u < 100
  · have h0 : (u : Int) < 100 := by omega
    go_enter Tryd.func58, Tryd.ntmps58
    go_wp2_with (go_at_call 74; refine (Tryd.internal_strconv_small u hs _).mono ?_; rintro e w' ⟨rfl, rfl⟩)
    go_ret
    exact ⟨rfl, ⟨Below.refl _ _⟩⟩
  · have h0 : ¬ (u : Int) < 100 := by omega
    have hu1 : 1 ≤ u := by omega
    have hnd20 : Lib.nDigits u ≤ 20 := by have := Lib.numDigits_eq u hu1 hu64; split at this <;> omega
    have hb3 : Lib.nDigits u ≤ 24 := by omega
    have hal : Tryd.prog.arrayLen 93 = 24 := by kernel_rfl
    have hel : (Tryd.prog.elem 93) = 5 := by kernel_rfl
    have hsl : ∀ W, (Instr.sliceAt 93 (.pointer (some ⟨w.heap.size, 0, none⟩)) none (some (.int .i64 (Lib.nDigits u : Int))) none).run Tryd.prog W = .ok (.slice (some ⟨w.heap.size, 0, none⟩) (Lib.nDigits u) 24) W := fun W => by
      rw [run_sliceAt_array_h W 93 ⟨w.heap.size, 0, none⟩ (by simp [Program.arrayLen, Program.elem, Tryd.underlying93]) .i64 (Lib.nDigits u : Int) (by omega) (by rw [hal]; omega)]
      go_simp
    have hH0 := Lib.holds_zero0 w 93 (Lib.nDigits u) (by omega)
    have hfmt := Tryd.internal_strconv_formatBase10 w.heap.size 0 24 u (Array.replicate (Lib.nDigits u) 0) (w.alloc (.cells Lib.zeros24 93)) hH0 (by rw [Array.size_replicate]; exact Lib.lt_pow_nDigits u) hu64 (by rw [Array.size_replicate]; omega)
    rw [Array.size_replicate] at hfmt
    have HH0 := Hd.mk hH0
    have HF := Hd.mk hfmt
    have HT := Hd.mk htab
    clear hH0 hal hfmt htab hel
    go_enter Tryd.func58, Tryd.ntmps58
    go_wp2_with (first
      | (go_at_call 75; refine (Tryd.internal_strconv_numDigits u hu1 hu64 _ (Lib.tabIs_alloc HT.out _)).mono ?_; rintro e w' ⟨rfl, rfl⟩)
      | (go_at_call 76; refine HF.out.mono ?_; rintro e w2 ⟨rfl, k, v', dk, rfl, hF⟩
         have hcv : (convert 39 9 (.slice (some ⟨w.heap.size, 0, none⟩) (Lib.nDigits u) 24)).run Tryd.prog ((putRow (fun (b : UInt8) => Value.int .u8 (b.toNat : Int)) (w.alloc (.cells Lib.zeros24 93)) w.heap.size 0 dk).drewN k) = .ok (.string ⟨(Lib.decDigits u).toArray⟩) ((putRow (fun (b : UInt8) => Value.int .u8 (b.toNat : Int)) (w.alloc (.cells Lib.zeros24 93)) w.heap.size 0 dk).drewN k) := by
           have h := run_convert_bytes_back (P := Tryd.prog) ((putRow (fun (b : UInt8) => Value.int .u8 (b.toNat : Int)) (w.alloc (.cells Lib.zeros24 93)) w.heap.size 0 dk).drewN k) 39 9 5 ⟨w.heap.size, 0, none⟩ 24 (Lib.decDigits u) Tryd.underlying39 Tryd.underlying5 Tryd.underlying9 (fun j hj => by
             rw [Lib.row_is_numeral hF j hj, Lib.add_plain, World.cell?_drewN]
             exact cell?_putRow (fun (b : UInt8) => Value.int .u8 (b.toNat : Int)) _ w.heap.size 0 _ dk HH0.out (by rw [hF.size, Array.size_replicate]) j (by rw [hF.size]; rw [Lib.decDigits_length] at hj; exact hj))
           rw [Lib.decDigits_length] at h
           exact h))
    go_ret
    obtain ⟨os, eo⟩ := Lib.fin_at w (.cells Lib.zeros24 93) dk k 0
    refine ⟨rfl, ⟨?_⟩⟩
    rw [eo]
    exact below_grow w k os
theorem formatUint_any (u : Nat) (hu64 : u < 18446744073709551616) (w : World) (hG : GlobOk w) :
    Calls Tryd.prog 38 #[.int .u64 u, .int .i64 10] w fun e w' => e = .returned (.string ⟨(Lib.decDigits u).toArray⟩) ∧ Hd (Below w.heap.size w w') := by
  have H := Hd.mk (formatUint_in u hu64 w hG.tab)
  clear hG
  go_enter Tryd.func38, Tryd.ntmps38
  go_wp2_with (go_at_call 58; have hx := H.out; (with_reducible refine hx.mono ?_); clear hx; rintro e w1 ⟨rfl, B1⟩)
  go_ret
  exact ⟨rfl, B1⟩
end Go.Proofs.YtphaemaccdddfaaDoor
