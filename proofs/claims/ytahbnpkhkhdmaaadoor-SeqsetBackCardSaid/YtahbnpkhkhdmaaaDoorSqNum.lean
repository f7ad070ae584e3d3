/- What package variables hold; strings.Cut at one byte; strconv.FormatUint at base 10; an end's reading. No condition but those that each contract bears. -/
import Derived.Test.YtahbnpkhkhdmaaaDoorTouch
import Derived.Test.YtahbnpkhkhdmaaaDoorFlShelf
import Derived.Test.YtahbnpkhkhdmaaaDoorRows
import Derived.Shelf.LaysM
import Derived.Shelf.Strconv.Itoa1
import Derived.Shelf.Strconv.Itoa2
import Derived.Shelf.Unicode.PredsPay
import Derived.Lib.AppendIntMem
import Derived.Lib.Walk
import Derived.Lib.ItoaMem
import Derived.Lib.AtoiErrMem
import Derived.Lib.IndexLaws
import Derived.WalkKit
import Derived.BigCall
import Derived.BigGuard
import Derived.OwnWalk
set_option linter.unusedVariables false
set_option linter.unusedSimpArgs false
namespace Go.Proofs.YtahbnpkhkhdmaaaDoor
open Go.RowKit Go.Shelf Go.Sort Go.Lib
/-- What the package variables that strconv reads hold. -/
structure GlobOk (w : World) : Prop where
  tab : Lib.TabIs Tryd.prog w "internal/strconv.uint64pow10" .u64 Lib.pow10Tab
  errS : ∃ tp p, w.var? Tryd.prog "strconv.ErrSyntax" = some #[.iface tp p]
  errR : ∃ tp p, w.var? Tryd.prog "strconv.ErrRange" = some #[.iface tp p]
theorem var_below {P : Program} {n : String} {g : Nat} {cs : Array Value} {w w' : World} (hg : P.globalNamed n = some g) (h : w.var? P n = some cs) (hb : Below w.heap.size w w') : w'.var? P n = some cs := by
  unfold World.var? at h ⊢
  rw [hg] at h ⊢
  simp only [Option.bind_some] at h ⊢
  have hlt : g < w.heap.size := by
    cases e : w.heap[g]? with
    | none => rw [e] at h; cases h
    | some o => exact (Array.getElem?_eq_some_iff.1 e).1
  rw [hb.block g hlt]
  exact h
theorem g_tab : Tryd.prog.globalNamed "internal/strconv.uint64pow10" = some 6 := by kernel_rfl
theorem g_errS : Tryd.prog.globalNamed "strconv.ErrSyntax" = some 4 := by kernel_rfl
theorem g_errR : Tryd.prog.globalNamed "strconv.ErrRange" = some 5 := by kernel_rfl
theorem GlobOk.on {w w' : World} (h : GlobOk w) (hb : Below w.heap.size w w') : GlobOk w' :=
  ⟨var_below g_tab h.tab hb, by obtain ⟨tp, p, e⟩ := h.errS; exact ⟨tp, p, var_below g_errS e hb⟩, by obtain ⟨tp, p, e⟩ := h.errR; exact ⟨tp, p, var_below g_errR e hb⟩⟩
theorem below_grow (w : World) (k : Nat) (os : Array Obj) : Below w.heap.size w (grow (w.drewN k) os) :=
  ⟨rfl, rfl, rfl, by show w.heap.size ≤ (w.heap ++ os).size; rw [Array.size_append]; omega, fun g hg => Lib.heap_grow_old w k os g hg⟩
set_option maxHeartbeats 6400000 in
set_option maxRecDepth 100000 in
theorem formatUint_in (u : Nat) (hu64 : u < 18446744073709551616) (w : World) (htab : Lib.TabIs Tryd.prog w "internal/strconv.uint64pow10" .u64 Lib.pow10Tab) :
    Calls Tryd.prog 72 #[.int .u64 u, .int .i64 10] w fun e w' => e = .returned (.string ⟨(Lib.decDigits u).toArray⟩) ∧ Hd (Below w.heap.size w w') := by
  by_cases hs : u < 100
  · have h0 : (u : Int) < 100 := by omega
    go_enter Tryd.func72, Tryd.ntmps72
    go_wp2_with (go_at_call 86; refine (Tryd.internal_strconv_small u hs _).mono ?_; rintro e w' ⟨rfl, rfl⟩)
    go_ret
    exact ⟨rfl, ⟨Below.refl _ _⟩⟩
  · have h0 : ¬ (u : Int) < 100 := by omega
    have hu1 : 1 ≤ u := by omega
    have hnd20 : Lib.nDigits u ≤ 20 := by have := Lib.numDigits_eq u hu1 hu64; split at this <;> omega
    have hb3 : Lib.nDigits u ≤ 24 := by omega
    have hal : Tryd.prog.arrayLen 122 = 24 := by kernel_rfl
    have hel : (Tryd.prog.elem 122) = 5 := by kernel_rfl
    have hsl : ∀ W, (Instr.sliceAt 122 (.pointer (some ⟨w.heap.size, 0, none⟩)) none (some (.int .i64 (Lib.nDigits u : Int))) none).run Tryd.prog W = .ok (.slice (some ⟨w.heap.size, 0, none⟩) (Lib.nDigits u) 24) W := fun W => by
      rw [run_sliceAt_array_h W 122 ⟨w.heap.size, 0, none⟩ (by simp [Program.arrayLen, Program.elem, Tryd.underlying122]) .i64 (Lib.nDigits u : Int) (by omega) (by rw [hal]; omega)]
      go_simp
    have hH0 := Lib.holds_zero0 w 122 (Lib.nDigits u) (by omega)
    have hfmt := Tryd.internal_strconv_formatBase10 w.heap.size 0 24 u (Array.replicate (Lib.nDigits u) 0) (w.alloc (.cells Lib.zeros24 122)) hH0 (by rw [Array.size_replicate]; exact Lib.lt_pow_nDigits u) hu64 (by rw [Array.size_replicate]; omega)
    rw [Array.size_replicate] at hfmt
    have HH0 := Hd.mk hH0
    have HF := Hd.mk hfmt
    have HT := Hd.mk htab
    clear hH0 hal hfmt htab hel
    go_enter Tryd.func72, Tryd.ntmps72
    go_wp2_with (first
      | (go_at_call 87; refine (Tryd.internal_strconv_numDigits u hu1 hu64 _ (Lib.tabIs_alloc HT.out _)).mono ?_; rintro e w' ⟨rfl, rfl⟩)
      | (go_at_call 88; refine HF.out.mono ?_; rintro e w2 ⟨rfl, k, v', dk, rfl, hF⟩
         have hcv : (convert 87 9 (.slice (some ⟨w.heap.size, 0, none⟩) (Lib.nDigits u) 24)).run Tryd.prog ((putRow (fun (b : UInt8) => Value.int .u8 (b.toNat : Int)) (w.alloc (.cells Lib.zeros24 122)) w.heap.size 0 dk).drewN k) = .ok (.string ⟨(Lib.decDigits u).toArray⟩) ((putRow (fun (b : UInt8) => Value.int .u8 (b.toNat : Int)) (w.alloc (.cells Lib.zeros24 122)) w.heap.size 0 dk).drewN k) := by
           have h := run_convert_bytes_back (P := Tryd.prog) ((putRow (fun (b : UInt8) => Value.int .u8 (b.toNat : Int)) (w.alloc (.cells Lib.zeros24 122)) w.heap.size 0 dk).drewN k) 87 9 5 ⟨w.heap.size, 0, none⟩ 24 (Lib.decDigits u) Tryd.underlying87 Tryd.underlying5 Tryd.underlying9 (fun j hj => by
             rw [Lib.row_is_numeral hF j hj, Lib.add_plain, World.cell?_drewN]
             exact cell?_putRow (fun (b : UInt8) => Value.int .u8 (b.toNat : Int)) _ w.heap.size 0 _ dk HH0.out (by rw [hF.size, Array.size_replicate]) j (by rw [hF.size]; rw [Lib.decDigits_length] at hj; exact hj))
           rw [Lib.decDigits_length] at h
           exact h))
    go_ret
    obtain ⟨os, eo⟩ := Lib.fin_at w (.cells Lib.zeros24 122) dk k 0
    refine ⟨rfl, ⟨?_⟩⟩
    rw [eo]
    exact below_grow w k os
theorem formatUint_any (u : Nat) (hu64 : u < 18446744073709551616) (w : World) (hG : GlobOk w) :
    Calls Tryd.prog 59 #[.int .u64 u, .int .i64 10] w fun e w' => e = .returned (.string ⟨(Lib.decDigits u).toArray⟩) ∧ Hd (Below w.heap.size w w') := by
  have H := Hd.mk (formatUint_in u hu64 w hG.tab)
  clear hG
  go_enter Tryd.func59, Tryd.ntmps59
  go_wp2_with (go_at_call 72; have hx := H.out; (with_reducible refine hx.mono ?_); clear hx; rintro e w1 ⟨rfl, B1⟩)
  go_ret
  exact ⟨rfl, B1⟩
/-- A text cut at its first byte c. -/
def cutAt (c : UInt8) (s : ByteArray) : ByteArray × ByteArray × Bool :=
  if Lib.indexByte s.data.toList c = -1 then (s, ⟨#[]⟩, false) else (s.extract 0 (Lib.indexByte s.data.toList c).toNat, s.extract ((Lib.indexByte s.data.toList c).toNat + 1) s.size, true)
set_option maxHeartbeats 1000000 in
theorem cut_in (s : ByteArray) (c : UInt8) (w : World) (hs : s.size ≤ 140737488351232) :
    Calls Tryd.prog 57 #[.string s, .string ⟨#[c]⟩] w fun e w' => e = .returned (.tuple #[.string (cutAt c s).1, .string (cutAt c s).2.1, .bool (cutAt c s).2.2]) ∧ Hd (Below w.heap.size w w') := by
  have hge := Lib.indexByte_ge s.data.toList c
  have h1 : (⟨#[c]⟩ : ByteArray).size = 1 := rfl
  by_cases hi : Lib.indexByte s.data.toList c = -1
  · unfold cutAt
    rw [if_pos hi]
    dsimp only
    go_enter Tryd.func57, Tryd.ntmps57
    go_wp2_with (go_at_call 69; refine (Tryd.stringslite_Index_one s c _).mono ?_; rintro e w1 ⟨rfl, rfl⟩; rw [hi])
    go_ret3
    exact ⟨rfl, ⟨Below.refl _ _⟩⟩
  · obtain ⟨i, hii⟩ : ∃ i : Nat, Lib.indexByte s.data.toList c = i := ⟨(Lib.indexByte s.data.toList c).toNat, by omega⟩
    have hir : i < s.size := by
      have h2 := (Lib.indexByte_some hii).1
      have hl : s.data.toList.length = s.size := by simp
      have h3 := (List.getElem?_eq_some_iff.1 h2).1
      omega
    unfold cutAt
    rw [if_neg hi, hii]
    dsimp only
    have e0 : (i : Int).toNat = i := by omega
    rw [e0]
    have g0 : (0 : Int) ≤ i := by omega
    have g1 : (i : Int) + 1 ≤ s.size := by omega
    have g2 : (i : Int) ≤ s.size := by omega
    clear hge hi
    go_enter Tryd.func57, Tryd.ntmps57
    go_wp2_with (go_at_call 69; refine (Tryd.stringslite_Index_one s c _).mono ?_; rintro e w1 ⟨rfl, rfl⟩; rw [hii])
    go_region
    all_goals go_wp2
    all_goals go_ret3
    all_goals exact ⟨rfl, ⟨(Below.refl _ _).drew⟩⟩
theorem cut_any (s : ByteArray) (c : UInt8) (w : World) (hs : s.size ≤ 140737488351232) :
    Calls Tryd.prog 40 #[.string s, .string ⟨#[c]⟩] w fun e w' => e = .returned (.tuple #[.string (cutAt c s).1, .string (cutAt c s).2.1, .bool (cutAt c s).2.2]) ∧ Hd (Below w.heap.size w w') := by
  have H := Hd.mk (cut_in s c w hs)
  obtain ⟨⟨x, y, b⟩, hx⟩ : ∃ r, cutAt c s = r := ⟨_, rfl⟩
  rw [hx] at H ⊢
  dsimp only at H ⊢
  go_enter Tryd.func40, Tryd.ntmps40
  go_wp2_with (go_at_call 57; have hx := H.out; (with_reducible refine hx.mono ?_); clear hx; rintro e w1 ⟨rfl, B1⟩)
  go_ret3
  exact ⟨rfl, B1⟩
/-- An end: the number that a text spells, as it would be written; a star: 0. -/
def endOf (s : ByteArray) : Option Nat :=
  if s.data.toList = [42] then some 0 else match Lib.parseUintB 32 s.data.toList with
    | .ok u => if 0 < u ∧ Lib.decDigits u = s.data.toList then some u else none
    | _ => none
def EndPost (s : ByteArray) (w : World) (e : Ending) (w' : World) : Prop :=
  ∃ (n : Int) (b : Bool), e = .returned (.tuple #[.int .u32 n, .bool b]) ∧ Hd ((b = true ∧ ∃ u : Nat, endOf s = some u ∧ n = u) ∨ (b = false ∧ endOf s = none)) ∧ Hd (Below w.heap.size w w')
set_option maxHeartbeats 1000000 in
theorem end_any (s : ByteArray) (w : World) (hs : s.size ≤ 140737488351232) (hG : GlobOk w) : Calls Tryd.prog 41 #[.string s] w (EndPost s w) := by
  by_cases hst : s.data.toList = [42]
  · have h1 : (s.toList == [42]) = true := by rw [ByteArray.toList_eq, hst]; rfl
    have HE := Hd.mk (show endOf s = some 0 by unfold endOf; rw [if_pos hst])
    clear hG hst
    go_enter Tryd.func41, Tryd.ntmps41
    go_wp2_with fail
    go_ret2
    exact ⟨_, _, rfl, ⟨.inl ⟨rfl, 0, HE.out, rfl⟩⟩, ⟨Below.refl _ _⟩⟩
  · have h1 : (s.toList == [42]) = false := by rw [ByteArray.toList_eq]; exact beq_eq_false_iff_ne.2 hst
    have HST := Hd.mk hst
    have HG := Hd.mk hG
    clear hG hst
    cases hp : Lib.parseUintB 32 s.data.toList
    case ok u =>
      have hu : u < 4294967296 := by have := Lib.parseUintB_le hp; omega
      have hw : IntKind.u32.wrap (u : Int) = u := by rw [IntKind.wrap_u32]; omega
      have HU := Hd.mk (Tryd.strconv_ParseUint_10_at32_ok s (by omega) u hp w)
      have HF : Hd (∀ W : World, Below w.heap.size w W → Calls Tryd.prog 59 #[.int .u64 u, .int .i64 10] W fun e w' => e = .returned (.string ⟨(Lib.decDigits u).toArray⟩) ∧ Hd (Below W.heap.size W w')) := ⟨fun W hb => formatUint_any u (by omega) W (HG.out.on hb)⟩
      have HE := Hd.mk (show endOf s = if 0 < u ∧ Lib.decDigits u = s.data.toList then some u else none by unfold endOf; rw [if_neg HST.out, hp])
      clear hp
      by_cases h0 : (0 : Int) < u
      · obtain ⟨b, hb⟩ : ∃ b, ((⟨(Lib.decDigits u).toArray⟩ : ByteArray).toList == s.toList) = b := ⟨_, rfl⟩
        have HB := Hd.mk hb
        obtain ⟨d, hd⟩ : ∃ d : ByteArray, ⟨(Lib.decDigits u).toArray⟩ = d := ⟨_, rfl⟩
        have HD := Hd.mk hd
        rw [hd] at hb HF
        clear hd
        go_enter Tryd.func41, Tryd.ntmps41
        go_wp2_with (first
          | (go_at_call 58; have hx := HU.out; (with_reducible refine hx.mono ?_); clear hx; rintro e w1 ⟨rfl, h1⟩; have B1 : Hd (Below w.heap.size w w1) := ⟨by rcases h1 with rfl | rfl; exact Below.refl _ _; exact Lib.bytesWorld_below _ _ _⟩; clear h1)
          | (go_at_call 59; have hx := HF.out w1 B1.out; (with_reducible refine hx.mono ?_); clear hx; rintro e w2 ⟨rfl, B2⟩))
        go_ret2
        refine ⟨u, b, rfl, ⟨?_⟩, ⟨B1.out.trans (B2.out.mono B1.out.size)⟩⟩
        have hb := HB.out
        have hd : ((Lib.decDigits u) == s.data.toList) = b := by rw [← hb, ByteArray.toList_eq, ByteArray.toList_eq]
        cases b with
        | true => exact .inl ⟨rfl, u, by rw [HE.out, if_pos ⟨by omega, eq_of_beq hd⟩], rfl⟩
        | false => exact .inr ⟨rfl, by rw [HE.out, if_neg fun h => (beq_eq_false_iff_ne.1 hd) h.2]⟩
      · go_enter Tryd.func41, Tryd.ntmps41
        go_wp2_with (first
          | (go_at_call 58; have hx := HU.out; (with_reducible refine hx.mono ?_); clear hx; rintro e w1 ⟨rfl, h1⟩; have B1 : Hd (Below w.heap.size w w1) := ⟨by rcases h1 with rfl | rfl; exact Below.refl _ _; exact Lib.bytesWorld_below _ _ _⟩; clear h1))
        go_ret2
        exact ⟨u, false, rfl, ⟨.inr ⟨rfl, by rw [HE.out, if_neg fun h => absurd h.1 (by omega)]⟩⟩, B1⟩
    case range =>
      obtain ⟨tp, p, hv⟩ := HG.out.errR
      have HU := Hd.mk (Tryd.strconv_ParseUint_10_at32_range_var s (by omega) hp tp p w hv)
      have HE := Hd.mk (show endOf s = none by unfold endOf; rw [if_neg HST.out, hp])
      clear hp hv
      go_enter Tryd.func41, Tryd.ntmps41
      go_wp2_with (first
        | (go_at_call 58; have hx := HU.out; (with_reducible refine hx.mono ?_); clear hx; rintro e w1 ⟨nb, rfl, -, -, h3⟩; have B1 := Hd.mk h3; clear h3))
      go_ret2
      exact ⟨4294967295, false, rfl, ⟨.inr ⟨rfl, HE.out⟩⟩, B1⟩
    case _ =>
      obtain ⟨tp, p, hv⟩ := HG.out.errS
      have HU : Hd (Calls Tryd.prog 58 #[.string s, .int .i64 10, .int .i64 32] w fun e w' => ∃ nb, e = .returned (.tuple #[.int .u64 0, .iface 118 (.pointer (some ⟨nb, 0, none⟩))]) ∧ True ∧ True ∧ Below w.heap.size w w') := ⟨(Any.strconv_ParseUint_10_at32_syntax_var Tryd.laysPu14 s (by omega) hp tp p w hv).mono fun _ _ ⟨nb, h1, _, _, h4⟩ => ⟨nb, h1, trivial, trivial, h4⟩⟩
      have HE := Hd.mk (show endOf s = none by unfold endOf; rw [if_neg HST.out, hp])
      clear hp hv
      go_enter Tryd.func41, Tryd.ntmps41
      go_wp2_with (first
        | (go_at_call 58; have hx := HU.out; (with_reducible refine hx.mono ?_); clear hx; rintro e w1 ⟨nb, rfl, -, -, h3⟩; have B1 := Hd.mk h3; clear h3))
      go_ret2
      exact ⟨0, false, rfl, ⟨.inr ⟨rfl, HE.out⟩⟩, B1⟩
end Go.Proofs.YtahbnpkhkhdmaaaDoor
