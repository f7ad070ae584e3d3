/- Package epoch: Limbo: Len, Add, Ready. No condition but those that each contract bears. -/
import Derived.Test.YtkjppffkjofamaaEpochMoved
import Derived.Deep.AppendLies
set_option linter.unusedVariables false
set_option linter.unusedSimpArgs false
namespace Go.Proofs.Ytkjppffkjofamaa
open Go.RowKit Go.Shelf
def kcs (ks : List (Int × Int)) : List Value := ks.flatMap fun p => [.int .u64 p.1, .int .i64 p.2]
theorem kcs_snoc (ks : List (Int × Int)) (p : Int × Int) : kcs (ks ++ [p]) = kcs ks ++ [.int .u64 p.1, .int .i64 p.2] := by simp [kcs]
theorem info_kept : (Try.prog.info? 76).map (fun i => (i.zero, i.size, i.bytes)) = some (some (.agg #[.int .u64 0, .int .i64 0]), 2, 16) := by kernel_rfl
theorem info_int6 : (Try.prog.info? 3).map (fun i => (i.zero, i.size, i.bytes)) = some (some (.int .i64 0), 1, 8) := by kernel_rfl
/-- A Limbo in block lb, what it keeps in a row of its own. -/
structure LimboAt (W : World) (lb base : Nat) (ks : List (Int × Int)) (row : Option Nat) : Prop where
  v : ∃ v, W.heap[lb]? = some (.cells #[v] 25 (0, 0)) ∧ W.ownsRow base 76 2 v ks.length (kcs ks) ∧ v.ownBlock = row
  far : row ≠ some lb
theorem LimboAt.lt {W : World} {lb base : Nat} {ks : List (Int × Int)} {row : Option Nat} (h : LimboAt W lb base ks row) : lb < W.heap.size := by
  obtain ⟨v, hv, _⟩ := h.v
  exact (Array.getElem?_eq_some_iff.1 hv).1
theorem ownsRow_of_block {w w1 : World} {base : Nat} {e : TypeId} {size n : Nat} {v : Value} {xs : List Value} (h : w.ownsRow base e size v n xs) (hb : ∀ k, v.ownBlock = some k → w1.heap[k]? = w.heap[k]?) : w1.ownsRow base e size v n xs := by
  refine ⟨h.1, ?_⟩
  rcases h.2 with h2 | ⟨g, cap, cur, hv, h3, h4, h5⟩
  · exact .inl h2
  · subst hv
    exact .inr ⟨g, cap, cur, rfl, h3, (hb g rfl).trans h4, h5⟩
theorem ownsRow_up {w : World} {base base' : Nat} {e : TypeId} {size n : Nat} {v : Value} {xs : List Value} (h : w.ownsRow base e size v n xs) (hb : ∀ k, v.ownBlock = some k → base' ≤ k) : w.ownsRow base' e size v n xs := by
  refine ⟨h.1, ?_⟩
  rcases h.2 with h2 | ⟨g, cap, cur, hv, h3, h4, h5⟩
  · exact .inl h2
  · subst hv
    exact .inr ⟨g, cap, cur, rfl, hb g rfl, h4, h5⟩
theorem LimboAt.of_blocks {W W' : World} {lb base : Nat} {ks : List (Int × Int)} {row : Option Nat} (h : LimboAt W lb base ks row) (h1 : W'.heap[lb]? = W.heap[lb]?) (h2 : ∀ k, row = some k → W'.heap[k]? = W.heap[k]?) : LimboAt W' lb base ks row := by
  obtain ⟨v, hv, ho, hr⟩ := h.v
  exact ⟨⟨v, h1.trans hv, ownsRow_of_block ho (fun k hk => h2 k (hr ▸ hk)), hr⟩, h.far⟩
theorem ownsRow_slice {w : World} {base : Nat} {e : TypeId} {size n : Nat} {v : Value} {xs : List Value} (h : w.ownsRow base e size v n xs) : ∃ A c, v = .slice A n c := by
  rcases h.2 with ⟨h2, h3⟩ | ⟨g, cap, cur, hv, _⟩
  · subst h3; exact ⟨_, _, h2⟩
  · exact ⟨_, _, hv⟩
theorem limbo_len {W : World} {lb base : Nat} {ks : List (Int × Int)} {row : Option Nat} (h : LimboAt W lb base ks row) : Calls Try.prog 9 #[.pointer (some ⟨lb, 0, none⟩)] W fun e w' => e = .returned (.int .i64 (ks.length : Nat)) ∧ W = w' := by
  obtain ⟨v, hv, ho, hr⟩ := h.v
  obtain ⟨A, c, rfl⟩ := ownsRow_slice ho
  have c0 := blk_cell hv (i := 0) rfl
  clear h hv ho hr
  go_enter Try.func9, Try.ntmps9
  go_wp2
  go_ret
  exact ⟨rfl, rfl⟩
/-- What is kept behind k of the slots. -/
def addTo (ks : List (Int × Int)) (ep : Int) (zs : List Int) : Nat → List (Int × Int)
  | 0 => ks
  | k + 1 => addTo ks ep zs k ++ [(ep, nth zs k)]
theorem addTo_length (ks : List (Int × Int)) (ep : Int) (zs : List Int) : ∀ k, (addTo ks ep zs k).length = ks.length + k
  | 0 => rfl
  | k + 1 => by unfold addTo; rw [List.length_append, addTo_length ks ep zs k]; rfl
def IntsAt (A : Option Addr) (zs : List Int) (W : World) : Prop := ∀ j, j < zs.length → ∃ ba oa, A = some ⟨ba, oa, none⟩ ∧ W.cell? ⟨ba, oa + j, none⟩ = some (.int .i64 (nth zs j))
/-- The row is what it was, or was laid since. -/
def RowNew (W : World) (row row' : Option Nat) : Prop := row' = row ∨ ∃ g, row' = some g ∧ W.heap.size ≤ g
theorem limbo_push {W w1 : World} {lb base g cap : Nat} {ks : List (Int × Int)} {row : Option Nat} {p : Int × Int} {o : Obj} {v : Value} (hlb : W.heap[lb]? = some (.cells #[v] 25 (0, 0))) (hrow : v.ownBlock = row) (hfar : row ≠ some lb)
    (hown : w1.ownsRow base 76 2 (.slice (some ⟨g, 0, none⟩) (ks.length + 1) cap) (ks.length + 1) (kcs ks ++ [.int .u64 p.1, .int .i64 p.2])) (hgrow : World.grownBy (W.alloc o) w1 v.ownBlock) (hat : v.ownBlock = some g ∨ g = W.heap.size + 1) :
    (∃ row', LimboAt (w1.setCell ⟨lb, 0, none⟩ (.slice (some ⟨g, 0, none⟩) (ks.length + 1) cap)) lb base (ks ++ [p]) row' ∧ RowNew W row row') ∧ Touch (fun k => k = lb ∨ some k = row) W (w1.setCell ⟨lb, 0, none⟩ (.slice (some ⟨g, 0, none⟩) (ks.length + 1) cap)) := by
  subst hrow
  have llb := (Array.getElem?_eq_some_iff.1 hlb).1
  have hgl : g ≠ lb := by
    rintro rfl
    rcases hat with e | e
    · exact hfar e
    · omega
  have t1 : Touch (fun k => k = lb ∨ some k = v.ownBlock) W w1 := ((Touch.refl _ W).alloc o).trans ⟨hgrow.os, hgrow.tape, hgrow.output, hgrow.size, fun k hk hs => hgrow.block k hk (fun e => hs (.inr e))⟩
  refine ⟨⟨some g, ⟨⟨.slice (some ⟨g, 0, none⟩) (ks.length + 1) cap, ?_, ?_, rfl⟩, fun e => hgl (by cases e; rfl)⟩, ?_⟩, t1.setCell (p := ⟨lb, 0, none⟩) (.inl (.inl rfl)) _⟩
  · have h1 : w1.heap[lb]? = some (.cells #[v] 25 (0, 0)) := (hgrow.block lb (by simp; omega) (fun e => hfar e.symm)).trans ((Below.heap_alloc W o lb llb).trans hlb)
    simp [World.setCell, Array.getElem?_modify, h1]
  · rw [kcs_snoc]
    have := ownsRow_of_block (w1 := w1.setCell ⟨lb, 0, none⟩ (.slice (some ⟨g, 0, none⟩) (ks.length + 1) cap)) hown (fun k hk => Below.heap_setCell _ _ _ _ (by cases hk; exact hgl))
    simpa using this
  · rcases hat with e | e
    · exact .inl e.symm
    · exact .inr ⟨g, rfl, by omega⟩
/-- What Add leaves. -/
def AddPost (W : World) (lb base : Nat) (row : Option Nat) (ks : List (Int × Int)) (w' : World) : Prop := (∃ row', LimboAt w' lb base ks row' ∧ RowNew W row row') ∧ Touch (fun k => k = lb ∨ some k = row) W w'
theorem AddPost.push {W wr w1 : World} {lb base g cap : Nat} {ks : List (Int × Int)} {row row1 : Option Nat} {p : Int × Int} {o : Obj} {v : Value} (hl : wr.heap[lb]? = some (.cells #[v] 25 (0, 0))) (hv : v.ownBlock = row1) (hfar : row1 ≠ some lb) (hn : RowNew W row row1) (ht : Touch (fun k => k = lb ∨ some k = row) W wr)
    (hown : w1.ownsRow base 76 2 (.slice (some ⟨g, 0, none⟩) (ks.length + 1) cap) (ks.length + 1) (kcs ks ++ [.int .u64 p.1, .int .i64 p.2])) (hgrow : World.grownBy (wr.alloc o) w1 v.ownBlock) (hat : v.ownBlock = some g ∨ g = wr.heap.size + 1) :
    AddPost W lb base row (ks ++ [p]) (w1.setCell ⟨lb, 0, none⟩ (.slice (some ⟨g, 0, none⟩) (ks.length + 1) cap)) := by
  obtain ⟨⟨row2, h1, h2⟩, h3⟩ := limbo_push hl hv hfar hown hgrow hat
  have hsz := ht.size
  refine ⟨⟨row2, h1, ?_⟩, ht.step h3 (fun k hk e => ?_)⟩
  · rcases h2 with h2 | ⟨g2, h2, h4⟩
    · rw [h2]; exact hn
    · exact .inr ⟨g2, h2, by omega⟩
  · rcases e with e | e
    · exact .inl e
    · rcases hn with hn | ⟨g2, hn, h4⟩
      · exact .inr (e.trans hn)
      · rw [hn] at e; cases e; omega
set_option maxRecDepth 100000 in
set_option maxHeartbeats 2000000 in
theorem limbo_add {W : World} {lb base : Nat} {ks : List (Int × Int)} {row : Option Nat} (h : LimboAt W lb base ks row) (hb : base ≤ W.heap.size) (ep : Int) (A : Option Addr) (cap : Nat) (zs : List Int) (hA : IntsAt A zs W) (hf : ∀ ba oa, A = some ⟨ba, oa, none⟩ → 0 < zs.length → ba < W.heap.size ∧ ba ≠ lb ∧ row ≠ some ba) (hks : ks.length + zs.length ≤ 100000) :
    Calls Try.prog 8 #[.pointer (some ⟨lb, 0, none⟩), .int .u64 ep, .slice A zs.length cap] W fun e w' => e = .returned (.tuple #[]) ∧ AddPost W lb base row (addTo ks ep zs zs.length) w' := by
  obtain ⟨i0, hi, hz0, hz1, hz2⟩ := info_parts info_kept
  have HA : Hd _ := ⟨hA⟩
  have HF : Hd _ := ⟨hf⟩
  have HL : Hd _ := ⟨h⟩
  clear hA hf h
  go_enter Try.func8, Try.ntmps8
  go_wp2
  go_loopw [10] (fun i wr => ∃ k : Nat, k ≤ zs.length ∧ i = .int .i64 k ∧ Hd (AddPost W lb base row (addTo ks ep zs k) wr)) (fun i _ => zs.length - (intOf i).toNat)
  case atStart => exact ⟨0, Nat.zero_le _, rfl, ⟨⟨row, HL.out, .inl rfl⟩, Touch.refl _ _⟩⟩
  case round =>
    obtain ⟨k, hk, rfl, HP⟩ := hrel
    by_cases hlt : k < zs.length
    · obtain ⟨⟨row1, hL, hR⟩, hT⟩ := HP.out
      obtain ⟨v, hv, ho, hr⟩ := hL.v
      obtain ⟨ba, oa, rfl, hcell⟩ := HA.out k hlt
      obtain ⟨f1, f2, f3⟩ := HF.out ba oa rfl (by omega)
      have hcell2 : wr.cell? ⟨ba, oa + k, none⟩ = some (.int .i64 (nth zs k)) := (hT.cell (p := ⟨ba, oa + k, none⟩) f1 (fun e => e.elim f2 (fun e => f3 e.symm))).trans hcell
      have c0 := blk_cell hv (i := 0) rfl
      have hlo : (0 : Int) ≤ (k : Int) := by omega
      have hhi : (k : Int) < (zs.length : Int) := by omega
      have hsz := hT.size
      have hlen := addTo_length ks ep zs k
      rw [hlen] at ho
      have HO := fun o => (Hd.mk (ownsRow_of_block (w1 := wr.alloc o) ho (fun j hj => Below.heap_alloc wr o j (by
        rcases ho.2 with ⟨e, _⟩ | ⟨g, _, cur, e, _, hg, _⟩
        · subst e; cases hj
        · subst e; cases hj; exact (Array.getElem?_eq_some_iff.1 hg).1))) : Hd _)
      have HV : Hd _ := ⟨hv⟩
      have HRw : Hd _ := ⟨hr⟩
      have HFar : Hd _ := ⟨hL.far⟩
      have HN : Hd _ := ⟨hR⟩
      have HT : Hd _ := ⟨hT⟩
      have llb : Hd _ := ⟨hL.lt⟩
      have hne : Hd (some lb ≠ v.ownBlock) := ⟨fun e => hL.far (hr ▸ e.symm)⟩
      have fz := blk_free hv 0
      have C0 := fun o => (Hd.mk ((World.cell?_of_block (w := wr) (a := ⟨lb, 0, none⟩) (Below.heap_alloc wr o lb hL.lt)).trans c0) : Hd _)
      have C1 := fun o => (Hd.mk ((World.frozen?_of_block (w := wr) (a := ⟨lb, 0, none⟩) (Below.heap_alloc wr o lb hL.lt)).trans fz) : Hd _)
      clear hL hR hT hv ho hr hcell hlen
      go_wp2_with (first
        | (at_builtin; refine wpList_append_lies _ rfl _ _ 23 rfl base 76 i0 (.agg #[.int .u64 0, .int .i64 0]) 2 16 Try.underlying23 hi hz0 hz1 hz2 rfl (by decide) v (ks.length + k) (kcs (addTo ks ep zs k)) rfl (HO _).out ⟨wr.heap.size, 0, none⟩ 1 1 [.int .u64 ep, .int .i64 (nth zs k)] rfl rfl (World.news_of_block (cs := #[.int .u64 ep, .int .i64 (nth zs k)]) (t := 76) (fr := (0, 0)) (heap_alloc_new wr _)) (by simp [Value.oneCell']) (by omega) (by unfold maxLen; omega) (by omega) (by simp; omega) (wr.heap.size + 1) (by simp) ?_; intro g cap1 w1 hown hgrow hat hlt1;
           have m0 := (hgrow.cell_far ⟨lb, 0, none⟩ (by simp; have := llb.out; omega) hne.out).trans (C0 _).out; have m1 := (hgrow.frozen_far ⟨lb, 0, none⟩ (by simp; have := llb.out; omega) hne.out).trans (C1 _).out; have HW : Hd _ := ⟨hown⟩; have HG : Hd _ := ⟨hgrow⟩; clear hown hgrow))
      have P := AddPost.push (ks := addTo ks ep zs k) (p := (ep, nth zs k)) HV.out HRw.out HFar.out HN.out HT.out (by rw [addTo_length]; exact HW.out) HG.out hat
      rw [addTo_length] at P
      have HPP : Hd _ := ⟨P⟩
      clear P
      go_roundw
      case rel => exact ⟨k + 1, by omega, by go_num, HPP⟩
      case measure => simp [intOf]; omega
    · obtain rfl : k = zs.length := by omega
      go_wp2
      go_end0
      exact ⟨rfl, HP.out⟩
end Go.Proofs.Ytkjppffkjofamaa
