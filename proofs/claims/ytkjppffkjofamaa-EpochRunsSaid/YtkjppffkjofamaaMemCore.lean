/- The contracts of package mem: New, Len, Load, Store, Cas. No condition but those that each contract bears. -/
import Derived.Test.YtkjppffkjofamaaRows
import Derived.Test.YtkjppffkjofamaaTouch
import Derived.WalkKit
import Derived.WalkSpells
import Derived.WalkLawsBesides
import Derived.RegionTactic
import Derived.ChangeAlike
import Derived.BigRegion
import Derived.Laws.Bits64b
import Derived.KernelRfl
import Derived.RowKit3
import Derived.Great.Ranges
set_option linter.unusedVariables false
set_option linter.unusedSimpArgs false
namespace Go.Proofs.Ytkjppffkjofamaa
open Go.RowKit
structure MemS where
  words : Nat → Int
  changed : Nat → Int
  n : Nat
  time : Int
structure MemAt (w : World) (b : Nat) (M : MemS) : Prop where
  words : ∀ i, i < 8192 → w.cell? ⟨b, i, none⟩ = some (.int .u64 (M.words i))
  changed : ∀ i, i < 8192 → w.cell? ⟨b, 8192 + i, none⟩ = some (.int .u64 (M.changed i))
  n : w.cell? ⟨b, 16384, none⟩ = some (.int .i64 M.n)
  time : w.cell? ⟨b, 16385, none⟩ = some (.int .u64 M.time)
  free : ∀ i, w.frozen? ⟨b, i, none⟩ = false
  nle : M.n ≤ 8192
def MemS.tick (M : MemS) : MemS := { M with time := IntKind.u64.wrap (M.time + 1) }
def MemS.put (M : MemS) (i : Nat) (v : Int) : MemS := { M with words := fun j => if j = i then v else M.words j, changed := fun j => if j = i then M.time else M.changed j }
theorem MemAt.of_cells {w w' : World} {b : Nat} {M : MemS} (h : MemAt w b M) (hb : w'.heap[b]? = w.heap[b]?) : MemAt w' b M :=
  ⟨fun i hi => (World.cell?_of_block (w := w) hb).trans (h.words i hi), fun i hi => (World.cell?_of_block (w := w) hb).trans (h.changed i hi), (World.cell?_of_block (w := w) hb).trans h.n,
   (World.cell?_of_block (w := w) hb).trans h.time, fun i => (World.frozen?_of_block (w := w) hb).trans (h.free i), h.nle⟩
theorem MemAt.lt {w : World} {b : Nat} {M : MemS} (h : MemAt w b M) : b < w.heap.size := lt_of_cell h.n
theorem MemAt.touch {w w' : World} {b : Nat} {M : MemS} {S : Nat → Prop} (h : MemAt w b M) (t : Touch S w w') (hs : ¬ S b) : MemAt w' b M := h.of_cells (t.block b h.lt hs)
theorem MemAt.ticked {w : World} {b : Nat} {M : MemS} (h : MemAt w b M) : MemAt (w.setCell ⟨b, 16385, none⟩ (.int .u64 (IntKind.u64.wrap (M.time + 1)))) b M.tick :=
  ⟨fun i hi => by rw [setCell_get _ _ _ _ _ _ h.time, if_neg (by omega)]; exact h.words i hi, fun i hi => by rw [setCell_get _ _ _ _ _ _ h.time, if_neg (by omega)]; exact h.changed i hi,
   by rw [setCell_get _ _ _ _ _ _ h.time, if_neg (by omega)]; exact h.n, by rw [setCell_get _ _ _ _ _ _ h.time, if_pos rfl]; rfl,
   fun i => by rw [World.frozen?_setCell]; exact h.free i, h.nle⟩
theorem MemAt.stored {w : World} {b i : Nat} {M : MemS} {v : Int} (h : MemAt w b M) (hi : i < 8192) :
    MemAt ((w.setCell ⟨b, i, none⟩ (.int .u64 v)).setCell ⟨b, 8192 + i, none⟩ (.int .u64 M.time)) b (M.put i v) := by
  have h1 := h.words i hi
  have h2 : (w.setCell ⟨b, i, none⟩ (.int .u64 v)).cell? ⟨b, 8192 + i, none⟩ = some (.int .u64 (M.changed i)) := by rw [setCell_get _ _ _ _ _ _ h1, if_neg (by omega)]; exact h.changed i hi
  refine ⟨fun j hj => ?_, fun j hj => ?_, ?_, ?_, fun j => ?_, h.nle⟩
  · rw [setCell_get _ _ _ _ _ _ h2, if_neg (by omega), setCell_get _ _ _ _ _ _ h1]
    by_cases e : i = j
    · subst e; simp [MemS.put]
    · rw [if_neg e, h.words j hj]; simp [MemS.put, Ne.symm e]
  · rw [setCell_get _ _ _ _ _ _ h2]
    by_cases e : i = j
    · subst e; simp [MemS.put]
    · rw [if_neg (by omega), setCell_get _ _ _ _ _ _ h1, if_neg (by omega), h.changed j hj]; simp [MemS.put, Ne.symm e]
  · rw [setCell_get _ _ _ _ _ _ h2, if_neg (by omega), setCell_get _ _ _ _ _ _ h1, if_neg (by omega)]; exact h.n
  · rw [setCell_get _ _ _ _ _ _ h2, if_neg (by omega), setCell_get _ _ _ _ _ _ h1, if_neg (by omega)]; exact h.time
  · rw [World.frozen?_setCell, World.frozen?_setCell]; exact h.free j
/-- What an access leaves: the memory M', nothing else turned, no block laid. -/
def MemPost (w : World) (b : Nat) (M' : MemS) (w' : World) : Prop := MemAt w' b M' ∧ Touch (· = b) w w' ∧ w'.heap.size = w.heap.size
theorem MemPost.same {w : World} {b : Nat} {M : MemS} (h : MemAt w b M) : MemPost w b M w := ⟨h, Touch.refl _ _, rfl⟩
theorem MemPost.tick {w : World} {b : Nat} {M : MemS} (h : MemAt w b M) : MemPost w b M.tick (w.setCell ⟨b, 16385, none⟩ (.int .u64 (IntKind.u64.wrap (M.time + 1)))) :=
  ⟨h.ticked, (Touch.refl (· = b) w).setCell (p := ⟨b, 16385, none⟩) (.inl rfl) _, by simp⟩
theorem MemPost.put {w : World} {b i : Nat} {M : MemS} {v : Int} (h : MemAt w b M) (hi : i < M.n) :
    MemPost w b (M.tick.put i v) (((w.setCell ⟨b, 16385, none⟩ (.int .u64 (IntKind.u64.wrap (M.time + 1)))).setCell ⟨b, i, none⟩ (.int .u64 v)).setCell ⟨b, 8192 + i, none⟩ (.int .u64 (IntKind.u64.wrap (M.time + 1)))).drew :=
  ⟨(h.ticked.stored (v := v) (by have := h.nle; omega)).of_cells rfl, ((((Touch.refl (· = b) w).setCell (p := ⟨b, 16385, none⟩) (.inl rfl) _).setCell (p := ⟨b, i, none⟩) (.inl rfl) _).setCell (p := ⟨b, 8192 + i, none⟩) (.inl rfl) _).drew, by simp⟩

set_option maxHeartbeats 400000 in
theorem has_no (M : MemS) (b : Nat) (i : Int) (w : World) (hm : MemAt w b M) (h : ¬ (0 ≤ i ∧ i < M.n)) :
    Calls Try.prog 49 #[.pointer (some ⟨b, 0, none⟩), .int .i64 i] w fun e w' => e = .returned (.bool false) ∧ w = w' := by
  have hn := hm.n
  go_enter Try.func49, Try.ntmps49
  go_wp2
  all_goals (go_ret; exact ⟨rfl, rfl⟩)
set_option maxHeartbeats 400000 in
theorem has_yes (M : MemS) (b : Nat) (i : Int) (w : World) (hm : MemAt w b M) (h0 : 0 ≤ i) (h1 : i < M.n) :
    Calls Try.prog 49 #[.pointer (some ⟨b, 0, none⟩), .int .i64 i] w fun e w' => e = .returned (.bool true) ∧ w' = w.setCell ⟨b, 16385, none⟩ (.int .u64 (IntKind.u64.wrap (M.time + 1))) := by
  have hn := hm.n
  have ht := hm.time
  have hf := hm.free 16385
  go_enter Try.func49, Try.ntmps49
  go_wp2
  go_ret
  exact ⟨rfl, rfl⟩
/-! ### Store -/
def MemS.store (M : MemS) (i : Int) (v : Int) : MemS := if 0 ≤ i ∧ i < M.n then M.tick.put i.toNat v else M
set_option maxHeartbeats 400000 in
theorem store_any (M : MemS) (b : Nat) (i v : Int) (w : World) (hm : MemAt w b M) :
    Calls Try.prog 34 #[.pointer (some ⟨b, 0, none⟩), .int .i64 i, .int .u64 v] w fun e w' => e = .returned (.tuple #[]) ∧ MemPost w b (M.store i v) w' := by
  by_cases h : 0 ≤ i ∧ i < M.n
  · obtain ⟨h0, h1⟩ := h
    have hst : M.store i v = M.tick.put i.toNat v := if_pos ⟨h0, h1⟩
    rw [hst]; clear hst
    obtain ⟨i, rfl⟩ := Int.eq_ofNat_of_zero_le h0
    have h1 : i < M.n := by omega
    have hle := hm.nle
    rw [Int.toNat_natCast]
    have ht := hm.ticked.time
    have hw := hm.ticked.words i (by omega)
    have hc := hm.ticked.changed i (by omega)
    have f1 := hm.free 16385
    have f2 := hm.free i
    have f3 := hm.free (8192 + i)
    have hp := MemPost.put (v := v) hm h1
    go_enter Try.func34, Try.ntmps34
    go_wp2_with (go_at_call 49; refine (has_yes M b _ _ hm (by omega) (by omega)).mono ?_; rintro e w' ⟨rfl, rfl⟩)
    go_region
    go_end0
    exact ⟨rfl, hp⟩
  · have hst : M.store i v = M := if_neg h
    rw [hst]
    go_enter Try.func34, Try.ntmps34
    go_wp2_with (go_at_call 49; refine (has_no M b _ _ hm h).mono ?_; rintro e w' ⟨rfl, rfl⟩)
    go_end0
    exact ⟨rfl, MemPost.same hm⟩
/-! ### Load -/
def MemS.load (M : MemS) (i : Int) : MemS := if 0 ≤ i ∧ i < M.n then M.tick else M
def MemS.get (M : MemS) (i : Int) : Int := if 0 ≤ i ∧ i < M.n then M.words i.toNat else 0
set_option maxHeartbeats 400000 in
theorem load_any (M : MemS) (b : Nat) (i : Int) (w : World) (hm : MemAt w b M) :
    Calls Try.prog 40 #[.pointer (some ⟨b, 0, none⟩), .int .i64 i] w fun e w' => e = .returned (.int .u64 (M.get i)) ∧ MemPost w b (M.load i) w' := by
  by_cases h : 0 ≤ i ∧ i < M.n
  · obtain ⟨h0, h1⟩ := h
    have hst : M.load i = M.tick := if_pos ⟨h0, h1⟩
    have hst' : M.get i = M.words i.toNat := if_pos ⟨h0, h1⟩
    rw [hst, hst']; clear hst hst'
    obtain ⟨i, rfl⟩ := Int.eq_ofNat_of_zero_le h0
    have h1 : i < M.n := by omega
    have hle := hm.nle
    rw [Int.toNat_natCast]
    have hw : _ = some (Value.int .u64 (M.words i)) := hm.ticked.words i (by omega)
    have f1 := hm.free 16385
    have hp := MemPost.tick hm
    go_enter Try.func40, Try.ntmps40
    go_wp2_with (go_at_call 49; refine (has_yes M b _ _ hm (by omega) (by omega)).mono ?_; rintro e w' ⟨rfl, rfl⟩)
    go_ret
    exact ⟨rfl, hp⟩
  · have hst : M.load i = M := if_neg h
    have hst' : M.get i = 0 := if_neg h
    rw [hst, hst']
    go_enter Try.func40, Try.ntmps40
    go_wp2_with (go_at_call 49; refine (has_no M b _ _ hm h).mono ?_; rintro e w' ⟨rfl, rfl⟩)
    go_ret
    exact ⟨rfl, MemPost.same hm⟩
/-! ### Cas -/
def MemS.casOk (M : MemS) (i old : Int) : Bool := decide (0 ≤ i ∧ i < M.n ∧ M.words i.toNat = old)
def MemS.cas (M : MemS) (i old v : Int) : MemS := if 0 ≤ i ∧ i < M.n then (if M.words i.toNat = old then M.tick.put i.toNat v else M.tick) else M
set_option maxHeartbeats 400000 in
theorem cas_any (M : MemS) (b : Nat) (i old v : Int) (w : World) (hm : MemAt w b M) :
    Calls Try.prog 47 #[.pointer (some ⟨b, 0, none⟩), .int .i64 i, .int .u64 old, .int .u64 v] w fun e w' => e = .returned (.bool (M.casOk i old)) ∧ MemPost w b (M.cas i old v) w' := by
  by_cases h : 0 ≤ i ∧ i < M.n
  · obtain ⟨h0, h1⟩ := h
    by_cases ho : M.words i.toNat = old
    · have hst : M.cas i old v = M.tick.put i.toNat v := by unfold MemS.cas; rw [if_pos ⟨h0, h1⟩, if_pos ho]
      have hst' : M.casOk i old = true := by unfold MemS.casOk; exact decide_eq_true ⟨h0, h1, ho⟩
      rw [hst, hst']; clear hst hst'
      subst ho
      obtain ⟨i, rfl⟩ := Int.eq_ofNat_of_zero_le h0
      have h1 : i < M.n := by omega
      have hle := hm.nle
      rw [Int.toNat_natCast]
      have ht := hm.ticked.time
      have hw : _ = some (Value.int .u64 (M.words i)) := hm.ticked.words i (by omega)
      have hc := hm.ticked.changed i (by omega)
      have f1 := hm.free 16385
      have f2 := hm.free i
      have f3 := hm.free (8192 + i)
      have hp := MemPost.put (v := v) hm h1
      go_enter Try.func47, Try.ntmps47
      go_wp2_with (go_at_call 49; refine (has_yes M b _ _ hm (by omega) (by omega)).mono ?_; rintro e w' ⟨rfl, rfl⟩)
      go_region
      go_wp2
      go_ret
      exact ⟨rfl, hp⟩
    · have hst : M.cas i old v = M.tick := by unfold MemS.cas; rw [if_pos ⟨h0, h1⟩, if_neg ho]
      have hst' : M.casOk i old = false := by unfold MemS.casOk; exact decide_eq_false (fun e => ho e.2.2)
      rw [hst, hst']; clear hst hst'
      obtain ⟨i, rfl⟩ := Int.eq_ofNat_of_zero_le h0
      have h1 : i < M.n := by omega
      have hle := hm.nle
      rw [Int.toNat_natCast] at ho
      have hw : _ = some (Value.int .u64 (M.words i)) := hm.ticked.words i (by omega)
      have hne : (M.words i != old) = true := by simpa using ho
      have hp := MemPost.tick hm
      clear ho
      go_enter Try.func47, Try.ntmps47
      go_wp2_with (go_at_call 49; refine (has_yes M b _ _ hm (by omega) (by omega)).mono ?_; rintro e w' ⟨rfl, rfl⟩)
      go_ret
      exact ⟨rfl, hp⟩
  · have hst : M.cas i old v = M := if_neg h
    have hst' : M.casOk i old = false := by unfold MemS.casOk; exact decide_eq_false (fun e => h ⟨e.1, e.2.1⟩)
    rw [hst, hst']
    go_enter Try.func47, Try.ntmps47
    go_wp2_with (go_at_call 49; refine (has_no M b _ _ hm h).mono ?_; rintro e w' ⟨rfl, rfl⟩)
    go_ret
    exact ⟨rfl, MemPost.same hm⟩
/-! ### Len, Time, Changed -/
theorem len_any (M : MemS) (b : Nat) (w : World) (hm : MemAt w b M) :
    Calls Try.prog 33 #[.pointer (some ⟨b, 0, none⟩)] w fun e w' => e = .returned (.int .i64 M.n) ∧ w = w' := by
  have hn := hm.n
  go_enter Try.func33, Try.ntmps33
  go_wp2
  go_ret
  exact ⟨rfl, rfl⟩
/-! ### New -/
def memCells (n : Int) : Array Value := (List.replicate 16384 (Value.int .u64 0) ++ [Value.int .i64 n, Value.int .u64 0]).toArray
set_option maxRecDepth 1000000 in
theorem builtMem (n : Int) : Try.prog.built 94 #[(2, .int .i64 n)].toList = some (memCells n) := by kernel_rfl
def memNew (n : Nat) : MemS := ⟨fun _ => 0, fun _ => 0, n, 0⟩
def NewPost (n : Nat) (w : World) (e : Ending) (w' : World) : Prop := ∃ b, e = .returned (.pointer (some ⟨b, 0, none⟩)) ∧ w.heap.size ≤ b ∧ MemAt w' b (memNew n) ∧ Touch (fun _ => False) w w' ∧ w'.heap.size = w.heap.size + 1
theorem memCells_get (n : Int) (i : Nat) : (memCells n)[i]? = if i < 16384 then some (.int .u64 0) else if i = 16384 then some (.int .i64 n) else if i = 16385 then some (.int .u64 0) else none := by
  unfold memCells
  rw [List.getElem?_toArray, List.getElem?_append, List.length_replicate]
  by_cases h : i < 16384
  · rw [if_pos h, if_pos h, List.getElem?_replicate, if_pos h]
  · rw [if_neg h, if_neg h]
    obtain ⟨j, rfl⟩ : ∃ j, i = 16384 + j := ⟨i - 16384, by omega⟩
    rw [Nat.add_sub_cancel_left]
    rcases j with _ | _ | j
    · rfl
    · rfl
    · rw [if_neg (by omega), if_neg (by omega)]; rfl
theorem built_ex (n : Int) : ∃ mc : Array Value, Try.prog.built 94 #[(2, .int .i64 n)].toList = some mc ∧ ∀ i, mc[i]? = if i < 16384 then some (.int .u64 0) else if i = 16384 then some (.int .i64 n) else if i = 16385 then some (.int .u64 0) else none :=
  ⟨memCells n, builtMem n, memCells_get n⟩
theorem memAt_new (w : World) (n : Nat) (h : n ≤ 8192) (mc : Array Value) (hmc : ∀ i, mc[i]? = if i < 16384 then some (.int .u64 0) else if i = 16384 then some (.int .i64 n) else if i = 16385 then some (.int .u64 0) else none) : MemAt (w.alloc (.cells mc 94)) w.heap.size (memNew n) := by
  refine ⟨fun i hi => ?_, fun i hi => ?_, ?_, ?_, fun i => World.frozen?_alloc_at _ _ _ _ rfl, h⟩
  · rw [World.cell?_alloc_at _ _ _ _ rfl, hmc, if_pos (by omega)]; rfl
  · rw [World.cell?_alloc_at _ _ _ _ rfl, hmc, if_pos (by omega)]; rfl
  · rw [World.cell?_alloc_at _ _ _ _ rfl, hmc, if_neg (by omega), if_pos (by omega)]; rfl
  · rw [World.cell?_alloc_at _ _ _ _ rfl, hmc, if_neg (by omega), if_neg (by omega), if_pos (by omega)]; rfl
set_option maxHeartbeats 400000 in
theorem new_yes (n : Nat) (w : World) (h0 : 1 ≤ n) (h1 : n ≤ 8192) : Calls Try.prog 18 #[.int .i64 n] w (NewPost n w) := by
  obtain ⟨mc, hb, hmc⟩ := built_ex n
  have hat := memAt_new w n h1 mc hmc
  have HB : Hd _ := ⟨hb⟩
  clear hmc hb
  go_enter Try.func18, Try.ntmps18
  go_wp2_with (first | (refine wpList_buildTo (by rfl) 94 #[(2, Operand.tmp 9)] (by rfl) (some 10) (by rfl) mc ?_ ?_; (simp [Act.eval]; exact HB.out)) | (refine Great.wpList_boxTo (by rfl) 94 _ (by rfl) _ (by rfl) w.heap.size (by rfl) mc (by rfl) ?_))
  go_ret
  exact ⟨_, rfl, Nat.le_refl _, hat, (Touch.refl _ _).alloc _, by simp⟩
theorem new_no (n : Int) (w : World) (h : n < 1 ∨ 8192 < n) : Calls Try.prog 18 #[.int .i64 n] w fun e w' => e = .returned (.pointer none) ∧ w = w' := by
  go_enter Try.func18, Try.ntmps18
  go_wp2
  all_goals (go_ret; exact ⟨rfl, rfl⟩)
end Go.Proofs.Ytkjppffkjofamaa
