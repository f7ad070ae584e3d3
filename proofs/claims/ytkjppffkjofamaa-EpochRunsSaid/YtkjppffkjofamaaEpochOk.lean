/- Package epoch: New where there is an epoch. No condition but those that each contract bears. -/
import Derived.Test.YtkjppffkjofamaaEpochNew
set_option linter.unusedVariables false
set_option linter.unusedSimpArgs false
namespace Go.Proofs.Ytkjppffkjofamaa
open Go.RowKit Go.Shelf
theorem builtEp (x y : Addr) (n : Nat) (a : Int) : Try.prog.built 91 #[(0, .pointer (some x)), (1, .int .i64 a), (3, .slice (some y) n n)].toList = some #[.pointer (some x), .int .i64 a, .int .u64 0, .slice (some y) n n] := by kernel_rfl
theorem info_u64 : (Try.prog.info? 27).map (fun i => (i.zero, i.size, i.bytes)) = some (some (.int .u64 0), 1, 8) := by kernel_rfl
/-- While the words are set to 0. -/
structure Zeroed (w wr : World) (bm : Nat) (M : MemS) (wd k : Nat) : Prop where
  mem : ∃ M' : MemS, MemAt wr bm M' ∧ M'.n = M.n ∧ ∀ j, j < k → M'.words (wd + j) = 0
  touch : Touch (· = bm) w wr
  size : wr.heap.size = w.heap.size
theorem Zeroed.step {w wr w2 : World} {bm : Nat} {M M' : MemS} {wd k : Nat} (h : Zeroed w wr bm M wd k) (hn : M'.n = M.n) (hz : ∀ j, j < k → M'.words (wd + j) = 0) (hlt : wd + k < M.n) (hp : MemPost wr bm (M'.store ((wd : Int) + (k : Int)) 0) w2) : Zeroed w w2 bm M wd (k + 1) := by
  have hM : M'.store ((wd : Int) + (k : Int)) 0 = M'.tick.put (wd + k) 0 := by
    unfold MemS.store
    rw [if_pos ⟨by omega, by omega⟩, show ((wd : Int) + (k : Int)).toNat = wd + k by omega]
  rw [hM] at hp
  refine ⟨⟨_, hp.1, hn, fun j hj => ?_⟩, h.touch.trans hp.2.1, hp.2.2.trans h.size⟩
  show (if wd + j = wd + k then (0 : Int) else M'.words (wd + j)) = 0
  by_cases e : j = k
  · subst e; rw [if_pos rfl]
  · rw [if_neg (by omega)]; exact hz j (by omega)
def EpMade (w : World) (bm wd n : Nat) (e : Ending) (w' : World) : Prop := ∃ b bp, e = .returned (.tuple #[.pointer (some ⟨b, 0, none⟩), .int .i64 0]) ∧ w.heap.size ≤ b ∧ w.heap.size ≤ bp ∧ EpAt w' b bm bp n wd 0 (fun _ => 0) ∧ Touch (· = bm) w w'
theorem ep_built {w wr w2 : World} {bm wd n : Nat} {M : MemS} (hZ : Zeroed w wr bm M wd (n + 1)) (hb : bm < w.heap.size) (hown : w2.ownsRow wr.heap.size 27 1 (.slice (some ⟨wr.heap.size, 0, none⟩) n n) n (madeCells (Value.int .u64 0).cells (n * 1)).toList) (hgrow : wr.grownBy w2 none)
    (h1 : 1 ≤ n) (h8 : n ≤ 8) (hw : wd + 1 + n ≤ M.n) (hw8 : wd ≤ 8192) (cs : Array Value) (hcs : cs = #[.pointer (some ⟨bm, 0, none⟩), .int .i64 (wd : Nat), .int .u64 0, .slice (some ⟨wr.heap.size, 0, none⟩) n n]) :
    EpMade w bm wd n (.returned (.tuple #[.pointer (some ⟨w2.heap.size, 0, none⟩), .int .i64 0])) (w2.alloc (.cells cs 91)) := by
  subst hcs
  obtain ⟨M', hm, hn, hz⟩ := hZ.mem
  have hsz := hZ.size
  have hg : Below wr.heap.size wr w2 := ⟨hgrow.os, hgrow.tape, hgrow.output, hgrow.size, fun k hk => hgrow.block k hk (by simp)⟩
  have hlt2 : wr.heap.size < w2.heap.size := (hown.lt wr.heap.size rfl).2
  obtain ⟨_, hown⟩ := hown
  obtain ⟨g, cap, cur, hv, _, hgb, _, _, hcz, htk⟩ : ∃ g cap cur, Value.slice (some ⟨wr.heap.size, 0, none⟩) n n = .slice (some ⟨g, 0, none⟩) n cap ∧ wr.heap.size ≤ g ∧ w2.heap[g]? = some (.cells cur 27 (0, 0)) ∧ n ≤ cap ∧ cap ≤ maxLen ∧ cur.size = cap * 1 ∧ cur.toList.take (n * 1) = (madeCells (Value.int .u64 0).cells (n * 1)).toList := by
    rcases hown with ⟨hv, _⟩ | h
    · cases hv
    · exact h
  cases hv
  have hT2 : Touch (· = bm) w (w2.alloc (.cells #[.pointer (some ⟨bm, 0, none⟩), .int .i64 (wd : Nat), .int .u64 0, .slice (some ⟨wr.heap.size, 0, none⟩) n n] 91)) := (hZ.touch.trans (Touch.of_below hg _)).alloc _
  have hgb2 : (w2.alloc (.cells #[.pointer (some ⟨bm, 0, none⟩), .int .i64 (wd : Nat), .int .u64 0, .slice (some ⟨wr.heap.size, 0, none⟩) n n] 91)).heap[wr.heap.size]? = some (.cells cur 27 (0, 0)) := by
    rw [Below.heap_alloc _ _ _ hlt2]; exact hgb
  refine ⟨_, wr.heap.size, rfl, by omega, by omega, ⟨heap_alloc_new _ _, fun i hi => blk_cell hgb2 ?_, fun i => blk_free hgb2 i, ⟨M', hm.of_cells ?_, by omega, by have := hz 0 (by omega); simpa using this, fun i hi => by have := hz (i + 1) (by omega); rw [show wd + 1 + i = wd + (i + 1) by omega]; simpa using this⟩, h1, h8, hw8, by omega, fun i hi => by omega, by omega, by omega, by omega⟩, hT2⟩
  · have h3 : (cur.toList.take (n * 1))[i]? = (madeCells (Value.int .u64 0).cells (n * 1)).toList[i]? := by rw [htk]
    rw [List.getElem?_take, if_pos (by omega)] at h3
    rw [Array.getElem?_toList] at h3
    rw [h3]
    simp [madeCells, Value.cells, hi, Nat.mod_one]
  · rw [Below.heap_alloc _ _ _ (by omega)]
    exact hg.block bm (by omega)
set_option maxRecDepth 100000 in
set_option maxHeartbeats 2000000 in
theorem epNew_ok (M : MemS) (bm wd n : Nat) (w : World) (hm : MemAt w bm M) (h1 : 1 ≤ n) (h8 : n ≤ 8) (hw : wd + 1 + n ≤ M.n) :
    Calls Try.prog 17 #[.pointer (some ⟨bm, 0, none⟩), .int .i64 (wd : Nat), .int .i64 (n : Nat)] w (EpMade w bm wd n) := by
  have hle := hm.nle
  have hl := hm.lt
  have hwd : ∀ X, Calls Try.prog 19 #[.int .i64 (n : Nat)] X fun e w' => e = .returned (.int .i64 ((n : Int) + 1)) ∧ X = w' := fun X => by
    have := words_any (n : Int) X
    rwa [show wordsOf (n : Int) = (n : Int) + 1 from if_pos (by omega)] at this
  have hz : (((n : Nat) : Int) + 1 == 0) = false := beq_eq_false_iff_ne.2 (by omega)
  have hwr : IntKind.i64.wrap ((M.n : Int) - ((n : Int) + 1)) = (M.n : Int) - ((n : Int) + 1) := by rw [IntKind.wrap_i64]; omega
  have hnlt : ¬ ((wd : Nat) : Int) < 0 := by omega
  have hngt : ¬ ((M.n : Int) - ((n : Int) + 1) < (wd : Nat)) := by omega
  have HW : Hd _ := ⟨hwd⟩
  have HL : Hd _ := ⟨len_any M bm w hm⟩
  have HM : Hd _ := ⟨hm⟩
  obtain ⟨i0, hi0, hz0, hz1, hz2⟩ := info_parts info_u64
  clear hm hwd
  go_enter Try.func17, Try.ntmps17
  go_wp2_with (first | (go_at_call 19; refine (HW.out _).mono ?_; rintro e w' ⟨rfl, rfl⟩) | (go_at_call 33; refine HL.out.mono ?_; rintro e w' ⟨rfl, rfl⟩))
  go_loopw [31] (fun i wr => ∃ k : Nat, k ≤ n + 1 ∧ i = .int .i64 k ∧ Hd (Zeroed w wr bm M wd k)) (fun i _ => n + 1 - (intOf i).toNat)
  case atStart => exact ⟨0, Nat.zero_le _, rfl, ⟨⟨M, HM.out, rfl, fun j hj => absurd hj (by omega)⟩, Touch.refl _ _, rfl⟩⟩
  case round =>
    obtain ⟨k, hk, rfl, HZ⟩ := hrel
    by_cases hlt : k < n + 1
    · obtain ⟨M', hm', hn', hz'⟩ := HZ.out.mem
      have hlt2 : (k : Int) < (n : Int) + 1 := by omega
      have HS : Hd (Calls Try.prog 34 #[.pointer (some ⟨bm, 0, none⟩), .int .i64 ((wd : Int) + (k : Int)), .int .u64 0] wr fun e w' => e = .returned (.tuple #[]) ∧ Hd (MemPost wr bm (M'.store ((wd : Int) + (k : Int)) 0) w')) := ⟨(store_any M' bm _ _ wr hm').mono (fun _ _ h => ⟨h.1, ⟨h.2⟩⟩)⟩
      have HZ2 : Hd _ := ⟨hz'⟩
      clear hm' hz'
      go_wp2_with (go_at_call 34; refine HS.out.mono ?_; rintro e w2 ⟨rfl, hP⟩)
      go_roundw
      case rel => exact ⟨k + 1, by omega, by go_num, ⟨HZ.out.step hn' HZ2.out (by omega) hP.out⟩⟩
      case measure => simp [intOf]; omega
    · obtain rfl : k = n + 1 := by omega
      go_wp2_with (first | (at_make; (refine wpList_make_full _ rfl _ _ 89 rfl wr.heap.size 27 i0 (.int .u64 0) 1 Try.underlying89 hi0 hz0 hz1 .i64 .i64 _ _ n rfl rfl rfl rfl (by rw [hz2]; omega) (by unfold maxLen; omega) (Nat.le_refl _) ?_; intro w2 hown2 hgrow2)))
      go_ret2
      exact ep_built HZ.out hl hown2 hgrow2 h1 h8 hw (by omega) _ rfl
def Made (w : World) (n : Nat) (e : Ending) (w' : World) : Prop := ∃ b bm bp, e = .returned (.pointer (some ⟨b, 0, none⟩)) ∧ (w.heap.size ≤ b ∧ w.heap.size ≤ bm ∧ w.heap.size ≤ bp) ∧ EpAt w' b bm bp n 1 0 (fun _ => 0) ∧ Below w.heap.size w w'
theorem made_any (n : Nat) (w : World) (h1 : 1 ≤ n) (h8 : n ≤ 8) : Calls Try.prog 14 #[.int .i64 (n : Nat)] w (Made w n) := by
  have hn := new_yes (n + 3) w (by omega) (by omega)
  rw [show ((n + 3 : Nat) : Int) = (n : Int) + 3 by omega] at hn
  have HN : Hd _ := ⟨hn⟩
  have HE : Hd (∀ (bm : Nat) (w : World), MemAt w bm (memNew (n + 3)) → Calls Try.prog 17 #[.pointer (some ⟨bm, 0, none⟩), .int .i64 1, .int .i64 (n : Nat)] w (EpMade w bm 1 n)) := ⟨fun bm w h => epNew_ok (memNew (n + 3)) bm 1 n w h h1 h8 (by show 1 + 1 + n ≤ n + 3; omega)⟩
  clear hn
  go_enter Try.func14, Try.ntmps14
  go_wp2_with (first | (go_at_call 18; refine HN.out.mono ?_; rintro e w1 ⟨bm, rfl, hbm, hm, ht, hs⟩) | (go_at_call 17; refine (HE.out bm _ hm).mono ?_; rintro e w2 ⟨b, bp, rfl, hb, hbp, hE, hT⟩))
  go_ret
  exact ⟨b, bm, bp, rfl, ⟨by omega, by omega, by omega⟩, hE, (ht.below (Nat.le_refl _) (fun k _ => id)).trans (hT.below (by omega) (fun k hk e => by omega))⟩
end Go.Proofs.Ytkjppffkjofamaa
