/- Package epoch: set; the closures of Pin and Unpin. No condition but those that each contract bears. -/
import Derived.Test.YtkjppffkjofamaaEpoch
set_option linter.unusedVariables false
set_option linter.unusedSimpArgs false
namespace Go.Proofs.Ytkjppffkjofamaa
open Go.RowKit Go.Shelf
def putPin (pins : Nat → Nat) (i v : Nat) : Nat → Nat := fun j => if j = i then v else pins j
/-- The memory has been written, nothing else. -/
structure Stored (W wx : World) (bm : Nat) (M : MemS) : Prop where
  mem : MemAt wx bm M
  touch : Touch (· = bm) W wx
  size : wx.heap.size = W.heap.size
theorem Stored.of_post {W X wx : World} {bm : Nat} {M : MemS} (hX : Touch (· = bm) W X) (hs : X.heap.size = W.heap.size) (h : MemPost X bm M wx) : Stored W wx bm M :=
  ⟨h.1, hX.trans h.2.1, h.2.2.trans hs⟩
set_option maxHeartbeats 1000000 in
theorem set_ep {W : World} {b bm bp n wd now : Nat} {pins : Nat → Nat} (h : EpAt W b bm bp n wd now pins) (i v : Nat) (hi : i < n) (hv : v ≤ 100001) :
    Calls Try.prog 38 #[.pointer (some ⟨b, 0, none⟩), .int .i64 (i : Nat), .int .u64 (v : Nat)] W fun e w' => e = .returned (.tuple #[]) ∧ EpAt w' b bm bp n wd now (putPin pins i v) ∧ Touch (fun k => k = bm ∨ k = bp) W w' ∧ w'.heap.size = W.heap.size := by
  obtain ⟨M, hm, hn, hw, hp⟩ := h.mem
  have e0 : W.cell? ⟨b, 0, none⟩ = some (.pointer (some ⟨bm, 0, none⟩)) := by simp [World.cell?, h.blk]
  have e1 : W.cell? ⟨b, 1, none⟩ = some (.int .i64 (wd : Nat)) := by simp [World.cell?, h.blk]
  have n1 := h.n1
  have n8 := h.n8
  have wd8 := h.wd8
  have hlo : (0 : Int) ≤ (i : Int) := by omega
  have hhi : (i : Int) < (n : Int) := by omega
  have hwr : IntKind.i64.wrap (IntKind.i64.wrap ((wd : Int) + 1) + (i : Int)) = (wd : Int) + 1 + (i : Int) := by rw [IntKind.wrap_i64, IntKind.wrap_i64]; omega
  have HS : Hd (∀ X : World, X.heap[bm]? = W.heap[bm]? → Calls Try.prog 34 #[.pointer (some ⟨bm, 0, none⟩), .int .i64 (IntKind.i64.wrap (IntKind.i64.wrap ((wd : Int) + 1) + (i : Int))), .int .u64 (v : Nat)] X fun e w' => e = .returned (.tuple #[]) ∧ MemPost X bm (M.store ((wd : Int) + 1 + (i : Int)) (v : Nat)) w') := ⟨fun X hX => by rw [hwr]; exact store_any M bm _ _ X (hm.of_cells hX)⟩
  have HE : Hd _ := ⟨h⟩
  have HM : Hd _ := ⟨(⟨hm, hn, hw, hp⟩ : MemAt W bm M ∧ wd + 1 + n ≤ M.n ∧ M.words wd = (now : Int) ∧ ∀ i, i < n → M.words (wd + 1 + i) = (pins i : Int))⟩
  clear hm hn hw hp h hwr
  go_enter Try.func38, Try.ntmps38
  go_upto_region 0 with fail
  go_cut [] (fun wx => Hd (Stored W wx bm (M.store ((wd : Int) + 1 + (i : Int)) (v : Nat))))
  case first =>
    go_region_with (go_at_call 34; refine (HS.out W.drew rfl).mono ?_; rintro e w2 ⟨rfl, hp⟩)
    all_goals go_wp2_with fail
    all_goals go_meet
    all_goals exact ⟨Stored.of_post ((Touch.refl _ W).drew) rfl hp⟩
  case rest =>
    obtain ⟨HR⟩ := hcut
    have h := HE.out
    have b3 : wc.heap[b]? = W.heap[b]? := HR.touch.block b h.lt.1 h.d1
    have p3 : wc.heap[bp]? = W.heap[bp]? := HR.touch.block bp h.lt.2.2 (Ne.symm h.d3)
    have e3 : wc.cell? ⟨b, 3, none⟩ = some (.slice (some ⟨bp, 0, none⟩) n n) := by simp [World.cell?, b3, h.blk]
    have f3 : wc.frozen? ⟨bp, i, none⟩ = false := (World.frozen?_of_block (w := W) p3).trans (h.free i)
    have c3 : wc.cell? ⟨bp, i, none⟩ = some (.int .u64 (pins i : Nat)) := (World.cell?_of_block (w := W) p3).trans (h.pin i hi)
    have HR2 : Hd _ := ⟨HR⟩
    have HP3 : Hd _ := ⟨p3⟩
    have HB3 : Hd _ := ⟨b3⟩
    clear HR b3 p3 h
    go_wp2
    go_end0
    obtain ⟨hm, hn, hw, hp⟩ := HM.out
    have hM : M.store ((wd : Int) + 1 + (i : Int)) (v : Nat) = M.tick.put (wd + 1 + i) (v : Nat) := by
      unfold MemS.store
      rw [if_pos ⟨by omega, by omega⟩, show ((wd : Int) + 1 + (i : Int)).toNat = wd + 1 + i by omega]
    have h := HE.out
    have hT : Touch (fun k => k = bm ∨ k = bp) W (wc.setCell ⟨bp, i, none⟩ (.int .u64 (v : Nat))) := (HR2.out.touch.mono (fun k _ e => .inl e)).setCell (p := ⟨bp, i, none⟩) (.inl (.inr rfl)) _
    have hsz : (wc.setCell ⟨bp, i, none⟩ (.int .u64 (v : Nat))).heap.size = W.heap.size := by rw [← HR2.out.size]; simp [World.setCell]
    refine ⟨rfl, ⟨(hT.block b h.lt.1 (fun e => e.elim h.d1 h.d2)).trans h.blk, fun j hj => ?_, fun j => ?_, ⟨M.tick.put (wd + 1 + i) (v : Nat), ?_, hn, ?_, fun j hj => ?_⟩, h.n1, h.n8, h.wd8, h.nowb, fun j hj => ?_, h.d1, h.d2, h.d3⟩, hT, hsz⟩
    · rw [setCell_get _ _ _ _ _ _ c3]
      unfold putPin
      by_cases e : i = j
      · subst e; rw [if_pos rfl, if_pos rfl]
      · rw [if_neg e, if_neg (fun x => e x.symm)]
        exact (World.cell?_of_block (w := W) HP3.out).trans (h.pin j hj)
    · rw [World.frozen?_setCell]; exact (World.frozen?_of_block (w := W) HP3.out).trans (h.free j)
    · rw [← hM]
      exact HR2.out.mem.touch (touch_cell wc bp i _) h.d3
    · show (if wd = wd + 1 + i then _ else M.words wd) = _
      rw [if_neg (by omega)]; exact hw
    · show (if wd + 1 + j = wd + 1 + i then ((v : Nat) : Int) else M.words (wd + 1 + j)) = _
      unfold putPin
      by_cases e : j = i
      · subst e; rw [if_pos rfl, if_pos rfl]
      · rw [if_neg (by omega), if_neg e]; exact hp j hj
    · unfold putPin
      split
      · exact hv
      · exact h.pinb j hj
/-- What Pin's closures share: the epoch, the reader, the function 'hold'. -/
structure PinEnv (W : World) (be bw bh b who : Nat) : Prop where
  e : W.cell? ⟨be, 0, none⟩ = some (.pointer (some ⟨b, 0, none⟩))
  w : W.cell? ⟨bw, 0, none⟩ = some (.int .i64 (who : Nat))
  h : W.cell? ⟨bh, 0, none⟩ = some (.func (.func 36) #[] #[.pointer (some ⟨be, 0, none⟩), .pointer (some ⟨bw, 0, none⟩), .pointer (some ⟨bh, 0, none⟩)])
theorem pin_hold (W : World) (be bw bh now : Nat) : Calls Try.prog 36 #[.int .u64 (now : Nat), .pointer (some ⟨be, 0, none⟩), .pointer (some ⟨bw, 0, none⟩), .pointer (some ⟨bh, 0, none⟩)] W fun e w' =>
    e = .returned (.func (.func 37) #[] #[.pointer (some ⟨be, 0, none⟩), .pointer (some ⟨bw, 0, none⟩), .pointer (some ⟨W.heap.size, 0, none⟩), .pointer (some ⟨bh, 0, none⟩)]) ∧ w' = W.alloc (.cells #[.int .u64 (now : Nat)] 27) := by
  go_enter Try.func36, Try.ntmps36
  go_wp2
  go_ret
  exact ⟨rfl, rfl⟩
def HoldPost (W : World) (b bm bp n wd now : Nat) (pins : Nat → Nat) (be bw bh : Nat) (e : Ending) (w' : World) : Prop :=
  ∃ bn, e = .returned (.func (.func 37) #[] #[.pointer (some ⟨be, 0, none⟩), .pointer (some ⟨bw, 0, none⟩), .pointer (some ⟨bn, 0, none⟩), .pointer (some ⟨bh, 0, none⟩)]) ∧ W.heap.size ≤ bn ∧ w'.cell? ⟨bn, 0, none⟩ = some (.int .u64 (now : Nat)) ∧ EpAt w' b bm bp n wd now pins ∧ Touch (· = bm) W w'
theorem ep_ticked {W w2 : World} {b bm bp n wd now : Nat} {pins : Nat → Nat} (h : EpAt W b bm bp n wd now pins) (ht : Touch (· = bm) W w2) {M : MemS} (hm : MemAt w2 bm M) (h1 : wd + 1 + n ≤ M.n) (h2 : M.words wd = (now : Int)) (h3 : ∀ i, i < n → M.words (wd + 1 + i) = (pins i : Int)) : EpAt w2 b bm bp n wd now pins :=
  ⟨(ht.block b h.lt.1 h.d1).trans h.blk, fun i hi => (World.cell?_of_block (w := W) (ht.block bp h.lt.2.2 (Ne.symm h.d3))).trans (h.pin i hi), fun i => (World.frozen?_of_block (w := W) (ht.block bp h.lt.2.2 (Ne.symm h.d3))).trans (h.free i), ⟨M, hm, h1, h2, h3⟩, h.n1, h.n8, h.wd8, h.nowb, h.pinb, h.d1, h.d2, h.d3⟩
/-- The epoch's word, looked at. -/
theorem load_ep {W : World} {b bm bp n wd now : Nat} {pins : Nat → Nat} (h : EpAt W b bm bp n wd now pins) (X : World) (hX : ∀ k, k < W.heap.size → X.heap[k]? = W.heap[k]?) :
    Calls Try.prog 40 #[.pointer (some ⟨bm, 0, none⟩), .int .i64 (wd : Nat)] X fun e w2 => e = .returned (.int .u64 (now : Nat)) ∧ EpAt w2 b bm bp n wd now pins ∧ Touch (· = bm) X w2 ∧ w2.heap.size = X.heap.size := by
  obtain ⟨M, hm, hn, hw, hp⟩ := h.mem
  have n1 := h.n1
  have l := h.lt
  have hl := load_any M bm (wd : Int) X (hm.of_cells (hX bm l.2.1))
  have hg : M.get (wd : Int) = (now : Int) := by
    unfold MemS.get
    rw [if_pos ⟨by omega, by omega⟩, Int.toNat_natCast]
    exact hw
  have hld : M.load (wd : Int) = M.tick := by unfold MemS.load; rw [if_pos ⟨by omega, by omega⟩]
  rw [hg, hld] at hl
  refine hl.mono ?_
  rintro e w2 ⟨rfl, hm2, ht2, hs2⟩
  exact ⟨rfl, ep_ticked (h.of_blocks (hX b l.1) (hX bm l.2.1) (hX bp l.2.2)) ht2 hm2 hn hw hp, ht2, hs2⟩
theorem EpAt.alloc {W : World} {b bm bp n wd now : Nat} {pins : Nat → Nat} (h : EpAt W b bm bp n wd now pins) (o : Obj) : EpAt (W.alloc o) b bm bp n wd now pins :=
  h.of_blocks (Below.heap_alloc _ _ _ h.lt.1) (Below.heap_alloc _ _ _ h.lt.2.1) (Below.heap_alloc _ _ _ h.lt.2.2)
set_option maxHeartbeats 2000000 in
theorem pin_start {W : World} {b bm bp n wd now : Nat} {pins : Nat → Nat} (h : EpAt W b bm bp n wd now pins) (be bw bh who : Nat) (he : PinEnv W be bw bh b who) (h1 : be ≠ bm) (h3 : bh ≠ bm) :
    Calls Try.prog 42 #[.pointer (some ⟨bh, 0, none⟩), .pointer (some ⟨be, 0, none⟩)] W (HoldPost W b bm bp n wd now pins be bw bh) := by
  have e0 : W.cell? ⟨b, 0, none⟩ = some (.pointer (some ⟨bm, 0, none⟩)) := by simp [World.cell?, h.blk]
  have e1 : W.cell? ⟨b, 1, none⟩ = some (.int .i64 (wd : Nat)) := by simp [World.cell?, h.blk]
  have c1 := he.e
  have c3 := he.h
  have l1 := lt_of_cell c1
  have l3 := lt_of_cell c3
  have hd1 := h.d1
  have l := h.lt
  have HL : Hd (∀ X : World, (∀ k, k < W.heap.size → X.heap[k]? = W.heap[k]?) → _) := ⟨fun X => load_ep h X⟩
  clear he h
  go_enter Try.func42, Try.ntmps42
  go_upto_region 1 with fail
  go_region_held3 (fun w' => w'.cell? ⟨bh, 0, none⟩ = some (.func (.func 36) #[] #[.pointer (some ⟨be, 0, none⟩), .pointer (some ⟨bw, 0, none⟩), .pointer (some ⟨bh, 0, none⟩)]) ∧ w'.cell? ⟨be, 0, none⟩ = some (.pointer (some ⟨b, 0, none⟩)) ∧ w'.cell? ⟨b, 0, none⟩ = some (.pointer (some ⟨bm, 0, none⟩)) ∧ w'.cell? ⟨b, 1, none⟩ = some (.int .i64 (wd : Nat)))
    (first | (simp [go_sem, *]; done))
    (first
      | (go_at_call 40; refine (HL.out W.drew (fun _ _ => rfl)).mono ?_; rintro e w2 ⟨rfl, hE, hT, hs⟩;
         have m3 := (hT.cell (p := ⟨bh, 0, none⟩) (by exact l3) (by exact h3)); have m4 := (hT.cell (p := ⟨be, 0, none⟩) (by exact l1) (by exact h1)); have m5 := (hT.cell (p := ⟨b, 0, none⟩) (by exact l.1) (by exact hd1)); have m6 := (hT.cell (p := ⟨b, 1, none⟩) (by exact l.1) (by exact hd1)); have HE : Hd _ := ⟨hE⟩; have HT : Hd _ := ⟨hT⟩; clear hE hT)
      | (go_at_call 36; refine (pin_hold _ be bw bh now).mono ?_; rintro e w3 ⟨rfl, rfl⟩))
  all_goals go_wp2
  all_goals go_ret
  all_goals
    have hz : W.heap.size = w2.heap.size := hs.symm
    exact ⟨w2.heap.size, by rw [← hz]; rfl, Nat.le_of_eq hz, by simp [go_sem], HE.out.alloc _, ((Touch.refl _ W).drew.trans HT.out).alloc _⟩
theorem pin_set {W : World} {b bm bp n wd now : Nat} {pins : Nat → Nat} (h : EpAt W b bm bp n wd now pins) (be bw bh bn who nv : Nat) (he : PinEnv W be bw bh b who) (hn : W.cell? ⟨bn, 0, none⟩ = some (.int .u64 (nv : Nat))) (hw : who < n) (hv : nv ≤ 100000) :
    Calls Try.prog 37 #[.pointer (some ⟨be, 0, none⟩), .pointer (some ⟨bw, 0, none⟩), .pointer (some ⟨bn, 0, none⟩), .pointer (some ⟨bh, 0, none⟩)] W fun e w' =>
      e = .returned (.func (.func 39) #[] #[.pointer (some ⟨be, 0, none⟩), .pointer (some ⟨bn, 0, none⟩), .pointer (some ⟨bh, 0, none⟩)]) ∧ EpAt w' b bm bp n wd now (putPin pins who (nv + 1)) ∧ Touch (fun k => k = bm ∨ k = bp) W w' ∧ w'.heap.size = W.heap.size := by
  have c1 := he.e
  have c2 := he.w
  have hset := set_ep h who (nv + 1) hw (by omega)
  rw [show ((nv + 1 : Nat) : Int) = (nv : Int) + 1 by omega] at hset
  have hwr : IntKind.u64.wrap ((nv : Int) + 1) = (nv : Int) + 1 := by rw [IntKind.wrap_u64]; omega
  have HS : Hd _ := ⟨hset⟩
  clear he h hset
  go_enter Try.func37, Try.ntmps37
  go_wp2_with (go_at_call 38; refine HS.out.mono ?_; rintro e w2 ⟨rfl, hE, hT, hs⟩; have HE : Hd _ := ⟨hE⟩; have HT : Hd _ := ⟨hT⟩; clear hE hT)
  go_ret
  exact ⟨rfl, HE.out, HT.out, hs⟩
set_option maxHeartbeats 2000000 in
/-- Nobody has moved the epoch since: the pin is done. -/
theorem pin_done {W : World} {b bm bp n wd now : Nat} {pins : Nat → Nat} (h : EpAt W b bm bp n wd now pins) (be bw bh bn who : Nat) (he : PinEnv W be bw bh b who) (hn : W.cell? ⟨bn, 0, none⟩ = some (.int .u64 (now : Nat))) (h1 : be ≠ bm) (h4 : bn ≠ bm) :
    Calls Try.prog 39 #[.pointer (some ⟨be, 0, none⟩), .pointer (some ⟨bn, 0, none⟩), .pointer (some ⟨bh, 0, none⟩)] W fun e w' => e = .returned .nilFunc ∧ EpAt w' b bm bp n wd now pins ∧ Touch (· = bm) W w' ∧ w'.heap.size = W.heap.size := by
  have e0 : W.cell? ⟨b, 0, none⟩ = some (.pointer (some ⟨bm, 0, none⟩)) := by simp [World.cell?, h.blk]
  have e1 : W.cell? ⟨b, 1, none⟩ = some (.int .i64 (wd : Nat)) := by simp [World.cell?, h.blk]
  have c1 := he.e
  have l1 := lt_of_cell c1
  have l4 := lt_of_cell hn
  have hd1 := h.d1
  have l := h.lt
  have HL : Hd (∀ X : World, (∀ k, k < W.heap.size → X.heap[k]? = W.heap[k]?) → _) := ⟨fun X => load_ep h X⟩
  clear he h
  go_enter Try.func39, Try.ntmps39
  go_upto_region 1 with fail
  go_cut [4] (fun u wx => u = .int .u64 (now : Nat) ∧ Hd (EpAt wx b bm bp n wd now pins ∧ Touch (· = bm) W wx ∧ wx.heap.size = W.heap.size))
  case first =>
    go_region_held3 (fun w' => w'.cell? ⟨be, 0, none⟩ = some (.pointer (some ⟨b, 0, none⟩)) ∧ w'.cell? ⟨b, 0, none⟩ = some (.pointer (some ⟨bm, 0, none⟩)) ∧ w'.cell? ⟨b, 1, none⟩ = some (.int .i64 (wd : Nat)))
      (first | (simp [go_sem, *]; done))
      (first
        | (go_at_call 40; refine (HL.out W.drew (fun _ _ => rfl)).mono ?_; rintro e w2 ⟨rfl, hE, hT, hs⟩;
           have m4 := (hT.cell (p := ⟨be, 0, none⟩) (by exact l1) (by exact h1)); have m5 := (hT.cell (p := ⟨b, 0, none⟩) (by exact l.1) (by exact hd1)); have m6 := (hT.cell (p := ⟨b, 1, none⟩) (by exact l.1) (by exact hd1)); have HE : Hd _ := ⟨hE⟩; have HT : Hd _ := ⟨hT⟩; clear hE hT))
    all_goals go_wp2_with fail
    all_goals go_meet
    all_goals exact ⟨rfl, ⟨HE.out, (Touch.refl _ W).drew.trans HT.out, hs⟩⟩
  case rest =>
    obtain ⟨rfl, HR⟩ := hcut
    have hn2 : wc.cell? ⟨bn, 0, none⟩ = some (.int .u64 (now : Nat)) := (HR.out.2.1.cell (p := ⟨bn, 0, none⟩) l4 h4).trans hn
    have hb : (((now : Nat) : Int) != (now : Nat)) = false := by simp
    go_wp2
    go_ret
    exact ⟨rfl, HR.out⟩
end Go.Proofs.Ytkjppffkjofamaa
