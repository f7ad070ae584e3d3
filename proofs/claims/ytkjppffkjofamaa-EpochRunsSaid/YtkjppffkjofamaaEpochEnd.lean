/- Package epoch: the end of Advance. No condition but those that each contract bears. -/
import Derived.Test.YtkjppffkjofamaaEpochLook
set_option linter.unusedVariables false
set_option linter.unusedSimpArgs false
namespace Go.Proofs.Ytkjppffkjofamaa
open Go.RowKit Go.Shelf
/-- The word of the epoch has been set, nothing else. -/
structure CasAt (W w2 : World) (bm n wd v : Nat) (pins : Nat → Nat) : Prop where
  mem : ∃ M : MemS, MemAt w2 bm M ∧ wd + 1 + n ≤ M.n ∧ M.words wd = (v : Int) ∧ ∀ i, i < n → M.words (wd + 1 + i) = (pins i : Int)
  touch : Touch (· = bm) W w2
  size : w2.heap.size = W.heap.size
theorem cas_ep {W : World} {b bm bp n wd now : Nat} {pins : Nat → Nat} (h : EpAt W b bm bp n wd now pins) (nv : Nat) (X : World) (hX : ∀ k, k < W.heap.size → X.heap[k]? = W.heap[k]?) :
    Calls Try.prog 47 #[.pointer (some ⟨bm, 0, none⟩), .int .i64 (wd : Nat), .int .u64 (nv : Nat), .int .u64 ((nv : Int) + 1)] X fun e w2 => e = .returned (.bool (decide (now = nv))) ∧ CasAt X w2 bm n wd (if now = nv then nv + 1 else now) pins := by
  obtain ⟨M, hm, hn, hw, hp⟩ := h.mem
  have n1 := h.n1
  have l := h.lt
  have hc := cas_any M bm (wd : Int) (nv : Nat) ((nv : Int) + 1) X (hm.of_cells (hX bm l.2.1))
  by_cases e : now = nv
  · have hk : M.casOk (wd : Int) (nv : Nat) = true := by unfold MemS.casOk; exact decide_eq_true ⟨by omega, by omega, by rw [Int.toNat_natCast, hw, e]⟩
    have hs : M.cas (wd : Int) (nv : Nat) ((nv : Int) + 1) = M.tick.put wd ((nv : Int) + 1) := by unfold MemS.cas; rw [if_pos ⟨by omega, by omega⟩, Int.toNat_natCast, if_pos (by rw [hw, e])]
    rw [hk, hs] at hc
    rw [if_pos e, decide_eq_true e]
    refine hc.mono ?_
    rintro e w2 ⟨rfl, hm2, ht2, hs2⟩
    refine ⟨rfl, ⟨_, hm2, hn, ?_, fun i hi => ?_⟩, ht2, hs2⟩
    · show (if wd = wd then (nv : Int) + 1 else _) = _
      rw [if_pos rfl]; omega
    · show (if wd + 1 + i = wd then (nv : Int) + 1 else M.words (wd + 1 + i)) = _
      rw [if_neg (by omega)]; exact hp i hi
  · have hk : M.casOk (wd : Int) (nv : Nat) = false := by unfold MemS.casOk; exact decide_eq_false (fun x => by have := x.2.2; rw [Int.toNat_natCast, hw] at this; omega)
    have hs : M.cas (wd : Int) (nv : Nat) ((nv : Int) + 1) = M.tick := by unfold MemS.cas; rw [if_pos ⟨by omega, by omega⟩, Int.toNat_natCast, if_neg (by rw [hw]; omega)]
    rw [hk, hs] at hc
    rw [if_neg e, decide_eq_false e]
    refine hc.mono ?_
    rintro e w2 ⟨rfl, hm2, ht2, hs2⟩
    exact ⟨rfl, ⟨_, hm2, hn, hw, hp⟩, ht2, hs2⟩
def EndAny (W : World) (b bm bp n wd now : Nat) (pins : Nat → Nat) (mv ba nv : Nat) (m : Bool) (e : Ending) (w' : World) : Prop :=
  e = .returned .nilFunc ∧ EpAt w' b bm bp n wd (if now = nv then now + 1 else now) pins ∧ MvAt w' mv ba (if now = nv then true else m) ∧ Touch (fun k => k = bm ∨ k = b ∨ k = mv) W w' ∧ w'.heap.size = W.heap.size
theorem end_moved {W wc : World} {b bm bp n wd now : Nat} {pins : Nat → Nat} {mv ba nv : Nat} {m : Bool} (h : EpAt W b bm bp n wd now pins) (hm : MvAt W mv ba m) (e : now = nv) (hc : CasAt W wc bm n wd (nv + 1) pins) (hb : now + 1 ≤ 100000) (d1 : mv ≠ b) (d2 : mv ≠ bm) (d3 : mv ≠ bp) {w' : World}
    (hw : w'.heap = ((wc.setCell ⟨b, 2, none⟩ (.int .u64 ((nv : Int) + 1))).setCell ⟨mv, 1, none⟩ (.bool true)).heap) (ht : Touch (fun k => k = bm ∨ k = b ∨ k = mv) W w') : EndAny W b bm bp n wd now pins mv ba nv m (.returned .nilFunc) w' := by
  have hz : w'.heap.size = W.heap.size := by rw [hw]; simp [World.setCell, hc.size]
  obtain ⟨M, hM, hn, hwd, hp⟩ := hc.mem
  have l := h.lt
  have hb1 : w'.heap[b]? = some (.cells #[.pointer (some ⟨bm, 0, none⟩), .int .i64 (wd : Nat), .int .u64 ((nv : Int) + 1), .slice (some ⟨bp, 0, none⟩) n n] 91 (0, 0)) := by
    rw [hw, Below.heap_setCell _ _ _ _ (Ne.symm d1)]
    have := (hc.touch.block b l.1 h.d1).trans h.blk
    simp [World.setCell, Array.getElem?_modify, this]
  have hb2 : w'.heap[mv]? = some (.cells #[.pointer (some ⟨ba, 0, none⟩), .bool true] 85 (0, 0)) := by
    have lm := (Array.getElem?_eq_some_iff.1 (show W.heap[mv]? = _ from hm)).1
    have h3 : (wc.setCell ⟨b, 2, none⟩ (.int .u64 ((nv : Int) + 1))).heap[mv]? = _ := (Below.heap_setCell _ _ _ _ d1).trans ((hc.touch.block mv lm d2).trans hm)
    rw [hw]
    have e2 : ((wc.setCell ⟨b, 2, none⟩ (.int .u64 ((nv : Int) + 1))).setCell ⟨mv, 1, none⟩ (.bool true)).heap = (wc.setCell ⟨b, 2, none⟩ (.int .u64 ((nv : Int) + 1))).heap.modify mv (fun o => match o with | .cells c t f => .cells (c.setIfInBounds 1 (.bool true)) t f | o => o) := rfl
    rw [e2, Array.getElem?_modify, if_pos rfl, h3]
    rfl
  have hb3 : w'.heap[bm]? = wc.heap[bm]? := by rw [hw, Below.heap_setCell _ _ _ _ (Ne.symm d2), Below.heap_setCell _ _ _ _ (Ne.symm h.d1)]
  have hb4 : w'.heap[bp]? = W.heap[bp]? := ht.block bp l.2.2 (fun e => e.elim (fun e => h.d3 e.symm) (fun e => e.elim (fun e => h.d2 e.symm) (fun e => d3 e.symm)))
  refine ⟨rfl, ?_, ?_, ht, hz⟩
  · rw [if_pos e]
    refine ⟨?_, fun i hi => (World.cell?_of_block (w := W) hb4).trans (h.pin i hi), fun i => (World.frozen?_of_block (w := W) hb4).trans (h.free i), ⟨M, hM.of_cells hb3, hn, by rw [hwd, e], hp⟩, h.n1, h.n8, h.wd8, hb, h.pinb, h.d1, h.d2, h.d3⟩
    rw [hb1, e]; rfl
  · rw [if_pos e]; exact hb2
theorem end_still {W wc : World} {b bm bp n wd now : Nat} {pins : Nat → Nat} {mv ba nv : Nat} {m : Bool} (h : EpAt W b bm bp n wd now pins) (hm : MvAt W mv ba m) (e : ¬ now = nv) (hc : CasAt W wc bm n wd now pins) (d2 : mv ≠ bm) : EndAny W b bm bp n wd now pins mv ba nv m (.returned .nilFunc) wc := by
  obtain ⟨M, hM, hn, hwd, hp⟩ := hc.mem
  have lm := (Array.getElem?_eq_some_iff.1 (show W.heap[mv]? = _ from hm)).1
  exact ⟨rfl, by rw [if_neg e]; exact ep_ticked h hc.touch hM hn hwd hp, by rw [if_neg e]; exact (hc.touch.block mv lm d2).trans hm, hc.touch.mono (fun _ _ e => .inl e), hc.size⟩
theorem wrap_succ (nv : Nat) (h : nv ≤ 100000) : IntKind.u64.wrap ((nv : Int) + 1) = (nv : Int) + 1 := by rw [IntKind.wrap_u64]; omega
set_option maxHeartbeats 4000000 in
/-- The last look: the epoch moves just if nobody moved it. -/
theorem look_end {W : World} {b bm bp n wd now : Nat} {pins : Nat → Nat} (h : EpAt W b bm bp n wd now pins) (bw be bn bl bv mv nv ba : Nat) (m : Bool) (he : LookEnv W bw be bn bl bv b mv n nv) (hmv : MvAt W mv ba m) (hnv : nv ≤ 100000) (hb : now + 1 ≤ 100000) (h1 : be ≠ bm) (h2 : bw ≠ bm) (h3 : bn ≠ bm) (h4 : bv ≠ bm)
    (d1 : mv ≠ b) (d2 : mv ≠ bm) (d3 : mv ≠ bp) (x1 : be ≠ b ∧ be ≠ mv) (x2 : bn ≠ b ∧ bn ≠ mv) (x3 : bv ≠ b ∧ bv ≠ mv) :
    Calls Try.prog 46 #[.pointer (some ⟨bw, 0, none⟩), .pointer (some ⟨be, 0, none⟩), .pointer (some ⟨bn, 0, none⟩), .pointer (some ⟨bl, 0, none⟩), .pointer (some ⟨bv, 0, none⟩)] W (EndAny W b bm bp n wd now pins mv ba nv m) := by
  have e0 : W.cell? ⟨b, 0, none⟩ = some (.pointer (some ⟨bm, 0, none⟩)) := by simp [World.cell?, h.blk]
  have e1 : W.cell? ⟨b, 1, none⟩ = some (.int .i64 (wd : Nat)) := by simp [World.cell?, h.blk]
  have e3 : W.cell? ⟨b, 3, none⟩ = some (.slice (some ⟨bp, 0, none⟩) n n) := by simp [World.cell?, h.blk]
  have c1 := he.env.e
  have c2 := he.k
  have c3 := he.nv
  have c4 := he.env.v
  have l1 := lt_of_cell c1
  have l2 := lt_of_cell c2
  have l3 := lt_of_cell c3
  have l4 := lt_of_cell c4
  have hd1 := h.d1
  have l := h.lt
  have hn8 := h.n8
  have hwd := h.wd8
  have hlt : ¬ (n : Int) < (n : Int) := by omega
  have HL : Hd (∀ (X : World), (∀ k, k < W.heap.size → X.heap[k]? = W.heap[k]?) → Calls Try.prog 47 #[.pointer (some ⟨bm, 0, none⟩), .int .i64 (wd : Nat), .int .u64 (nv : Nat), .int .u64 (IntKind.u64.wrap ((nv : Int) + 1))] X fun e w2 => e = .returned (.bool (decide (now = nv))) ∧ CasAt X w2 bm n wd (if now = nv then nv + 1 else now) pins) := ⟨fun X hX => by rw [wrap_succ nv hnv]; exact cas_ep h nv X hX⟩
  have HE : Hd _ := ⟨h⟩
  have HV : Hd _ := ⟨hmv⟩
  clear he h hmv
  go_enter Try.func46, Try.ntmps46
  go_upto_region 1 with fail
  go_region
  go_upto_region 6 with fail
  go_cut [50] (fun u wx => u = .bool (decide (now = nv)) ∧ Hd (CasAt W wx bm n wd (if now = nv then nv + 1 else now) pins))
  case first =>
    obtain ⟨W1, hW1⟩ : ∃ W1, W1 = W.drew := ⟨_, rfl⟩
    rw [← hW1]
    replace e0 : W1.cell? ⟨b, 0, none⟩ = some (.pointer (some ⟨bm, 0, none⟩)) := by rw [hW1]; exact e0
    replace e1 : W1.cell? ⟨b, 1, none⟩ = some (.int .i64 (wd : Nat)) := by rw [hW1]; exact e1
    replace c1 : W1.cell? ⟨be, 0, none⟩ = some (.pointer (some ⟨b, 0, none⟩)) := by rw [hW1]; exact c1
    replace c3 : W1.cell? ⟨bn, 0, none⟩ = some (.int .u64 (nv : Nat)) := by rw [hW1]; exact c3
    have HL1 : Hd _ := ⟨HL.out W1.drew (fun j _ => by rw [hW1]; rfl)⟩
    have hT0 : Touch (· = bm) W W1.drew := by rw [hW1]; exact (Touch.refl _ W).drew.drew
    have hs0 : W1.drew.heap.size = W.heap.size := by rw [hW1]; rfl
    have HT0 : Hd _ := ⟨hT0⟩
    have HS0 : Hd _ := ⟨hs0⟩
    have HX1 : Hd _ := ⟨(show be < W1.drew.heap.size by rw [hs0]; exact l1)⟩
    have HX2 : Hd _ := ⟨(show bn < W1.drew.heap.size by rw [hs0]; exact l3)⟩
    have HX3 : Hd _ := ⟨(show b < W1.drew.heap.size by rw [hs0]; exact l.1)⟩
    clear hW1 hT0 hs0 HL c2 c4 e3
    go_region_held3 (fun w' => w'.cell? ⟨be, 0, none⟩ = some (.pointer (some ⟨b, 0, none⟩)) ∧ w'.cell? ⟨b, 0, none⟩ = some (.pointer (some ⟨bm, 0, none⟩)) ∧ w'.cell? ⟨b, 1, none⟩ = some (.int .i64 (wd : Nat)) ∧ w'.cell? ⟨bn, 0, none⟩ = some (.int .u64 (nv : Nat)))
      (first | (simp [go_sem, *]; done))
      (first
        | (go_at_call 47; refine HL1.out.mono ?_; rintro e w2 ⟨rfl, hC⟩;
           have m4 := (hC.touch.cell (p := ⟨be, 0, none⟩) (by exact HX1.out) (by exact h1)); have m5 := (hC.touch.cell (p := ⟨b, 0, none⟩) (by exact HX3.out) (by exact hd1)); have m6 := (hC.touch.cell (p := ⟨b, 1, none⟩) (by exact HX3.out) (by exact hd1)); have m7 := (hC.touch.cell (p := ⟨bn, 0, none⟩) (by exact HX2.out) (by exact h3)); have HC : Hd _ := ⟨hC⟩; clear hC))
    all_goals go_wp2_with fail
    all_goals go_meet
    all_goals exact ⟨rfl, ⟨⟨HC.out.mem, HT0.out.trans HC.out.touch, HC.out.size.trans HS0.out⟩⟩⟩
  case rest =>
    obtain ⟨rfl, HC⟩ := hcut
    clear HL e0 e1 e3 c2
    by_cases h0 : now = nv
    · rw [decide_eq_true h0]
      rw [if_pos h0] at HC
      replace c1 := (HC.out.touch.cell (p := ⟨be, 0, none⟩) l1 h1).trans c1
      replace c3 := (HC.out.touch.cell (p := ⟨bn, 0, none⟩) l3 h3).trans c3
      replace c4 := (HC.out.touch.cell (p := ⟨bv, 0, none⟩) l4 h4).trans c4
      have hbk := (HC.out.touch.block b l.1 HE.out.d1).trans HE.out.blk
      have hmk := (HC.out.touch.block mv (Array.getElem?_eq_some_iff.1 (show W.heap[mv]? = _ from HV.out)).1 d2).trans HV.out
      have k1 := blk_cell hbk (i := 2) rfl
      have k2 := blk_cell hmk (i := 1) rfl
      have k3 := blk_free hbk 2
      have k4 := blk_free hmk 1
      have hT : Hd (Touch (fun k => k = bm ∨ k = b ∨ k = mv) W ((wc.setCell ⟨b, 2, none⟩ (.int .u64 ((nv : Int) + 1))).setCell ⟨mv, 1, none⟩ (.bool true))) := ⟨((HC.out.touch.mono (fun _ _ e => .inl e)).setCell (p := ⟨b, 2, none⟩) (.inl (.inr (.inl rfl))) _).setCell (p := ⟨mv, 1, none⟩) (.inl (.inr (.inr rfl))) _⟩
      have H0 : Hd _ := ⟨h0⟩
      clear hbk hmk h0
      obtain ⟨y1, y2⟩ := x1
      obtain ⟨y3, y4⟩ := x2
      obtain ⟨y5, y6⟩ := x3
      go_upto_region 7 with fail
      go_region
      go_wp2_with fail
      go_ret
      exact end_moved HE.out HV.out H0.out HC.out hb d1 d2 d3 rfl hT.out.drew
    · rw [decide_eq_false h0]
      rw [if_neg h0] at HC
      have H0 : Hd _ := ⟨h0⟩
      clear h0
      go_wp2_with fail
      go_ret
      exact end_still HE.out HV.out H0.out HC.out d2
end Go.Proofs.Ytkjppffkjofamaa
