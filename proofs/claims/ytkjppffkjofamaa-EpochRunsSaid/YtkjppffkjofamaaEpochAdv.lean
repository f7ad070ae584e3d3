/- Package epoch: Advance and its closures; Pin's last closure when the epoch has moved. No condition but those that each contract bears. -/
import Derived.Test.YtkjppffkjofamaaEpochOk
set_option linter.unusedVariables false
set_option linter.unusedSimpArgs false
namespace Go.Proofs.Ytkjppffkjofamaa
open Go.RowKit Go.Shelf
/-- What Advance's closures share: the epoch, the function 'look', what is handed back. -/
structure AdvEnv (W : World) (be bl bv b mv : Nat) : Prop where
  e : W.cell? ⟨be, 0, none⟩ = some (.pointer (some ⟨b, 0, none⟩))
  l : W.cell? ⟨bl, 0, none⟩ = some (.func (.func 45) #[] #[.pointer (some ⟨be, 0, none⟩), .pointer (some ⟨bl, 0, none⟩), .pointer (some ⟨bv, 0, none⟩)])
  v : W.cell? ⟨bv, 0, none⟩ = some (.pointer (some ⟨mv, 0, none⟩))
/-- A Moving. -/
def MvAt (W : World) (mv ba : Nat) (m : Bool) : Prop := W.heap[mv]? = some (.cells #[.pointer (some ⟨ba, 0, none⟩), .bool m] 85 (0, 0))
theorem adv_look (W : World) (be bl bv k nv : Nat) : Calls Try.prog 45 #[.int .i64 (k : Nat), .int .u64 (nv : Nat), .pointer (some ⟨be, 0, none⟩), .pointer (some ⟨bl, 0, none⟩), .pointer (some ⟨bv, 0, none⟩)] W fun e w' =>
    e = .returned (.func (.func 46) #[] #[.pointer (some ⟨W.heap.size, 0, none⟩), .pointer (some ⟨be, 0, none⟩), .pointer (some ⟨W.heap.size + 1, 0, none⟩), .pointer (some ⟨bl, 0, none⟩), .pointer (some ⟨bv, 0, none⟩)]) ∧ w' = (W.alloc (.cells #[.int .i64 (k : Nat)] 3)).alloc (.cells #[.int .u64 (nv : Nat)] 27) := by
  go_enter Try.func45, Try.ntmps45
  go_wp2
  go_ret
  exact ⟨rfl, rfl⟩
theorem alloc2 (w : World) (x y : Value) (tx ty : Nat) (W : World) (h : W = (w.alloc (.cells #[x] tx)).alloc (.cells #[y] ty)) :
    W.heap.size = w.heap.size + 2 ∧ Below w.heap.size w W ∧ W.cell? ⟨w.heap.size, 0, none⟩ = some x ∧ W.cell? ⟨w.heap.size + 1, 0, none⟩ = some y := by
  subst h
  refine ⟨by simp, ((Below.refl _ w).alloc (Nat.le_refl _) _).alloc (by simp) _, ?_, ?_⟩
  · simp [go_sem]
  · refine blk_cell (cs := #[y]) (t := ty) (i := 0) ?_ rfl
    have := heap_alloc_new (w.alloc (.cells #[x] tx)) (.cells #[y] ty)
    rw [World.size_alloc] at this; exact this
def LookPost (W : World) (b bm bp n wd now : Nat) (pins : Nat → Nat) (be bl bv k nv : Nat) (e : Ending) (w' : World) : Prop :=
  ∃ bw bn, e = .returned (.func (.func 46) #[] #[.pointer (some ⟨bw, 0, none⟩), .pointer (some ⟨be, 0, none⟩), .pointer (some ⟨bn, 0, none⟩), .pointer (some ⟨bl, 0, none⟩), .pointer (some ⟨bv, 0, none⟩)]) ∧ (W.heap.size ≤ bw ∧ W.heap.size ≤ bn) ∧ w'.cell? ⟨bw, 0, none⟩ = some (.int .i64 (k : Nat)) ∧ w'.cell? ⟨bn, 0, none⟩ = some (.int .u64 (nv : Nat)) ∧ EpAt w' b bm bp n wd now pins ∧ Touch (· = bm) W w'
theorem look_post {W w2 : World} {b bm bp n wd now : Nat} {pins : Nat → Nat} {be bl bv k nv : Nat} (hE : EpAt w2 b bm bp n wd now pins) (hT : Touch (· = bm) W w2) (hs : w2.heap.size = W.heap.size) {e : Ending} {w' : World}
    (he : e = .returned (.func (.func 46) #[] #[.pointer (some ⟨w2.heap.size, 0, none⟩), .pointer (some ⟨be, 0, none⟩), .pointer (some ⟨w2.heap.size + 1, 0, none⟩), .pointer (some ⟨bl, 0, none⟩), .pointer (some ⟨bv, 0, none⟩)])) (hw : w' = (w2.alloc (.cells #[.int .i64 (k : Nat)] 3)).alloc (.cells #[.int .u64 (nv : Nat)] 27)) :
    LookPost W b bm bp n wd now pins be bl bv k nv e w' := by
  obtain ⟨z, hb, c0, c1⟩ := alloc2 w2 _ _ _ _ w' hw
  subst hw
  exact ⟨_, _, he, ⟨by omega, by omega⟩, c0, c1, (hE.alloc _).alloc _, (hT.alloc _).alloc _⟩
set_option maxHeartbeats 2000000 in
theorem adv_start {W : World} {b bm bp n wd now : Nat} {pins : Nat → Nat} (h : EpAt W b bm bp n wd now pins) (be bl bv mv : Nat) (he : AdvEnv W be bl bv b mv) (h1 : be ≠ bm) (h3 : bl ≠ bm) :
    Calls Try.prog 48 #[.pointer (some ⟨bl, 0, none⟩), .pointer (some ⟨be, 0, none⟩)] W (LookPost W b bm bp n wd now pins be bl bv 0 now) := by
  have e0 : W.cell? ⟨b, 0, none⟩ = some (.pointer (some ⟨bm, 0, none⟩)) := by simp [World.cell?, h.blk]
  have e1 : W.cell? ⟨b, 1, none⟩ = some (.int .i64 (wd : Nat)) := by simp [World.cell?, h.blk]
  have c1 := he.e
  have c3 := he.l
  have l1 := lt_of_cell c1
  have l3 := lt_of_cell c3
  have hd1 := h.d1
  have l := h.lt
  have HL : Hd (∀ X : World, (∀ k, k < W.heap.size → X.heap[k]? = W.heap[k]?) → _) := ⟨fun X => load_ep h X⟩
  clear he h
  go_enter Try.func48, Try.ntmps48
  go_upto_region 1 with fail
  go_region_held3 (fun w' => w'.cell? ⟨bl, 0, none⟩ = some (.func (.func 45) #[] #[.pointer (some ⟨be, 0, none⟩), .pointer (some ⟨bl, 0, none⟩), .pointer (some ⟨bv, 0, none⟩)]) ∧ w'.cell? ⟨be, 0, none⟩ = some (.pointer (some ⟨b, 0, none⟩)) ∧ w'.cell? ⟨b, 0, none⟩ = some (.pointer (some ⟨bm, 0, none⟩)) ∧ w'.cell? ⟨b, 1, none⟩ = some (.int .i64 (wd : Nat)))
    (first | (simp [go_sem, *]; done))
    (first
      | (go_at_call 40; refine (HL.out W.drew (fun _ _ => rfl)).mono ?_; rintro e w2 ⟨rfl, hE, hT, hs⟩;
         have m3 := (hT.cell (p := ⟨bl, 0, none⟩) (by exact l3) (by exact h3)); have m4 := (hT.cell (p := ⟨be, 0, none⟩) (by exact l1) (by exact h1)); have m5 := (hT.cell (p := ⟨b, 0, none⟩) (by exact l.1) (by exact hd1)); have m6 := (hT.cell (p := ⟨b, 1, none⟩) (by exact l.1) (by exact hd1)); have HE : Hd _ := ⟨hE⟩; have HT : Hd _ := ⟨hT⟩; clear hE hT)
      | (go_at_call 45; refine (adv_look _ be bl bv 0 now).mono ?_; rintro e w3 ⟨rfl, rfl⟩))
  all_goals go_wp2
  all_goals go_ret
  all_goals exact look_post HE.out ((Touch.refl _ W).drew.trans HT.out) hs (by rw [show w2.heap.size = W.heap.size from hs]; rfl) rfl
set_option maxHeartbeats 2000000 in
/-- The epoch has moved: the pin begins anew. -/
theorem pin_again {W : World} {b bm bp n wd now : Nat} {pins : Nat → Nat} (h : EpAt W b bm bp n wd now pins) (be bw bh bn who nv : Nat) (he : PinEnv W be bw bh b who) (hn : W.cell? ⟨bn, 0, none⟩ = some (.int .u64 (nv : Nat))) (hne : now ≠ nv) (h1 : be ≠ bm) (h2 : bh ≠ bm) (h4 : bn ≠ bm) :
    Calls Try.prog 39 #[.pointer (some ⟨be, 0, none⟩), .pointer (some ⟨bn, 0, none⟩), .pointer (some ⟨bh, 0, none⟩)] W (HoldPost W b bm bp n wd now pins be bw bh) := by
  have e0 : W.cell? ⟨b, 0, none⟩ = some (.pointer (some ⟨bm, 0, none⟩)) := by simp [World.cell?, h.blk]
  have e1 : W.cell? ⟨b, 1, none⟩ = some (.int .i64 (wd : Nat)) := by simp [World.cell?, h.blk]
  have c1 := he.e
  have c3 := he.h
  have l1 := lt_of_cell c1
  have l3 := lt_of_cell c3
  have l4 := lt_of_cell hn
  have hd1 := h.d1
  have l := h.lt
  have HL : Hd (∀ X : World, (∀ k, k < W.heap.size → X.heap[k]? = W.heap[k]?) → _) := ⟨fun X => load_ep h X⟩
  clear he h
  go_enter Try.func39, Try.ntmps39
  go_upto_region 1 with fail
  go_cut [4] (fun u wx => u = .int .u64 (now : Nat) ∧ Hd (EpAt wx b bm bp n wd now pins ∧ Touch (· = bm) W wx ∧ wx.heap.size = W.heap.size))
  case first =>
    go_region_held3 (fun w' => w'.cell? ⟨be, 0, none⟩ = some (.pointer (some ⟨b, 0, none⟩)) ∧ w'.cell? ⟨b, 0, none⟩ = some (.pointer (some ⟨bm, 0, none⟩)) ∧ w'.cell? ⟨b, 1, none⟩ = some (.int .i64 (wd : Nat)))
      (first | (simp [go_sem, *]; done))
      (first
        | (go_at_call 40; refine (HL.out W.drew (fun _ _ => rfl)).mono ?_; rintro e w2 ⟨rfl, hE, hT, hs⟩;
           have m4 := (hT.cell (p := ⟨be, 0, none⟩) (by exact l1) (by exact h1)); have m5 := (hT.cell (p := ⟨b, 0, none⟩) (by exact l.1) (by exact hd1)); have m6 := (hT.cell (p := ⟨b, 1, none⟩) (by exact l.1) (by exact hd1)); have HE : Hd _ := ⟨hE⟩; have HT : Hd _ := ⟨hT⟩; clear hE hT))
    all_goals go_wp2_with fail
    all_goals go_meet
    all_goals exact ⟨rfl, ⟨HE.out, (Touch.refl _ W).drew.trans HT.out, hs⟩⟩
  case rest =>
    obtain ⟨rfl, HR⟩ := hcut
    have hn2 : wc.cell? ⟨bn, 0, none⟩ = some (.int .u64 (nv : Nat)) := (HR.out.2.1.cell (p := ⟨bn, 0, none⟩) l4 h4).trans hn
    have hh2 := (HR.out.2.1.cell (p := ⟨bh, 0, none⟩) l3 h2).trans c3
    have hb : (((now : Nat) : Int) != (nv : Nat)) = true := bne_iff_ne.2 (by omega)
    go_wp2_with (go_at_call 36; refine (pin_hold _ be bw bh now).mono ?_; rintro e w3 ⟨rfl, rfl⟩)
    go_ret
    have hz : W.heap.size = wc.heap.size := HR.out.2.2.symm
    exact ⟨wc.heap.size, rfl, Nat.le_of_eq hz, by simp [go_sem], HR.out.1.alloc _, HR.out.2.1.alloc _⟩
def AdvMade (W : World) (b : Nat) (e : Ending) (w' : World) : Prop :=
  ∃ mv ba be bl bv, e = .returned (.pointer (some ⟨mv, 0, none⟩)) ∧ (W.heap.size ≤ mv ∧ W.heap.size ≤ be ∧ W.heap.size ≤ bl ∧ W.heap.size ≤ bv ∧ W.heap.size ≤ ba) ∧ (ba ≠ mv ∧ ba ≠ be ∧ ba ≠ bl ∧ ba ≠ bv ∧ mv ≠ be ∧ mv ≠ bl ∧ mv ≠ bv) ∧
    ActAt w' ba (.func (.func 48) #[] #[.pointer (some ⟨bl, 0, none⟩), .pointer (some ⟨be, 0, none⟩)]) 0 ∧ AdvEnv w' be bl bv b mv ∧ MvAt w' mv ba false ∧ Below W.heap.size W w'
theorem builtMv : Try.prog.built 85 (#[] : Array (Nat × Value)).toList = some #[.pointer none, .bool false] := by kernel_rfl
theorem alloc4 (w : World) (x y1 y2 z u : Value) (tx ty tz tu : Nat) (W : World) (h : (((w.alloc (.cells #[x] tx)).alloc (.cells #[y1, y2] ty)).alloc (.cells #[z] tz)).alloc (.cells #[u] tu) = W) :
    W.heap.size = w.heap.size + 4 ∧ Below w.heap.size w W ∧ W.heap[w.heap.size]? = some (.cells #[x] tx (0, 0)) ∧ W.heap[w.heap.size + 1]? = some (.cells #[y1, y2] ty (0, 0)) ∧ W.heap[w.heap.size + 1 + 1]? = some (.cells #[z] tz (0, 0)) ∧ W.heap[w.heap.size + 1 + 1 + 1]? = some (.cells #[u] tu (0, 0)) := by
  subst h
  refine ⟨by simp, ((((Below.refl _ w).alloc (Nat.le_refl _) _).alloc (by simp) _).alloc (by simp; omega) _).alloc (by simp; omega) _, ?_, ?_, ?_, ?_⟩
  · rw [Below.heap_alloc _ _ _ (by simp; omega), Below.heap_alloc _ _ _ (by simp; omega), Below.heap_alloc _ _ _ (by simp)]
    exact heap_alloc_new w _
  · rw [Below.heap_alloc _ _ _ (by simp), Below.heap_alloc _ _ _ (by simp)]
    have := heap_alloc_new (w.alloc (.cells #[x] tx)) (.cells #[y1, y2] ty)
    rw [World.size_alloc] at this; exact this
  · rw [Below.heap_alloc _ _ _ (by simp)]
    have := heap_alloc_new ((w.alloc (.cells #[x] tx)).alloc (.cells #[y1, y2] ty)) (.cells #[z] tz)
    rw [World.size_alloc, World.size_alloc] at this; exact this
  · have := heap_alloc_new (((w.alloc (.cells #[x] tx)).alloc (.cells #[y1, y2] ty)).alloc (.cells #[z] tz)) (.cells #[u] tu)
    rw [World.size_alloc, World.size_alloc, World.size_alloc] at this; exact this
theorem adv_made {W W4 w3 : World} {b ba : Nat} {e : Ending} {w' : World} (h4 : W4.heap.size = W.heap.size + 4) (hbl : Below W.heap.size W W4)
    (c0 : W4.heap[W.heap.size]? = some (.cells #[.pointer (some ⟨b, 0, none⟩)] 46 (0, 0))) (c1 : W4.heap[W.heap.size + 1]? = some (.cells #[.pointer none, .bool false] 85 (0, 0))) (c2 : W4.heap[W.heap.size + 1 + 1]? = some (.cells #[.pointer (some ⟨W.heap.size + 1, 0, none⟩)] 78 (0, 0)))
    (c3 : W4.heap[W.heap.size + 1 + 1 + 1]? = some (.cells #[.func (.func 45) #[] #[.pointer (some ⟨W.heap.size, 0, none⟩), .pointer (some ⟨W.heap.size + 1 + 1 + 1, 0, none⟩), .pointer (some ⟨W.heap.size + 1 + 1, 0, none⟩)]] 106 (0, 0)))
    (hb : W4.heap.size = ba) (ha : ActAt w3 ba (.func (.func 48) #[] #[.pointer (some ⟨W.heap.size + 1 + 1 + 1, 0, none⟩), .pointer (some ⟨W.heap.size, 0, none⟩)]) 0) (hb3 : Below W4.heap.size W4 w3)
    (he : e = .returned (.pointer (some ⟨W.heap.size + 1, 0, none⟩))) (hw : w' = w3.setCell ⟨W.heap.size + 1, 0, none⟩ (.pointer (some ⟨ba, 0, none⟩))) : AdvMade W b e w' := by
  subst hw
  have k (j : Nat) (hj : j < W4.heap.size) (hne : j ≠ W.heap.size + 1) : (w3.setCell ⟨W.heap.size + 1, 0, none⟩ (.pointer (some ⟨ba, 0, none⟩))).heap[j]? = W4.heap[j]? := (Below.heap_setCell _ _ _ _ hne).trans (hb3.block j hj)
  refine ⟨_, ba, W.heap.size, W.heap.size + 1 + 1 + 1, W.heap.size + 1 + 1, he, ⟨by omega, by omega, by omega, by omega, by omega⟩, ⟨by omega, by omega, by omega, by omega, by omega, by omega, by omega⟩, ha.of_block (Below.heap_setCell _ _ _ _ (by show ba ≠ W.heap.size + 1; omega)), ⟨?_, ?_, ?_⟩, ?_, (hbl.trans (hb3.mono (by omega))).setCell (by show W.heap.size ≤ W.heap.size + 1; omega) _⟩
  · exact blk_cell ((k _ (by omega) (by omega)).trans c0) rfl
  · exact blk_cell ((k _ (by omega) (by omega)).trans c3) rfl
  · exact blk_cell ((k _ (by omega) (by omega)).trans c2) rfl
  · have c1' := (hb3.block _ (by omega)).trans c1
    unfold MvAt
    simp [World.setCell, Array.getElem?_modify, c1']
set_option maxHeartbeats 2000000 in
theorem adv_make (W : World) (b : Nat) :
    Calls Try.prog 30 #[.pointer (some ⟨b, 0, none⟩)] W (AdvMade W b) := by
  go_enter Try.func30, Try.ntmps30
  go_upto_region 4 with fail
  generalize hW : (((W.alloc _).alloc _).alloc _).alloc _ = W4
  obtain ⟨z4, b4, k0, k1, k2, k3⟩ := alloc4 W _ _ _ _ _ _ _ _ _ W4 hW
  have m2 := blk_cell k2 (i := 0) rfl
  have m1 := blk_cell k1 (i := 0) rfl
  have m1f := blk_free k1 0
  have B4 : Hd _ := ⟨b4⟩
  have K0 : Hd _ := ⟨k0⟩
  have K1 : Hd _ := ⟨k1⟩
  have K2 : Hd _ := ⟨k2⟩
  have K3 : Hd _ := ⟨k3⟩
  clear b4 k0 k1 k2 k3 hW
  go_region_with
    (go_at_call 41; refine (actNew_any _ (.inr ⟨_, _, rfl⟩) _).mono ?_; rintro e w3 ⟨ba, rfl, hb, ha, hbl, hs⟩;
     have n1 := (hbl.cell (p := ⟨W.heap.size + 1, 0, none⟩) (by show W.heap.size + 1 < W4.heap.size; omega)).trans m1; have n2 := (hbl.cell (p := ⟨W.heap.size + 1 + 1, 0, none⟩) (by show W.heap.size + 1 + 1 < W4.heap.size; omega)).trans m2;
     have n1f := (hbl.frozen (p := ⟨W.heap.size + 1, 0, none⟩) (by show W.heap.size + 1 < W4.heap.size; omega)).trans m1f; have HA : Hd _ := ⟨ha⟩; have HB : Hd _ := ⟨hbl⟩; clear ha hbl)
  all_goals go_wp2_with fail
  all_goals go_ret
  all_goals exact adv_made z4 B4.out K0.out K1.out K2.out K3.out hb HA.out ((Below.refl _ W4).drew.trans HB.out) rfl rfl
end Go.Proofs.Ytkjppffkjofamaa
