/- The contracts of the law's steps, and of Step at an act of them. No condition but those that each contract bears. -/
import Derived.Test.YthghndjfghdnnaaActSteps
namespace Go.Proofs.Ythghndjfghdnnaa
open Go.RowKit
def StepsPost (lb lo : Nat) (nm : Int) (j : Nat) (w : World) (e : Ending) (w' : World) : Prop :=
  ∃ b v, e = .returned (.pointer (some ⟨b, 0, none⟩)) ∧ w.heap.size ≤ b ∧ ActAt w' b v 0 ∧ NextIs w' lb lo nm j v (fun k => w.heap.size ≤ k ∧ k ≠ b) ∧ Below w.heap.size w w'
theorem steps_any (lb lo : Nat) (nm : Int) (j : Nat) (w : World) : Calls Try.prog 12 #[.int .i64 j, .int .i64 nm, .pointer (some ⟨lb, lo, none⟩)] w (StepsPost lb lo nm j w) := by
  by_cases hj : j = 0
  · subst hj
    go_enter Try.func12, Try.ntmps12
    go_wp2_with (go_at_call 14; refine (actNew_any .nilFunc (.inl rfl) _).mono ?_; rintro e w' ⟨b, rfl, hb, ha, hbl, hs⟩)
    go_ret
    exact ⟨_, _, rfl, by omega, ha, .inl ⟨rfl, rfl⟩, hbl⟩
  · have hj0 : 0 < j := by omega
    have hj1 : (0 : Int) < (j : Int) := by omega
    go_enter Try.func12, Try.ntmps12
    go_wp2_with fail
    refine (next_any lb lo nm j hj0 w).mono ?_
    rintro e w1 ⟨v, rfl, hn, hb1⟩
    go_wp2_with fail
    refine (actNew_any v hn.isStep w1).mono ?_
    rintro e w2 ⟨b, rfl, hb, ha, hbl, hs⟩
    go_wp2_with fail
    go_ret
    have hsz := hb1.size
    exact ⟨_, _, rfl, by omega, ha, hn.move (fun k hk _ => hbl.block k hk) (fun k hk ho => ⟨ho, by omega⟩), hb1.trans (hbl.mono hsz)⟩
def SteppedPost (base lb lo : Nat) (nm : Int) (j : Nat) (xs : List Int) (row : Option Nat) (b : Nat) (c : Int) (w : World) (e : Ending) (w' : World) : Prop :=
  ∃ v row', e = .returned (.bool (decide (j = 0))) ∧ ActAt w' b v (c + 1) ∧ NextIs w' lb lo nm j v (fun k => w.heap.size ≤ k ∧ some k ≠ row') ∧ LogAt w' base lb lo (xs ++ [nm]) row' ∧ (row' = row ∨ ∃ g, row' = some g ∧ w.heap.size ≤ g) ∧
    TouchL (fun k => k = b ∨ k = lb ∨ some k = row) lb lo w w'
theorem step_over (b : Nat) (c : Int) (w : World) (h : ActAt w b .nilFunc c) : Calls Try.prog 16 #[.pointer (some ⟨b, 0, none⟩)] w fun e w' => e = .returned (.bool true) ∧ w = w' := by
  go_enter Try.func16, Try.ntmps16
  go_wp2_with (go_at_call 15; refine (over_yes b c _ h).mono ?_; rintro e w' ⟨rfl, rfl⟩)
  go_ret
  exact ⟨rfl, rfl⟩
theorem step_none (w : World) : Calls Try.prog 16 #[.pointer none] w fun e w' => e = .returned (.bool true) ∧ w = w' := by
  go_enter Try.func16, Try.ntmps16
  go_wp2_with (go_at_call 15; refine (over_none _).mono ?_; rintro e w' ⟨rfl, rfl⟩)
  go_ret
  exact ⟨rfl, rfl⟩
theorem ActAt.counted {w : World} {b : Nat} {v : Value} {c : Int} (h : ActAt w b v c) (x : Int) : ActAt (w.setCell ⟨b, 1, none⟩ (.int .i64 x)) b v x :=
  ⟨by rw [setCell_get _ _ _ _ _ _ h.count, if_neg (by omega)]; exact h.next, by rw [setCell_get _ _ _ _ _ _ h.count, if_pos rfl], fun i => by rw [World.frozen?_setCell]; exact h.free i⟩
theorem ActAt.nexted {w : World} {b : Nat} {v : Value} {c : Int} (h : ActAt w b v c) (v' : Value) : ActAt (w.setCell ⟨b, 0, none⟩ v') b v' c :=
  ⟨by rw [setCell_get _ _ _ _ _ _ h.next, if_pos rfl], by rw [setCell_get _ _ _ _ _ _ h.next, if_neg (by omega)]; exact h.count, fun i => by rw [World.frozen?_setCell]; exact h.free i⟩
theorem touch_set (w : World) (b i : Nat) (u : Value) : Touch (· = b) w (w.setCell ⟨b, i, none⟩ u) := (Touch.refl (· = b) w).setCell (p := ⟨b, i, none⟩) (.inl rfl) u
set_option maxHeartbeats 1000000 in
theorem step_any (base lb lo : Nat) (nm : Int) (j : Nat) (xs : List Int) (row : Option Nat) (b : Nat) (c : Int) (v : Value) (ok : Nat → Prop) (w : World) (ha : ActAt w b v c) (hn : NextIs w lb lo nm (j + 1) v ok)
    (hok : ∀ k, ok k → k ≠ b ∧ k ≠ lb ∧ some k ≠ row) (hl : LogAt w base lb lo xs row) (hx : xs.length ≤ 100000) (hbase : base ≤ w.heap.size) (hlr : some lb ≠ row) (hbl : b ≠ lb) (hbr : some b ≠ row) (hjb : j ≤ 1000) (hc0 : 0 ≤ c) (hc1 : c ≤ 100000) :
    Calls Try.prog 16 #[.pointer (some ⟨b, 0, none⟩)] w (SteppedPost base lb lo nm j xs row b c w) := by
  rcases hn with ⟨h0, _⟩ | ⟨_, b1, b2, b3, rfl, ⟨o1, o2, o3⟩, c1, c2, c3⟩
  · omega
  have t1 := touch_set w b 1 (.int .i64 (c + 1))
  have l1 := lt_of_cell c1
  have l2 := lt_of_cell c2
  have l3 := lt_of_cell c3
  have ll : lb < w.heap.size := by obtain ⟨v, hv, _⟩ := hl; exact lt_of_cell hv
  have hc : w.cell? ⟨b, 1, none⟩ = some (.int .i64 c) := ha.count
  have hnx := (ha.counted (c + 1)).next
  have f1 := ha.free 1
  have f0 := ha.free 0
  have st := nextStep_any base lb lo nm j xs row b1 b2 b3 (w.setCell ⟨b, 1, none⟩ (.int .i64 (c + 1))) (hl.touch t1 (Ne.symm hbl) (fun k hk e => hbr (by rw [hk, e]))) hx (by simpa using hbase) hlr hjb
    ((t1.cell (p := ⟨b1, 0, none⟩) l1 (hok _ o1).1).trans c1) ((t1.cell (p := ⟨b2, 0, none⟩) l2 (hok _ o2).1).trans c2) ((t1.cell (p := ⟨b3, 0, none⟩) l3 (hok _ o3).1).trans (by simpa using c3)) (hok _ o1).2 (hok _ o2).2 (hok _ o3).2
  have HS : Hd _ := ⟨st⟩
  have HA : Hd _ := ⟨ha⟩
  have hbz : b < w.heap.size := ha.lt
  clear st c1 c2 c3 hl ha
  go_enter Try.func16, Try.ntmps16
  go_wp2_with (go_at_call 15; refine (over_no b c _ _ _ HA.out).mono ?_; rintro e w' ⟨rfl, rfl⟩)
  refine HS.out.mono ?_
  rintro e w2 ⟨v', row', rfl, hn', hl', hr', ht⟩
  have ha2 : ActAt w2 b (.func (.func 45) #[] #[.pointer (some ⟨b1, 0, none⟩), .pointer (some ⟨b2, 0, none⟩), .pointer (some ⟨b3, 0, none⟩)]) (c + 1) := (HA.out.counted (c + 1)).touch ht.toTouch (fun e => e.elim hbl hbr)
  have hnx2 := ha2.next
  have f2 := ha2.free 0
  have ha3 := ha2.nexted v'
  have t3 := touch_set w2 b 0 v'
  have hbr' : some b ≠ row' := by
    rcases hr' with h | ⟨g, h, hg⟩
    · rw [h]; exact hbr
    · rw [h]; intro e; cases e; simp at hg; omega
  have hz2 := ht.size
  simp at hz2
  have hlw : LogAt (w2.setCell ⟨b, 0, none⟩ v') base lb lo (xs ++ [nm]) row' := hl'.touch t3 (Ne.symm hbl) (fun k hk e => hbr' (by rw [hk, e]))
  have hnw : NextIs (w2.setCell ⟨b, 0, none⟩ v') lb lo nm j v' (fun k => w.heap.size ≤ k ∧ some k ≠ row') := hn'.move (fun k hk ho => t3.block k hk (by simp at ho; omega)) (fun k hk ho => by simpa using ho)
  have hT : TouchL (fun k => k = b ∨ k = lb ∨ some k = row) lb lo w (w2.setCell ⟨b, 0, none⟩ v') := ⟨((t1.mono (fun k _ h => .inl h)).step ht.toTouch (fun k _ h => .inr h)).step t3 (fun k _ h => .inl h), fun o ho => by
    have hz := ht.size
    simp at hz
    refine ⟨(t3.cell (p := ⟨lb, o, none⟩) (by show lb < _; omega) (Ne.symm hbl)).trans (((ht.others o ho).1).trans (t1.cell (p := ⟨lb, o, none⟩) ll (Ne.symm hbl))), (t3.frozen (p := ⟨lb, o, none⟩) (by show lb < _; omega) (Ne.symm hbl)).trans (((ht.others o ho).2).trans (t1.frozen (p := ⟨lb, o, none⟩) ll (Ne.symm hbl)))⟩⟩
  have HR : Hd _ := ⟨hr'⟩
  have HR2 : Hd (row' = row ∨ ∃ g, row' = some g ∧ w.heap.size ≤ g) := ⟨by simpa using hr'⟩
  have H3 : Hd _ := ⟨ha3⟩
  have HL : Hd _ := ⟨hlw⟩
  have HN : Hd _ := ⟨hnw⟩
  clear hr' ha3 hlw hnw hl' HS HA ha2
  rcases hn' with ⟨rfl, rfl⟩ | ⟨hj, d1, d2, d3, rfl, _⟩
  · go_wp2_with (go_at_call 15; refine (over_yes b (c + 1) _ H3.out).mono ?_; rintro e w' ⟨rfl, rfl⟩)
    go_ret
    exact ⟨_, row', rfl, H3.out, HN.out, HL.out, HR2.out, hT⟩
  · go_wp2_with (go_at_call 15; refine (over_no b (c + 1) _ _ _ H3.out).mono ?_; rintro e w' ⟨rfl, rfl⟩)
    go_ret
    exact ⟨_, row', by rw [decide_eq_false (by omega)]; rfl, H3.out, HN.out, HL.out, HR2.out, hT⟩
end Go.Proofs.Ythghndjfghdnnaa
