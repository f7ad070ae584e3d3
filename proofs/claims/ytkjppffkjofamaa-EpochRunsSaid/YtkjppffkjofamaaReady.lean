/- Package epoch: Limbo's Ready. No condition but those that it bears. -/
import Derived.Test.YtkjppffkjofamaaLimbo
set_option linter.unusedVariables false
set_option linter.unusedSimpArgs false
namespace Go.Proofs.Ytkjppffkjofamaa
open Go.RowKit Go.Shelf
def isRdy (ep : Int) (p : Int × Int) : Bool := decide (2 ≤ ep ∧ p.1 ≤ ep - 2)
def kth (ks : List (Int × Int)) (k : Nat) : Int × Int := ks.getD k (0, 0)
def rdy (ks : List (Int × Int)) (ep : Int) : Nat → List Int
  | 0 => []
  | k + 1 => if isRdy ep (kth ks k) then rdy ks ep k ++ [(kth ks k).2] else rdy ks ep k
def lft (ks : List (Int × Int)) (ep : Int) : Nat → List (Int × Int)
  | 0 => []
  | k + 1 => if isRdy ep (kth ks k) then lft ks ep k else lft ks ep k ++ [kth ks k]
theorem rdy_le (ks : List (Int × Int)) (ep : Int) : ∀ k, (rdy ks ep k).length ≤ k ∧ (lft ks ep k).length ≤ k
  | 0 => ⟨Nat.le_refl _, Nat.le_refl _⟩
  | k + 1 => by
    obtain ⟨h1, h2⟩ := rdy_le ks ep k
    unfold rdy lft
    split
    · rw [List.length_append]; exact ⟨by simp; omega, by omega⟩
    · rw [List.length_append]; exact ⟨by omega, by simp; omega⟩
theorem rdy_yes {ks : List (Int × Int)} {ep : Int} {k : Nat} (h : isRdy ep (kth ks k) = true) : rdy ks ep (k + 1) = rdy ks ep k ++ [(kth ks k).2] ∧ lft ks ep (k + 1) = lft ks ep k := ⟨if_pos h, if_pos h⟩
theorem rdy_no {ks : List (Int × Int)} {ep : Int} {k : Nat} (h : isRdy ep (kth ks k) = false) : rdy ks ep (k + 1) = rdy ks ep k ∧ lft ks ep (k + 1) = lft ks ep k ++ [kth ks k] := ⟨if_neg (by rw [h]; decide), if_neg (by rw [h]; decide)⟩
theorem kcs_get : ∀ (ks : List (Int × Int)) (k : Nat), k < ks.length → (kcs ks)[k * 2]? = some (.int .u64 (kth ks k).1) ∧ (kcs ks)[k * 2 + 1]? = some (.int .i64 (kth ks k).2)
  | [], k, h => absurd h (Nat.not_lt_zero k)
  | p :: ks, 0, _ => ⟨rfl, rfl⟩
  | p :: ks, k + 1, h => by
    have ih := kcs_get ks k (by simpa using h)
    rw [show (k + 1) * 2 = k * 2 + 1 + 1 by omega, show kth (p :: ks) (k + 1) = kth ks k by simp [kth]]
    exact ih
theorem kcs_length (ks : List (Int × Int)) : (kcs ks).length = ks.length * 2 := by
  induction ks with
  | nil => rfl
  | cons p ks ih => rw [show kcs (p :: ks) = [.int .u64 p.1, .int .i64 p.2] ++ kcs ks from rfl, List.length_append, ih]; simp; omega
theorem row_kept {w : World} {base : Nat} {v : Value} {ks : List (Int × Int)} (h : w.ownsRow base 76 2 v ks.length (kcs ks)) (k : Nat) (hk : k < ks.length) : ∃ g cap, v = .slice (some ⟨g, 0, none⟩) ks.length cap ∧ w.cell? ⟨g, k * 2, none⟩ = some (.int .u64 (kth ks k).1) ∧ w.cell? ⟨g, k * 2 + 1, none⟩ = some (.int .i64 (kth ks k).2) := by
  rcases h.2 with ⟨_, h0⟩ | ⟨g, cap, cur, hv, hb, hg, _, _, hc, ht⟩
  · omega
  · refine ⟨g, cap, hv, ?_, ?_⟩
    · obtain ⟨h1, _⟩ := kcs_get ks k hk
      rw [← ht, List.getElem?_take, if_pos (by omega), Array.getElem?_toList] at h1
      exact blk_cell hg h1
    · obtain ⟨_, h1⟩ := kcs_get ks k hk
      rw [← ht, List.getElem?_take, if_pos (by omega), Array.getElem?_toList] at h1
      exact blk_cell hg h1
/-- While the kept are parted. -/
structure RdyAt (W wr : World) (ks : List (Int × Int)) (ep : Int) (k : Nat) (vo vl : Value) : Prop where
  out : wr.ownsRow W.heap.size 3 1 vo (rdy ks ep k).length ((rdy ks ep k).map (Value.int .i64))
  left : wr.ownsRow W.heap.size 76 2 vl (lft ks ep k).length (kcs (lft ks ep k))
  apart : ∀ x, vo.ownBlock = some x → vl.ownBlock ≠ some x
  below : Below W.heap.size W wr
theorem owns_lt {w : World} {base : Nat} {e : TypeId} {size n : Nat} {v : Value} {xs : List Value} (h : w.ownsRow base e size v n xs) : ∀ k, v.ownBlock = some k → base ≤ k ∧ k < w.heap.size := by
  intro k hk
  rcases h.2 with ⟨e, _⟩ | ⟨g, _, cur, e, hb, hg, _⟩
  · subst e; cases hk
  · subst e; cases hk; exact ⟨hb, (Array.getElem?_eq_some_iff.1 hg).1⟩
theorem owns_alloc {w : World} {base : Nat} {e : TypeId} {size n : Nat} {v : Value} {xs : List Value} (h : w.ownsRow base e size v n xs) (o : Obj) : (w.alloc o).ownsRow base e size v n xs :=
  ownsRow_of_block h (fun k hk => Below.heap_alloc w o k (owns_lt h k hk).2)
theorem RdyAt.yes {W wr w1 : World} {ks : List (Int × Int)} {ep : Int} {k g cap : Nat} {vo vl : Value} {o o2 : Obj} (h : RdyAt W wr ks ep k vo vl) (hr : isRdy ep (kth ks k) = true)
    (hown : w1.ownsRow W.heap.size 3 1 (.slice (some ⟨g, 0, none⟩) ((rdy ks ep k).length + 1) cap) ((rdy ks ep k).length + 1) ((rdy ks ep k).map (Value.int .i64) ++ [.int .i64 (kth ks k).2])) (hgrow : World.grownBy ((wr.alloc o).alloc o2) w1 vo.ownBlock) (hat : vo.ownBlock = some g ∨ g = wr.heap.size + 1 + 1) :
    RdyAt W w1 ks ep (k + 1) (.slice (some ⟨g, 0, none⟩) ((rdy ks ep k).length + 1) cap) vl := by
  obtain ⟨e1, e2⟩ := rdy_yes hr
  have hz := h.below.size
  have a2 := (Below.refl wr.heap.size wr).alloc (Nat.le_refl _) o |>.alloc (by simp) o2
  have hb : Below W.heap.size W w1 := by
    refine (h.below.trans (a2.mono hz)).trans ⟨hgrow.os, hgrow.tape, hgrow.output, hgrow.size, fun j hj => hgrow.block j (by simp; omega) (fun e => ?_)⟩
    have := owns_lt h.out j e.symm; omega
  refine ⟨?_, ?_, fun x hx => ?_, hb⟩
  · rw [e1, List.length_append, List.map_append]; exact hown
  · rw [e2]
    refine ownsRow_of_block h.left (fun j hj => ?_)
    have hl := owns_lt h.left j hj
    exact (hgrow.block j (by simp; omega) (fun e => h.apart j e.symm hj)).trans (a2.block j hl.2)
  · cases hx
    rcases hat with e | e
    · exact h.apart g e
    · intro e2; have := owns_lt h.left g e2; omega
theorem RdyAt.no {W wr w1 : World} {ks : List (Int × Int)} {ep : Int} {k g cap : Nat} {vo vl : Value} {o o2 : Obj} (h : RdyAt W wr ks ep k vo vl) (hr : isRdy ep (kth ks k) = false)
    (hown : w1.ownsRow W.heap.size 76 2 (.slice (some ⟨g, 0, none⟩) ((lft ks ep k).length + 1) cap) ((lft ks ep k).length + 1) (kcs (lft ks ep k) ++ [.int .u64 (kth ks k).1, .int .i64 (kth ks k).2])) (hgrow : World.grownBy ((wr.alloc o).alloc o2) w1 vl.ownBlock) (hat : vl.ownBlock = some g ∨ g = wr.heap.size + 1 + 1) :
    RdyAt W w1 ks ep (k + 1) vo (.slice (some ⟨g, 0, none⟩) ((lft ks ep k).length + 1) cap) := by
  obtain ⟨e1, e2⟩ := rdy_no hr
  have hz := h.below.size
  have a2 := (Below.refl wr.heap.size wr).alloc (Nat.le_refl _) o |>.alloc (by simp) o2
  have hb : Below W.heap.size W w1 := by
    refine (h.below.trans (a2.mono hz)).trans ⟨hgrow.os, hgrow.tape, hgrow.output, hgrow.size, fun j hj => hgrow.block j (by simp; omega) (fun e => ?_)⟩
    have := owns_lt h.left j e.symm; omega
  refine ⟨?_, ?_, fun x hx e3 => ?_, hb⟩
  · rw [e1]
    refine ownsRow_of_block h.out (fun j hj => ?_)
    have hl := owns_lt h.out j hj
    exact (hgrow.block j (by simp; omega) (fun e => h.apart j hj e.symm)).trans (a2.block j hl.2)
  · rw [e2, List.length_append, kcs_snoc]; exact hown
  · cases e3
    rcases hat with e | e
    · exact h.apart g hx e
    · have := owns_lt h.out g hx; omega
/-- What Ready leaves: what is ready in a row of its own, the rest kept. -/
def ReadyPost (W : World) (lb : Nat) (ks : List (Int × Int)) (ep : Int) (e : Ending) (w' : World) : Prop :=
  ∃ vo row, e = .returned vo ∧ w'.ownsRow W.heap.size 3 1 vo (rdy ks ep ks.length).length ((rdy ks ep ks.length).map (Value.int .i64)) ∧ LimboAt w' lb W.heap.size (lft ks ep ks.length) row ∧ Touch (fun k => k = lb) W w' ∧ vo.ownBlock ≠ some lb ∧ ∀ x, vo.ownBlock = some x → row ≠ some x
theorem RdyAt.done {W wr : World} {lb : Nat} {ks : List (Int × Int)} {ep : Int} {vo vl v : Value} (h : RdyAt W wr ks ep ks.length vo vl) (hl : wr.heap[lb]? = some (.cells #[v] 25 (0, 0))) (hb : lb < W.heap.size) :
    ReadyPost W lb ks ep (.returned vo) (wr.setCell ⟨lb, 0, none⟩ vl) := by
  have nl : ∀ j, W.heap.size ≤ j → (wr.setCell ⟨lb, 0, none⟩ vl).heap[j]? = wr.heap[j]? := fun j hj => Below.heap_setCell _ _ _ _ (by show j ≠ lb; omega)
  refine ⟨vo, vl.ownBlock, rfl, ownsRow_of_block h.out (fun j hj => nl j (owns_lt h.out j hj).1), ⟨⟨vl, ?_, ownsRow_of_block h.left (fun j hj => nl j (owns_lt h.left j hj).1), rfl⟩, fun e => by have := owns_lt h.left lb e; omega⟩, (Touch.of_below h.below (fun k => k = lb)).setCell (p := ⟨lb, 0, none⟩) (.inl rfl) _, fun e => by have := owns_lt h.out lb e; omega, fun x hx => h.apart x hx⟩
  simp [World.setCell, Array.getElem?_modify, hl]
set_option maxRecDepth 100000 in
set_option maxHeartbeats 4000000 in
theorem limbo_ready {W : World} {lb base : Nat} {ks : List (Int × Int)} {row : Option Nat} (h : LimboAt W lb base ks row) (ep : Int) (he0 : 0 ≤ ep) (he1 : ep < 18446744073709551616) (hks : ks.length ≤ 100000) :
    Calls Try.prog 12 #[.pointer (some ⟨lb, 0, none⟩), .int .u64 ep] W (ReadyPost W lb ks ep) := by
  obtain ⟨i0, hi, hz0, hz1, hz2⟩ := info_parts info_kept
  obtain ⟨i1, hj, hy0, hy1, hy2⟩ := info_parts info_int6
  obtain ⟨v, hv, ho, hr⟩ := h.v
  obtain ⟨A, c, rfl⟩ := ownsRow_slice ho
  have c0 := blk_cell hv (i := 0) rfl
  have llb := h.lt
  have HO : Hd _ := ⟨ho⟩
  have HV : Hd _ := ⟨hv⟩
  clear ho hv h hr
  go_enter Try.func12, Try.ntmps12
  go_wp2
  go_loopw [5, 6, 14] (fun vo vl i wr => ∃ k : Nat, k ≤ ks.length ∧ i = .int .i64 k ∧ Hd (RdyAt W wr ks ep k vo vl)) (fun _ _ i _ => ks.length - (intOf i).toNat)
  case atStart => exact ⟨0, Nat.zero_le _, rfl, ⟨⟨World.ownsRow_nil _ _ _ _, World.ownsRow_nil _ _ _ _, fun x hx => (by cases hx), Below.refl _ _⟩⟩⟩
  case round =>
    obtain ⟨k, hk, rfl, HR⟩ := hrel
    have hle := rdy_le ks ep k
    by_cases hlt : k < ks.length
    · obtain ⟨g, cap, hvv, x0, x1⟩ := row_kept HO.out k hlt
      cases hvv
      have hg : g < W.heap.size := lt_of_cell x0
      replace x0 := (HR.out.below.cell (p := ⟨g, k * 2, none⟩) hg).trans x0
      replace x1 := (HR.out.below.cell (p := ⟨g, k * 2 + 1, none⟩) hg).trans x1
      have hlo : (0 : Int) ≤ (k : Int) := by omega
      have hhi : (k : Int) < (ks.length : Int) := by omega
      have HL : Hd _ := ⟨hle⟩
      clear hle
      have O1 := fun o o2 => (Hd.mk (owns_alloc (owns_alloc HR.out.out o) o2) : Hd _)
      have O2 := fun o o2 => (Hd.mk (owns_alloc (owns_alloc HR.out.left o) o2) : Hd _)
      have zr := HR.out.below.size
      have N1 := fun (o : Obj) (cs : Array Value) (t : Nat) => (Hd.mk (by have := heap_alloc_new (wr.alloc o) (.cells cs t); rwa [World.size_alloc] at this) : Hd (((wr.alloc o).alloc (.cells cs t)).heap[wr.heap.size + 1]? = some (.cells cs t (0, 0))))
      obtain ⟨q1, hq1⟩ : ∃ q1, (kth ks k).1 = q1 := ⟨_, rfl⟩
      obtain ⟨q2, hq2⟩ : ∃ q2, (kth ks k).2 = q2 := ⟨_, rfl⟩
      rw [hq1] at x0
      rw [hq2] at x1
      have HQ1 : Hd _ := ⟨hq1⟩
      have HQ2 : Hd _ := ⟨hq2⟩
      clear hq1 hq2
      by_cases h2 : 2 ≤ ep
      · have hw : IntKind.u64.wrap (ep - 2) = ep - 2 := by rw [IntKind.wrap_u64]; omega
        by_cases h3 : q1 ≤ ep - 2
        · have hrd : Hd (isRdy ep (kth ks k) = true) := ⟨by unfold isRdy; rw [HQ1.out]; exact decide_eq_true ⟨h2, h3⟩⟩
          go_wp2_with (first
            | (at_builtin; refine wpList_append_lies _ rfl _ _ 28 rfl W.heap.size 3 i1 (.int .i64 0) 1 8 Try.underlying28 hj hy0 hy1 hy2 rfl (by decide) u5 (rdy ks ep k).length ((rdy ks ep k).map (Value.int .i64)) rfl (O1 _ _).out ⟨wr.heap.size + 1, 0, none⟩ 1 1 [.int .i64 q2] rfl rfl (World.news_of_block (cs := #[.int .i64 q2]) (t := 3) (fr := (0, 0)) (N1 _ _ _).out) (by simp [Value.oneCell']) (by omega) (by have := HL.out.1; unfold maxLen; omega) (by have := HL.out.1; omega) (by simp; omega) (wr.heap.size + 1 + 1) (by simp) ?_; intro g1 cap1 w1 hown hgrow hat hlt1;
               have HW : Hd _ := ⟨hown⟩; have HG : Hd _ := ⟨hgrow⟩; clear hown hgrow))
          have P := HR.out.yes hrd.out (by rw [HQ2.out]; exact HW.out) HG.out hat
          have HPP : Hd _ := ⟨P⟩
          clear P
          go_roundw
          case rel => exact ⟨k + 1, by omega, by go_num, HPP⟩
          case measure => simp [intOf]; omega
        · have hrd : Hd (isRdy ep (kth ks k) = false) := ⟨by unfold isRdy; rw [HQ1.out]; exact decide_eq_false (fun e => h3 e.2)⟩
          go_wp2_with (first
            | (at_builtin; refine wpList_append_lies _ rfl _ _ 23 rfl W.heap.size 76 i0 (.agg #[.int .u64 0, .int .i64 0]) 2 16 Try.underlying23 hi hz0 hz1 hz2 rfl (by decide) u6 (lft ks ep k).length (kcs (lft ks ep k)) rfl (O2 _ _).out ⟨wr.heap.size + 1, 0, none⟩ 1 1 [.int .u64 q1, .int .i64 q2] rfl rfl (World.news_of_block (cs := #[.int .u64 q1, .int .i64 q2]) (t := 76) (fr := (0, 0)) (N1 _ _ _).out) (by simp [Value.oneCell']) (by omega) (by have := HL.out.2; unfold maxLen; omega) (by have := HL.out.2; omega) (by simp; omega) (wr.heap.size + 1 + 1) (by simp) ?_; intro g1 cap1 w1 hown hgrow hat hlt1;
               have HW : Hd _ := ⟨hown⟩; have HG : Hd _ := ⟨hgrow⟩; clear hown hgrow))
          have P := HR.out.no hrd.out (by rw [HQ1.out, HQ2.out]; exact HW.out) HG.out hat
          have HPP : Hd _ := ⟨P⟩
          clear P
          go_roundw
          case rel => exact ⟨k + 1, by omega, by go_num, HPP⟩
          case measure => simp [intOf]; omega
      · have hrd : Hd (isRdy ep (kth ks k) = false) := ⟨by unfold isRdy; exact decide_eq_false (fun e => h2 e.1)⟩
        go_wp2_with (first
          | (at_builtin; refine wpList_append_lies _ rfl _ _ 23 rfl W.heap.size 76 i0 (.agg #[.int .u64 0, .int .i64 0]) 2 16 Try.underlying23 hi hz0 hz1 hz2 rfl (by decide) u6 (lft ks ep k).length (kcs (lft ks ep k)) rfl (O2 _ _).out ⟨wr.heap.size + 1, 0, none⟩ 1 1 [.int .u64 q1, .int .i64 q2] rfl rfl (World.news_of_block (cs := #[.int .u64 q1, .int .i64 q2]) (t := 76) (fr := (0, 0)) (N1 _ _ _).out) (by simp [Value.oneCell']) (by omega) (by have := HL.out.2; unfold maxLen; omega) (by have := HL.out.2; omega) (by simp; omega) (wr.heap.size + 1 + 1) (by simp) ?_; intro g1 cap1 w1 hown hgrow hat hlt1;
             have HW : Hd _ := ⟨hown⟩; have HG : Hd _ := ⟨hgrow⟩; clear hown hgrow))
        have P := HR.out.no hrd.out (by rw [HQ1.out, HQ2.out]; exact HW.out) HG.out hat
        have HPP : Hd _ := ⟨P⟩
        clear P
        go_roundw
        case rel => exact ⟨k + 1, by omega, by go_num, HPP⟩
        case measure => simp [intOf]; omega
    · obtain rfl : k = ks.length := by omega
      have hl2 : wr.heap[lb]? = _ := (HR.out.below.block lb llb).trans HV.out
      have hfz := blk_free hl2 0
      have hcc := blk_cell hl2 (i := 0) rfl
      have HL2 : Hd _ := ⟨hl2⟩
      obtain ⟨Al, cl, rfl⟩ := ownsRow_slice HR.out.left
      clear hl2 hle
      go_wp2_with fail
      go_ret
      exact HR.out.done HL2.out llb
end Go.Proofs.Ytkjppffkjofamaa
