/- The reference's Ready and Same. No condition but those that each contract bears. -/
import Derived.Test.YtkjppffkjofamaaReady
import Derived.Deep.QuietTactic
import Derived.BigQuiet
set_option linter.unusedVariables false
namespace Go.Proofs.Ytkjppffkjofamaa
open Go.RowKit Go.Shelf
theorem info_ref : (Try.prog.info? 33).map (fun i => (i.zero, i.size, i.bytes)) = some (some (.agg #[.int .u64 0, .int .i64 0]), 2, 16) := by kernel_rfl
theorem ref_row {w : World} {base : Nat} {v : Value} {ks : List (Int × Int)} (h : w.ownsRow base 33 2 v ks.length (kcs ks)) (k : Nat) (hk : k < ks.length) : ∃ g cap, v = .slice (some ⟨g, 0, none⟩) ks.length cap ∧ w.cell? ⟨g, k * 2, none⟩ = some (.int .u64 (kth ks k).1) ∧ w.cell? ⟨g, k * 2 + 1, none⟩ = some (.int .i64 (kth ks k).2) := by
  rcases h.2 with ⟨_, h0⟩ | ⟨g, cap, cur, hv, hb, hg, _, _, hc, ht⟩
  · omega
  · refine ⟨g, cap, hv, ?_, ?_⟩
    · obtain ⟨h1, _⟩ := kcs_get ks k hk
      rw [← ht, List.getElem?_take, if_pos (by omega), Array.getElem?_toList] at h1
      exact blk_cell hg h1
    · obtain ⟨_, h1⟩ := kcs_get ks k hk
      rw [← ht, List.getElem?_take, if_pos (by omega), Array.getElem?_toList] at h1
      exact blk_cell hg h1
/-- While the kept are parted, at the reference. -/
structure RefAt (W wr : World) (ks : List (Int × Int)) (ep : Int) (k : Nat) (vo vl : Value) : Prop where
  out : wr.ownsRow W.heap.size 3 1 vo (rdy ks ep k).length ((rdy ks ep k).map (Value.int .i64))
  left : wr.ownsRow W.heap.size 33 2 vl (lft ks ep k).length (kcs (lft ks ep k))
  apart : ∀ x, vo.ownBlock = some x → vl.ownBlock ≠ some x
  below : Below W.heap.size W wr
theorem RefAt.yes {W wr w1 : World} {ks : List (Int × Int)} {ep : Int} {k g cap : Nat} {vo vl : Value} {o : Obj} (h : RefAt W wr ks ep k vo vl) (hr : isRdy ep (kth ks k) = true)
    (hown : w1.ownsRow W.heap.size 3 1 (.slice (some ⟨g, 0, none⟩) ((rdy ks ep k).length + 1) cap) ((rdy ks ep k).length + 1) ((rdy ks ep k).map (Value.int .i64) ++ [.int .i64 (kth ks k).2])) (hgrow : World.grownBy (wr.alloc o) w1 vo.ownBlock) (hat : vo.ownBlock = some g ∨ g = wr.heap.size + 1) :
    RefAt W w1 ks ep (k + 1) (.slice (some ⟨g, 0, none⟩) ((rdy ks ep k).length + 1) cap) vl := by
  obtain ⟨e1, e2⟩ := rdy_yes hr
  have hz := h.below.size
  have a2 := (Below.refl wr.heap.size wr).alloc (Nat.le_refl _) o
  have hb : Below W.heap.size W w1 := by
    refine (h.below.trans (a2.mono hz)).trans ⟨hgrow.os, hgrow.tape, hgrow.output, hgrow.size, fun j hj => hgrow.block j (by simp; omega) (fun e => ?_)⟩
    have := owns_lt h.out j e.symm; omega
  refine ⟨?_, ?_, fun x hx => ?_, hb⟩
  · rw [e1, List.length_append, List.map_append]; exact hown
  · rw [e2]
    refine ownsRow_of_block h.left (fun j hj => ?_)
    have hl := owns_lt h.left j hj
    exact (hgrow.block j (by simp; omega) (fun e => h.apart j e.symm hj)).trans (a2.block j hl.2)
  · cases hx
    rcases hat with e | e
    · exact h.apart g e
    · intro e2; have := owns_lt h.left g e2; omega
theorem RefAt.no {W wr w1 : World} {ks : List (Int × Int)} {ep : Int} {k g cap : Nat} {vo vl : Value} {o : Obj} (h : RefAt W wr ks ep k vo vl) (hr : isRdy ep (kth ks k) = false)
    (hown : w1.ownsRow W.heap.size 33 2 (.slice (some ⟨g, 0, none⟩) ((lft ks ep k).length + 1) cap) ((lft ks ep k).length + 1) (kcs (lft ks ep k) ++ [.int .u64 (kth ks k).1, .int .i64 (kth ks k).2])) (hgrow : World.grownBy (wr.alloc o) w1 vl.ownBlock) (hat : vl.ownBlock = some g ∨ g = wr.heap.size + 1) :
    RefAt W w1 ks ep (k + 1) vo (.slice (some ⟨g, 0, none⟩) ((lft ks ep k).length + 1) cap) := by
  obtain ⟨e1, e2⟩ := rdy_no hr
  have hz := h.below.size
  have a2 := (Below.refl wr.heap.size wr).alloc (Nat.le_refl _) o
  have hb : Below W.heap.size W w1 := by
    refine (h.below.trans (a2.mono hz)).trans ⟨hgrow.os, hgrow.tape, hgrow.output, hgrow.size, fun j hj => hgrow.block j (by simp; omega) (fun e => ?_)⟩
    have := owns_lt h.left j e.symm; omega
  refine ⟨?_, ?_, fun x hx e3 => ?_, hb⟩
  · rw [e1]
    refine ownsRow_of_block h.out (fun j hj => ?_)
    have hl := owns_lt h.out j hj
    exact (hgrow.block j (by simp; omega) (fun e => h.apart j hj e.symm)).trans (a2.block j hl.2)
  · rw [e2, List.length_append, kcs_snoc]; exact hown
  · cases e3
    rcases hat with e | e
    · exact h.apart g hx e
    · have := owns_lt h.out g hx; omega
/-- What the reference's Ready leaves: two rows of its own. -/
def RefPost (W : World) (ks : List (Int × Int)) (ep : Int) (e : Ending) (w' : World) : Prop :=
  ∃ vo vl, e = .returned (.tuple #[vo, vl]) ∧ RefAt W w' ks ep ks.length vo vl
set_option maxRecDepth 100000 in
set_option maxHeartbeats 4000000 in
theorem ref_ready {W : World} {base : Nat} {v : Value} {ks : List (Int × Int)} (h : W.ownsRow base 33 2 v ks.length (kcs ks)) (ep : Int) (he0 : 0 ≤ ep) (he1 : ep < 18446744073709551616) (hks : ks.length ≤ 100000) (hp : ∀ k, k < ks.length → 0 ≤ (kth ks k).1) :
    Calls Try.prog 10 #[v, .int .u64 ep] W (RefPost W ks ep) := by
  obtain ⟨i0, hi, hz0, hz1, hz2⟩ := info_parts info_ref
  obtain ⟨i1, hj, hy0, hy1, hy2⟩ := info_parts info_int6
  obtain ⟨A, c, rfl⟩ := ownsRow_slice h
  have HO : Hd _ := ⟨h⟩
  have HP : Hd _ := ⟨hp⟩
  clear h hp
  go_enter Try.func10, Try.ntmps10
  go_wp2
  go_loopw [6, 7, 8] (fun vo vl i wr => ∃ k : Nat, k ≤ ks.length ∧ i = .int .i64 k ∧ Hd (RefAt W wr ks ep k vo vl)) (fun _ _ i _ => ks.length - (intOf i).toNat)
  case atStart => exact ⟨0, Nat.zero_le _, rfl, ⟨⟨World.ownsRow_nil _ _ _ _, World.ownsRow_nil _ _ _ _, fun x hx => (by cases hx), Below.refl _ _⟩⟩⟩
  case round =>
    obtain ⟨k, hk, rfl, HR⟩ := hrel
    have hle := rdy_le ks ep k
    by_cases hlt : k < ks.length
    · obtain ⟨g, cap, hvv, x0, x1⟩ := ref_row HO.out k hlt
      cases hvv
      have hg : g < W.heap.size := lt_of_cell x0
      replace x0 := (HR.out.below.cell (p := ⟨g, k * 2, none⟩) hg).trans x0
      replace x1 := (HR.out.below.cell (p := ⟨g, k * 2 + 1, none⟩) hg).trans x1
      have hlo : (0 : Int) ≤ (k : Int) := by omega
      have hhi : (k : Int) < (ks.length : Int) := by omega
      have hpk := HP.out k hlt
      have HL : Hd _ := ⟨hle⟩
      clear hle
      have O3 := fun o => (Hd.mk (owns_alloc HR.out.out o) : Hd _)
      have O4 := fun o => (Hd.mk (owns_alloc HR.out.left o) : Hd _)
      have zr := HR.out.below.size
      obtain ⟨q1, hq1⟩ : ∃ q1, (kth ks k).1 = q1 := ⟨_, rfl⟩
      obtain ⟨q2, hq2⟩ : ∃ q2, (kth ks k).2 = q2 := ⟨_, rfl⟩
      rw [hq1] at x0 hpk
      rw [hq2] at x1
      have HQ1 : Hd _ := ⟨hq1⟩
      have HQ2 : Hd _ := ⟨hq2⟩
      clear hq1 hq2
      by_cases h2 : q1 ≤ ep
      · have hw : IntKind.u64.wrap (ep - q1) = ep - q1 := by rw [IntKind.wrap_u64]; omega
        by_cases h3 : 2 ≤ ep - q1
        · have hrd : Hd (isRdy ep (kth ks k) = true) := ⟨by unfold isRdy; rw [HQ1.out]; exact decide_eq_true ⟨by omega, by omega⟩⟩
          go_wp2_with (first
            | (at_builtin; refine wpList_append_lies _ rfl _ _ 28 rfl W.heap.size 3 i1 (.int .i64 0) 1 8 Try.underlying28 hj hy0 hy1 hy2 rfl (by decide) u6 (rdy ks ep k).length ((rdy ks ep k).map (Value.int .i64)) rfl (O3 _).out ⟨wr.heap.size, 0, none⟩ 1 1 [.int .i64 q2] rfl rfl (World.news_of_block (cs := #[.int .i64 q2]) (t := 3) (fr := (0, 0)) (heap_alloc_new wr _)) (by simp [Value.oneCell']) (by omega) (by have := HL.out.1; unfold maxLen; omega) (by have := HL.out.1; omega) (by simp; omega) (wr.heap.size + 1) (by simp) ?_; intro g1 cap1 w1 hown hgrow hat hlt1;
               have HW : Hd _ := ⟨hown⟩; have HG : Hd _ := ⟨hgrow⟩; clear hown hgrow))
          have P := HR.out.yes hrd.out (by rw [HQ2.out]; exact HW.out) HG.out hat
          have HPP : Hd _ := ⟨P⟩
          clear P
          go_roundw
          case rel => exact ⟨k + 1, by omega, by go_num, HPP⟩
          case measure => simp [intOf]; omega
        · have hrd : Hd (isRdy ep (kth ks k) = false) := ⟨by unfold isRdy; rw [HQ1.out]; exact decide_eq_false (fun e => by omega)⟩
          go_wp2_with (first
            | (at_builtin; refine wpList_append_lies _ rfl _ _ 26 rfl W.heap.size 33 i0 (.agg #[.int .u64 0, .int .i64 0]) 2 16 Try.underlying26 hi hz0 hz1 hz2 rfl (by decide) u7 (lft ks ep k).length (kcs (lft ks ep k)) rfl (O4 _).out ⟨wr.heap.size, 0, none⟩ 1 1 [.int .u64 q1, .int .i64 q2] rfl rfl (World.news_of_block (cs := #[.int .u64 q1, .int .i64 q2]) (t := 33) (fr := (0, 0)) (heap_alloc_new wr _)) (by simp [Value.oneCell']) (by omega) (by have := HL.out.2; unfold maxLen; omega) (by have := HL.out.2; omega) (by simp; omega) (wr.heap.size + 1) (by simp) ?_; intro g1 cap1 w1 hown hgrow hat hlt1;
               have HW : Hd _ := ⟨hown⟩; have HG : Hd _ := ⟨hgrow⟩; clear hown hgrow))
          have P := HR.out.no hrd.out (by rw [HQ1.out, HQ2.out]; exact HW.out) HG.out hat
          have HPP : Hd _ := ⟨P⟩
          clear P
          go_roundw
          case rel => exact ⟨k + 1, by omega, by go_num, HPP⟩
          case measure => simp [intOf]; omega
      · have hrd : Hd (isRdy ep (kth ks k) = false) := ⟨by unfold isRdy; rw [HQ1.out]; exact decide_eq_false (fun e => by omega)⟩
        go_wp2_with (first
          | (at_builtin; refine wpList_append_lies _ rfl _ _ 26 rfl W.heap.size 33 i0 (.agg #[.int .u64 0, .int .i64 0]) 2 16 Try.underlying26 hi hz0 hz1 hz2 rfl (by decide) u7 (lft ks ep k).length (kcs (lft ks ep k)) rfl (O4 _).out ⟨wr.heap.size, 0, none⟩ 1 1 [.int .u64 q1, .int .i64 q2] rfl rfl (World.news_of_block (cs := #[.int .u64 q1, .int .i64 q2]) (t := 33) (fr := (0, 0)) (heap_alloc_new wr _)) (by simp [Value.oneCell']) (by omega) (by have := HL.out.2; unfold maxLen; omega) (by have := HL.out.2; omega) (by simp; omega) (wr.heap.size + 1) (by simp) ?_; intro g1 cap1 w1 hown hgrow hat hlt1;
             have HW : Hd _ := ⟨hown⟩; have HG : Hd _ := ⟨hgrow⟩; clear hown hgrow))
        have P := HR.out.no hrd.out (by rw [HQ1.out, HQ2.out]; exact HW.out) HG.out hat
        have HPP : Hd _ := ⟨P⟩
        clear P
        go_roundw
        case rel => exact ⟨k + 1, by omega, by go_num, HPP⟩
        case measure => simp [intOf]; omega
    · obtain rfl : k = ks.length := by omega
      clear hle
      go_wp2_with fail
      go_ret2
      exact ⟨_, _, rfl, HR.out⟩
theorem ints_row {w : World} {base : Nat} {v : Value} {zs : List Int} (h : w.ownsRow base 3 1 v zs.length (zs.map (Value.int .i64))) (k : Nat) (hk : k < zs.length) : ∃ g cap, v = .slice (some ⟨g, 0, none⟩) zs.length cap ∧ w.cell? ⟨g, k, none⟩ = some (.int .i64 (nth zs k)) := by
  rcases h.2 with ⟨_, h0⟩ | ⟨g, cap, cur, hv, hb, hg, _, _, hc, ht⟩
  · omega
  · refine ⟨g, cap, hv, blk_cell hg ?_⟩
    have h1 : (zs.map (Value.int .i64))[k]? = some (.int .i64 (nth zs k)) := by
      unfold nth
      rw [List.getElem?_map, List.getElem?_eq_getElem hk, List.getD_eq_getElem?_getD, List.getElem?_eq_getElem hk]; rfl
    rw [← ht, List.getElem?_take, if_pos (by omega), Array.getElem?_toList] at h1
    exact h1
set_option maxRecDepth 100000 in
set_option maxHeartbeats 1000000 in
theorem same_any {W : World} {b1 b2 : Nat} {v1 v2 : Value} {zs : List Int} (h1 : W.ownsRow b1 3 1 v1 zs.length (zs.map (Value.int .i64))) (h2 : W.ownsRow b2 3 1 v2 zs.length (zs.map (Value.int .i64))) (hz : zs.length ≤ 100000) :
    Calls Try.prog 11 #[v1, v2] W fun e w' => e = .returned (.bool true) ∧ ∃ n, w' = W.drewN n := by
  obtain ⟨A1, c1, rfl⟩ := ownsRow_slice h1
  obtain ⟨A2, c2, rfl⟩ := ownsRow_slice h2
  have H1 : Hd _ := ⟨h1⟩
  have H2 : Hd _ := ⟨h2⟩
  clear h1 h2
  go_enter Try.func11, Try.ntmps11
  go_wp2
  go_loopw [5] (fun i wr => ∃ k : Nat, k ≤ zs.length ∧ i = .int .i64 k ∧ Hd (∃ m, wr = W.drewN m)) (fun i _ => zs.length - (intOf i).toNat)
  case atStart => exact ⟨0, Nat.zero_le _, rfl, ⟨0, rfl⟩⟩
  case round =>
    obtain ⟨k, hk, rfl, HR⟩ := hrel
    by_cases hlt : k < zs.length
    · obtain ⟨g1, cap1, hv1, x1⟩ := ints_row H1.out k hlt
      obtain ⟨g2, cap2, hv2, x2⟩ := ints_row H2.out k hlt
      cases hv1
      cases hv2
      replace x1 : wr.cell? ⟨g1, k, none⟩ = some (.int .i64 (nth zs k)) := by obtain ⟨m, rfl⟩ := HR.out; exact x1
      replace x2 : wr.cell? ⟨g2, k, none⟩ = some (.int .i64 (nth zs k)) := by obtain ⟨m, rfl⟩ := HR.out; exact x2
      have hlo : (0 : Int) ≤ (k : Int) := by omega
      have hhi : (k : Int) < (zs.length : Int) := by omega
      go_wp2
      go_quiet (fail)
      go_wp2
      go_roundw
      case rel => exact ⟨k + 1, by omega, by go_num, ⟨by obtain ⟨m, rfl⟩ := HR.out; exact ⟨_, by rw [World.drewN_drewN]⟩⟩⟩
      case measure => simp [intOf]; omega
    · obtain rfl : k = zs.length := by omega
      go_wp2
      go_ret
      exact ⟨rfl, HR.out⟩
end Go.Proofs.Ytkjppffkjofamaa
