/- Package feed: line, walked (the text is written by a program of this session: mkfdline.py). The premise says what package variables hold. -/
import Derived.Test.YtphaemaccdddfaaDoorFdLine
set_option linter.unusedVariables false
set_option linter.unusedSimpArgs false
namespace Go.Proofs.YtphaemaccdddfaaDoor.PTk
open Go.RowKit Go.Shelf Go.Proofs.YtphaemaccdddfaaDoorW.PrintWords Go.Proofs.YtphaemaccdddfaaDoorW.PrintLast Go.Proofs.YtphaemaccdddfaaDoorW.PrintMore
section
variable {w0 : World} {base b : Nat} {F : FS} {sv : Value} {W : World} (hG : GlobOk w0) (hB : Below w0.heap.size w0 W) (hwb : w0.heap.size ≤ b) (h : FdAt base b F sv W) (hm : F.md = 0) (hn : F.s.length ≤ 900000) (ho0 : 0 ≤ F.own) (ho : F.own ≤ 900000) (x : UInt8)
include h hm hn ho0 ho
set_option maxRecDepth 100000 in
set_option maxHeartbeats 4000000 in
theorem line_long_a (h13 : F.last ≠ 13) (h8 : 8192 < F.own + 1) :
    Calls Tryd.prog 50 #[.pointer (some ⟨b, 0, none⟩), .int .u8 ((x.toNat : Nat) : Int)] W (StepPost base b W (F.line x)) := by
  obtain ⟨A0, cap0, hsv⟩ := h.slice
  have c0 := h.c0
  have c2 := h.c2
  have c5 := h.c5
  have f0 := h.free 0
  have f2 := h.free 2
  have f5 := h.free 5
  have f6 := h.free 6
  have H := Hd.mk h
  have hbl := h.blt
  have hne : b ≠ W.heap.size := by omega
  have hne' : W.heap.size ≠ b := by omega
  obtain ⟨i0, hi, hz0, hz1, hz2⟩ := inf_parts info_u8
  rw [hsv] at c0
  have HX1 : Hd (FdAt base b ⟨F.s, F.fr, F.own, F.all, F.lft, x, F.md⟩ sv ((W.setCell ⟨b, 5, none⟩ (.int .u8 ((x.toNat : Nat) : Int))).alloc (.cells #[.int .i64 0, .string ⟨#[]⟩] 70))) := ⟨(h.put (G := ⟨F.s, F.fr, F.own, F.all, F.lft, x, F.md⟩) 5 _ rfl rfl).on (below_alloc (Below.refl _ _) _)⟩
  have HM := Hd.mk hm
  have hwo : IntKind.i64.wrap (F.own + 1) = F.own + 1 := by rw [IntKind.wrap_i64]; omega
  clear h hm
  have ex : (((F.last.toNat : Nat) : Int) == (((⟨#[13, 10]⟩ : ByteArray)[0]'(by decide)).toNat : Int)) = false := beq_eq_false_iff_ne.2 fun e => h13 ((u8_eq F.last 13 (by decide)).1 e)
  have HC := Hd.mk (show ¬ (F.last = 13 ∧ x = 10) from fun e => h13 e.1)
  clear h13
  obtain ⟨y, hy⟩ : ∃ y : Int, ((F.last.toNat : Nat) : Int) = y := ⟨_, rfl⟩
  rw [hy] at ex c5
  clear hy
  have hd : decide (8192 < F.own + 1) = true := decide_eq_true h8
  have HF := Hd.mk (show F.line x = (⟨[], F.fr, F.own + 1, F.all, F.lft, x, 2⟩, some (3, ⟨(F.s ++ [x]).toArray⟩)) by unfold FS.line; rw [if_neg HC.out, if_pos h8])
  obtain ⟨T, hT⟩ : ∃ T : ByteArray, ⟨(F.s ++ [x]).toArray⟩ = T := ⟨_, rfl⟩
  have HT := Hd.mk hT
  rw [hT] at HF
  clear hT h8
  go_enter Tryd.func50, Tryd.ntmps50
  go_upto_region 9 with (first
    | (at_builtin; refine wpList_append_own _ rfl _ _ 39 rfl base 5 i0 (.int .u8 0) 1 1 Tryd.underlying39 hi hz0 hz1 hz2 rfl (by decide) sv F.s.length (F.s.map bv) hsv.symm (FdAt.on HX1.out (below_alloc (Below.refl _ _) _)).row ⟨W.heap.size + 1, 0, none⟩ 1 1 [bv x] rfl rfl (World.news_of_block (cs := #[bv x]) (t := 5) (fr := (0, 0)) (fd_new_at _ _ (by simp [World.setCell]))) (by simp [Value.oneCell', bv]) (by unfold maxLen; omega) (by omega) (by have := HX1.out.le; simp [World.setCell] at this ⊢; omega) ?_
       intro v3 w3 hown3 hg3 hnil3
       obtain ⟨g3, cap3, rfl⟩ : ∃ g cap, v3 = .slice (some ⟨g, 0, none⟩) (F.s.length + 1) cap := by
         rcases hown3.2 with ⟨_, h0⟩ | ⟨g, c, cu, h1, _⟩
         · exact absurd h0 (by omega)
         · exact ⟨g, c, h1⟩
       have hb3 := FdAt.grown HX1.out hg3
       have hp3 := (grown_new H.out.row hg3 (by simp [World.setCell]) (Nat.le_refl _)).trans (fd_new_at (W.setCell ⟨b, 5, none⟩ (.int .u8 ((x.toNat : Nat) : Int))) (.cells #[.int .i64 0, .string ⟨#[]⟩] 70) (set_size _ _ _).symm)
       have hle3 : base ≤ w3.heap.size := Nat.le_trans HX1.out.le (by have := hg3.size; simp [World.setCell] at this ⊢; omega)
       have k1 := FdAt.put0 (F := ⟨F.s, F.fr, F.own, F.all, F.lft, x, F.md⟩) (x := x) HX1.out.lt hle3 hb3 hown3
       have k2 := k1.put (G := ⟨F.s ++ [x], F.fr, F.own + 1, F.all, F.lft, x, F.md⟩) 2 (.int .i64 (F.own + 1)) rfl rfl
       have hK3 := (((Kp.refl base b W).set 5 (.int .u8 ((x.toNat : Nat) : Int))).alloc (.cells #[.int .i64 0, .string ⟨#[]⟩] 70)).alloc (.cells #[bv x] 5) |>.grown H.out.row hg3
       have d0 : w3.cell? ⟨b, 0, none⟩ = some sv := (blk_cell hb3 0).trans rfl
       have d2 : w3.cell? ⟨b, 2, none⟩ = some (.int .i64 F.own) := (blk_cell hb3 2).trans rfl
       have d5 : w3.cell? ⟨b, 5, none⟩ = some (.int .u8 ((x.toNat : Nat) : Int)) := (blk_cell hb3 5).trans rfl
       have d6 : w3.cell? ⟨b, 6, none⟩ = some (mv F.md b) := (blk_cell hb3 6).trans rfl
       have g0 : w3.frozen? ⟨b, 0, none⟩ = false := by simp [World.frozen?, hb3]
       have g2 : w3.frozen? ⟨b, 2, none⟩ = false := by simp [World.frozen?, hb3]
       have g5 : w3.frozen? ⟨b, 5, none⟩ = false := by simp [World.frozen?, hb3]
       have g6 : w3.frozen? ⟨b, 6, none⟩ = false := by simp [World.frozen?, hb3]
       obtain ⟨p0, p1, q0, q1⟩ := pc_cells hp3
       have hp4 := fd_far (b := b) (j := 2) (u := .int .i64 (F.own + 1)) (fd_far (b := b) (j := 0) (u := .slice (some ⟨g3, 0, none⟩) (F.s.length + 1) cap3) hp3 hne') hne'
       have hK4 := (hK3.set 0 (.slice (some ⟨g3, 0, none⟩) (F.s.length + 1) cap3)).set 2 (.int .i64 (F.own + 1))
       have hcv := Hd.mk (conv_all k2 (by simp))
       have HP3 := Hd.mk hp3
       have HP4 := Hd.mk hp4
       have HK4 := Hd.mk hK4
       have K2 := Hd.mk k2
       have HL3 : Hd (W.heap.size < w3.heap.size) := ⟨(Array.getElem?_eq_some_iff.1 hp3).1⟩
       clear hown3 hg3 hnil3 hb3 hp3 hp4 hK3 hK4 k1 k2))
  obtain ⟨X, hX⟩ : ∃ X, ((w3.setCell ⟨b, 0, none⟩ (.slice (some ⟨g3, 0, none⟩) (F.s.length + 1) cap3)).setCell ⟨b, 2, none⟩ (.int .i64 (F.own + 1))) = X := ⟨_, rfl⟩
  rw [hX] at K2 HP4 HK4 hcv
  rw [hX]
  have hcv2 := hcv.out
  dsimp only at hcv2
  rw [HT.out] at hcv2
  have hPX : W.heap.size < X.heap.size := (Array.getElem?_eq_some_iff.1 HP4.out).1
  have hbX : b < X.heap.size := by omega
  clear hX d0 d2 d5 d6 g0 g2 g5 g6 p0 p1 q0 q1 HL3 HP3 hcv c0 c2 c5 f0 f2 f5 f6 HX1 H hd hwo
  have d0 := K2.out.c0
  have d6 := K2.out.c6
  have g0 := K2.out.free 0
  have g6 := K2.out.free 6
  obtain ⟨p0, p1, q0, q1⟩ := pc_cells HP4.out
  obtain ⟨n, hn2⟩ : ∃ n, F.s.length + 1 = n := ⟨_, rfl⟩
  rw [hn2] at K2 d0 hcv2
  have hne3 : X.heap.size ≠ b := by omega
  have hne4 : b ≠ X.heap.size := by omega
  have hne5 : X.heap.size ≠ W.heap.size := by omega
  have hne6 : W.heap.size ≠ X.heap.size := by omega
  go_wp2
  have k3 := K2.out.nil (G := ⟨[], F.fr, F.own + 1, F.all, F.lft, x, F.md⟩) rfl rfl
  have k4 := k3.put (G := ⟨[], F.fr, F.own + 1, F.all, F.lft, x, 2⟩) 6 (mv 2 b) rfl rfl
  have hp5 := fd_far (b := b) (j := 6) (u := mv 2 b) (fd_far (b := b) (j := 0) (u := .slice none 0 0) HP4.out hne') hne'
  have hp6 := piece_set (a := .int .i64 3) (c := .string T) rfl hp5
  have k5 := (k4.setP2 (u := .int .i64 3) (v := .string T) hp5).on (below_alloc (Below.refl _ _) (.cells #[.int .i64 3, .string T] 70))
  refine bodyPost_ret (res_piece rfl _ _ W.heap.size 3 T true rfl rfl ((Below.heap_alloc _ _ _ (Array.getElem?_eq_some_iff.1 hp6).1).trans hp6)) rfl ?_
  unfold StepPost
  rw [HF.out]
  exact ⟨rfl, ⟨_, k5, ((((HK4.out.set 0 _).set 6 _).setNew (Nat.le_refl _) _).setNew (Nat.le_refl _) _).alloc _⟩⟩
set_option maxRecDepth 100000 in
set_option maxHeartbeats 4000000 in
theorem line_long_b (h13 : F.last = 13) (h10 : x ≠ 10) (h8 : 8192 < F.own + 1) :
    Calls Tryd.prog 50 #[.pointer (some ⟨b, 0, none⟩), .int .u8 ((x.toNat : Nat) : Int)] W (StepPost base b W (F.line x)) := by
  obtain ⟨A0, cap0, hsv⟩ := h.slice
  have c0 := h.c0
  have c2 := h.c2
  have c5 := h.c5
  have f0 := h.free 0
  have f2 := h.free 2
  have f5 := h.free 5
  have f6 := h.free 6
  have H := Hd.mk h
  have hbl := h.blt
  have hne : b ≠ W.heap.size := by omega
  have hne' : W.heap.size ≠ b := by omega
  obtain ⟨i0, hi, hz0, hz1, hz2⟩ := inf_parts info_u8
  rw [hsv] at c0
  have HX1 : Hd (FdAt base b ⟨F.s, F.fr, F.own, F.all, F.lft, x, F.md⟩ sv ((W.setCell ⟨b, 5, none⟩ (.int .u8 ((x.toNat : Nat) : Int))).alloc (.cells #[.int .i64 0, .string ⟨#[]⟩] 70))) := ⟨(h.put (G := ⟨F.s, F.fr, F.own, F.all, F.lft, x, F.md⟩) 5 _ rfl rfl).on (below_alloc (Below.refl _ _) _)⟩
  have HM := Hd.mk hm
  have hwo : IntKind.i64.wrap (F.own + 1) = F.own + 1 := by rw [IntKind.wrap_i64]; omega
  clear h hm
  have ex : (((x.toNat : Nat) : Int) == (((⟨#[13, 10]⟩ : ByteArray)[1]'(by decide)).toNat : Int)) = false := beq_eq_false_iff_ne.2 fun e => h10 ((u8_eq x 10 (by decide)).1 e)
  have HC := Hd.mk (show ¬ (F.last = 13 ∧ x = 10) from fun e => h10 e.2)
  have e5 : ((F.last.toNat : Nat) : Int) = 13 := by rw [h13]; rfl
  rw [e5] at c5
  clear h13 h10 e5
  have hd : decide (8192 < F.own + 1) = true := decide_eq_true h8
  have HF := Hd.mk (show F.line x = (⟨[], F.fr, F.own + 1, F.all, F.lft, x, 2⟩, some (3, ⟨(F.s ++ [x]).toArray⟩)) by unfold FS.line; rw [if_neg HC.out, if_pos h8])
  obtain ⟨T, hT⟩ : ∃ T : ByteArray, ⟨(F.s ++ [x]).toArray⟩ = T := ⟨_, rfl⟩
  have HT := Hd.mk hT
  rw [hT] at HF
  clear hT h8
  go_enter Tryd.func50, Tryd.ntmps50
  go_upto_region 9 with (first
    | (at_builtin; refine wpList_append_own _ rfl _ _ 39 rfl base 5 i0 (.int .u8 0) 1 1 Tryd.underlying39 hi hz0 hz1 hz2 rfl (by decide) sv F.s.length (F.s.map bv) hsv.symm (FdAt.on HX1.out (below_alloc (Below.refl _ _) _)).row ⟨W.heap.size + 1, 0, none⟩ 1 1 [bv x] rfl rfl (World.news_of_block (cs := #[bv x]) (t := 5) (fr := (0, 0)) (fd_new_at _ _ (by simp [World.setCell]))) (by simp [Value.oneCell', bv]) (by unfold maxLen; omega) (by omega) (by have := HX1.out.le; simp [World.setCell] at this ⊢; omega) ?_
       intro v3 w3 hown3 hg3 hnil3
       obtain ⟨g3, cap3, rfl⟩ : ∃ g cap, v3 = .slice (some ⟨g, 0, none⟩) (F.s.length + 1) cap := by
         rcases hown3.2 with ⟨_, h0⟩ | ⟨g, c, cu, h1, _⟩
         · exact absurd h0 (by omega)
         · exact ⟨g, c, h1⟩
       have hb3 := FdAt.grown HX1.out hg3
       have hp3 := (grown_new H.out.row hg3 (by simp [World.setCell]) (Nat.le_refl _)).trans (fd_new_at (W.setCell ⟨b, 5, none⟩ (.int .u8 ((x.toNat : Nat) : Int))) (.cells #[.int .i64 0, .string ⟨#[]⟩] 70) (set_size _ _ _).symm)
       have hle3 : base ≤ w3.heap.size := Nat.le_trans HX1.out.le (by have := hg3.size; simp [World.setCell] at this ⊢; omega)
       have k1 := FdAt.put0 (F := ⟨F.s, F.fr, F.own, F.all, F.lft, x, F.md⟩) (x := x) HX1.out.lt hle3 hb3 hown3
       have k2 := k1.put (G := ⟨F.s ++ [x], F.fr, F.own + 1, F.all, F.lft, x, F.md⟩) 2 (.int .i64 (F.own + 1)) rfl rfl
       have hK3 := (((Kp.refl base b W).set 5 (.int .u8 ((x.toNat : Nat) : Int))).alloc (.cells #[.int .i64 0, .string ⟨#[]⟩] 70)).alloc (.cells #[bv x] 5) |>.grown H.out.row hg3
       have d0 : w3.cell? ⟨b, 0, none⟩ = some sv := (blk_cell hb3 0).trans rfl
       have d2 : w3.cell? ⟨b, 2, none⟩ = some (.int .i64 F.own) := (blk_cell hb3 2).trans rfl
       have d5 : w3.cell? ⟨b, 5, none⟩ = some (.int .u8 ((x.toNat : Nat) : Int)) := (blk_cell hb3 5).trans rfl
       have d6 : w3.cell? ⟨b, 6, none⟩ = some (mv F.md b) := (blk_cell hb3 6).trans rfl
       have g0 : w3.frozen? ⟨b, 0, none⟩ = false := by simp [World.frozen?, hb3]
       have g2 : w3.frozen? ⟨b, 2, none⟩ = false := by simp [World.frozen?, hb3]
       have g5 : w3.frozen? ⟨b, 5, none⟩ = false := by simp [World.frozen?, hb3]
       have g6 : w3.frozen? ⟨b, 6, none⟩ = false := by simp [World.frozen?, hb3]
       obtain ⟨p0, p1, q0, q1⟩ := pc_cells hp3
       have hp4 := fd_far (b := b) (j := 2) (u := .int .i64 (F.own + 1)) (fd_far (b := b) (j := 0) (u := .slice (some ⟨g3, 0, none⟩) (F.s.length + 1) cap3) hp3 hne') hne'
       have hK4 := (hK3.set 0 (.slice (some ⟨g3, 0, none⟩) (F.s.length + 1) cap3)).set 2 (.int .i64 (F.own + 1))
       have hcv := Hd.mk (conv_all k2 (by simp))
       have HP3 := Hd.mk hp3
       have HP4 := Hd.mk hp4
       have HK4 := Hd.mk hK4
       have K2 := Hd.mk k2
       have HL3 : Hd (W.heap.size < w3.heap.size) := ⟨(Array.getElem?_eq_some_iff.1 hp3).1⟩
       clear hown3 hg3 hnil3 hb3 hp3 hp4 hK3 hK4 k1 k2))
  obtain ⟨X, hX⟩ : ∃ X, ((w3.setCell ⟨b, 0, none⟩ (.slice (some ⟨g3, 0, none⟩) (F.s.length + 1) cap3)).setCell ⟨b, 2, none⟩ (.int .i64 (F.own + 1))) = X := ⟨_, rfl⟩
  rw [hX] at K2 HP4 HK4 hcv
  rw [hX]
  have hcv2 := hcv.out
  dsimp only at hcv2
  rw [HT.out] at hcv2
  have hPX : W.heap.size < X.heap.size := (Array.getElem?_eq_some_iff.1 HP4.out).1
  have hbX : b < X.heap.size := by omega
  clear hX d0 d2 d5 d6 g0 g2 g5 g6 p0 p1 q0 q1 HL3 HP3 hcv c0 c2 c5 f0 f2 f5 f6 HX1 H hd hwo
  have d0 := K2.out.c0
  have d6 := K2.out.c6
  have g0 := K2.out.free 0
  have g6 := K2.out.free 6
  obtain ⟨p0, p1, q0, q1⟩ := pc_cells HP4.out
  obtain ⟨n, hn2⟩ : ∃ n, F.s.length + 1 = n := ⟨_, rfl⟩
  rw [hn2] at K2 d0 hcv2
  have hne3 : X.heap.size ≠ b := by omega
  have hne4 : b ≠ X.heap.size := by omega
  have hne5 : X.heap.size ≠ W.heap.size := by omega
  have hne6 : W.heap.size ≠ X.heap.size := by omega
  go_wp2
  have k3 := K2.out.nil (G := ⟨[], F.fr, F.own + 1, F.all, F.lft, x, F.md⟩) rfl rfl
  have k4 := k3.put (G := ⟨[], F.fr, F.own + 1, F.all, F.lft, x, 2⟩) 6 (mv 2 b) rfl rfl
  have hp5 := fd_far (b := b) (j := 6) (u := mv 2 b) (fd_far (b := b) (j := 0) (u := .slice none 0 0) HP4.out hne') hne'
  have hp6 := piece_set (a := .int .i64 3) (c := .string T) rfl hp5
  have k5 := (k4.setP2 (u := .int .i64 3) (v := .string T) hp5).on (below_alloc (Below.refl _ _) (.cells #[.int .i64 3, .string T] 70))
  refine bodyPost_ret (res_piece rfl _ _ W.heap.size 3 T true rfl rfl ((Below.heap_alloc _ _ _ (Array.getElem?_eq_some_iff.1 hp6).1).trans hp6)) rfl ?_
  unfold StepPost
  rw [HF.out]
  exact ⟨rfl, ⟨_, k5, ((((HK4.out.set 0 _).set 6 _).setNew (Nat.le_refl _) _).setNew (Nat.le_refl _) _).alloc _⟩⟩
end
end Go.Proofs.YtphaemaccdddfaaDoor.PTk
