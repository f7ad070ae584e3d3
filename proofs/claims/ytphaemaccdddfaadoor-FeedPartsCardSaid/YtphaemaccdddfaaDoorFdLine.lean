/- Package feed: line, walked (the text is written by a program of this session: mkfdline.py). The premise says what package variables hold. -/
import Derived.Test.YtphaemaccdddfaaDoorFdEnd
set_option linter.unusedVariables false
set_option linter.unusedSimpArgs false
namespace Go.Proofs.YtphaemaccdddfaaDoor.PTk
open Go.RowKit Go.Shelf Go.Proofs.YtphaemaccdddfaaDoorW.PrintWords Go.Proofs.YtphaemaccdddfaaDoorW.PrintLast Go.Proofs.YtphaemaccdddfaaDoorW.PrintMore
/-- The slice is let go. -/
theorem FdAt.nil {base b : Nat} {F G : FS} {sv : Value} {W : World} (h : FdAt base b F sv W) (hs : G.s = []) (hc : (fcells sv F b).setIfInBounds 0 (.slice none 0 0) = fcells (.slice none 0 0) G b) : FdAt base b G (.slice none 0 0) (W.setCell ⟨b, 0, none⟩ (.slice none 0 0)) :=
  ⟨h.lt, by rw [set_size]; exact h.le, by rw [h.setB, hc], by rw [hs]; exact World.ownsRow_nil _ _ _ _⟩
theorem conv_all {base b : Nat} {F : FS} {W : World} {g cap n : Nat} (h : FdAt base b F (.slice (some ⟨g, 0, none⟩) n cap) W) (hn : F.s.length = n) :
    (convert 39 9 (.slice (some ⟨g, 0, none⟩) n cap)).run Tryd.prog W = .ok (.string ⟨F.s.toArray⟩) W := by
  subst hn
  have := h.conv 0 F.s.length cap (Nat.zero_le _) (Nat.le_refl _)
  rwa [List.take_length, List.drop_zero] at this
section
variable {w0 : World} {base b : Nat} {F : FS} {sv : Value} {W : World} (hG : GlobOk w0) (hB : Below w0.heap.size w0 W) (hwb : w0.heap.size ≤ b) (h : FdAt base b F sv W) (hm : F.md = 0) (hn : F.s.length ≤ 900000) (ho0 : 0 ≤ F.own) (ho : F.own ≤ 900000) (x : UInt8)
include h hm hn ho0 ho
set_option maxRecDepth 100000 in
set_option maxHeartbeats 4000000 in
theorem line_fits_a (h13 : F.last ≠ 13) (h8 : F.own + 1 ≤ 8192) :
    Calls Tryd.prog 50 #[.pointer (some ⟨b, 0, none⟩), .int .u8 ((x.toNat : Nat) : Int)] W (StepPost base b W (F.line x)) := by
  obtain ⟨A0, cap0, hsv⟩ := h.slice
  have c0 := h.c0
  have c2 := h.c2
  have c5 := h.c5
  have f0 := h.free 0
  have f2 := h.free 2
  have f5 := h.free 5
  have f6 := h.free 6
  have H := Hd.mk h
  have hbl := h.blt
  have hne : b ≠ W.heap.size := by omega
  have hne' : W.heap.size ≠ b := by omega
  obtain ⟨i0, hi, hz0, hz1, hz2⟩ := inf_parts info_u8
  rw [hsv] at c0
  have HX1 : Hd (FdAt base b ⟨F.s, F.fr, F.own, F.all, F.lft, x, F.md⟩ sv ((W.setCell ⟨b, 5, none⟩ (.int .u8 ((x.toNat : Nat) : Int))).alloc (.cells #[.int .i64 0, .string ⟨#[]⟩] 70))) := ⟨(h.put (G := ⟨F.s, F.fr, F.own, F.all, F.lft, x, F.md⟩) 5 _ rfl rfl).on (below_alloc (Below.refl _ _) _)⟩
  have HM := Hd.mk hm
  have hwo : IntKind.i64.wrap (F.own + 1) = F.own + 1 := by rw [IntKind.wrap_i64]; omega
  clear h hm
  have ex : (((F.last.toNat : Nat) : Int) == (((⟨#[13, 10]⟩ : ByteArray)[0]'(by decide)).toNat : Int)) = false := beq_eq_false_iff_ne.2 fun e => h13 ((u8_eq F.last 13 (by decide)).1 e)
  have HC := Hd.mk (show ¬ (F.last = 13 ∧ x = 10) from fun e => h13 e.1)
  clear h13
  obtain ⟨y, hy⟩ : ∃ y : Int, ((F.last.toNat : Nat) : Int) = y := ⟨_, rfl⟩
  rw [hy] at ex c5
  clear hy
  have hd : decide (8192 < F.own + 1) = false := decide_eq_false (by omega)
  have HF := Hd.mk (show F.line x = (⟨F.s ++ [x], F.fr, F.own + 1, F.all, F.lft, x, 0⟩, none) by unfold FS.line; rw [if_neg HC.out, if_neg (by omega)])
  go_enter Tryd.func50, Tryd.ntmps50
  go_wp2_with (first
    | (at_builtin; refine wpList_append_own _ rfl _ _ 39 rfl base 5 i0 (.int .u8 0) 1 1 Tryd.underlying39 hi hz0 hz1 hz2 rfl (by decide) sv F.s.length (F.s.map bv) hsv.symm (FdAt.on HX1.out (below_alloc (Below.refl _ _) _)).row ⟨W.heap.size + 1, 0, none⟩ 1 1 [bv x] rfl rfl (World.news_of_block (cs := #[bv x]) (t := 5) (fr := (0, 0)) (fd_new_at _ _ (by simp [World.setCell]))) (by simp [Value.oneCell', bv]) (by unfold maxLen; omega) (by omega) (by have := HX1.out.le; simp [World.setCell] at this ⊢; omega) ?_
       intro v3 w3 hown3 hg3 hnil3
       obtain ⟨g3, cap3, rfl⟩ : ∃ g cap, v3 = .slice (some ⟨g, 0, none⟩) (F.s.length + 1) cap := by
         rcases hown3.2 with ⟨_, h0⟩ | ⟨g, c, cu, h1, _⟩
         · exact absurd h0 (by omega)
         · exact ⟨g, c, h1⟩
       have hb3 := FdAt.grown HX1.out hg3
       have hp3 := (grown_new H.out.row hg3 (by simp [World.setCell]) (Nat.le_refl _)).trans (fd_new_at (W.setCell ⟨b, 5, none⟩ (.int .u8 ((x.toNat : Nat) : Int))) (.cells #[.int .i64 0, .string ⟨#[]⟩] 70) (set_size _ _ _).symm)
       have hle3 : base ≤ w3.heap.size := Nat.le_trans HX1.out.le (by have := hg3.size; simp [World.setCell] at this ⊢; omega)
       have k1 := FdAt.put0 (F := ⟨F.s, F.fr, F.own, F.all, F.lft, x, F.md⟩) (x := x) HX1.out.lt hle3 hb3 hown3
       have k2 := k1.put (G := ⟨F.s ++ [x], F.fr, F.own + 1, F.all, F.lft, x, F.md⟩) 2 (.int .i64 (F.own + 1)) rfl rfl
       have hK3 := (((Kp.refl base b W).set 5 (.int .u8 ((x.toNat : Nat) : Int))).alloc (.cells #[.int .i64 0, .string ⟨#[]⟩] 70)).alloc (.cells #[bv x] 5) |>.grown H.out.row hg3
       have d0 : w3.cell? ⟨b, 0, none⟩ = some sv := (blk_cell hb3 0).trans rfl
       have d2 : w3.cell? ⟨b, 2, none⟩ = some (.int .i64 F.own) := (blk_cell hb3 2).trans rfl
       have d5 : w3.cell? ⟨b, 5, none⟩ = some (.int .u8 ((x.toNat : Nat) : Int)) := (blk_cell hb3 5).trans rfl
       have d6 : w3.cell? ⟨b, 6, none⟩ = some (mv F.md b) := (blk_cell hb3 6).trans rfl
       have g0 : w3.frozen? ⟨b, 0, none⟩ = false := by simp [World.frozen?, hb3]
       have g2 : w3.frozen? ⟨b, 2, none⟩ = false := by simp [World.frozen?, hb3]
       have g5 : w3.frozen? ⟨b, 5, none⟩ = false := by simp [World.frozen?, hb3]
       have g6 : w3.frozen? ⟨b, 6, none⟩ = false := by simp [World.frozen?, hb3]
       obtain ⟨p0, p1, q0, q1⟩ := pc_cells hp3
       have hp4 := fd_far (b := b) (j := 2) (u := .int .i64 (F.own + 1)) (fd_far (b := b) (j := 0) (u := .slice (some ⟨g3, 0, none⟩) (F.s.length + 1) cap3) hp3 hne') hne'
       have hK4 := (hK3.set 0 (.slice (some ⟨g3, 0, none⟩) (F.s.length + 1) cap3)).set 2 (.int .i64 (F.own + 1))
       skip
       have HP3 := Hd.mk hp3
       have HP4 := Hd.mk hp4
       have HK4 := Hd.mk hK4
       have K2 := Hd.mk k2
       have HL3 : Hd (W.heap.size < w3.heap.size) := ⟨(Array.getElem?_eq_some_iff.1 hp3).1⟩
       clear hown3 hg3 hnil3 hb3 hp3 hp4 hK3 hK4 k1 k2))
  refine bodyPost_ret (res_piece rfl _ _ W.heap.size 0 ⟨#[]⟩ false rfl rfl (piece_set rfl HP4.out)) rfl ?_
  unfold StepPost
  rw [HF.out]
  have k := K2.out
  rw [HM.out] at k
  exact ⟨rfl, ⟨_, k.setP2 HP4.out, (HK4.out.setNew (Nat.le_refl _) _).setNew (Nat.le_refl _) _⟩⟩
set_option maxRecDepth 100000 in
set_option maxHeartbeats 4000000 in
theorem line_fits_b (h13 : F.last = 13) (h10 : x ≠ 10) (h8 : F.own + 1 ≤ 8192) :
    Calls Tryd.prog 50 #[.pointer (some ⟨b, 0, none⟩), .int .u8 ((x.toNat : Nat) : Int)] W (StepPost base b W (F.line x)) := by
  obtain ⟨A0, cap0, hsv⟩ := h.slice
  have c0 := h.c0
  have c2 := h.c2
  have c5 := h.c5
  have f0 := h.free 0
  have f2 := h.free 2
  have f5 := h.free 5
  have f6 := h.free 6
  have H := Hd.mk h
  have hbl := h.blt
  have hne : b ≠ W.heap.size := by omega
  have hne' : W.heap.size ≠ b := by omega
  obtain ⟨i0, hi, hz0, hz1, hz2⟩ := inf_parts info_u8
  rw [hsv] at c0
  have HX1 : Hd (FdAt base b ⟨F.s, F.fr, F.own, F.all, F.lft, x, F.md⟩ sv ((W.setCell ⟨b, 5, none⟩ (.int .u8 ((x.toNat : Nat) : Int))).alloc (.cells #[.int .i64 0, .string ⟨#[]⟩] 70))) := ⟨(h.put (G := ⟨F.s, F.fr, F.own, F.all, F.lft, x, F.md⟩) 5 _ rfl rfl).on (below_alloc (Below.refl _ _) _)⟩
  have HM := Hd.mk hm
  have hwo : IntKind.i64.wrap (F.own + 1) = F.own + 1 := by rw [IntKind.wrap_i64]; omega
  clear h hm
  have ex : (((x.toNat : Nat) : Int) == (((⟨#[13, 10]⟩ : ByteArray)[1]'(by decide)).toNat : Int)) = false := beq_eq_false_iff_ne.2 fun e => h10 ((u8_eq x 10 (by decide)).1 e)
  have HC := Hd.mk (show ¬ (F.last = 13 ∧ x = 10) from fun e => h10 e.2)
  have e5 : ((F.last.toNat : Nat) : Int) = 13 := by rw [h13]; rfl
  rw [e5] at c5
  clear h13 h10 e5
  have hd : decide (8192 < F.own + 1) = false := decide_eq_false (by omega)
  have HF := Hd.mk (show F.line x = (⟨F.s ++ [x], F.fr, F.own + 1, F.all, F.lft, x, 0⟩, none) by unfold FS.line; rw [if_neg HC.out, if_neg (by omega)])
  go_enter Tryd.func50, Tryd.ntmps50
  go_wp2_with (first
    | (at_builtin; refine wpList_append_own _ rfl _ _ 39 rfl base 5 i0 (.int .u8 0) 1 1 Tryd.underlying39 hi hz0 hz1 hz2 rfl (by decide) sv F.s.length (F.s.map bv) hsv.symm (FdAt.on HX1.out (below_alloc (Below.refl _ _) _)).row ⟨W.heap.size + 1, 0, none⟩ 1 1 [bv x] rfl rfl (World.news_of_block (cs := #[bv x]) (t := 5) (fr := (0, 0)) (fd_new_at _ _ (by simp [World.setCell]))) (by simp [Value.oneCell', bv]) (by unfold maxLen; omega) (by omega) (by have := HX1.out.le; simp [World.setCell] at this ⊢; omega) ?_
       intro v3 w3 hown3 hg3 hnil3
       obtain ⟨g3, cap3, rfl⟩ : ∃ g cap, v3 = .slice (some ⟨g, 0, none⟩) (F.s.length + 1) cap := by
         rcases hown3.2 with ⟨_, h0⟩ | ⟨g, c, cu, h1, _⟩
         · exact absurd h0 (by omega)
         · exact ⟨g, c, h1⟩
       have hb3 := FdAt.grown HX1.out hg3
       have hp3 := (grown_new H.out.row hg3 (by simp [World.setCell]) (Nat.le_refl _)).trans (fd_new_at (W.setCell ⟨b, 5, none⟩ (.int .u8 ((x.toNat : Nat) : Int))) (.cells #[.int .i64 0, .string ⟨#[]⟩] 70) (set_size _ _ _).symm)
       have hle3 : base ≤ w3.heap.size := Nat.le_trans HX1.out.le (by have := hg3.size; simp [World.setCell] at this ⊢; omega)
       have k1 := FdAt.put0 (F := ⟨F.s, F.fr, F.own, F.all, F.lft, x, F.md⟩) (x := x) HX1.out.lt hle3 hb3 hown3
       have k2 := k1.put (G := ⟨F.s ++ [x], F.fr, F.own + 1, F.all, F.lft, x, F.md⟩) 2 (.int .i64 (F.own + 1)) rfl rfl
       have hK3 := (((Kp.refl base b W).set 5 (.int .u8 ((x.toNat : Nat) : Int))).alloc (.cells #[.int .i64 0, .string ⟨#[]⟩] 70)).alloc (.cells #[bv x] 5) |>.grown H.out.row hg3
       have d0 : w3.cell? ⟨b, 0, none⟩ = some sv := (blk_cell hb3 0).trans rfl
       have d2 : w3.cell? ⟨b, 2, none⟩ = some (.int .i64 F.own) := (blk_cell hb3 2).trans rfl
       have d5 : w3.cell? ⟨b, 5, none⟩ = some (.int .u8 ((x.toNat : Nat) : Int)) := (blk_cell hb3 5).trans rfl
       have d6 : w3.cell? ⟨b, 6, none⟩ = some (mv F.md b) := (blk_cell hb3 6).trans rfl
       have g0 : w3.frozen? ⟨b, 0, none⟩ = false := by simp [World.frozen?, hb3]
       have g2 : w3.frozen? ⟨b, 2, none⟩ = false := by simp [World.frozen?, hb3]
       have g5 : w3.frozen? ⟨b, 5, none⟩ = false := by simp [World.frozen?, hb3]
       have g6 : w3.frozen? ⟨b, 6, none⟩ = false := by simp [World.frozen?, hb3]
       obtain ⟨p0, p1, q0, q1⟩ := pc_cells hp3
       have hp4 := fd_far (b := b) (j := 2) (u := .int .i64 (F.own + 1)) (fd_far (b := b) (j := 0) (u := .slice (some ⟨g3, 0, none⟩) (F.s.length + 1) cap3) hp3 hne') hne'
       have hK4 := (hK3.set 0 (.slice (some ⟨g3, 0, none⟩) (F.s.length + 1) cap3)).set 2 (.int .i64 (F.own + 1))
       skip
       have HP3 := Hd.mk hp3
       have HP4 := Hd.mk hp4
       have HK4 := Hd.mk hK4
       have K2 := Hd.mk k2
       have HL3 : Hd (W.heap.size < w3.heap.size) := ⟨(Array.getElem?_eq_some_iff.1 hp3).1⟩
       clear hown3 hg3 hnil3 hb3 hp3 hp4 hK3 hK4 k1 k2))
  refine bodyPost_ret (res_piece rfl _ _ W.heap.size 0 ⟨#[]⟩ false rfl rfl (piece_set rfl HP4.out)) rfl ?_
  unfold StepPost
  rw [HF.out]
  have k := K2.out
  rw [HM.out] at k
  exact ⟨rfl, ⟨_, k.setP2 HP4.out, (HK4.out.setNew (Nat.le_refl _) _).setNew (Nat.le_refl _) _⟩⟩
include hG hB hwb
set_option maxRecDepth 100000 in
set_option maxHeartbeats 4000000 in
theorem line_ends (h13 : F.last = 13) (h10 : x = 10) (hf0 : 0 ≤ F.fr) (hf1 : F.fr < F.s.length) (ha0 : 0 ≤ F.all) (ha : F.all ≤ 65536) :
    Calls Tryd.prog 50 #[.pointer (some ⟨b, 0, none⟩), .int .u8 ((x.toNat : Nat) : Int)] W (StepPost base b W (F.line x)) := by
  obtain ⟨A0, cap0, hsv⟩ := h.slice
  have c0 := h.c0
  have c2 := h.c2
  have c5 := h.c5
  have f0 := h.free 0
  have f2 := h.free 2
  have f5 := h.free 5
  have f6 := h.free 6
  have H := Hd.mk h
  have hbl := h.blt
  have hne : b ≠ W.heap.size := by omega
  have hne' : W.heap.size ≠ b := by omega
  obtain ⟨i0, hi, hz0, hz1, hz2⟩ := inf_parts info_u8
  rw [hsv] at c0
  have HX1 : Hd (FdAt base b ⟨F.s, F.fr, F.own, F.all, F.lft, x, F.md⟩ sv ((W.setCell ⟨b, 5, none⟩ (.int .u8 ((x.toNat : Nat) : Int))).alloc (.cells #[.int .i64 0, .string ⟨#[]⟩] 70))) := ⟨(h.put (G := ⟨F.s, F.fr, F.own, F.all, F.lft, x, F.md⟩) 5 _ rfl rfl).on (below_alloc (Below.refl _ _) _)⟩
  have HM := Hd.mk hm
  have hwo : IntKind.i64.wrap (F.own + 1) = F.own + 1 := by rw [IntKind.wrap_i64]; omega
  clear h hm
  have e5 : ((F.last.toNat : Nat) : Int) = 13 := by rw [h13]; rfl
  have ex : ((x.toNat : Nat) : Int) = 10 := by rw [h10]; rfl
  have HF := Hd.mk (show F.line x = FS.ends ⟨F.s ++ [x], F.fr, F.own + 1, F.all, F.lft, 0, 0⟩ by unfold FS.line; rw [if_pos ⟨h13, h10⟩])
  have HEx := Hd.mk ex
  have ex2 : (((x.toNat : Nat) : Int) == (((⟨#[13, 10]⟩ : ByteArray)[1]'(by decide)).toNat : Int)) = true := by rw [ex]; rfl
  rw [e5] at c5
  have HEn : Hd (∀ X sv, FdAt base b ⟨F.s ++ [x], F.fr, F.own + 1, F.all, F.lft, 0, 0⟩ sv X → Kp base b W X → Calls Tryd.prog 62 #[.pointer (some ⟨b, 0, none⟩)] X (StepPost base b X (FS.ends ⟨F.s ++ [x], F.fr, F.own + 1, F.all, F.lft, 0, 0⟩))) :=
    ⟨fun X sv hX hk => end_any (hG.on (hB.trans (hk.below hB.size hwb (by have := hX.lt; omega)))) hX rfl (by simp only [List.length_append, List.length_singleton]; omega) (by simp only [List.length_append, List.length_singleton]; omega) hf0 (by simp only [List.length_append, List.length_singleton]; omega) ha0 ha⟩
  obtain ⟨R, hR⟩ : ∃ R, FS.ends ⟨F.s ++ [x], F.fr, F.own + 1, F.all, F.lft, 0, 0⟩ = R := ⟨_, rfl⟩
  rw [hR] at HF HEn
  clear h13 h10 e5 ex hR
  go_enter Tryd.func50, Tryd.ntmps50
  go_wp2_with (first
    | (at_builtin; refine wpList_append_own _ rfl _ _ 39 rfl base 5 i0 (.int .u8 0) 1 1 Tryd.underlying39 hi hz0 hz1 hz2 rfl (by decide) sv F.s.length (F.s.map bv) hsv.symm (FdAt.on HX1.out (below_alloc (Below.refl _ _) _)).row ⟨W.heap.size + 1, 0, none⟩ 1 1 [bv x] rfl rfl (World.news_of_block (cs := #[bv x]) (t := 5) (fr := (0, 0)) (fd_new_at _ _ (by simp [World.setCell]))) (by simp [Value.oneCell', bv]) (by unfold maxLen; omega) (by omega) (by have := HX1.out.le; simp [World.setCell] at this ⊢; omega) ?_
       intro v3 w3 hown3 hg3 hnil3
       obtain ⟨g3, cap3, rfl⟩ : ∃ g cap, v3 = .slice (some ⟨g, 0, none⟩) (F.s.length + 1) cap := by
         rcases hown3.2 with ⟨_, h0⟩ | ⟨g, c, cu, h1, _⟩
         · exact absurd h0 (by omega)
         · exact ⟨g, c, h1⟩
       have hb3 := FdAt.grown HX1.out hg3
       have hp3 := (grown_new H.out.row hg3 (by simp [World.setCell]) (Nat.le_refl _)).trans (fd_new_at (W.setCell ⟨b, 5, none⟩ (.int .u8 ((x.toNat : Nat) : Int))) (.cells #[.int .i64 0, .string ⟨#[]⟩] 70) (set_size _ _ _).symm)
       have hle3 : base ≤ w3.heap.size := Nat.le_trans HX1.out.le (by have := hg3.size; simp [World.setCell] at this ⊢; omega)
       have k1 := FdAt.put0 (F := ⟨F.s, F.fr, F.own, F.all, F.lft, x, F.md⟩) (x := x) HX1.out.lt hle3 hb3 hown3
       have k2 := k1.put (G := ⟨F.s ++ [x], F.fr, F.own + 1, F.all, F.lft, x, F.md⟩) 2 (.int .i64 (F.own + 1)) rfl rfl
       have hK3 := (((Kp.refl base b W).set 5 (.int .u8 ((x.toNat : Nat) : Int))).alloc (.cells #[.int .i64 0, .string ⟨#[]⟩] 70)).alloc (.cells #[bv x] 5) |>.grown H.out.row hg3
       have d0 : w3.cell? ⟨b, 0, none⟩ = some sv := (blk_cell hb3 0).trans rfl
       have d2 : w3.cell? ⟨b, 2, none⟩ = some (.int .i64 F.own) := (blk_cell hb3 2).trans rfl
       have d5 : w3.cell? ⟨b, 5, none⟩ = some (.int .u8 ((x.toNat : Nat) : Int)) := (blk_cell hb3 5).trans rfl
       have d6 : w3.cell? ⟨b, 6, none⟩ = some (mv F.md b) := (blk_cell hb3 6).trans rfl
       have g0 : w3.frozen? ⟨b, 0, none⟩ = false := by simp [World.frozen?, hb3]
       have g2 : w3.frozen? ⟨b, 2, none⟩ = false := by simp [World.frozen?, hb3]
       have g5 : w3.frozen? ⟨b, 5, none⟩ = false := by simp [World.frozen?, hb3]
       have g6 : w3.frozen? ⟨b, 6, none⟩ = false := by simp [World.frozen?, hb3]
       obtain ⟨p0, p1, q0, q1⟩ := pc_cells hp3
       have hp4 := fd_far (b := b) (j := 2) (u := .int .i64 (F.own + 1)) (fd_far (b := b) (j := 0) (u := .slice (some ⟨g3, 0, none⟩) (F.s.length + 1) cap3) hp3 hne') hne'
       have hK4 := (hK3.set 0 (.slice (some ⟨g3, 0, none⟩) (F.s.length + 1) cap3)).set 2 (.int .i64 (F.own + 1))
       have k3 := (HM.out ▸ k2).put (G := ⟨F.s ++ [x], F.fr, F.own + 1, F.all, F.lft, 0, 0⟩) 5 (.int .u8 0) rfl rfl; have K3 := Hd.mk k3; have HK5 := Hd.mk (hK4.set 5 (.int .u8 0)); have HP5 := Hd.mk (fd_far (b := b) (j := 5) (u := .int .u8 0) hp4 hne'); clear k3
       have HP3 := Hd.mk hp3
       have HP4 := Hd.mk hp4
       have HK4 := Hd.mk hK4
       have K2 := Hd.mk k2
       have HL3 : Hd (W.heap.size < w3.heap.size) := ⟨(Array.getElem?_eq_some_iff.1 hp3).1⟩
       clear hown3 hg3 hnil3 hb3 hp3 hp4 hK3 hK4 k1 k2)
    | (go_at_call 62; refine (HEn.out _ _ K3.out HK5.out).mono ?_; rintro e w4 ⟨rfl, HA⟩; obtain ⟨s4, hA1, hA2⟩ := HA.out; have hp6 := hA2.piece HP5.out hne'; obtain ⟨p0, p1, q0, q1⟩ := pc_cells hp6; have HP6 := Hd.mk hp6; have HA1 := Hd.mk hA1; have HA2 := Hd.mk hA2; clear hp6 hA1 hA2))
  refine bodyPost_ret (res_piece rfl _ _ W.heap.size _ _ _ rfl rfl (piece_set rfl HP6.out)) rfl ?_
  unfold StepPost
  rw [HF.out]
  exact ⟨rfl, ⟨_, HA1.out.setP2 HP6.out, ((HK5.out.trans HA2.out).setNew (Nat.le_refl _) _).setNew (Nat.le_refl _) _⟩⟩
end
end Go.Proofs.YtphaemaccdddfaaDoor.PTk
