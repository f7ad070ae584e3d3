/- Package feed: end, walked. The premise says what package variables hold. -/
import Derived.Test.YtphaemaccdddfaaDoorFdHead
set_option linter.unusedVariables false
set_option linter.unusedSimpArgs false
namespace Go.Proofs.YtphaemaccdddfaaDoor.PTk
open Go.RowKit Go.Shelf Go.Proofs.YtphaemaccdddfaaDoorW.PrintWords Go.Proofs.YtphaemaccdddfaaDoorW.PrintLast Go.Proofs.YtphaemaccdddfaaDoorW.PrintMore
set_option maxRecDepth 100000 in
set_option maxHeartbeats 4000000 in
theorem end_any {base b : Nat} {F : FS} {sv : Value} {W : World} (hG : GlobOk W) (h : FdAt base b F sv W) (hm : F.md = 0) (h2 : 2 ≤ F.s.length) (hn : F.s.length ≤ 1000000) (hf0 : 0 ≤ F.fr) (hf1 : F.fr + 2 ≤ F.s.length) (ha0 : 0 ≤ F.all) (ha : F.all ≤ 65536) :
    Calls Tryd.prog 62 #[.pointer (some ⟨b, 0, none⟩)] W (StepPost base b W F.ends) := by
  obtain ⟨g, cap, rfl, hcap, hcm⟩ := h.row2 (by omega)
  obtain ⟨f, hf⟩ : ∃ f : Nat, F.fr = (f : Int) := ⟨F.fr.toNat, by omega⟩
  have c0 := h.c0
  have c1 := h.c1
  have H := Hd.mk h
  have hbl := h.blt
  have hne : b ≠ W.heap.size := by omega
  have hne' : W.heap.size ≠ b := by omega
  have HTo : Hd (∀ X kind, FdAt base b F (.slice (some ⟨g, 0, none⟩) F.s.length cap) X → Calls Tryd.prog 80 #[.pointer (some ⟨b, 0, none⟩), .int .i64 kind, .int .i64 2] X (StepPost base b X (F.told kind))) := ⟨fun X kind hX => told_any hX h2 hn kind⟩
  have HE := Hd.mk (show F.ends = if (headF F.lineOf).2 = false then F.told 0 else
    if 65536 < F.all + (headF F.lineOf).1 then F.told 2 else
    (⟨F.s, (F.s.length : Int) + (headF F.lineOf).1, F.own, F.all + (headF F.lineOf).1, (headF F.lineOf).1, F.last, if 0 < (headF F.lineOf).1 then 1 else 0⟩, some (1, ⟨#[]⟩)) from rfl)
  have hconv : ∀ X, FdAt base b F (.slice (some ⟨g, 0, none⟩) F.s.length cap) X → (convert 39 9 (.slice (some ⟨g, f, none⟩) (F.s.length - 2 - f) (cap - f))).run Tryd.prog X = .ok (.string F.lineOf) X := fun X hX => by
    have := hX.conv f (F.s.length - 2) (cap - f) (by omega) (by omega)
    have e : F.lineOf = ⟨((F.s.take (F.s.length - 2)).drop f).toArray⟩ := by unfold FS.lineOf; rw [hf]; rfl
    rw [e]
    exact this
  have hlsz : F.lineOf.size ≤ 1000000 := by
    unfold FS.lineOf
    show (List.toArray _).size ≤ _
    simp
    omega
  have HHd : Hd (∀ X, Below W.heap.size W X → Calls Tryd.prog 79 #[.string F.lineOf] X fun e w' => e = .returned (.tuple #[.int .i64 (headF F.lineOf).1, .bool (headF F.lineOf).2]) ∧ Hd (Below X.heap.size X w')) := ⟨fun X hX => head_any _ X (hG.on hX) hlsz⟩
  have hrng := headF_range F.lineOf
  obtain ⟨T, hT⟩ : ∃ T, F.lineOf = T := ⟨_, rfl⟩
  rw [hT] at HHd hconv HE hrng
  obtain ⟨⟨n, is⟩, hr⟩ : ∃ r, headF T = r := ⟨_, rfl⟩
  rw [hr] at HHd HE hrng
  dsimp only at HHd HE hrng
  have HCv := Hd.mk hconv
  have hcv1 := hconv (W.alloc (.cells #[.int .i64 0, .string ⟨#[]⟩] 70)).drew ((H.out.on (below_alloc (Below.refl _ _) (.cells #[.int .i64 0, .string ⟨#[]⟩] 70))).drewN 1)
  rw [hf] at c1
  have HF := Hd.mk hf
  obtain ⟨L, hL⟩ : ∃ L, F.s.length = L + 2 := ⟨F.s.length - 2, by omega⟩
  have HL := Hd.mk hL
  rw [hL] at c0 HTo HE hcv1 H HCv
  rw [hL] at h2 hn hf1 hcap
  have hb1 : (0 : Int) ≤ (f : Int) := by omega
  have hb2 : (f : Int) ≤ (L : Int) := by omega
  have hb3 : (L : Int) ≤ (cap : Int) := by omega
  have hwL : IntKind.i64.wrap (L : Int) = L := by rw [IntKind.wrap_i64]; omega
  have hcf : (cap = f) = False := eq_false (by omega)
  rw [show L + 2 - 2 - f = L - f by omega] at hcv1 HCv
  clear h hconv hT hr hf hL hG hlsz
  obtain ⟨hr1, hr2⟩ := hrng
  go_enter Tryd.func62, Tryd.ntmps62
  go_wp2
  go_region_held3 (fun w' => w'.cell? ⟨b, 0, none⟩ = some (.slice (some ⟨g, 0, none⟩) (L + 2) cap) ∧ w'.cell? ⟨b, 1, none⟩ = some (.int .i64 f) ∧ (convert 39 9 (.slice (some ⟨g, f, none⟩) (L - f) (cap - f))).run Tryd.prog w' = .ok (.string T) w')
    (first | (simp [go_sem, *]; done))
    (first
      | (go_at_call 79; refine (HHd.out _ ?_).mono ?_; (exact (below_alloc (Below.refl _ _) _).drew); rintro e w2 ⟨rfl, HB⟩; have HX2 := Hd.mk (((H.out.on (below_alloc (Below.refl _ _) (.cells #[.int .i64 0, .string ⟨#[]⟩] 70))).drewN 1).on HB.out); have d0 := HX2.out.c0; have d1 := HX2.out.c1; rw [HF.out] at d1; have dcv := HCv.out _ HX2.out))
  have HP2 := Hd.mk ((HB.out.block W.heap.size (by show _ < (W.alloc _).heap.size; simp)).trans (new_piece W))
  have HK2 := Hd.mk (((Kp.refl base b W).alloc (.cells #[.int .i64 0, .string ⟨#[]⟩] 70)).drewN 1 |>.trans (Kp.of_below HB.out))
  clear dcv hcv1
  obtain ⟨p0, p1, q0, q1⟩ := pc_cells HP2.out
  cases is with
  | false =>
    have HE2 := Hd.mk (HE.out.trans (if_pos rfl))
    go_wp2_with (go_at_call 80; refine (HTo.out _ _ HX2.out).mono ?_; rintro e w3 ⟨rfl, HA⟩; obtain ⟨s3, hA1, hA2⟩ := HA.out; have hp3 := hA2.piece HP2.out hne'; obtain ⟨p0, p1, q0, q1⟩ := pc_cells hp3; have HP3 := Hd.mk hp3; have HA1 := Hd.mk hA1; have HA2 := Hd.mk hA2; clear hp3 hA1 hA2)
    refine bodyPost_ret (res_piece rfl _ _ W.heap.size _ _ _ rfl rfl (piece_set rfl HP3.out)) rfl ?_
    unfold StepPost
    rw [HE2.out]
    exact ⟨rfl, ⟨_, HA1.out.setP2 HP3.out, ((HK2.out.trans HA2.out).setNew (Nat.le_refl _) _).setNew (Nat.le_refl _) _⟩⟩
  | true =>
    have d3 := HX2.out.c3
    have d4 := HX2.out.c4
    have d6 := HX2.out.c6
    have g1 := HX2.out.free 1
    have g3 := HX2.out.free 3
    have g4 := HX2.out.free 4
    have g6 := HX2.out.free 6
    rw [hm] at d6
    by_cases hbig : 65536 < F.all + n
    · have HE2 := Hd.mk (HE.out.trans ((if_neg (by decide)).trans (if_pos hbig)))
      have hbb : decide (65536 < F.all + n) = true := decide_eq_true hbig
      clear hbig
      go_wp2_with (go_at_call 80; refine (HTo.out _ _ HX2.out).mono ?_; rintro e w3 ⟨rfl, HA⟩; obtain ⟨s3, hA1, hA2⟩ := HA.out; have hp3 := hA2.piece HP2.out hne'; obtain ⟨p0, p1, q0, q1⟩ := pc_cells hp3; have HP3 := Hd.mk hp3; have HA1 := Hd.mk hA1; have HA2 := Hd.mk hA2; clear hp3 hA1 hA2)
      refine bodyPost_ret (res_piece rfl _ _ W.heap.size _ _ _ rfl rfl (piece_set rfl HP3.out)) rfl ?_
      unfold StepPost
      rw [HE2.out]
      exact ⟨rfl, ⟨_, HA1.out.setP2 HP3.out, ((HK2.out.trans HA2.out).setNew (Nat.le_refl _) _).setNew (Nat.le_refl _) _⟩⟩
    · have HE2 := Hd.mk (HE.out.trans ((if_neg (by decide)).trans (if_neg hbig)))
      have hbb : decide (65536 < F.all + n) = false := decide_eq_false hbig
      have HM := Hd.mk hm
      clear hbig
      by_cases hpos : 0 < n
      · have hpb : decide (0 < n) = true := decide_eq_true hpos
        have HE3 := Hd.mk (HE2.out.trans (show _ = ((⟨F.s, ((L + 2 : Nat) : Int) + n, F.own, F.all + n, n, F.last, 1⟩ : FS), some (1, ⟨#[]⟩)) by rw [if_pos hpos]))
        clear HE HE2 hpos
        go_wp2
        have k1 := HX2.out.put (G := ⟨F.s, F.fr, F.own, F.all + n, F.lft, F.last, F.md⟩) 3 (.int .i64 (F.all + n)) rfl rfl
        have k2 := k1.put (G := ⟨F.s, F.fr, F.own, F.all + n, n, F.last, F.md⟩) 4 (.int .i64 n) rfl rfl
        have k3 := k2.put (G := ⟨F.s, ((L + 2 : Nat) : Int) + n, F.own, F.all + n, n, F.last, F.md⟩) 1 (.int .i64 (((L + 2 : Nat) : Int) + n)) rfl rfl
        have k4 := k3.put (G := ⟨F.s, ((L + 2 : Nat) : Int) + n, F.own, F.all + n, n, F.last, 1⟩) 6 (mv 1 b) rfl rfl
        have hp4 := fd_far (b := b) (j := 6) (u := mv 1 b) (fd_far (b := b) (j := 1) (u := .int .i64 (((L + 2 : Nat) : Int) + n)) (fd_far (b := b) (j := 4) (u := .int .i64 n) (fd_far (b := b) (j := 3) (u := .int .i64 (F.all + n)) HP2.out hne') hne') hne') hne'
        refine bodyPost_ret (res_piece rfl _ _ W.heap.size 1 ⟨#[]⟩ true rfl rfl (piece_set rfl hp4)) rfl ?_
        unfold StepPost
        rw [HE3.out]
        exact ⟨rfl, ⟨_, k4.setP2 hp4, ((((((HK2.out).set 3 _).set 4 _).set 1 _).set 6 _).setNew (Nat.le_refl _) _).setNew (Nat.le_refl _) _⟩⟩
      · have hpb : decide (0 < n) = false := decide_eq_false hpos
        have HE3 := Hd.mk (HE2.out.trans (show _ = ((⟨F.s, ((L + 2 : Nat) : Int) + n, F.own, F.all + n, n, F.last, 0⟩ : FS), some (1, ⟨#[]⟩)) by rw [if_neg hpos]))
        clear HE HE2 hpos
        go_wp2
        have k1 := HX2.out.put (G := ⟨F.s, F.fr, F.own, F.all + n, F.lft, F.last, F.md⟩) 3 (.int .i64 (F.all + n)) rfl rfl
        have k2 := k1.put (G := ⟨F.s, F.fr, F.own, F.all + n, n, F.last, F.md⟩) 4 (.int .i64 n) rfl rfl
        have k3 := k2.put (G := ⟨F.s, ((L + 2 : Nat) : Int) + n, F.own, F.all + n, n, F.last, F.md⟩) 1 (.int .i64 (((L + 2 : Nat) : Int) + n)) rfl rfl
        rw [HM.out] at k3
        have hp4 := fd_far (b := b) (j := 1) (u := .int .i64 (((L + 2 : Nat) : Int) + n)) (fd_far (b := b) (j := 4) (u := .int .i64 n) (fd_far (b := b) (j := 3) (u := .int .i64 (F.all + n)) HP2.out hne') hne') hne'
        refine bodyPost_ret (res_piece rfl _ _ W.heap.size 1 ⟨#[]⟩ true rfl rfl (piece_set rfl hp4)) rfl ?_
        unfold StepPost
        rw [HE3.out]
        exact ⟨rfl, ⟨_, k3.setP2 hp4, (((((HK2.out).set 3 _).set 4 _).set 1 _).setNew (Nat.le_refl _) _).setNew (Nat.le_refl _) _⟩⟩
end Go.Proofs.YtphaemaccdddfaaDoor.PTk
