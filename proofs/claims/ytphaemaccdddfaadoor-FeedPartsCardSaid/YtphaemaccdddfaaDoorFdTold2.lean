/- Package feed: told, walked. No condition but those that each contract bears. -/
import Derived.Test.YtphaemaccdddfaaDoorFdTold
import Derived.BigRegion
set_option linter.unusedVariables false
set_option linter.unusedSimpArgs false
namespace Go.Proofs.YtphaemaccdddfaaDoor.PTk
open Go.RowKit Go.Shelf Go.Proofs.YtphaemaccdddfaaDoorW.PrintWords Go.Proofs.YtphaemaccdddfaaDoorW.PrintLast Go.Proofs.YtphaemaccdddfaaDoorW.PrintMore
def FS.told (F : FS) (kind : Int) : FS × Option (Int × ByteArray) := (FS.zero, some (kind, ⟨(F.s.take (F.s.length - 2)).toArray⟩))
theorem FdAt.row2 {base b : Nat} {F : FS} {sv : Value} {W : World} (h : FdAt base b F sv W) (h2 : 0 < F.s.length) : ∃ g cap, sv = .slice (some ⟨g, 0, none⟩) F.s.length cap ∧ F.s.length ≤ cap ∧ cap ≤ maxLen := by
  rcases h.row.2 with ⟨_, h0⟩ | ⟨g, cap, cur, h3, _, _, h4, h5, _⟩
  · omega
  · exact ⟨g, cap, h3, h4, h5⟩
theorem FdAt.conv {base b : Nat} {F : FS} {W : World} {g cap : Nat} (h : FdAt base b F (.slice (some ⟨g, 0, none⟩) F.s.length cap) W) (lo hi c2 : Nat) (h1 : lo ≤ hi) (h2 : hi ≤ F.s.length) :
    (convert 39 9 (.slice (some ⟨g, lo, none⟩) (hi - lo) c2)).run Tryd.prog W = .ok (.string ⟨((F.s.take hi).drop lo).toArray⟩) W := by
  have hl : ((F.s.take hi).drop lo).length = hi - lo := by rw [List.length_drop, List.length_take]; omega
  have := run_convert_bytes_back (P := Tryd.prog) W 39 9 5 ⟨g, lo, none⟩ c2 ((F.s.take hi).drop lo) Tryd.underlying39 Tryd.underlying5 Tryd.underlying9 (fun j hj => by
    rw [hl] at hj
    rw [add_off, h.row.cellAt (lo + j) (by omega), List.getElem?_map, List.getElem?_eq_getElem (by omega : lo + j < F.s.length)]
    simp [bv])
  rwa [hl] at this
set_option maxRecDepth 100000 in
set_option maxHeartbeats 1000000 in
theorem told_any {base b : Nat} {F : FS} {sv : Value} {W : World} (h : FdAt base b F sv W) (h2 : 2 ≤ F.s.length) (hn : F.s.length ≤ 1000000) (kind : Int) :
    Calls Tryd.prog 80 #[.pointer (some ⟨b, 0, none⟩), .int .i64 kind, .int .i64 2] W (StepPost base b W (F.told kind)) := by
  obtain ⟨g, cap, rfl, hcap, hcm⟩ := h.row2 (by omega)
  have c0 := h.c0
  have H := Hd.mk h
  have hbl := h.blt
  have hne : b ≠ W.heap.size := by omega
  have hne' : W.heap.size ≠ b := by omega
  have HAg : Hd (∀ X, FdAt base b F (.slice (some ⟨g, 0, none⟩) F.s.length cap) X → Calls Tryd.prog 82 #[.pointer (some ⟨b, 0, none⟩)] X fun e w' => e = .returned (.tuple #[]) ∧ Hd (FdAt base b FS.zero (.slice none 0 0) w' ∧ Kp base b X w')) := ⟨fun X hX => again_any hX⟩
  have HCv : Hd (∀ X, FdAt base b F (.slice (some ⟨g, 0, none⟩) F.s.length cap) X → (convert 39 9 (.slice (some ⟨g, 0, none⟩) (F.s.length - 2) cap)).run Tryd.prog X = .ok (.string ⟨(F.s.take (F.s.length - 2)).toArray⟩) X) := ⟨fun X hX => hX.conv 0 (F.s.length - 2) cap (by omega) (by omega)⟩
  have HT := Hd.mk (show F.told kind = (FS.zero, some (kind, ⟨(F.s.take (F.s.length - 2)).toArray⟩)) from rfl)
  obtain ⟨T, hT⟩ : ∃ T : ByteArray, ⟨(F.s.take (F.s.length - 2)).toArray⟩ = T := ⟨_, rfl⟩
  rw [hT] at HCv HT
  obtain ⟨n, hnn⟩ : ∃ n, F.s.length = n := ⟨_, rfl⟩
  have HN := Hd.mk hnn
  rw [hnn] at c0 HAg HCv h2 hn hcap H
  clear h hT hnn
  have hconv := HCv.out _ (H.out.on (below_alloc (Below.refl _ _) (.cells #[.int .i64 0, .string ⟨#[]⟩] 70)))
  go_enter Tryd.func80, Tryd.ntmps80
  go_wp2
  have hconv1 := HCv.out ((W.alloc (.cells #[.int .i64 0, .string ⟨#[]⟩] 70)).drew) ((H.out.on (below_alloc (Below.refl _ _) (.cells #[.int .i64 0, .string ⟨#[]⟩] 70))).drewN 1)
  have hconv2 := HCv.out (((W.alloc (.cells #[.int .i64 0, .string ⟨#[]⟩] 70)).alloc (.cells #[.int .i64 0, .string ⟨#[]⟩] 70)).drew) (((H.out.on (below_alloc (Below.refl _ _) (.cells #[.int .i64 0, .string ⟨#[]⟩] 70))).on (below_alloc (Below.refl _ _) (.cells #[.int .i64 0, .string ⟨#[]⟩] 70))).drewN 1)
  go_region
  all_goals
    clear hconv hconv1 hconv2
    have HX := Hd.mk (((H.out.on (below_alloc (Below.refl _ _) (.cells #[.int .i64 0, .string ⟨#[]⟩] 70))).on (below_alloc (Below.refl _ _) (.cells #[.int .i64 kind, .string T] 70))).drewN 1)
    have HPa := Hd.mk ((Below.heap_alloc (W.alloc (.cells #[.int .i64 0, .string ⟨#[]⟩] 70)) (.cells #[.int .i64 kind, .string T] 70) W.heap.size (by simp)).trans (new_piece W))
    have HPb := Hd.mk (heap_alloc_new (W.alloc (.cells #[.int .i64 0, .string ⟨#[]⟩] 70)) (.cells #[.int .i64 kind, .string T] 70))
    have HK := Hd.mk ((((Kp.refl base b W).alloc (.cells #[.int .i64 0, .string ⟨#[]⟩] 70)).alloc (.cells #[.int .i64 kind, .string T] 70)).drewN 1)
    rw [show (W.alloc (.cells #[.int .i64 0, .string ⟨#[]⟩] 70)).heap.size = W.heap.size + 1 by simp] at HPb
    obtain ⟨X, hX⟩ : ∃ X, ((W.alloc (.cells #[.int .i64 0, .string ⟨#[]⟩] 70)).alloc (.cells #[.int .i64 kind, .string T] 70)).drew = X := ⟨_, rfl⟩
    replace HX : Hd (FdAt base b F (.slice (some ⟨g, 0, none⟩) n cap) X) := ⟨by rw [← hX]; exact HX.out⟩
    replace HPa : Hd (X.heap[W.heap.size]? = some (.cells #[.int .i64 0, .string ⟨#[]⟩] 70 (0, 0))) := ⟨by rw [← hX]; exact HPa.out⟩
    replace HPb : Hd (X.heap[W.heap.size + 1]? = some (.cells #[.int .i64 kind, .string T] 70 (0, 0))) := ⟨by rw [← hX]; exact HPb.out⟩
    replace HK : Hd (Kp base b W X) := ⟨by rw [← hX]; exact HK.out⟩
    rw [hX]
    clear hX c0
    have hne2 : W.heap.size + 1 ≠ b := by omega
    go_wp2_with (go_at_call 82; refine (HAg.out _ HX.out).mono ?_; rintro e w1 ⟨rfl, HA⟩; have hp1 := HA.out.2.piece HPa.out hne'; obtain ⟨p0, p1, q0, q1⟩ := pc_cells hp1; have HP1 := Hd.mk hp1; clear hp1; obtain ⟨r0, r1, _, _⟩ := pc_cells (HA.out.2.piece HPb.out hne2))
    refine bodyPost_ret (res_piece rfl _ _ W.heap.size kind T true rfl rfl (piece_set rfl HP1.out)) rfl ?_
    unfold StepPost
    rw [HT.out]
    exact ⟨rfl, ⟨_, HA.out.1.setP2 HP1.out, ((HK.out.trans HA.out.2).setNew (Nat.le_refl _) _).setNew (Nat.le_refl _) _⟩⟩
end Go.Proofs.YtphaemaccdddfaaDoor.PTk
