/- Package feed: skip and told, walked. No condition but those that each contract bears. -/
import Derived.Test.YtphaemaccdddfaaDoorFdMem
set_option linter.unusedVariables false
set_option linter.unusedSimpArgs false
namespace Go.Proofs.YtphaemaccdddfaaDoor.PTk
open Go.RowKit Go.Shelf Go.Proofs.YtphaemaccdddfaaDoorW.PrintWords Go.Proofs.YtphaemaccdddfaaDoorW.PrintLast Go.Proofs.YtphaemaccdddfaaDoorW.PrintMore
theorem new_piece (W : World) : (W.alloc (.cells #[.int .i64 0, .string ⟨#[]⟩] 70)).heap[W.heap.size]? = some (.cells #[.int .i64 0, .string ⟨#[]⟩] 70 (0, 0)) := heap_alloc_new W _
theorem u8_eq (c : UInt8) (n : Nat) (hn : n < 256) : ((c.toNat : Nat) : Int) = (n : Int) ↔ c = UInt8.ofNat n := by
  constructor
  · intro h
    apply UInt8.toNat_inj.1
    rw [UInt8.toNat_ofNat']
    omega
  · rintro rfl
    rw [UInt8.toNat_ofNat']
    omega
theorem FdAt.drewN {base b : Nat} {F : FS} {sv : Value} {W : World} (h : FdAt base b F sv W) (n : Nat) : FdAt base b F sv (W.drewN n) := ⟨h.lt, h.le, h.blk, h.row⟩
/-- A piece's block stays. -/
theorem Kp.piece {base b : Nat} {X Y : World} (h : Kp base b X Y) {k : Nat} {cs : Array Value} (hp : X.heap[k]? = some (.cells cs 70 (0, 0))) (hkb : k ≠ b) : Y.heap[k]? = some (.cells cs 70 (0, 0)) :=
  (h.block k (Array.getElem?_eq_some_iff.1 hp).1 hkb (.inr fun cur h2 => by
    rw [hp] at h2
    injection h2 with h2
    injection h2 with _ h2
    exact absurd h2 (by decide))).trans hp
theorem pc_cells {W : World} {k : Nat} {a c : Value} (hp : W.heap[k]? = some (.cells #[a, c] 70 (0, 0))) : W.cell? ⟨k, 0, none⟩ = some a ∧ W.cell? ⟨k, 1, none⟩ = some c ∧ W.frozen? ⟨k, 0, none⟩ = false ∧ W.frozen? ⟨k, 1, none⟩ = false :=
  ⟨(blk_cell hp 0).trans rfl, (blk_cell hp 1).trans rfl, by simp [World.frozen?, hp], by simp [World.frozen?, hp]⟩
set_option maxRecDepth 100000 in
set_option maxHeartbeats 1000000 in
theorem skip_any {base b : Nat} {F : FS} {sv : Value} {W : World} (h : FdAt base b F sv W) (x : UInt8) :
    Calls Tryd.prog 63 #[.pointer (some ⟨b, 0, none⟩), .int .u8 ((x.toNat : Nat) : Int)] W (StepPost base b W (F.skip x)) := by
  have c5 := h.c5
  have f5 := h.free 5
  have H := Hd.mk h
  have hbl := h.blt
  have hne : b ≠ W.heap.size := by omega
  have hne' : W.heap.size ≠ b := by omega
  have HS := Hd.mk (show F.skip x = if F.last = 13 ∧ x = 10 then (FS.zero, none) else (⟨F.s, F.fr, F.own, F.all, F.lft, x, F.md⟩, none) from rfl)
  have HAg : Hd (∀ X, FdAt base b F sv X → Calls Tryd.prog 82 #[.pointer (some ⟨b, 0, none⟩)] X fun e w' => e = .returned (.tuple #[]) ∧ Hd (FdAt base b FS.zero (.slice none 0 0) w' ∧ Kp base b X w')) := ⟨fun X hX => again_any hX⟩
  clear h
  by_cases h13 : F.last = 13
  · by_cases h10 : x = 10
    · rw [if_pos ⟨h13, h10⟩] at HS
      have e5 : ((F.last.toNat : Nat) : Int) = 13 := by rw [h13]; rfl
      have ex : ((x.toNat : Nat) : Int) = 10 := by rw [h10]; rfl
      rw [e5] at c5
      rw [ex]
      clear h13 h10 e5 ex
      go_enter Tryd.func63, Tryd.ntmps63
      go_wp2
      go_quiet (fail)
      go_wp2_with (go_at_call 82; refine (HAg.out _ ?_).mono ?_; (exact (H.out.on (below_alloc (Below.refl _ _) _)).drewN _); rintro e w1 ⟨rfl, HA⟩; have hp1 := HA.out.2.piece (new_piece W) hne'; obtain ⟨p0, p1, q0, q1⟩ := pc_cells hp1; have HP1 := Hd.mk hp1; clear hp1)
      refine bodyPost_ret (res_piece rfl _ _ W.heap.size 0 ⟨#[]⟩ false rfl rfl (piece_set rfl HP1.out)) rfl ?_
      unfold StepPost
      rw [HS.out]
      exact ⟨rfl, ⟨_, HA.out.1.setP2 HP1.out, (((((Kp.refl base b W).alloc _).drewN _).trans HA.out.2).setNew (Nat.le_refl _) _).setNew (Nat.le_refl _) _⟩⟩
    · rw [if_neg (fun e => h10 e.2)] at HS
      have e5 : ((F.last.toNat : Nat) : Int) = 13 := by rw [h13]; rfl
      have ex : (((x.toNat : Nat) : Int) == 10) = false := beq_eq_false_iff_ne.2 fun e => h10 ((u8_eq x 10 (by decide)).1 e)
      have HE := Hd.mk e5
      rw [e5] at c5
      obtain ⟨z, hz⟩ : ∃ z : Int, ((x.toNat : Nat) : Int) = z := ⟨_, rfl⟩
      rw [hz] at ex
      rw [hz]
      have HZ := Hd.mk hz
      have ex2 : (z == (((⟨#[13, 10]⟩ : ByteArray)[1]'(by decide)).toNat : Int)) = false := ex
      clear e5 hz h13 h10
      go_enter Tryd.func63, Tryd.ntmps63
      go_wp2
      go_quiet (fail)
      obtain ⟨p0, p1, q0, q1⟩ := pc_cells (new_piece W)
      go_wp2
      refine bodyPost_ret (res_piece rfl _ _ W.heap.size 0 ⟨#[]⟩ false rfl rfl (piece_set rfl (fd_far (new_piece W) hne'))) rfl ?_
      unfold StepPost
      rw [HS.out]
      refine ⟨rfl, ⟨_, FdAt.setP2 (((H.out.on (below_alloc (Below.refl _ _) _)).drewN _).put (G := ⟨F.s, F.fr, F.own, F.all, F.lft, x, F.md⟩) 5 _ rfl (by rw [← HZ.out]; rfl)) (fd_far (new_piece W) hne'), (((((Kp.refl base b W).alloc _).drewN _).set 5 _).setNew (Nat.le_refl _) _).setNew (Nat.le_refl _) _⟩⟩
  · rw [if_neg (fun e => h13 e.1)] at HS
    have ex : (((F.last.toNat : Nat) : Int) == 13) = false := beq_eq_false_iff_ne.2 fun e => h13 ((u8_eq F.last 13 (by decide)).1 e)
    obtain ⟨z, hz⟩ : ∃ z : Int, ((x.toNat : Nat) : Int) = z := ⟨_, rfl⟩
    obtain ⟨y, hy⟩ : ∃ y : Int, ((F.last.toNat : Nat) : Int) = y := ⟨_, rfl⟩
    rw [hy] at ex c5
    rw [hz]
    have HZ := Hd.mk hz
    have ex2 : (y == (((⟨#[13, 10]⟩ : ByteArray)[0]'(by decide)).toNat : Int)) = false := ex
    clear hy hz h13
    go_enter Tryd.func63, Tryd.ntmps63
    go_wp2
    go_quiet (fail)
    obtain ⟨p0, p1, q0, q1⟩ := pc_cells (new_piece W)
    go_wp2
    refine bodyPost_ret (res_piece rfl _ _ W.heap.size 0 ⟨#[]⟩ false rfl rfl (piece_set rfl (fd_far (new_piece W) hne'))) rfl ?_
    unfold StepPost
    rw [HS.out]
    refine ⟨rfl, ⟨_, FdAt.setP2 (((H.out.on (below_alloc (Below.refl _ _) _)).drewN _).put (G := ⟨F.s, F.fr, F.own, F.all, F.lft, x, F.md⟩) 5 _ rfl (by rw [← HZ.out]; rfl)) (fd_far (new_piece W) hne'), (((((Kp.refl base b W).alloc _).drewN _).set 5 _).setNew (Nat.le_refl _) _).setNew (Nat.le_refl _) _⟩⟩
end Go.Proofs.YtphaemaccdddfaaDoor.PTk
