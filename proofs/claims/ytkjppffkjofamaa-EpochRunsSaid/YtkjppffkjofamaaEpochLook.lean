/- Package epoch: the walk of Advance's closure through the readers, and its end. No condition but those that each contract bears. -/
import Derived.Test.YtkjppffkjofamaaEpochAdv
set_option linter.unusedVariables false
set_option linter.unusedSimpArgs false
namespace Go.Proofs.Ytkjppffkjofamaa
open Go.RowKit Go.Shelf
/-- What a look holds. -/
structure LookEnv (W : World) (bw be bn bl bv b mv k nv : Nat) : Prop where
  env : AdvEnv W be bl bv b mv
  k : W.cell? ⟨bw, 0, none⟩ = some (.int .i64 (k : Nat))
  nv : W.cell? ⟨bn, 0, none⟩ = some (.int .u64 (nv : Nat))
/-- A reader's word, looked at. -/
theorem load_pin {W : World} {b bm bp n wd now : Nat} {pins : Nat → Nat} (h : EpAt W b bm bp n wd now pins) (k : Nat) (hk : k < n) (X : World) (hX : ∀ k, k < W.heap.size → X.heap[k]? = W.heap[k]?) :
    Calls Try.prog 40 #[.pointer (some ⟨bm, 0, none⟩), .int .i64 ((wd : Int) + 1 + (k : Int))] X fun e w2 => e = .returned (.int .u64 (pins k : Nat)) ∧ EpAt w2 b bm bp n wd now pins ∧ Touch (· = bm) X w2 ∧ w2.heap.size = X.heap.size := by
  obtain ⟨M, hm, hn, hw, hp⟩ := h.mem
  have l := h.lt
  have hl := load_any M bm ((wd : Int) + 1 + (k : Int)) X (hm.of_cells (hX bm l.2.1))
  have hg : M.get ((wd : Int) + 1 + (k : Int)) = (pins k : Int) := by
    unfold MemS.get
    rw [if_pos ⟨by omega, by omega⟩, show ((wd : Int) + 1 + (k : Int)).toNat = wd + 1 + k by omega]
    exact hp k hk
  have hld : M.load ((wd : Int) + 1 + (k : Int)) = M.tick := by unfold MemS.load; rw [if_pos ⟨by omega, by omega⟩]
  rw [hg, hld] at hl
  refine hl.mono ?_
  rintro e w2 ⟨rfl, hm2, ht2, hs2⟩
  exact ⟨rfl, ep_ticked (h.of_blocks (hX b l.1) (hX bm l.2.1) (hX bp l.2.2)) ht2 hm2 hn hw hp, ht2, hs2⟩
/-- What a look at a reader leaves. -/
def LookAny (W : World) (b bm bp n wd now : Nat) (pins : Nat → Nat) (be bl bv k nv : Nat) (e : Ending) (w' : World) : Prop :=
  ((pins k = 0 ∨ pins k = nv + 1) → LookPost W b bm bp n wd now pins be bl bv (k + 1) nv e w') ∧ (¬ (pins k = 0 ∨ pins k = nv + 1) → e = .returned .nilFunc ∧ EpAt w' b bm bp n wd now pins ∧ Touch (· = bm) W w')
theorem wrap_pin (wd k : Nat) (h : wd ≤ 8192) (h2 : k < 8) : IntKind.i64.wrap (IntKind.i64.wrap ((wd : Int) + 1) + (k : Int)) = (wd : Int) + 1 + (k : Int) := by
  rw [IntKind.wrap_i64, IntKind.wrap_i64]; omega
set_option maxHeartbeats 4000000 in
/-- A look at a reader. -/
theorem look_pin {W : World} {b bm bp n wd now : Nat} {pins : Nat → Nat} (h : EpAt W b bm bp n wd now pins) (bw be bn bl bv mv k nv : Nat) (he : LookEnv W bw be bn bl bv b mv k nv) (hk : k < n) (hnv : nv ≤ 100000) (h1 : be ≠ bm) (h2 : bw ≠ bm) (h3 : bn ≠ bm) (h4 : bl ≠ bm) :
    Calls Try.prog 46 #[.pointer (some ⟨bw, 0, none⟩), .pointer (some ⟨be, 0, none⟩), .pointer (some ⟨bn, 0, none⟩), .pointer (some ⟨bl, 0, none⟩), .pointer (some ⟨bv, 0, none⟩)] W (LookAny W b bm bp n wd now pins be bl bv k nv) := by
  have e0 : W.cell? ⟨b, 0, none⟩ = some (.pointer (some ⟨bm, 0, none⟩)) := by simp [World.cell?, h.blk]
  have e1 : W.cell? ⟨b, 1, none⟩ = some (.int .i64 (wd : Nat)) := by simp [World.cell?, h.blk]
  have e3 : W.cell? ⟨b, 3, none⟩ = some (.slice (some ⟨bp, 0, none⟩) n n) := by simp [World.cell?, h.blk]
  have c1 := he.env.e
  have c2 := he.k
  have c3 := he.nv
  have c4 := he.env.l
  have l1 := lt_of_cell c1
  have l2 := lt_of_cell c2
  have l3 := lt_of_cell c3
  have l4 := lt_of_cell c4
  have hd1 := h.d1
  have l := h.lt
  have hn8 := h.n8
  have hwd := h.wd8
  have hlt : (k : Int) < (n : Int) := by omega
  have HL : Hd (∀ (X : World) (i : Int), i = (wd : Int) + 1 + (k : Int) → (∀ k, k < W.heap.size → X.heap[k]? = W.heap[k]?) → Calls Try.prog 40 #[.pointer (some ⟨bm, 0, none⟩), .int .i64 i] X fun e w2 => e = .returned (.int .u64 (pins k : Nat)) ∧ EpAt w2 b bm bp n wd now pins ∧ Touch (· = bm) X w2 ∧ w2.heap.size = X.heap.size) := ⟨fun X i hi => by rw [hi]; exact load_pin h k hk X⟩
  have hpb := h.pinb k hk
  clear he h
  go_enter Try.func46, Try.ntmps46
  go_upto_region 1 with fail
  go_region
  go_upto_region 2 with fail
  go_cut [6] (fun u wx => u = .int .u64 (pins k : Nat) ∧ Hd (EpAt wx b bm bp n wd now pins ∧ Touch (· = bm) W wx ∧ wx.heap.size = W.heap.size))
  case first =>
    obtain ⟨W1, hW1⟩ : ∃ W1, W1 = W.drew := ⟨_, rfl⟩
    rw [← hW1]
    replace e0 : W1.cell? ⟨b, 0, none⟩ = some (.pointer (some ⟨bm, 0, none⟩)) := by rw [hW1]; exact e0
    replace e1 : W1.cell? ⟨b, 1, none⟩ = some (.int .i64 (wd : Nat)) := by rw [hW1]; exact e1
    replace c1 : W1.cell? ⟨be, 0, none⟩ = some (.pointer (some ⟨b, 0, none⟩)) := by rw [hW1]; exact c1
    replace c2 : W1.cell? ⟨bw, 0, none⟩ = some (.int .i64 (k : Nat)) := by rw [hW1]; exact c2
    have HL1 : Hd _ := ⟨HL.out W1.drew (IntKind.i64.wrap (IntKind.i64.wrap ((wd : Int) + 1) + (k : Int))) (wrap_pin wd k hwd (by omega)) (fun j _ => by rw [hW1]; rfl)⟩
    have hT0 : Touch (· = bm) W W1.drew := by rw [hW1]; exact (Touch.refl _ W).drew.drew
    have hs0 : W1.drew.heap.size = W.heap.size := by rw [hW1]; rfl
    have HT0 : Hd _ := ⟨hT0⟩
    have HS0 : Hd _ := ⟨hs0⟩
    have HW1 : Hd _ := ⟨hW1⟩
    have HX1 : Hd _ := ⟨(show be < W1.drew.heap.size by rw [hs0]; exact l1)⟩
    have HX2 : Hd _ := ⟨(show bw < W1.drew.heap.size by rw [hs0]; exact l2)⟩
    have HX3 : Hd _ := ⟨(show b < W1.drew.heap.size by rw [hs0]; exact l.1)⟩
    clear hW1 hT0 hs0 HL c3 c4 e3
    go_region_held3 (fun w' => w'.cell? ⟨be, 0, none⟩ = some (.pointer (some ⟨b, 0, none⟩)) ∧ w'.cell? ⟨b, 0, none⟩ = some (.pointer (some ⟨bm, 0, none⟩)) ∧ w'.cell? ⟨b, 1, none⟩ = some (.int .i64 (wd : Nat)) ∧ w'.cell? ⟨bw, 0, none⟩ = some (.int .i64 (k : Nat)))
      (first | (simp [go_sem, *]; done))
      (first
        | (go_at_call 40; refine HL1.out.mono ?_; rintro e w2 ⟨rfl, hE, hT, hs⟩;
           have m4 := (hT.cell (p := ⟨be, 0, none⟩) (by exact HX1.out) (by exact h1)); have m5 := (hT.cell (p := ⟨b, 0, none⟩) (by exact HX3.out) (by exact hd1)); have m6 := (hT.cell (p := ⟨b, 1, none⟩) (by exact HX3.out) (by exact hd1)); have m7 := (hT.cell (p := ⟨bw, 0, none⟩) (by exact HX2.out) (by exact h2)); have HE : Hd _ := ⟨hE⟩; have HT : Hd _ := ⟨hT⟩; clear hE hT))
    all_goals go_wp2_with fail
    all_goals go_meet
    all_goals exact ⟨rfl, ⟨HE.out, HT0.out.trans HT.out, hs.trans HS0.out⟩⟩
  case rest =>
    obtain ⟨rfl, HR⟩ := hcut
    replace c3 := (HR.out.2.1.cell (p := ⟨bn, 0, none⟩) l3 h3).trans c3
    replace c4 := (HR.out.2.1.cell (p := ⟨bl, 0, none⟩) l4 h4).trans c4
    replace c2 := (HR.out.2.1.cell (p := ⟨bw, 0, none⟩) l2 h2).trans c2
    have hz : Hd (wc.heap.size = W.heap.size) := ⟨HR.out.2.2⟩
    clear HL e0 e1 e3 c1
    by_cases h0 : pins k = 0
    · have hb : (((pins k : Nat) : Int) != 0) = false := by simp [h0]
      go_wp2_with (go_at_call 45; refine (adv_look _ be bl bv (k + 1) nv).mono ?_; rintro e w3 ⟨rfl, rfl⟩)
      go_ret
      exact ⟨fun _ => look_post HR.out.1 HR.out.2.1 hz.out rfl rfl, fun hn => absurd (.inl h0) hn⟩
    · have hb : (((pins k : Nat) : Int) != 0) = true := bne_iff_ne.2 (by omega)
      by_cases hn1 : pins k = nv + 1
      · have hb2 : (((pins k : Nat) : Int) != (nv : Int) + 1) = false := by rw [hn1]; simp
        go_wp2_with (go_at_call 45; refine (adv_look _ be bl bv (k + 1) nv).mono ?_; rintro e w3 ⟨rfl, rfl⟩)
        go_ret
        exact ⟨fun _ => look_post HR.out.1 HR.out.2.1 hz.out rfl rfl, fun hn => absurd (.inr hn1) hn⟩
      · have hb2 : (((pins k : Nat) : Int) != (nv : Int) + 1) = true := bne_iff_ne.2 (by omega)
        go_wp2_with fail
        go_ret
        exact ⟨fun hn => hn.elim (fun e => absurd e h0) (fun e => absurd e hn1), fun _ => ⟨rfl, HR.out.1, HR.out.2.1⟩⟩
end Go.Proofs.Ytkjppffkjofamaa
