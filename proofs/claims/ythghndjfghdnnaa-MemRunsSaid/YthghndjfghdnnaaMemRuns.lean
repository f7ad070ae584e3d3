/- The walk of the law MemRuns. No condition. -/
import Derived.Test.YthghndjfghdnnaaMemLaw
import Derived.Test.YthghndjfghdnnaaMemRel
import Derived.Test.YthghndjfghdnnaaOpen
import Derived.OpenShut
import Derived.Deep.RegionHeld3
import Derived.Deep.DeepCutAuto
namespace Go.Proofs.Ythghndjfghdnnaa
open Go.RowKit Go.Proofs.YthghndjfghdnnaaW.PrintWords Go.Proofs.Ythghndjfghdnnaa.PMemRuns
@[go_sem] theorem field_time62 (x y z : Value) (w : World) : (Instr.field 62 (.agg #[x, y, z]) 2).run Try.prog w = .ok z w := by kernel_rfl
/-- A word that the law is given. -/
def ROp : Int × Int × Int × Int → List Value → Prop := fun p cs => cs = [.int .u8 p.1, .int .i64 p.2.1, .int .u64 p.2.2.1, .int .u64 p.2.2.2] ∧ (Lit.int .u8 p.1).wf = true ∧ (Lit.int .i64 p.2.1).wf = true ∧ (Lit.int .u64 p.2.2.1).wf = true ∧ (Lit.int .u64 p.2.2.2).wf = true
def opN (zs : List (Int × Int × Int × Int)) (k : Nat) : Int × Int × Int × Int := zs.getD k (0, 0, 0, 0)
theorem recs_ops {w : World} {A : Option Addr} {n : Nat} {zs : List (Int × Int × Int × Int)} (h : Recs ROp 4 w A n zs) (hn : 0 < n) :
    ∃ bx ox, A = some ⟨bx, ox, none⟩ ∧ bx < w.heap.size ∧ ∀ i, i < zs.length → (w.cell? ⟨bx, ox + i * 4, none⟩ = some (.int .u8 (opN zs i).1) ∧ w.cell? ⟨bx, ox + i * 4 + 1, none⟩ = some (.int .i64 (opN zs i).2.1) ∧
      w.cell? ⟨bx, ox + i * 4 + 2, none⟩ = some (.int .u64 (opN zs i).2.2.1) ∧ w.cell? ⟨bx, ox + i * 4 + 3, none⟩ = some (.int .u64 (opN zs i).2.2.2)) ∧ 0 ≤ (opN zs i).1 ∧ (opN zs i).1 ≤ 255 := by
  obtain ⟨hl, _, h⟩ := h
  obtain ⟨ad, rfl, hc⟩ := h hn
  have each : ∀ i, i < zs.length → ∀ j u, [Value.int .u8 (opN zs i).1, .int .i64 (opN zs i).2.1, .int .u64 (opN zs i).2.2.1, .int .u64 (opN zs i).2.2.2][j]? = some u → w.cell? (ad.add (i * 4 + j)) = some u := by
    intro i hi j u hu
    obtain ⟨c, _, ⟨rfl, _⟩, hcell⟩ := hc i _ (List.getElem?_eq_getElem hi)
    refine hcell j u ?_
    unfold opN at hu
    rwa [List.getD_eq_getElem?_getD, List.getElem?_eq_getElem hi] at hu
  have h0 := each 0 (by omega) 0 _ rfl
  have hp := plain_of_cell (a := ad) (by simpa [Addr.add] using h0)
  have hb : ad.block < w.heap.size := lt_of_cell (a := ad) (by simpa [Addr.add] using h0)
  refine ⟨ad.block, ad.off, congrArg some hp, hb, fun i hi => ?_⟩
  have hw : (Lit.int .u8 (opN zs i).1).wf = true := by
    obtain ⟨c, _, ⟨rfl, hw, _⟩, hcell⟩ := hc i _ (List.getElem?_eq_getElem hi)
    unfold opN
    rwa [List.getD_eq_getElem?_getD, List.getElem?_eq_getElem hi]
  have hw := bounds_u8 hw
  have e : ∀ j, (⟨ad.block, ad.off + i * 4 + j, none⟩ : Addr) = ad.add (i * 4 + j) := fun j => by rw [hp, add_off, Nat.add_assoc]
  refine ⟨⟨(e 0) ▸ each i hi 0 _ rfl, (e 1) ▸ each i hi 1 _ rfl, (e 2) ▸ each i hi 2 _ rfl, (e 3) ▸ each i hi 3 _ rfl⟩, by omega, by omega⟩
theorem blk_cell {w : World} {b t i : Nat} {cs : Array Value} {v : Value} (h : w.heap[b]? = some (.cells cs t (0, 0))) (hc : cs[i]? = some v) : w.cell? ⟨b, i, none⟩ = some v := by simp [World.cell?, h, hc]
theorem blk_free {w : World} {b t : Nat} {cs : Array Value} (h : w.heap[b]? = some (.cells cs t (0, 0))) (i : Nat) : w.frozen? ⟨b, i, none⟩ = false := by simp [World.frozen?, h]
/-- The law's two memories, between two rounds. -/
structure RunAt (w0 w : World) (bm bw : Nat) (M : MemS) (N : Nat) (T : Int) (sl : Value) (L : List S62) (q : Nat) : Prop where
  mem : MemAt w bm M
  n : M.n = N
  blk : w.heap[bw]? = some (.cells #[.int .i64 N, .int .u64 T, sl] 52 (0, 0))
  own : Kd.R k62 62 w w0.heap.size (fun k => k ≠ bm ∧ k ≠ bw) sl L
  below : Below w0.heap.size w0 w
  bm_ge : w0.heap.size ≤ bm
  bw_ge : w0.heap.size ≤ bw
  ne : bm ≠ bw
  rel : Rel M T L
  rng : ∀ x ∈ L, inIt N x.f0
  len : L.length ≤ q
theorem blk_set3 {w : World} {b t : Nat} {x y z x' y' z' : Value} (h : w.heap[b]? = some (.cells #[x, y, z] t (0, 0))) :
    (((w.setCell ⟨b, 0, none⟩ x').setCell ⟨b, 1, none⟩ y').setCell ⟨b, 2, none⟩ z').heap[b]? = some (.cells #[x', y', z'] t (0, 0)) := by
  simp [World.setCell, Array.getElem?_modify, h]
theorem RunAt.lt {w0 w : World} {bm bw : Nat} {M : MemS} {N : Nat} {T : Int} {sl : Value} {L : List S62} {q : Nat} (h : RunAt w0 w bm bw M N T sl L q) : bw < w.heap.size := (Array.getElem?_eq_some_iff.1 h.blk).1
/-- The reference's own rows, at the head of a round. -/
abbrev OwnOk (wr : World) (bm bw : Nat) : Nat → Prop := fun k => (k ≠ bm ∧ k ≠ bw) ∧ k < wr.heap.size
theorem RunAt.own2 {w0 w w' : World} {bm bw : Nat} {M : MemS} {N : Nat} {T : Int} {sl : Value} {L : List S62} {q : Nat} (h : RunAt w0 w bm bw M N T sl L q) (hb : ∀ k, k < w.heap.size → k ≠ bm → w'.heap[k]? = w.heap[k]?) :
    Kd.R k62 62 w' w0.heap.size (OwnOk w bm bw) sl L :=
  Kd.R_step (Kd.R_mono (Kd.R_bound h.own) (fun _ hk => ⟨hk.1, hk.2.2.1⟩)) (fun k hk _ => hb k hk.2 hk.1.1)
theorem RunAt.after {w0 wr wx w2 w5 : World} {bm bw : Nat} {M M' : MemS} {N : Nat} {T T' : Int} {sl v : Value} {L L' : List S62} {q : Nat} (h : RunAt w0 wr bm bw M N T sl L q) (hx : wr.heap.size ≤ wx.heap.size)
    (hp : RefPost (OwnOk wr bm bw) v L' w0 wx w2) (ht : Touch (fun k => k = bm ∨ k = bw) w2 w5) (hm : MemAt w5 bm M') (hn : M'.n = N) (hb : w5.heap[bw]? = some (.cells #[.int .i64 N, .int .u64 T', v] 52 (0, 0)))
    (rel : Rel M' T' L') (rng : ∀ x ∈ L', inIt N x.f0) (len : L'.length ≤ q + 1) : RunAt w0 w5 bm bw M' N T' v L' (q + 1) := by
  have l1 := h.mem.lt
  have l2 := h.lt
  have key : ∀ k, (OwnOk wr bm bw k ∨ wx.heap.size ≤ k) → k ≠ bm ∧ k ≠ bw := fun k hk => by
    rcases hk with hk | hk
    · exact hk.1
    · exact ⟨by omega, by omega⟩
  exact ⟨hm, hn, hb, Kd.R_mono (Kd.R_step hp.1 (fun k hk hlt => ht.block k hlt (by have := key k hk; omega))) key, hp.2.1.trans (ht.below hp.2.1.size (fun k hk e => by have := h.bm_ge; have := h.bw_ge; omega)), h.bm_ge, h.bw_ge, h.ne, rel, rng, len⟩
theorem RefPost.blk {w0 wr wx w2 : World} {bm bw k : Nat} {v : Value} {L : List S62} (hp : RefPost (OwnOk wr bm bw) v L w0 wx w2) (hk : k < wx.heap.size) (hn : k = bm ∨ k = bw ∨ wr.heap.size ≤ k) : w2.heap[k]? = wx.heap[k]? :=
  hp.2.2.2 k hk (fun e => by have := e.2; have := e.1; omega)
theorem RunAt.move {w0 w w' : World} {bm bw : Nat} {M : MemS} {N : Nat} {T : Int} {sl : Value} {L : List S62} {q : Nat} (h : RunAt w0 w bm bw M N T sl L q) (hb : Below w.heap.size w w') : RunAt w0 w' bm bw M N T sl L q :=
  ⟨h.mem.of_cells (hb.block _ h.mem.lt), h.n, (hb.block _ h.lt).trans h.blk, Kd.R_below h.own hb, h.below.trans (hb.mono h.below.size), h.bm_ge, h.bw_ge, h.ne, h.rel, h.rng, h.len⟩
theorem put_touch {w w4 : World} {bm bw : Nat} {x y z : Value} (h : Touch (fun k => k = bm ∨ k = bw) w w4) : Touch (fun k => k = bm ∨ k = bw) w (((w4.setCell ⟨bw, 0, none⟩ x).setCell ⟨bw, 1, none⟩ y).setCell ⟨bw, 2, none⟩ z) :=
  ((h.setCell (p := ⟨bw, 0, none⟩) (.inl (.inr rfl)) _).setCell (p := ⟨bw, 1, none⟩) (.inl (.inr rfl)) _).setCell (p := ⟨bw, 2, none⟩) (.inl (.inr rfl)) _
theorem put_far {w : World} {bw k : Nat} {x y z : Value} (h : k ≠ bw) : (((w.setCell ⟨bw, 0, none⟩ x).setCell ⟨bw, 1, none⟩ y).setCell ⟨bw, 2, none⟩ z).heap[k]? = w.heap[k]? := by
  rw [Below.heap_setCell _ _ _ _ h, Below.heap_setCell _ _ _ _ h, Below.heap_setCell _ _ _ _ h]
theorem load_n {M : MemS} {i : Int} : (M.load i).n = M.n := by unfold MemS.load; split <;> rfl
theorem store_n {M : MemS} {i v : Int} : (M.store i v).n = M.n := by unfold MemS.store; split <;> rfl
theorem cas_n {M : MemS} {i o v : Int} : (M.cas i o v).n = M.n := by unfold MemS.cas; split; split <;> rfl; rfl
/-- Behind the reference's call, an alloc, the memory's call and the store of the variable. -/
theorem RunAt.drawn {w0 wr w2 w4 : World} {o o2 : Obj} {bm bw : Nat} {M M' : MemS} {N : Nat} {T T' : Int} {sl v : Value} {L L' : List S62} {q : Nat} (h : RunAt w0 wr bm bw M N T sl L q)
    (hp : RefPost (OwnOk wr bm bw) v L' w0 (wr.alloc o) w2) (ht : Touch (· = bm) (w2.alloc o2).drew w4) (hm : MemAt w4 bm M') (hn : M'.n = N) (rel : Rel M' T' L') (rng : ∀ x ∈ L', inIt N x.f0) (len : L'.length ≤ q + 1) :
    RunAt w0 (((w4.setCell ⟨bw, 0, none⟩ (.int .i64 N)).setCell ⟨bw, 1, none⟩ (.int .u64 T')).setCell ⟨bw, 2, none⟩ v) bm bw M' N T' v L' (q + 1) := by
  have l1 := h.mem.lt
  have l2 := h.lt
  have lp := hp.2.2.1
  rw [World.size_alloc] at lp
  have hk : w4.heap[bw]? = some (.cells #[.int .i64 N, .int .u64 T, sl] 52 (0, 0)) :=
    (ht.block bw (by simp; omega) (fun e => h.ne e.symm)).trans ((Below.heap_alloc w2 _ bw (by omega)).trans ((hp.blk (k := bw) (by simp; omega) (.inr (.inl rfl))).trans ((Below.heap_alloc _ _ _ l2).trans h.blk)))
  exact h.after (by simp) hp (put_touch ((((Touch.refl _ w2).alloc o2).drew).step ht (fun _ _ e => .inl e))) (hm.of_cells (put_far h.ne)) hn (blk_set3 hk) rel rng len
set_option maxHeartbeats 4000000 in
set_option maxRecDepth 100000 in
theorem memRuns_long (bx ox : Nat) (zs : List (Int × Int × Int × Int)) (cap N : Nat) (w : World) (hN0 : 1 ≤ N) (hN1 : N ≤ 8192) (h1 : zs.length ≤ 200) (hx : bx < w.heap.size)
    (hc : ∀ i, i < zs.length → (w.cell? ⟨bx, ox + i * 4, none⟩ = some (.int .u8 (opN zs i).1) ∧ w.cell? ⟨bx, ox + i * 4 + 1, none⟩ = some (.int .i64 (opN zs i).2.1) ∧
      w.cell? ⟨bx, ox + i * 4 + 2, none⟩ = some (.int .u64 (opN zs i).2.2.1) ∧ w.cell? ⟨bx, ox + i * 4 + 3, none⟩ = some (.int .u64 (opN zs i).2.2.2)) ∧ 0 ≤ (opN zs i).1 ∧ (opN zs i).1 ≤ 255) :
    Calls Try.prog 6 #[.int .i64 N, .slice (some ⟨bx, ox, none⟩) zs.length cap] w fun e w' => e = .returned (.bool true) ∧ Below w.heap.size w w' := by
  have HC : Hd _ := ⟨hc⟩
  clear hc
  go_enter Try.func6, Try.ntmps6
  go_wp2_with (go_at_call 24; refine (new_yes N w (by omega) (by omega)).mono ?_; rintro e w1 ⟨b, rfl, hge, hm, htc, hs⟩)
  go_loopw [7] (fun i wr => ∃ (q : Nat) (M : MemS) (T : Int) (sl : Value) (L : List S62), q ≤ zs.length ∧ i = .int .i64 q ∧ Hd (RunAt w wr b (w.heap.size + 1) M N T sl L q)) (fun i _ => zs.length - (intOf i).toNat)
  case atStart =>
    have hB : Below w.heap.size w w1 := htc.below (Nat.le_refl _) (fun _ _ h => h)
    have hlt := hm.lt
    refine ⟨0, _, 0, _, [], Nat.zero_le _, rfl, ⟨⟨hm.of_cells (Below.heap_alloc _ _ _ hlt), rfl, ?_, Kd.R_nil _ _ _ _ _, hB.alloc hB.size _, hge, by omega, by omega, rel_new N, fun _ h => absurd h (List.not_mem_nil), Nat.le_refl _⟩⟩⟩
    rw [← hs]; exact heap_alloc_new _ _
  case round =>
    clear hm
    obtain ⟨q, M, T, sl, L, hq, rfl, HR⟩ := hrel
    by_cases hlt : q < zs.length
    · obtain ⟨hm, hn, hblk, hown, hbel, hmg, hwg, hmw, hre, hrng, hlen⟩ := HR.out
      obtain ⟨⟨c0, c1, c2, c3⟩, hk0, hk1⟩ := HC.out q hlt
      have d0 := (hbel.cell (p := ⟨bx, ox + q * 4, none⟩) hx).trans c0
      have d1 := (hbel.cell (p := ⟨bx, ox + q * 4 + 1, none⟩) hx).trans c1
      have d2 := (hbel.cell (p := ⟨bx, ox + q * 4 + 2, none⟩) hx).trans c2
      have d3 := (hbel.cell (p := ⟨bx, ox + q * 4 + 3, none⟩) hx).trans c3
      have hlo : (0 : Int) ≤ (q : Int) := by omega
      have hhi : (q : Int) < (zs.length : Int) := by omega
      have lm := hm.lt
      have lw : w.heap.size + 1 < wr.heap.size := (Array.getElem?_eq_some_iff.1 hblk).1
      have e0 : wr.cell? ⟨w.heap.size + 1, 0, none⟩ = some (.int .i64 N) := blk_cell hblk rfl
      have e1 : wr.cell? ⟨w.heap.size + 1, 1, none⟩ = some (.int .u64 T) := blk_cell hblk rfl
      have e2 : wr.cell? ⟨w.heap.size + 1, 2, none⟩ = some sl := blk_cell hblk rfl
      have f0 := blk_free hblk 0
      have f1 := blk_free hblk 1
      have f2 := blk_free hblk 2
      have HR1 : ∀ o, Hd (Kd.R k62 62 (wr.alloc o) w.heap.size (OwnOk wr b (w.heap.size + 1)) sl L) := fun o => ⟨HR.out.own2 (fun k hk _ => Below.heap_alloc _ _ _ hk)⟩
      have HB1 : ∀ o, Hd (Below w.heap.size w (wr.alloc o)) := fun o => ⟨hbel.alloc (by omega) o⟩
      have HM1 : ∀ o, Hd (MemAt (wr.alloc o) b M) := fun o => ⟨hm.of_cells (Below.heap_alloc _ _ _ hm.lt)⟩
      have hl : L.length ≤ 100000 := by omega
      clear c0 c1 c2 c3 hm hn hown hbel hre hrng hlen
      have HK : Hd _ := ⟨hblk⟩
      clear hblk
      go_upto_block 2 with fail
      go_cut [9] (fun ok wx => ok = .bool true ∧ wx.cell? ⟨wr.heap.size, 1, none⟩ = some (.int .i64 (opN zs q).2.1) ∧ Hd (∃ M T sl L, RunAt w wx b (w.heap.size + 1) M N T sl L (q + 1)))
      case first =>
        by_cases hr0 : (opN zs q).1 % 3 = 0
        · have ht : ((opN zs q).1 % 3 == 0) = true := beq_iff_eq.2 hr0
          clear hr0
          go_wp2_with fail
          refine (refLoad N T (opN zs q).2.1 sl L _ w _ hl (HB1 _).out (HR1 _).out).mono ?_
          rintro e w2 ⟨v, rfl, HP⟩
          obtain ⟨A, c, rfl⟩ := Kd.R_slice HP.out.1
          have lp := HP.out.2.2.1
          rw [World.size_alloc] at lp
          have k1 : w2.cell? ⟨wr.heap.size, 1, none⟩ = some (.int .i64 (opN zs q).2.1) := (World.cell?_of_block (HP.out.blk (k := wr.heap.size) (by simp) (.inr (.inr (Nat.le_refl _))))).trans (by simp [go_sem])
          have ne1 : ¬ wr.heap.size = w2.heap.size := by omega
          have k2 : ∀ o, (w2.alloc o).cell? ⟨wr.heap.size, 1, none⟩ = some (.int .i64 (opN zs q).2.1) := fun o => (World.cell?_of_block (Below.heap_alloc _ _ _ (by show wr.heap.size < w2.heap.size; omega))).trans k1
          have ne2 : ¬ w2.heap.size = wr.heap.size := by omega
          have HM2 : Hd (∀ X : World, X.heap[b]? = w2.heap[b]? → MemAt X b M) := ⟨fun X hX => (HM1 _).out.of_cells (hX.trans (HP.out.blk (by simp; omega) (.inl rfl)))⟩
          have lm2 : b < w2.heap.size := by omega
          have HK2 : Hd (w2.heap[w.heap.size + 1]? = _) := ⟨(HP.out.blk (k := w.heap.size + 1) (by simp; omega) (.inr (.inl rfl))).trans ((Below.heap_alloc _ _ _ lw).trans HK.out)⟩
          have hq : (M.get (opN zs q).2.1 == gotN N L (opN zs q).2.1) = true := by
            have := (rel_load HR.out.rel (opN zs q).2.1).2
            rw [HR.out.n] at this
            rw [this]; exact beq_self_eq_true _
          go_upto_region 17 with fail
          go_region_held3 (fun w' => w'.cell? ⟨w2.heap.size, 0, none⟩ = some (.int .i64 N) ∧ w'.cell? ⟨w2.heap.size, 1, none⟩ = some (.int .u64 (tickN N T (opN zs q).2.1)) ∧ w'.cell? ⟨w2.heap.size, 2, none⟩ = some (.slice A L.length c) ∧ w'.cell? ⟨wr.heap.size, 1, none⟩ = some (.int .i64 (opN zs q).2.1))
            (first | (simp [go_sem, *]; done) | (simp only [World.cell?_drew, k2]; simp [go_sem, *]))
            (first
              | (go_at_call 26; refine (load_any M b (opN zs q).2.1 _ (HM2.out _ ?_)).mono ?_; (exact Below.heap_alloc w2 _ b lm2); rintro e w4 ⟨rfl, hm4, ht4, hs4⟩;
                 have m0 := (ht4.cell (p := ⟨w2.heap.size, 0, none⟩) (by simp) (by simp; omega)); have m1 := (ht4.cell (p := ⟨w2.heap.size, 1, none⟩) (by simp) (by simp; omega)); have m2 := (ht4.cell (p := ⟨w2.heap.size, 2, none⟩) (by simp) (by simp; omega)); have m3 := (ht4.cell (p := ⟨wr.heap.size, 1, none⟩) (by simp; omega) (by simp; omega));
                 have HK4 : Hd (w4.heap[w.heap.size + 1]? = _) := ⟨(ht4.block (w.heap.size + 1) (by simp; omega) (by omega)).trans ((Below.heap_alloc w2 _ _ (by omega)).trans HK2.out)⟩;
                 have b0 := blk_cell HK4.out (i := 0) rfl; have b1 := blk_cell HK4.out (i := 1) rfl; have b2 := blk_cell HK4.out (i := 2) rfl; have g0 := blk_free HK4.out 0; have g1 := blk_free HK4.out 1; have g2 := blk_free HK4.out 2;
                 have HT4 : Hd _ := ⟨ht4⟩; have HM4 : Hd _ := ⟨hm4⟩; clear ht4 hm4))
          all_goals go_wp2_with fail
          all_goals go_meet
          all_goals (refine ⟨rfl, (World.cell?_of_block (put_far (k := wr.heap.size) (by omega))).trans (m3.trans (k2 _)), ⟨_, _, _, _, HR.out.drawn HP.out HT4.out HM4.out (load_n.trans HR.out.n) ?_ HR.out.rng (Nat.le_succ_of_le HR.out.len)⟩⟩; have := (rel_load HR.out.rel (opN zs q).2.1).1; rw [HR.out.n] at this; exact this)
        · have ht : ((opN zs q).1 % 3 == 0) = false := beq_eq_false_iff_ne.2 hr0
          by_cases hr1 : (opN zs q).1 % 3 = 1
          · have ht1 : ((opN zs q).1 % 3 == 1) = true := beq_iff_eq.2 hr1
            clear hr0 hr1
            go_wp2_with fail
            refine (store_any M b (opN zs q).2.1 (opN zs q).2.2.2 _ (HM1 _).out).mono ?_
            rintro e w2 ⟨rfl, hm2, ht2, hs2⟩
            rw [World.size_alloc] at hs2
            have HK2 : Hd (w2.heap[w.heap.size + 1]? = _) := ⟨(ht2.block _ (by simp; omega) (fun e => HR.out.ne e.symm)).trans ((Below.heap_alloc _ _ _ lw).trans HK.out)⟩
            have k1 : w2.cell? ⟨wr.heap.size, 1, none⟩ = some (.int .i64 (opN zs q).2.1) := (ht2.cell (p := ⟨wr.heap.size, 1, none⟩) (by simp) (by simp; omega)).trans (by simp [go_sem])
            have k3 : w2.cell? ⟨wr.heap.size, 3, none⟩ = some (.int .u64 (opN zs q).2.2.2) := (ht2.cell (p := ⟨wr.heap.size, 3, none⟩) (by simp) (by simp; omega)).trans (by simp [go_sem])
            have b0 := blk_cell HK2.out (i := 0) rfl
            have b1 := blk_cell HK2.out (i := 1) rfl
            have b2 := blk_cell HK2.out (i := 2) rfl
            have HR2 : Hd (Kd.R k62 62 w2 w.heap.size (OwnOk wr b (w.heap.size + 1)) sl L) := ⟨HR.out.own2 (fun k hk hn => (ht2.block k (by simp; omega) hn).trans (Below.heap_alloc _ _ _ hk))⟩
            have HB2 : Hd (Below w.heap.size w w2) := ⟨(HB1 _).out.trans (ht2.below (HB1 _).out.size (fun k hk e => by omega))⟩
            have HM2 : Hd _ := ⟨hm2⟩
            clear hm2 ht2
            go_wp2_with fail
            refine (refStore N T (opN zs q).2.1 (opN zs q).2.2.2 sl L _ w _ hl HB2.out HR2.out).mono ?_
            rintro e w3 ⟨v, rfl, HP⟩
            obtain ⟨A, c, rfl⟩ := Kd.R_slice HP.out.1
            have HK3 : Hd (w3.heap[w.heap.size + 1]? = _) := ⟨(HP.out.blk (k := w.heap.size + 1) (by omega) (.inr (.inl rfl))).trans HK2.out⟩
            have HM3 : Hd (MemAt w3 b (M.store (opN zs q).2.1 (opN zs q).2.2.2)) := ⟨HM2.out.of_cells (HP.out.blk (by omega) (.inl rfl))⟩
            have k31 : w3.cell? ⟨wr.heap.size, 1, none⟩ = some (.int .i64 (opN zs q).2.1) := (World.cell?_of_block (HP.out.blk (k := wr.heap.size) (by omega) (.inr (.inr (Nat.le_refl _))))).trans k1
            clear b0 b1 b2
            have b0 := blk_cell HK3.out (i := 0) rfl
            have b1 := blk_cell HK3.out (i := 1) rfl
            have b2 := blk_cell HK3.out (i := 2) rfl
            have g0 := blk_free HK3.out 0
            have g1 := blk_free HK3.out 1
            have g2 := blk_free HK3.out 2
            go_wp2_with fail
            go_meet
            refine ⟨rfl, (World.cell?_of_block (put_far (k := wr.heap.size) (by omega))).trans k31, ⟨_, _, _, _, HR.out.after (by omega) HP.out (put_touch (Touch.refl _ _)) (HM3.out.of_cells (put_far HR.out.ne)) (store_n.trans HR.out.n) (blk_set3 HK3.out) ?_ (stored_rng HR.out.rng) (Nat.le_trans (stored_len _ _ _ _ _) (Nat.succ_le_succ HR.out.len))⟩⟩
            have := rel_store HR.out.rel (opN zs q).2.1 (opN zs q).2.2.2
            rw [HR.out.n] at this
            exact this
          · have ht1 : ((opN zs q).1 % 3 == 1) = false := beq_eq_false_iff_ne.2 hr1
            have ht2 : ((opN zs q).1 % 3 == 2) = true := beq_iff_eq.2 (by omega)
            clear hr0 hr1
            go_wp2_with fail
            refine (refCas N T (opN zs q).2.1 (opN zs q).2.2.1 (opN zs q).2.2.2 sl L _ w _ hl (HB1 _).out (HR1 _).out).mono ?_
            rintro e w2 ⟨v, rfl, HP⟩
            obtain ⟨A, c, rfl⟩ := Kd.R_slice HP.out.1
            have lp := HP.out.2.2.1
            rw [World.size_alloc] at lp
            have ne1 : ¬ wr.heap.size = w2.heap.size := by omega
            have ne2 : ¬ w2.heap.size = wr.heap.size := by omega
            have hw : w2.heap[wr.heap.size]? = _ := (HP.out.blk (k := wr.heap.size) (by simp) (.inr (.inr (Nat.le_refl _)))).trans (heap_alloc_new _ _)
            have HW : Hd _ := ⟨hw⟩
            clear hw
            have k1 : ∀ o, (w2.alloc o).cell? ⟨wr.heap.size, 1, none⟩ = some (.int .i64 (opN zs q).2.1) := fun o => (World.cell?_of_block (Below.heap_alloc _ _ _ (by show wr.heap.size < w2.heap.size; omega))).trans (blk_cell HW.out rfl)
            have k2 : ∀ o, (w2.alloc o).cell? ⟨wr.heap.size, 2, none⟩ = some (.int .u64 (opN zs q).2.2.1) := fun o => (World.cell?_of_block (Below.heap_alloc _ _ _ (by show wr.heap.size < w2.heap.size; omega))).trans (blk_cell HW.out rfl)
            have k3 : ∀ o, (w2.alloc o).cell? ⟨wr.heap.size, 3, none⟩ = some (.int .u64 (opN zs q).2.2.2) := fun o => (World.cell?_of_block (Below.heap_alloc _ _ _ (by show wr.heap.size < w2.heap.size; omega))).trans (blk_cell HW.out rfl)
            have HM2 : Hd (∀ X : World, X.heap[b]? = w2.heap[b]? → MemAt X b M) := ⟨fun X hX => (HM1 _).out.of_cells (hX.trans (HP.out.blk (by simp; omega) (.inl rfl)))⟩
            have lm2 : b < w2.heap.size := by omega
            have HK2 : Hd (w2.heap[w.heap.size + 1]? = _) := ⟨(HP.out.blk (k := w.heap.size + 1) (by simp; omega) (.inr (.inl rfl))).trans ((Below.heap_alloc _ _ _ lw).trans HK.out)⟩
            have hq : (M.casOk (opN zs q).2.1 (opN zs q).2.2.1 == casB N L (opN zs q).2.1 (opN zs q).2.2.1) = true := by
              have := (rel_cas HR.out.rel (opN zs q).2.1 (opN zs q).2.2.1 (opN zs q).2.2.2).2
              rw [HR.out.n] at this
              rw [this]; exact beq_self_eq_true _
            go_upto_region 23 with fail
            go_region_held3 (fun w' => w'.cell? ⟨w2.heap.size, 0, none⟩ = some (.int .i64 N) ∧ w'.cell? ⟨w2.heap.size, 1, none⟩ = some (.int .u64 (tickN N T (opN zs q).2.1)) ∧ w'.cell? ⟨w2.heap.size, 2, none⟩ = some (.slice A (casL N T L (opN zs q).2.1 (opN zs q).2.2.1 (opN zs q).2.2.2).length c) ∧ w'.cell? ⟨wr.heap.size, 1, none⟩ = some (.int .i64 (opN zs q).2.1) ∧ w'.cell? ⟨wr.heap.size, 2, none⟩ = some (.int .u64 (opN zs q).2.2.1) ∧ w'.cell? ⟨wr.heap.size, 3, none⟩ = some (.int .u64 (opN zs q).2.2.2))
              (first | (simp [go_sem, *]; done) | (simp only [World.cell?_drew, k1, k2, k3]; simp [go_sem, *]))
              (first
                | (go_at_call 32; refine (cas_any M b (opN zs q).2.1 (opN zs q).2.2.1 (opN zs q).2.2.2 _ (HM2.out _ ?_)).mono ?_; (exact Below.heap_alloc w2 _ b lm2); rintro e w4 ⟨rfl, hm4, ht4, hs4⟩;
                   have m0 := (ht4.cell (p := ⟨w2.heap.size, 0, none⟩) (by simp) (by simp; omega)); have m1 := (ht4.cell (p := ⟨w2.heap.size, 1, none⟩) (by simp) (by simp; omega)); have m2 := (ht4.cell (p := ⟨w2.heap.size, 2, none⟩) (by simp) (by simp; omega)); have m3 := (ht4.cell (p := ⟨wr.heap.size, 1, none⟩) (by simp; omega) (by simp; omega)); have m4 := (ht4.cell (p := ⟨wr.heap.size, 2, none⟩) (by simp; omega) (by simp; omega)); have m5 := (ht4.cell (p := ⟨wr.heap.size, 3, none⟩) (by simp; omega) (by simp; omega));
                   have HK4 : Hd (w4.heap[w.heap.size + 1]? = _) := ⟨(ht4.block (w.heap.size + 1) (by simp; omega) (by omega)).trans ((Below.heap_alloc w2 _ _ (by omega)).trans HK2.out)⟩;
                   have b0 := blk_cell HK4.out (i := 0) rfl; have b1 := blk_cell HK4.out (i := 1) rfl; have b2 := blk_cell HK4.out (i := 2) rfl; have g0 := blk_free HK4.out 0; have g1 := blk_free HK4.out 1; have g2 := blk_free HK4.out 2;
                   have HT4 : Hd _ := ⟨ht4⟩; have HM4 : Hd _ := ⟨hm4⟩; clear ht4 hm4))
            all_goals go_wp2_with fail
            all_goals go_meet
            all_goals (refine ⟨rfl, (World.cell?_of_block (put_far (k := wr.heap.size) (by omega))).trans (m3.trans (k1 _)), ⟨_, _, _, _, HR.out.drawn HP.out HT4.out HM4.out (cas_n.trans HR.out.n) ?_ (casL_rng HR.out.rng) (Nat.le_trans (casL_len _ _ _ _ _ _) (Nat.succ_le_succ HR.out.len))⟩⟩; have := (rel_cas HR.out.rel (opN zs q).2.1 (opN zs q).2.2.1 (opN zs q).2.2.2).1; rw [HR.out.n] at this; exact this)
      case rest =>
        clear e0 e1 e2 f0 f1 f2 HR1 HB1 HM1 HK HR hl lm lw
        obtain ⟨rfl, k1, ⟨M, T, sl, L, hR⟩⟩ := hcut
        obtain ⟨A, c, rfl, hc, hC⟩ := Kd.R_reads hR.own
        have e0 := blk_cell hR.blk (i := 0) rfl
        have e1 := blk_cell hR.blk (i := 1) rfl
        have e2 := blk_cell hR.blk (i := 2) rfl
        have tm := time_any M b
        rw [hR.rel.time] at tm
        have ln := len_any M b
        rw [hR.n] at ln
        have ch := changed_any M b (opN zs q).2.1
        rw [rel_chg hR.rel _ (by rw [hR.n]; exact hR.rng)] at ch
        have hl : L.length ≤ 100000 := by have := hR.len; omega
        have l0 := hR.mem.lt
        have l1 := hR.lt
        have l2 : wr.heap.size < wc.heap.size := lt_of_cell (a := ⟨wr.heap.size, 1, none⟩) k1
        have HM : Hd (∀ X : World, X.heap[b]? = wc.heap[b]? → MemAt X b M) := ⟨fun X hX => hR.mem.of_cells hX⟩
        have HL : Hd (∀ X : World, Below wc.heap.size wc X → Calls Try.prog 33 #[.agg #[.int .i64 N, .int .u64 T, .slice A L.length c], .int .i64 (opN zs q).2.1] X fun e w' => e = .returned (.agg #[.int .i64 (lastOf L (opN zs q).2.1).f0, .int .u64 (lastOf L (opN zs q).2.1).f1, .int .u64 (lastOf L (opN zs q).2.1).f2]) ∧ Below X.heap.size X w') := ⟨fun X hX => refLast N T (opN zs q).2.1 A c L X hl (Kd.C_below hC hX) hc⟩
        have HR : Hd _ := ⟨hR⟩
        have HT : Hd _ := ⟨tm⟩
        have HN : Hd _ := ⟨ln⟩
        have HH : Hd _ := ⟨ch⟩
        clear hR tm ln ch hC
        go_upto_region 24 with fail
        go_region_held3 (fun w' => w'.cell? ⟨w.heap.size + 1, 0, none⟩ = some (.int .i64 N) ∧ w'.cell? ⟨w.heap.size + 1, 1, none⟩ = some (.int .u64 T) ∧ w'.cell? ⟨w.heap.size + 1, 2, none⟩ = some (.slice A L.length c) ∧ w'.cell? ⟨wr.heap.size, 1, none⟩ = some (.int .i64 (opN zs q).2.1))
          (simp [go_sem, *])
          (first
            | (go_at_call 28; refine (HT.out _ (HM.out _ ?_)).mono ?_; (exact rfl); rintro e w' ⟨rfl, rfl⟩)
            | (go_at_call 27; refine (HH.out _ (HM.out _ ?_)).mono ?_; (exact rfl); rintro e w' ⟨rfl, rfl⟩)
            | (go_at_call 33; refine (HL.out _ ?_).mono ?_; (exact (Below.refl _ wc).drew); rintro e w3 ⟨rfl, hb3⟩;
               have m0 := (hb3.cell (p := ⟨w.heap.size + 1, 0, none⟩) (by simp; omega)); have m1 := (hb3.cell (p := ⟨w.heap.size + 1, 1, none⟩) (by simp; omega)); have m2 := (hb3.cell (p := ⟨w.heap.size + 1, 2, none⟩) (by simp; omega)); have m3 := (hb3.cell (p := ⟨wr.heap.size, 1, none⟩) (by simp; omega));
               have HB3 : Hd _ := ⟨hb3⟩; clear hb3)
            | (go_at_call 34; refine (HN.out _ (HM.out _ ?_)).mono ?_; (exact HB3.out.block b (by simp; omega)); rintro e w' ⟨rfl, rfl⟩))
        all_goals go_wp2_with fail
        go_roundw
        case rel => exact ⟨q + 1, _, _, _, _, by omega, by go_num, ⟨HR.out.move ((Below.refl _ wc).drew.trans (HB3.out.mono (by simp)))⟩⟩
        case measure => simp [intOf]; omega
    · obtain rfl : q = zs.length := by omega
      go_wp2_with fail
      refine (memAwake _).mono ?_
      rintro e w4 ⟨rfl, hb4⟩
      go_wp2_with fail
      go_ret
      exact ⟨rfl, HR.out.below.trans (hb4.mono HR.out.below.size)⟩
set_option maxHeartbeats 1000000 in
theorem memRuns_empty (A : Option Addr) (cap N : Nat) (w : World) (hN0 : 1 ≤ N) (hN1 : N ≤ 8192) :
    Calls Try.prog 6 #[.int .i64 N, .slice A 0 cap] w fun e w' => e = .returned (.bool true) ∧ Below w.heap.size w w' := by
  go_enter Try.func6, Try.ntmps6
  go_wp2_with (go_at_call 24; refine (new_yes N w (by omega) (by omega)).mono ?_; rintro e w1 ⟨b, rfl, hge, hm, htc, hs⟩)
  have hB : Below w.heap.size w w1 := htc.below (Nat.le_refl _) (fun _ _ h => h)
  go_loopw [7] (fun i wr => i = .int .i64 0 ∧ Below w.heap.size w wr) (fun _ _ => 0)
  case atStart => exact ⟨rfl, hB.alloc hB.size _⟩
  case round =>
    obtain ⟨rfl, hB2⟩ := hrel
    go_wp2_with fail
    refine (memAwake _).mono ?_
    rintro e w4 ⟨rfl, hb4⟩
    go_wp2_with fail
    go_ret
    exact ⟨rfl, hB2.trans (hb4.mono hB2.size)⟩
set_option maxHeartbeats 1000000 in
theorem memRuns_bad (A : Option Addr) (len cap : Nat) (n : Int) (w : World) (hl : len ≤ 200) (h : n < 1 ∨ 8192 < n) :
    Calls Try.prog 6 #[.int .i64 n, .slice A len cap] w fun e w' => e = .returned (.bool true) ∧ Below w.heap.size w w' := by
  have hz : (len : Int) ≤ 200 := by omega
  rcases h with h | h
  all_goals
    go_enter Try.func6, Try.ntmps6
    go_wp2_with (first | (go_at_call 24; refine (new_no n w (by omega)).mono ?_; rintro e w1 ⟨rfl, rfl⟩) | (go_at_call 23; refine (memAwake _).mono ?_; rintro e w' ⟨rfl, hb⟩))
    go_ret
    exact ⟨rfl, hb⟩
theorem memRuns_far (A : Option Addr) (len cap : Nat) (n : Int) (w : World) (hl : 200 < len) :
    Calls Try.prog 6 #[.int .i64 n, .slice A len cap] w fun e w' => e = .returned (.bool true) ∧ Below w.heap.size w w' := by
  go_enter Try.func6, Try.ntmps6
  go_wp2
  go_ret
  exact ⟨rfl, Below.refl _ _⟩
theorem memRuns_any (w : World) (n : Int) (_hn : (Lit.int .i64 n).wf = true) (A : Option Addr) (len cap : Nat) (l : List (Int × Int × Int × Int)) (h : Recs ROp 4 w A len l) (_hc : len ≤ cap) (_hz : len * 32 ≤ 140737488351232) :
    Calls Try.prog 6 #[.int .i64 n, .slice A len cap] w fun e w' => e = .returned (.bool true) ∧ Below w.heap.size w w' := by
  by_cases hl : 200 < len
  · exact memRuns_far A len cap n w hl
  · by_cases hn : n < 1 ∨ 8192 < n
    · exact memRuns_bad A len cap n w (by omega) hn
    · obtain ⟨N, rfl⟩ := Int.eq_ofNat_of_zero_le (show 0 ≤ n by omega)
      by_cases h0 : len = 0
      · subst h0; exact memRuns_empty A cap N w (by omega) (by omega)
      · obtain ⟨bx, ox, rfl, hb, hcell⟩ := recs_ops h (by omega)
        obtain rfl := h.1
        exact memRuns_long bx ox l cap N w (by omega) (by omega) (by omega) hb hcell
end Go.Proofs.Ythghndjfghdnnaa
