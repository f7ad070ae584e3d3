/- The law EpochLimbo, walked: true for every input. No condition. -/
import Derived.Test.YtkjppffkjofamaaRefReady
import Derived.Test.YtkjppffkjofamaaAwake
import Derived.Deep.RegionHeld3
import Derived.Test.YtkjppffkjofamaaOpen
import Derived.OpenShut
set_option linter.unusedVariables false
namespace Go.Proofs.Ytkjppffkjofamaa
open Go.RowKit Go.Shelf
theorem pw_drewN {B : Nat} {W w : World} (h : Below B W w) (n : Nat) : Below B W (w.drewN n) := ⟨h.os, h.tape, h.output, h.size, h.block⟩
/-- Slots that are added, and at which epoch is asked. -/
structure AddD where
  ep : Int
  a : Option Addr
  cap : Nat
  zs : List Int
  ask : Int
def RAdd (W : World) : AddD → List Value → Prop := fun p cs =>
  cs = [.int .u64 p.ep, .slice p.a p.zs.length p.cap, .int .u64 p.ask] ∧ (0 ≤ p.ep ∧ p.ep < 18446744073709551616) ∧ (0 ≤ p.ask ∧ p.ask < 18446744073709551616) ∧ Recs (RInt .i64) 1 W p.a p.zs.length p.zs ∧ p.zs.length ≤ p.cap
structure AddCells (W : World) (bx o : Nat) (p : AddD) : Prop where
  c0 : W.cell? ⟨bx, o, none⟩ = some (.int .u64 p.ep)
  c1 : W.cell? ⟨bx, o + 1, none⟩ = some (.slice p.a p.zs.length p.cap)
  c2 : W.cell? ⟨bx, o + 2, none⟩ = some (.int .u64 p.ask)
  e : 0 ≤ p.ep ∧ p.ep < 18446744073709551616
  k : 0 ≤ p.ask ∧ p.ask < 18446744073709551616
  z : IntsAt p.a p.zs W
  zb : ∀ ba oa, p.a = some ⟨ba, oa, none⟩ → 0 < p.zs.length → ba < W.heap.size
  lt : bx < W.heap.size
  cap : p.zs.length ≤ p.cap
theorem add_cells {W : World} {A : Option Addr} {n : Nat} {l : List AddD} (h : Recs (RAdd W) 3 W A n l) (k : Nat) (hk : k < n) : ∃ bx ox p, A = some ⟨bx, ox, none⟩ ∧ AddCells W bx (ox + k * 3) p := by
  obtain ⟨hl, _, h⟩ := h
  obtain ⟨ad, rfl, hc⟩ := h (by omega)
  have hk' : k < l.length := by omega
  have h0 : ∃ v, W.cell? ad = some v := by
    obtain ⟨c, _, ⟨rfl, _⟩, h4⟩ := hc 0 _ (List.getElem?_eq_getElem (by omega))
    exact ⟨_, by simpa [Addr.add] using h4 0 _ rfl⟩
  obtain ⟨v, h0⟩ := h0
  have hp := plain_of_cell h0
  obtain ⟨c, _, ⟨rfl, h1, h2, h3, h5⟩, h4⟩ := hc k _ (List.getElem?_eq_getElem hk')
  have cell : ∀ i u, [Value.int .u64 l[k].ep, .slice l[k].a l[k].zs.length l[k].cap, .int .u64 l[k].ask][i]? = some u → W.cell? ⟨ad.block, ad.off + k * 3 + i, none⟩ = some u := fun i u hu => by
    have := h4 i u hu
    rw [hp, add_off] at this
    rw [Nat.add_assoc]; exact this
  refine ⟨ad.block, ad.off, l[k], congrArg some hp, ⟨cell 0 _ rfl, cell 1 _ rfl, cell 2 _ rfl, h1, h2, fun j hj => ?_, fun ba oa e hz => ?_, lt_of_cell (a := ad) h0, h5⟩⟩
  · obtain ⟨bx, ox, e, _, hcz⟩ := recs_ints h3 (by omega)
    exact ⟨bx, ox, e, hcz j hj⟩
  · obtain ⟨bx, ox, e2, hb, _⟩ := recs_ints h3 hz
    rw [e] at e2; cases e2; exact hb
/-- The Limbo, and the reference's row. -/
structure LS (W0 w : World) (lb : Nat) (ks us : List (Int × Int)) (v : Value) : Prop where
  lim : ∃ row, LimboAt w lb W0.heap.size ks row ∧ ∀ x, v.ownBlock = some x → row ≠ some x
  own : w.ownsRow W0.heap.size 33 2 v us.length (kcs us)
  nolb : v.ownBlock ≠ some lb
  ge : W0.heap.size ≤ lb
  below : Below W0.heap.size W0 w
  pos : ∀ p, p ∈ us → 0 ≤ p.1
theorem kth_mem {ks : List (Int × Int)} {k : Nat} (h : k < ks.length) : kth ks k ∈ ks := by
  unfold kth
  rw [List.getD_eq_getElem?_getD, List.getElem?_eq_getElem h]
  exact List.getElem_mem h
theorem lft_mem {ks : List (Int × Int)} {ep : Int} : ∀ {k : Nat}, k ≤ ks.length → ∀ p, p ∈ lft ks ep k → p ∈ ks := by
  intro k
  induction k with
  | zero => intro _ p hp; cases hp
  | succ k ih =>
    intro hk p hp
    unfold lft at hp
    split at hp
    · exact ih (by omega) p hp
    · rcases List.mem_append.1 hp with hp | hp
      · exact ih (by omega) p hp
      · rw [List.mem_singleton.1 hp]; exact kth_mem (by omega)
theorem addTo_mem {ks : List (Int × Int)} {ep : Int} {zs : List Int} (he : 0 ≤ ep) (h : ∀ p, p ∈ ks → 0 ≤ p.1) : ∀ k p, p ∈ addTo ks ep zs k → 0 ≤ p.1 := by
  intro k
  induction k with
  | zero => exact h
  | succ k ih =>
    intro p hp
    unfold addTo at hp
    rcases List.mem_append.1 hp with hp | hp
    · exact ih p hp
    · rw [List.mem_singleton.1 hp]; exact he
theorem ls_add {W0 w : World} {lb : Nat} {ks us : List (Int × Int)} {v : Value} (h : LS W0 w lb ks us v) {bx o : Nat} {p : AddD} (hC : AddCells W0 bx o p) (hk : ks.length + p.zs.length ≤ 100000) :
    Calls Try.prog 8 #[.pointer (some ⟨lb, 0, none⟩), .int .u64 p.ep, .slice p.a p.zs.length p.cap] w fun e w' => e = .returned (.tuple #[]) ∧ Hd (LS W0 w' lb (addTo ks p.ep p.zs p.zs.length) us v) := by
  obtain ⟨row, hL, hr⟩ := h.lim
  have hz := h.below.size
  have hge := h.ge
  obtain ⟨vl, _, hvo, hvr⟩ := hL.v
  have hrl : ∀ k, row = some k → W0.heap.size ≤ k ∧ k < w.heap.size := fun k hk => owns_lt hvo k (hvr.trans hk)
  refine (limbo_add hL hz p.ep p.a p.cap p.zs (fun j hj => ?_) (fun ba oa e hp => ?_) hk).mono ?_
  · obtain ⟨ba, oa, e, hc⟩ := hC.z j hj
    exact ⟨ba, oa, e, (h.below.cell (p := ⟨ba, oa + j, none⟩) (hC.zb ba oa e (by omega))).trans hc⟩
  · have := hC.zb ba oa e hp
    exact ⟨by omega, by omega, fun e => by have := hrl ba e; omega⟩
  · rintro e w' ⟨rfl, ⟨row', hL', hn⟩, hT⟩
    have hvn : ∀ k, v.ownBlock = some k → ¬ (k = lb ∨ some k = row) := fun k hk e => e.elim (fun e => h.nolb (e ▸ hk)) (fun e => hr k hk e.symm)
    refine ⟨rfl, ⟨⟨row', hL', fun x hx e => ?_⟩, ownsRow_of_block h.own (fun k hk => hT.block k (owns_lt h.own k hk).2 (hvn k hk)), h.nolb, h.ge, h.below.trans (hT.below hz (fun k hk e => ?_)), h.pos⟩⟩
    · rcases hn with hn | ⟨g, hn, hg⟩
      · exact hr x hx (hn ▸ e)
      · rw [hn] at e; cases e
        have := (owns_lt h.own x hx).2; omega
    · rcases e with e | e
      · omega
      · have := hrl k e.symm; omega
theorem LS.push {W0 wr w1 : World} {lb : Nat} {ks us : List (Int × Int)} {v : Value} {o : Obj} {p : Int × Int} {g cap : Nat} (h : LS W0 wr lb ks us v) (hp : 0 ≤ p.1)
    (hown : w1.ownsRow W0.heap.size 33 2 (.slice (some ⟨g, 0, none⟩) (us.length + 1) cap) (us.length + 1) (kcs us ++ [.int .u64 p.1, .int .i64 p.2])) (hgrow : World.grownBy (wr.alloc o).drew w1 v.ownBlock) (hat : v.ownBlock = some g ∨ g = wr.heap.size + 1) :
    LS W0 w1 lb ks (us ++ [p]) (.slice (some ⟨g, 0, none⟩) (us.length + 1) cap) := by
  obtain ⟨row, hL, hr⟩ := h.lim
  have hz := h.below.size
  have hlb := hL.lt
  obtain ⟨vl, _, hvo, hvr⟩ := hL.v
  have hrl : ∀ k, row = some k → W0.heap.size ≤ k ∧ k < wr.heap.size := fun k hk => owns_lt hvo k (hvr.trans hk)
  have a2 : Below wr.heap.size wr (wr.alloc o).drew := ((Below.refl wr.heap.size wr).alloc (Nat.le_refl _) o).drew
  have blk : ∀ j, j < wr.heap.size → v.ownBlock ≠ some j → w1.heap[j]? = wr.heap[j]? := fun j hj hne => (hgrow.block j (by show j < (wr.alloc o).heap.size; simp; omega) (fun e => hne e.symm)).trans (a2.block j hj)
  refine ⟨⟨row, hL.of_blocks (blk lb hlb h.nolb) (fun k hk => blk k (hrl k hk).2 (fun e => hr k e hk)), fun x hx e => ?_⟩, ?_, fun e => ?_, h.ge, (h.below.trans (a2.mono hz)).trans ⟨hgrow.os, hgrow.tape, hgrow.output, hgrow.size, fun j hj => hgrow.block j (by show j < (wr.alloc o).heap.size; simp; omega) (fun e => ?_)⟩, fun q hq => ?_⟩
  · cases hx
    rcases hat with e2 | e2
    · exact hr g e2 e
    · have := (hrl g e).2; omega
  · rw [List.length_append, kcs_snoc]; exact hown
  · have e3 : g = lb := Option.some.inj e
    rcases hat with e2 | e2
    · exact h.nolb (e3 ▸ e2)
    · omega
  · have := owns_lt h.own j e.symm; omega
  · rcases List.mem_append.1 hq with hq | hq
    · exact h.pos q hq
    · rw [List.mem_singleton.1 hq]; exact hp
theorem ls_len {W0 w : World} {lb : Nat} {ks us : List (Int × Int)} {v : Value} (h : LS W0 w lb ks us v) : Calls Try.prog 9 #[.pointer (some ⟨lb, 0, none⟩)] w fun e w' => e = .returned (.int .i64 (ks.length : Nat)) ∧ w = w' := by
  obtain ⟨row, hL, _⟩ := h.lim
  exact limbo_len hL
theorem owns_down {w : World} {base base' : Nat} {e : TypeId} {size n : Nat} {v : Value} {xs : List Value} (h : w.ownsRow base e size v n xs) (hb : base' ≤ base) : w.ownsRow base' e size v n xs := ownsRow_up h (fun k hk => Nat.le_trans hb (owns_lt h k hk).1)
/-- Behind the reference's Ready. -/
structure LT (W0 w : World) (lb : Nat) (ks : List (Int × Int)) (ask : Int) (vo vl : Value) : Prop where
  ls : LS W0 w lb ks (lft ks ask ks.length) vl
  out : w.ownsRow W0.heap.size 3 1 vo (rdy ks ask ks.length).length ((rdy ks ask ks.length).map (Value.int .i64))
  far : ∀ x, vo.ownBlock = some x → x ≠ lb
theorem ls_ref {W0 w : World} {lb : Nat} {ks : List (Int × Int)} {v : Value} (h : LS W0 w lb ks ks v) (ask : Int) (h0 : 0 ≤ ask) (h1 : ask < 18446744073709551616) (hk : ks.length ≤ 100000) :
    Calls Try.prog 10 #[v, .int .u64 ask] w fun e w' => ∃ vo A2 c2, e = .returned (.tuple #[vo, .slice A2 (lft ks ask ks.length).length c2]) ∧ Hd (LT W0 w' lb ks ask vo (.slice A2 (lft ks ask ks.length).length c2)) := by
  refine (ref_ready h.own ask h0 h1 hk (fun k hk => h.pos _ (kth_mem hk))).mono ?_
  rintro e w' ⟨vo, vl, rfl, hR⟩
  obtain ⟨A2, c2, rfl⟩ := ownsRow_slice hR.left
  obtain ⟨row, hL, hr⟩ := h.lim
  have hz := h.below.size
  have hlb := hL.lt
  obtain ⟨vv, _, hvo, hvr⟩ := hL.v
  have hrl : ∀ k, row = some k → W0.heap.size ≤ k ∧ k < w.heap.size := fun k hk => owns_lt hvo k (hvr.trans hk)
  refine ⟨vo, A2, c2, rfl, ⟨⟨⟨row, hL.of_blocks (hR.below.block lb hlb) (fun k hk => hR.below.block k (hrl k hk).2), fun x hx e => ?_⟩, owns_down hR.left hz, fun e => ?_, h.ge, h.below.trans (hR.below.mono hz), fun p hp => h.pos p (lft_mem (Nat.le_refl _) p hp)⟩, owns_down hR.out hz, fun x hx e => ?_⟩⟩
  · have := owns_lt hR.left x hx; have := hrl x e; omega
  · have := owns_lt hR.left lb e; omega
  · have := owns_lt hR.out x hx; omega
/-- Behind the Limbo's Ready. -/
structure LU (W0 w : World) (lb : Nat) (ks : List (Int × Int)) (ask : Int) (vo vl v2 : Value) : Prop where
  ls : LS W0 w lb (lft ks ask ks.length) (lft ks ask ks.length) vl
  out : w.ownsRow W0.heap.size 3 1 vo (rdy ks ask ks.length).length ((rdy ks ask ks.length).map (Value.int .i64))
  out2 : w.ownsRow W0.heap.size 3 1 v2 (rdy ks ask ks.length).length ((rdy ks ask ks.length).map (Value.int .i64))
theorem lt_ready {W0 w : World} {lb : Nat} {ks : List (Int × Int)} {ask : Int} {vo vl : Value} (h : LT W0 w lb ks ask vo vl) (h0 : 0 ≤ ask) (h1 : ask < 18446744073709551616) (hk : ks.length ≤ 100000) :
    Calls Try.prog 12 #[.pointer (some ⟨lb, 0, none⟩), .int .u64 ask] w fun e w' => ∃ v2, e = .returned v2 ∧ Hd (LU W0 w' lb ks ask vo vl v2) := by
  obtain ⟨row, hL, hr⟩ := h.ls.lim
  have hz := h.ls.below.size
  have hge := h.ls.ge
  refine (limbo_ready hL ask h0 h1 hk).mono ?_
  rintro e w' ⟨v2, row', rfl, ho, hL2, hT, _, _⟩
  have hrl : ∀ k, row' = some k → w.heap.size ≤ k := fun k hk => by obtain ⟨v, _, ho, hv⟩ := hL2.v; exact (owns_lt ho k (hv.trans hk)).1
  have blk : ∀ k, k < w.heap.size → k ≠ lb → w'.heap[k]? = w.heap[k]? := fun k hk hne => hT.block k hk hne
  refine ⟨v2, rfl, ⟨⟨⟨row', hL2.down (fun k hk => by have := hrl k hk; omega), fun x hx e => ?_⟩, ownsRow_of_block h.ls.own (fun k hk => blk k (owns_lt h.ls.own k hk).2 (fun e => h.ls.nolb (e ▸ hk))), h.ls.nolb, h.ls.ge, h.ls.below.trans (hT.below hz (fun k hk e => by omega)), h.ls.pos⟩, ownsRow_of_block h.out (fun k hk => blk k (owns_lt h.out k hk).2 (h.far k hk)), owns_down ho hz⟩⟩
  have := hrl x e; have := (owns_lt h.ls.own x hx).2; omega
theorem lu_same {W0 w : World} {lb : Nat} {ks : List (Int × Int)} {ask : Int} {vo vl v2 : Value} (h : LU W0 w lb ks ask vo vl v2) (hk : ks.length ≤ 100000) :
    Calls Try.prog 11 #[v2, vo] w fun e w' => e = .returned (.bool true) ∧ Hd (LS W0 w' lb (lft ks ask ks.length) (lft ks ask ks.length) vl) := by
  refine (same_any h.out2 h.out (Nat.le_trans (rdy_le ks ask ks.length).1 hk)).mono ?_
  rintro e w' ⟨rfl, n, rfl⟩
  obtain ⟨row, hL, hr⟩ := h.ls.lim
  exact ⟨rfl, ⟨⟨row, hL.of_blocks rfl (fun _ _ => rfl), hr⟩, ownsRow_of_block h.ls.own (fun _ _ => rfl), h.ls.nolb, h.ls.ge, pw_drewN h.ls.below n, h.ls.pos⟩⟩
theorem LS.same {W0 w w' : World} {lb : Nat} {ks us : List (Int × Int)} {v : Value} (h : LS W0 w lb ks us v) (h1 : w'.heap = w.heap) (h2 : w'.os = w.os) (h3 : w'.tape = w.tape) (h4 : w'.output = w.output) : LS W0 w' lb ks us v := by
  obtain ⟨row, hL, hr⟩ := h.lim
  have e : ∀ k : Nat, w'.heap[k]? = w.heap[k]? := fun k => by rw [h1]
  exact ⟨⟨row, hL.of_blocks (e _) (fun k _ => e k), hr⟩, ownsRow_of_block h.own (fun k _ => e k), h.nolb, h.ge, ⟨h2.trans h.below.os, h3.trans h.below.tape, h4.trans h.below.output, by rw [h1]; exact h.below.size, fun k hk => (e k).trans (h.below.block k hk)⟩, h.pos⟩
theorem ls_start (W : World) : LS W (W.alloc (.cells #[.slice none 0 0] 25)) W.heap.size [] [] (.slice none 0 0) where
  lim := ⟨none, ⟨⟨_, heap_alloc_new W _, World.ownsRow_nil _ _ _ _, rfl⟩, fun e => nomatch e⟩, fun x hx => nomatch hx⟩
  own := World.ownsRow_nil _ _ _ _
  nolb := fun e => nomatch e
  ge := Nat.le_refl _
  below := (Below.refl _ _).alloc (Nat.le_refl _) _
  pos := fun p hp => nomatch hp
set_option maxRecDepth 100000 in
set_option maxHeartbeats 4000000 in
theorem limbo_law (W : World) (A : Option Addr) (len cap : Nat) (l : List AddD) (h : Recs (RAdd W) 3 W A len l) (_ : len ≤ cap) (_ : len * 40 ≤ 140737488351232) :
    Calls Try.prog 3 #[.slice A len cap] W fun e w' => e = .returned (.bool true) ∧ Below W.heap.size W w' := by
  have HA : Hd _ := ⟨h⟩
  have hlen := h.2.1
  obtain ⟨i0, hi0, hz0, hz1, hz2⟩ := info_parts info_ref
  clear h
  by_cases hlt : (40 : Int) < (len : Int)
  · go_enter Try.func3, Try.ntmps3
    go_wp2
    go_ret
    exact ⟨rfl, Below.refl _ _⟩
  · go_enter Try.func3, Try.ntmps3
    go_wp2
    go_loopw [4, 5] (fun v i wr => ∃ k : Nat, k ≤ len ∧ i = .int .i64 k ∧ Hd (∃ ks, LS W wr W.heap.size ks ks v ∧ ks.length ≤ 20 * k)) (fun _ i _ => len - (intOf i).toNat)
    case atStart =>
      exact ⟨0, Nat.zero_le _, rfl, ⟨[], ls_start W, Nat.le_refl _⟩⟩
    case round =>
      obtain ⟨k, hk, rfl, HL⟩ := hrel
      by_cases hkl : k < len
      · obtain ⟨bx, ox, p, rfl, hC⟩ := add_cells HA.out k hkl
        obtain ⟨ks, hks⟩ := HL.out
        have x0 := (hks.1.below.cell (p := ⟨bx, ox + k * 3, none⟩) hC.lt).trans hC.c0
        have x1 := (hks.1.below.cell (p := ⟨bx, ox + k * 3 + 1, none⟩) hC.lt).trans hC.c1
        have x2 := (hks.1.below.cell (p := ⟨bx, ox + k * 3 + 2, none⟩) hC.lt).trans hC.c2
        have hlo : (0 : Int) ≤ (k : Int) := by omega
        have hhi : (k : Int) < (len : Int) := by omega
        have HC : Hd _ := ⟨hC⟩
        have HK : Hd _ := ⟨hks⟩
        clear hC hks HL
        by_cases hz : (20 : Int) < (p.zs.length : Int)
        · go_wp2
          go_ret
          exact ⟨rfl, HK.out.1.below⟩
        · go_upto_region 10 with fail
          have HAdd : Hd (∀ X : World, X.heap = wr.heap → X.os = wr.os → X.tape = wr.tape → X.output = wr.output → _) := ⟨fun X h1 h2 h3 h4 => ls_add (HK.out.1.same h1 h2 h3 h4) HC.out (by have := HK.out.2; omega)⟩
          go_cut [] (fun wx => Hd (LS W wx W.heap.size (addTo ks p.ep p.zs p.zs.length) ks u4))
          case first =>
            go_region_with (go_at_call 8; refine (HAdd.out wr.drew rfl rfl rfl rfl).mono ?_; rintro e w2 ⟨rfl, hS⟩)
            all_goals go_wp2_with fail
            all_goals go_meet
            all_goals exact hS
          case rest =>
            have HS : Hd _ := hcut
            clear hcut HAdd
            go_wp2_with fail
            go_loopw [4, 6] (fun v j wq => ∃ i : Nat, i ≤ p.zs.length ∧ j = .int .i64 i ∧ Hd (LS W wq W.heap.size (addTo ks p.ep p.zs p.zs.length) (addTo ks p.ep p.zs i) v)) (fun _ j _ => p.zs.length - (intOf j).toNat)
            case atStart => exact ⟨0, Nat.zero_le _, rfl, HS⟩
            case round =>
              obtain ⟨i, hi, rfl, HQ⟩ := hrel
              clear x0 x1 x2
              have y0 := (HQ.out.below.cell (p := ⟨bx, ox + k * 3, none⟩) HC.out.lt).trans HC.out.c0
              have y1 := (HQ.out.below.cell (p := ⟨bx, ox + k * 3 + 1, none⟩) HC.out.lt).trans HC.out.c1
              by_cases hil : i < p.zs.length
              · obtain ⟨ba, oa, ha, hz⟩ := HC.out.z i hil
                rw [ha] at y1
                have hba := HC.out.zb ba oa ha (by omega)
                have y3 := (HQ.out.below.cell (p := ⟨ba, oa + i, none⟩) hba).trans hz
                have hio : (0 : Int) ≤ (i : Int) := by omega
                have hij : (i : Int) < (p.zs.length : Int) := by omega
                clear hz
                go_upto_region 14 with fail
                have hown := HQ.out.own
                have hlen2 := addTo_length ks p.ep p.zs i
                have hle2 : (addTo ks p.ep p.zs i).length + 1 ≤ 100000 := by have := HK.out.2; omega
                have HH : Hd _ := ⟨hlen2⟩
                have nf0 : u4 ≠ u4 ∨ u4.ownBlock ≠ some bx := .inr (fun e => by have := owns_lt hown _ e; have := HC.out.lt; omega)
                have nf : u4.ownBlock ≠ some bx := fun e => by have := owns_lt hown _ e; have := HC.out.lt; omega
                have ng : u4.ownBlock ≠ some ba := fun e => by have := owns_lt hown _ e; omega
                have lw : W.heap.size ≤ wr.heap.size := HQ.out.below.size
                have lx : bx < wr.heap.size := by have := HC.out.lt; omega
                have la : ba < wr.heap.size := by omega
                have HP : Hd _ := ⟨HC.out.e.1⟩
                clear hlen2 nf0 hba
                go_region_held3 (fun w' => w'.cell? ⟨bx, ox + k * 3, none⟩ = some (.int .u64 p.ep) ∧ w'.cell? ⟨bx, ox + k * 3 + 1, none⟩ = some (.slice (some ⟨ba, oa, none⟩) p.zs.length p.cap) ∧ w'.cell? ⟨ba, oa + i, none⟩ = some (.int .i64 (nth p.zs i)))
                  (first
                    | go_keep
                    | (go_split_ands
                       refine ⟨?_, ?_, ?_⟩
                       · (rw [hgrow.cell_far _ (by simp; omega) (Ne.symm nf)]; assumption)
                       · (rw [hgrow.cell_far _ (by simp; omega) (Ne.symm nf)]; assumption)
                       · (rw [hgrow.cell_far _ (by simp; omega) (Ne.symm ng)]; assumption)))
                  ((refine step_append_lies _ (by rfl) _ _ _ (by rfl) W.heap.size 33 i0 _ 2 16 Try.underlying26 hi0 hz0 hz1 hz2 rfl (by omega) u4 _ _ (by rfl) ((owns_alloc hown _).drew)
                      ⟨wr.heap.size, 0, none⟩ 1 1 [.int .u64 p.ep, .int .i64 (nth p.zs i)] (by rfl) (by rfl) (World.news_of_block (cs := #[.int .u64 p.ep, .int .i64 (nth p.zs i)]) (t := 33) (fr := (0, 0)) (heap_alloc_new wr _)) (by simp [Value.oneCell'])
                      (by omega) (by unfold maxLen; omega) (by omega) (by simp; omega) (wr.heap.size + 1) (by simp) ?_; intro gg cap1 w1 hown1 hgrow hat hlt1))
                all_goals go_wp2_with fail
                go_roundw
                case rel => exact ⟨i + 1, by omega, by go_num, ⟨HQ.out.push (p := (p.ep, nth p.zs i)) HP.out hown1 hgrow hat⟩⟩
                case measure => simp [intOf]; omega
              · obtain rfl : i = p.zs.length := by omega
                have hlen2 := addTo_length ks p.ep p.zs p.zs.length
                obtain ⟨ks2, hks2⟩ : ∃ ks2, addTo ks p.ep p.zs p.zs.length = ks2 := ⟨_, rfl⟩
                rw [hks2] at HQ hlen2
                have hb2 : ks2.length ≤ 20 * (k + 1) := by have := HK.out.2; omega
                clear hks2 hlen2
                obtain ⟨A2, c2, rfl⟩ := ownsRow_slice HQ.out.own
                have y2 := (HQ.out.below.cell (p := ⟨bx, ox + k * 3 + 2, none⟩) HC.out.lt).trans HC.out.c2
                have hk0 := HC.out.k
                clear HS HK
                go_wp2_with (first
                  | (go_at_call 9; have hx := ls_len HQ.out; (with_reducible refine hx.mono ?_); clear hx; rintro e wa ⟨rfl, rfl⟩)
                  | (go_at_call 10; have hx := ls_ref HQ.out p.ask hk0.1 hk0.2 (by omega); (with_reducible refine hx.mono ?_); clear hx; rintro e wa ⟨vo, A3, c3, rfl, HT⟩; have y3 := (HT.out.ls.below.cell (p := ⟨bx, ox + k * 3 + 2, none⟩) HC.out.lt).trans HC.out.c2)
                  | (go_at_call 12; have hx := lt_ready HT.out hk0.1 hk0.2 (by omega); (with_reducible refine hx.mono ?_); clear hx; rintro e wb ⟨v2, rfl, HU⟩)
                  | (go_at_call 11; have hx := lu_same HU.out (by omega); (with_reducible refine hx.mono ?_); clear hx HQ; rintro e wd ⟨rfl, HQ⟩))
                go_roundw
                case rel => exact ⟨k + 1, by omega, by go_num, ⟨⟨_, HQ.out, Nat.le_trans (rdy_le ks2 p.ask ks2.length).2 hb2⟩⟩⟩
                case measure => simp [intOf]; omega
      · obtain ⟨ks, hks, _⟩ := HL.out
        have HB : Hd _ := ⟨hks.below⟩
        clear hks
        go_wp2_with (first
          | (go_at_call 13; refine (awake_any _).mono ?_; rintro e wc ⟨rfl, hA⟩; have HA2 : Hd _ := ⟨hA⟩; clear hA))
        go_ret
        exact ⟨rfl, HB.out.trans (HA2.out.mono HB.out.size)⟩
theorem field_slice {α H : Type} {enc : TypeId × Value → H} {P : Program} {w : World} {spare : Nat → Bool} {held : Bool} {t e : TypeId} {fuel : Nat} {cs : List Value} {x : DataW H × List MemPlace} {size : Nat} (R : α → List Value → Prop)
    (ht : P.underlying t = some (.slice e)) (hc : P.cellsOf e = size) (h : DataW.trod enc P w 0 spare held fuel t cs = some x)
    (hR : ∀ fuel cs x, DataW.trod enc P w 0 spare held fuel e cs = some x → cs.length = size → ∃ p, R p cs) : ∃ a len cap, ∃ l : List α, cs = [.slice a len cap] ∧ len ≤ cap ∧ Recs R size w a len l := by
  have key : ∀ a len cap, cs = [.slice a len cap] → ∃ l : List α, len ≤ cap ∧ Recs R size w a len l := by
    rintro a len cap rfl
    obtain ⟨l, h1, _, h2⟩ := open_recs (d := x.1) (ps := x.2) R ht hc ⟨fuel, h⟩ hR
    exact ⟨l, h1, h2⟩
  rcases Go.Deep.open_slice ht h with ⟨rfl, _⟩ | ⟨a, len, cap, _, _, _, _, rfl, _⟩
  · obtain ⟨l, h1, h2⟩ := key _ _ _ rfl
    exact ⟨_, _, _, l, rfl, h1, h2⟩
  · obtain ⟨l, h1, h2⟩ := key _ _ _ rfl
    exact ⟨_, _, _, l, rfl, h1, h2⟩
set_option maxRecDepth 100000 in
theorem add_open {H : Type} {enc : TypeId × Value → H} {w : World} {spare : Nat → Bool} {held : Bool} : ∀ fuel cs x, DataW.trod enc Try.prog w 0 spare held fuel 30 cs = some x → cs.length = 3 → ∃ p, RAdd w p cs := by
  intro fuel cs x h hl
  match cs, hl with
  | [c0, c1, c2], _ =>
    obtain ⟨y0, y1, y2, n, _, _, h0, h1, h2⟩ := Go.Deep.trod_struct3 Try.underlying30 h
    simp only [(by kernel_rfl : Try.prog.cellsOf 27 = 1), (by kernel_rfl : Try.prog.cellsOf 28 = 1), List.drop, List.take, List.take_zero, List.drop_zero] at h0 h1 h2
    obtain ⟨v0, e0, _, w0⟩ := DataW.trod_int Try.underlying27 h0
    obtain ⟨v2, e2, _, w2⟩ := DataW.trod_int Try.underlying27 h2
    obtain ⟨a, len, cap, l, e1, hle, hR⟩ := field_slice (RInt .i64) Try.underlying28 (by kernel_rfl : Try.prog.cellsOf 3 = 1) h1 (rint_open Try.underlying3)
    obtain rfl := (List.cons.inj e0).1
    obtain rfl := (List.cons.inj e1).1
    obtain rfl := (List.cons.inj e2).1
    obtain rfl := hR.1
    have b0 := Go.bounds_u64 w0
    have b2 := Go.bounds_u64 w2
    exact ⟨⟨v0, a, cap, l, v2⟩, rfl, ⟨b0.1, by show v0 < 18446744073709551616; omega⟩, ⟨b2.1, by show v2 < 18446744073709551616; omega⟩, hR, hle⟩
end Go.Proofs.Ytkjppffkjofamaa
