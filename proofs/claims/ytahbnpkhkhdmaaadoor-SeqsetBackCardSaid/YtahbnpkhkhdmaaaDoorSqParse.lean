/- Package seqset: Parse, walked. No condition but those that each contract bears. -/
import Derived.Test.YtahbnpkhkhdmaaaDoorSqPlain
import Derived.Test.YtahbnpkhkhdmaaaDoorFlColl
set_option linter.unusedVariables false
set_option linter.unusedSimpArgs false
namespace Go.Proofs.YtahbnpkhkhdmaaaDoor
open Go.RowKit Go.Shelf PSq Go.Proofs.YtahbnpkhkhdmaaaDoorW.PrintWords Go.Proofs.YtahbnpkhkhdmaaaDoorW.PrintLast Go.Proofs.YtahbnpkhkhdmaaaDoorW.PrintMore
attribute [local go_sem] Oper.semAt_some
/-- What Parse keeps: its two results, and the ranges so far. -/
structure POut (w0 : World) (l : List S78) (e : Int) (W : World) : Prop where
  below : Below w0.heap.size w0 W
  r0 : W.heap[w0.heap.size]? = some (.cells #[.slice none 0 0] 44 (0, 0))
  r1 : W.heap[w0.heap.size + 1]? = some (.cells #[.int .i64 e] 23 (0, 0))
  box : ∃ v, W.heap[w0.heap.size + 1 + 1]? = some (.cells #[v] 44 (0, 0)) ∧ W.ownsRow (w0.heap.size + 6) 78 2 v l.length (rcells l) ∧ (v = .slice none 0 0 ↔ l = [])
  size : w0.heap.size + 6 ≤ W.heap.size
theorem POut.keep {w0 : World} {l : List S78} {e : Int} {W W' : World} (h : POut w0 l e W) (hw : Below w0.heap.size w0 W') (hs : W.heap.size ≤ W'.heap.size)
    (hb : ∀ (j : Nat) (c : Array Value) (t : TypeId) (f : Nat × Nat), (w0.heap.size ≤ j ∧ j < w0.heap.size + 3 ∨ w0.heap.size + 6 ≤ j) → W.heap[j]? = some (Obj.cells c t f) → W'.heap[j]? = some (Obj.cells c t f)) : POut w0 l e W' := by
  obtain ⟨v, h1, h2, h3⟩ := h.box
  exact ⟨hw, hb _ _ _ _ (.inl ⟨Nat.le_refl _, by omega⟩) h.r0, hb _ _ _ _ (.inl ⟨by omega, by omega⟩) h.r1, ⟨v, hb _ _ _ _ (.inl ⟨by omega, by omega⟩) h1, row_keep h2 (fun j c t f hj => hb j c t f (.inr hj)), h3⟩, Nat.le_trans h.size hs⟩
theorem POut.on {w0 : World} {l : List S78} {e : Int} {W W' : World} (h : POut w0 l e W) (hb : Below W.heap.size W W') : POut w0 l e W' :=
  h.keep (h.below.trans (hb.mono h.below.size)) hb.size fun j c t f _ hc => (hb.block j (Array.getElem?_eq_some_iff.1 hc).1).trans hc
theorem POut.grown {w0 : World} {l : List S78} {e : Int} {W W' : World} {row : Option Nat} (h : POut w0 l e W) (hg : W.grownBy W' row) (hr : ∀ j, row = some j → w0.heap.size + 6 ≤ j ∧ ∃ o, W.heap[j]? = some o ∧ o.isCells = false) : POut w0 l e W' := by
  refine h.keep ((h.below).grown hg h.below.size (fun k e => by have := (hr k e).1; omega)) hg.size fun j c t f _ hc => (hg.block j (Array.getElem?_eq_some_iff.1 hc).1 (fun e => ?_)).trans hc
  obtain ⟨_, o, ho, hn⟩ := hr j e.symm
  rw [hc] at ho; cases ho; cases hn
theorem POut.touched {w0 : World} {l : List S78} {e : Int} {W W' : World} (h : POut w0 l e W) (ht : Touch (splitBk (w0.heap.size + 1 + 1 + 1 + 1) (w0.heap.size + 1 + 1 + 1) (w0.heap.size + 1 + 1 + 1 + 1 + 1)) W W') : POut w0 l e W' := by
  refine h.keep (h.below.trans (ht.below h.below.size (fun k hk e => by rcases e with rfl | rfl | rfl <;> omega))) ht.size fun j c t f hj hc => (ht.block j (Array.getElem?_eq_some_iff.1 hc).1 (fun e => by rcases e with rfl | rfl | rfl <;> omega)).trans hc
theorem heap_setCell_ne (W : World) (b : Nat) (v : Value) {k : Nat} (h : k ≠ b) : (W.setCell ⟨b, 0, none⟩ v).heap[k]? = W.heap[k]? := Below.heap_setCell _ _ _ _ h
theorem POut.bad {w0 : World} {l : List S78} {e e' : Int} {W : World} (h : POut w0 l e W) : POut w0 l e' ((W.setCell ⟨w0.heap.size, 0, none⟩ (.slice none 0 0)).setCell ⟨w0.heap.size + 1, 0, none⟩ (.int .i64 e')) := by
  obtain ⟨v, h1, h2, h3⟩ := h.box
  have hz : ((W.setCell ⟨w0.heap.size, 0, none⟩ (.slice none 0 0)).setCell ⟨w0.heap.size + 1, 0, none⟩ (.int .i64 e')).heap.size = W.heap.size := by simp [World.setCell]
  refine ⟨(h.below.setCell (Nat.le_refl _) _).setCell (by simp) _, (heap_setCell_ne _ _ _ (by omega)).trans (box_set _ h.r0), box_set _ ((heap_setCell_ne _ _ _ (by omega)).trans h.r1), ⟨v, (heap_setCell_ne _ _ _ (by omega)).trans ((heap_setCell_ne _ _ _ (by omega)).trans h1), ?_, h3⟩, by rw [hz]; exact h.size⟩
  exact own_move h2 fun k hk => by
    have := row_lt h2 hk
    exact (heap_setCell_ne _ _ _ (by omega)).trans (heap_setCell_ne _ _ _ (by omega))
/-- The literal's block and the row that grows: what lies elsewhere stays. -/
theorem grown_old {n0 : Nat} {V w3 : World} {L : List S78} {v : Value} {o : Obj} (hs : n0 + 6 ≤ V.heap.size) (hrow : V.ownsRow (n0 + 6) 78 2 v L.length (rcells L)) (hg : (V.alloc o).grownBy w3 v.ownBlock) {k : Nat} (hk : k < n0 + 6) (hk2 : k < V.heap.size) : w3.heap[k]? = V.heap[k]? :=
  (hg.block k (by rw [World.size_alloc]; omega) (fun e => by have := row_lt hrow e.symm; omega)).trans (Below.heap_alloc _ _ _ hk2)
theorem keeps_grown {n0 : Nat} {V w3 : World} {L : List S78} {v : Value} {o : Obj} {B : Nat} (hs : n0 + 6 ≤ V.heap.size) (hrow : V.ownsRow (n0 + 6) 78 2 v L.length (rcells L)) (hg : (V.alloc o).grownBy w3 v.ownBlock) : KeepsFrom B V w3 :=
  ⟨by have := hg.size; rw [World.size_alloc] at this; omega, fun k ob _ hk hcl => by
    have hl := (Array.getElem?_eq_some_iff.1 hk).1
    exact (hg.block k (by rw [World.size_alloc]; omega) (fun e => row_ne hrow hk (fun cur e => by subst e; cases hcl) e.symm)).trans ((Below.heap_alloc _ _ _ hl).trans hk)⟩
theorem pout_put {w0 V w3 : World} {L : List S78} {r : S78} {e : Int} {v v' : Value} {o : Obj} (h : POut w0 L e V) (hv : V.heap[w0.heap.size + 1 + 1]? = some (.cells #[v] 44 (0, 0)))
    (hrow : V.ownsRow (w0.heap.size + 6) 78 2 v L.length (rcells L)) (hg : (V.alloc o).grownBy w3 v.ownBlock) (ho : w3.ownsRow (w0.heap.size + 6) 78 2 v' (L.length + 1) (rcells L ++ [.int .u32 r.f0, .int .u32 r.f1])) (hn : v' ≠ .slice none 0 0) :
    POut w0 (L ++ [r]) e (w3.setCell ⟨w0.heap.size + 1 + 1, 0, none⟩ v') := by
  have hs := h.size
  have hb : Below w0.heap.size w0 w3 := (h.below.alloc h.below.size o).grown hg (by rw [World.size_alloc]; omega) (fun k e => by have := row_lt hrow e; omega)
  have hz : (w3.setCell ⟨w0.heap.size + 1 + 1, 0, none⟩ v').heap.size = w3.heap.size := by simp [World.setCell]
  have hgs := hg.size
  rw [World.size_alloc] at hgs
  refine ⟨hb.setCell (by simp; omega) _, (heap_setCell_ne _ _ _ (by omega)).trans ((grown_old hs hrow hg (by omega) (by omega)).trans h.r0), (heap_setCell_ne _ _ _ (by omega)).trans ((grown_old hs hrow hg (by omega) (by omega)).trans h.r1),
    ⟨v', box_set _ ((grown_old hs hrow hg (by omega) (by omega)).trans hv), ?_, by simp [hn]⟩, by rw [hz]; omega⟩
  rw [List.length_append, rcells_append]
  exact own_move ho fun k hk => heap_setCell_ne _ _ _ (by have := row_lt ho hk; omega)
theorem pout_end {w0 V W' : World} {L : List S78} {v u e' : Value} {e : Int} (h : POut w0 L e V) (hrow : V.ownsRow (w0.heap.size + 6) 78 2 v L.length (rcells L))
    (hs : Shut (w0.heap.size + 6) ((V.setCell ⟨w0.heap.size, 0, none⟩ u).setCell ⟨w0.heap.size + 1, 0, none⟩ e') W') :
    W'.cell? ⟨w0.heap.size, 0, none⟩ = some u ∧ W'.cell? ⟨w0.heap.size + 1, 0, none⟩ = some e' ∧ W'.ownsRow (w0.heap.size + 6) 78 2 v L.length (rcells L) ∧ Below w0.heap.size w0 W' := by
  have hz : ((V.setCell ⟨w0.heap.size, 0, none⟩ u).setCell ⟨w0.heap.size + 1, 0, none⟩ e').heap.size = V.heap.size := by simp [World.setCell]
  have k0 : ((V.setCell ⟨w0.heap.size, 0, none⟩ u).setCell ⟨w0.heap.size + 1, 0, none⟩ e').heap[w0.heap.size]? = some (.cells #[u] 44 (0, 0)) := (heap_setCell_ne _ _ _ (by omega)).trans (box_set _ h.r0)
  have k1 : ((V.setCell ⟨w0.heap.size, 0, none⟩ u).setCell ⟨w0.heap.size + 1, 0, none⟩ e').heap[w0.heap.size + 1]? = some (.cells #[e'] 23 (0, 0)) := box_set _ ((heap_setCell_ne _ _ _ (by omega)).trans h.r1)
  refine ⟨(box_cell (hs.cells _ _ _ _ k0)).1, (box_cell (hs.cells _ _ _ _ k1)).1, row_keep (own_move hrow fun k hk => ?_) (fun j c t f _ hc => hs.cells j c t f hc), ?_⟩
  · have := row_lt hrow hk
    exact (heap_setCell_ne _ _ _ (by omega)).trans (heap_setCell_ne _ _ _ (by omega))
  · exact ((h.below.setCell (Nat.le_refl _) _).setCell (by simp) _).trans (hs.touch.below (by rw [hz]; have := h.size; omega) (fun k hk e => by omega))
theorem cell_two_new (w : World) (a b : Value) (t : TypeId) : ∀ (j : Nat) (u : Value), [a, b][j]? = some u → (w.alloc (.cells #[a, b] t)).cell? ((⟨w.heap.size, 0, none⟩ : Addr).add j) = some u := by
  intro j u h
  rw [add_off, World.cell?_alloc_new]
  simpa using h
theorem heap_at1 (w : World) (o : Obj) {k : Nat} (hk : k = w.heap.size) : (w.alloc o).heap[k]? = some o := by subst hk; exact World.alloc_heap_new w o
theorem info_range : (Tryd.prog.info? 78).map (fun i => (i.zero, i.size, i.bytes)) = some (some (.agg #[.int .u32 0, .int .u32 0]), 2, 8) := by kernel_rfl
theorem sqparse_end0 {W' : World} {n0 : Nat} {v : Value} {e : Int} (tmps : Array Value) (k0 : W'.cell? ⟨n0, 0, none⟩ = some v) (k1 : W'.cell? ⟨n0 + 1, 0, none⟩ = some (.int .i64 e))
    (hv : ∃ A n c, v = .slice A n c) (h2 : tmps.getD 2 undef = .pointer (some ⟨n0, 0, none⟩)) (h3 : tmps.getD 3 undef = .pointer (some ⟨n0 + 1, 0, none⟩)) :
    (results Tryd.f20 tmps).run Tryd.prog W' = .ok (.tuple #[v, .int .i64 e]) W' := by
  obtain ⟨A, n, c, rfl⟩ := hv
  rw [results_cells2 rfl, h2, h3]
  go_simp
set_option maxRecDepth 100000 in
set_option maxHeartbeats 2000000 in
theorem sqParse_any (s : ByteArray) (w : World) (hs : s.size ≤ 1000000) (hG : GlobOk w) (m : Nat) (hm : 10 ≤ m) :
    CallsIn Fence.wide m Tryd.prog 20 #[.string s] w fun e w' => ∃ v : Value, e = .returned (.tuple #[v, .int .i64 (parseOut (rangesOf (parts 44 s))).2]) ∧ Kd.R k78 78 w' w.heap.size (fun _ => True) v (parseOut (rangesOf (parts 44 s))).1 ∧ Below w.heap.size w w' := by
  have HG := Hd.mk hG
  obtain ⟨⟨r1, r2⟩, hr⟩ : ∃ r, parseOut (rangesOf (parts 44 s)) = r := ⟨_, rfl⟩
  have HPo := Hd.mk hr
  rw [hr]
  dsimp only
  clear hG hr
  refine callsIn_of_wp_marks Tryd.func20 rfl trivial ?_ rfl
  simp only [Tryd.ntmps20, List.size_toArray, List.length_cons, List.length_nil, Nat.reduceAdd, Nat.reduceSub, Array.replicate_succ, Array.replicate_zero, List.push_toArray, List.append_toArray, List.nil_append, List.cons_append]
  gi_wp2
  refine And.intro trivial (And.intro (fun h => absurd h (by simp [Fence.wide])) ((callsIn_wide.2 (splitSeq_any s ⟨#[44]⟩ _)).mono ?_))
  rintro e w3 ⟨rfl, rfl⟩
  gi_wp2
  refine wpIn_rangeFunc_state rfl (by omega) (gf := 64) (lb := #[.pointer (some ⟨w.heap.size + 1 + 1 + 1 + 1, 0, none⟩), .pointer (some ⟨w.heap.size + 1 + 1 + 1, 0, none⟩), .pointer (some ⟨w.heap.size + 1 + 1 + 1 + 1 + 1, 0, none⟩)]) rfl trivial
    (enters_of Tryd.func64 (by kernel_rfl) rfl) (split_state 44 s (w.heap.size + 1 + 1 + 1 + 1) (w.heap.size + 1 + 1 + 1) (w.heap.size + 1 + 1 + 1 + 1 + 1) (by omega) _)
    ?blocks ?stands (fun _ => rfl)
    (fun pre W => ∃ l, rangesOf pre = some l ∧ (∃ post, parts 44 s = pre ++ post) ∧ POut w l 0 W) (fun c pre W => c = .ret ∧ (∃ l, POut w l 2 W) ∧ (∃ post, parts 44 s = pre ++ post) ∧ rangesOf pre = none)
    ?own ?ownx ?abide ?abidex ?zero
    (fun x => { tmps := #[.string s, undef, .pointer (some ⟨w.heap.size, 0, none⟩), .pointer (some ⟨w.heap.size + 1, 0, none⟩), .pointer (some ⟨w.heap.size + 1 + 1, 0, none⟩), .string x, undef, undef, undef, undef, undef, undef, undef, .string s, .func (.func 64) #[] #[.pointer (some ⟨w.heap.size + 1 + 1 + 1 + 1, 0, none⟩), .pointer (some ⟨w.heap.size + 1 + 1 + 1, 0, none⟩), .pointer (some ⟨w.heap.size + 1 + 1 + 1 + 1 + 1, 0, none⟩)], .string x, undef, undef, undef, undef, undef, undef, undef, undef, undef, undef, undef, undef, undef, undef, undef, undef, undef, undef, undef, undef, undef, undef, undef, undef, undef, undef, undef, undef, undef, undef, undef, undef, undef, undef, undef], defers := [] }) ?assign ?body ?done ?stop
  case blocks =>
    intro k hk
    simp only [World.size_alloc]
    rcases hk with rfl | rfl | rfl <;> omega
  case stands =>
    intro W hW
    refine SplitSt.on ?_ hW
    refine ⟨by go_simp, by go_simp, by go_simp, by go_simp, by omega, by omega⟩
  case own =>
    rintro pre X Y row ⟨l, hl, hp, hX⟩ hg hr
    exact ⟨l, hl, hp, hX.grown hg (fun k e => by have := (hr k e).1; simp only [World.size_alloc] at this; exact ⟨by omega, (hr k e).2⟩)⟩
  case ownx =>
    rintro c pre X Y row ⟨hc, ⟨l, hX⟩, h3⟩ hg hr
    exact ⟨hc, ⟨l, hX.grown hg (fun k e => by have := (hr k e).1; simp only [World.size_alloc] at this; exact ⟨by omega, (hr k e).2⟩)⟩, h3⟩
  case abide =>
    rintro pre X Y ⟨l, hl, hp, hX⟩ ht
    exact ⟨l, hl, hp, hX.touched ht⟩
  case abidex =>
    rintro c pre X Y ⟨hc, ⟨l, hX⟩, h3⟩ ht
    exact ⟨hc, ⟨l, hX.touched ht⟩, h3⟩
  case zero =>
    refine ⟨[], rfl, ⟨_, rfl⟩, ?_, ?_, ?_, ⟨.slice none 0 0, ?_, ⟨rfl, .inl ⟨rfl, rfl⟩⟩, by simp⟩, by simp⟩
    · exact (((((((Below.refl _ w).alloc (Nat.le_refl _) _).alloc (by simp) _).alloc (by simp; omega) _).alloc (by simp; omega) _).alloc (by simp; omega) _).alloc (by simp; omega) _)
    · exact (Below.heap_alloc _ _ _ (by first | (simp; done) | (simp; omega))).trans ((Below.heap_alloc _ _ _ (by first | (simp; done) | (simp; omega))).trans ((Below.heap_alloc _ _ _ (by first | (simp; done) | (simp; omega))).trans ((Below.heap_alloc _ _ _ (by first | (simp; done) | (simp; omega))).trans ((Below.heap_alloc _ _ _ (by simp)).trans (heap_at1 _ _ rfl)))))
    · exact (Below.heap_alloc _ _ _ (by first | (simp; done) | (simp; omega))).trans ((Below.heap_alloc _ _ _ (by first | (simp; done) | (simp; omega))).trans ((Below.heap_alloc _ _ _ (by first | (simp; done) | (simp; omega))).trans ((Below.heap_alloc _ _ _ (by simp)).trans (heap_at1 _ _ (by simp)))))
    · exact (Below.heap_alloc _ _ _ (by first | (simp; done) | (simp; omega))).trans ((Below.heap_alloc _ _ _ (by first | (simp; done) | (simp; omega))).trans ((Below.heap_alloc _ _ _ (by simp)).trans (heap_at1 _ _ (by simp))))
  case assign =>
    intro l x V K hK
    gi_wp2
    exact hK
  case body =>
    rintro l pre x V ⟨L, hL, hpp, hV⟩ ⟨post, hp⟩
    have hxs : x.size ≤ s.size := parts_each (c := 44) (s := s) (by rw [hp]; simp)
    obtain ⟨hc1, hc2⟩ := cutAt_size 58 x
    have hap := rangesOf_append pre x
    rw [hL] at hap
    have hcount : L.length ≤ 1000000 := by
      have h1 := parts_count 44 s
      rw [hp, List.length_append, List.length_cons] at h1
      have := rangesOf_len pre L hL
      omega
    obtain ⟨⟨a, b, two⟩, hcut⟩ : ∃ r, cutAt 58 x = r := ⟨_, rfl⟩
    have hC := cut_any x 58 V (by omega)
    have hr : rangeOf x = mkR (endOf a) (endOf (if two then b else a)) := by unfold rangeOf; rw [hcut]
    rw [hcut] at hC hc1 hc2
    dsimp only at hC hc1 hc2
    have HC := Hd.mk hC
    have HR := Hd.mk hr
    have HA := Hd.mk hap
    have HV := Hd.mk hV
    have HL := Hd.mk hL
    have HPP := Hd.mk (show ∃ post, parts 44 s = (pre ++ [x]) ++ post from ⟨post, by rw [hp]; simp⟩)
    have HE : Hd (∀ (y : ByteArray) (W : World), y.size ≤ 1000000 → Below V.heap.size V W → Calls Tryd.prog 41 #[.string y] W (EndPost y W)) := ⟨fun y W hy hb => end_any y W (by omega) ((HG.out.on HV.out.below).on hb)⟩
    clear hcut hC hr hap hV hL hpp hp
    gi_wp2
    refine And.intro trivial (And.intro (fun h => absurd h (by simp [Fence.wide])) ((callsIn_wide.2 HC.out).mono ?_))
    rintro e V1 ⟨rfl, B1⟩
    obtain ⟨y, hy⟩ : ∃ y, (if two then b else a) = y := ⟨_, rfl⟩
    rw [hy] at HR
    have hys : y.size ≤ 1000000 := by rw [← hy]; split <;> omega
    cases two
    all_goals
      simp only [if_true, if_false, Bool.false_eq_true] at hy
      subst hy
      gi_wp2
      refine And.intro trivial (And.intro (fun h => absurd h (by simp [Fence.wide])) ((callsIn_wide.2 (HE.out a V1 (by omega) B1.out)).mono ?_))
      rintro e V2 ⟨n1, b1, rfl, E1, B2⟩
      gi_wp2
      refine And.intro trivial (And.intro (fun h => absurd h (by simp [Fence.wide])) ((callsIn_wide.2 (HE.out _ V2 hys (B1.out.trans (B2.out.mono B1.out.size)))).mono ?_))
      rintro e V3 ⟨n2, b2, rfl, E2, B3⟩
      have D3 := Hd.mk (B1.out.trans ((B2.out.mono B1.out.size).trans (B3.out.mono (Nat.le_trans B1.out.size B2.out.size))))
      have HV3 := Hd.mk (HV.out.on D3.out)
      obtain ⟨v, hv, hrow, hnil⟩ := HV3.out.box
      obtain ⟨hc, hf⟩ := box_cell hv
      obtain ⟨q0, p0⟩ := box_cell HV3.out.r0
      obtain ⟨q1, p1⟩ := box_cell HV3.out.r1
      have HRow := Hd.mk hrow
      have Hv := Hd.mk hv
      clear hv hrow hnil
      rcases E1.out with ⟨rfl, u1, hu1, rfl⟩ | ⟨rfl, hn1⟩
      · rcases E2.out with ⟨rfl, u2, hu2, rfl⟩ | ⟨rfl, hn2⟩
        · have hne : rangesOf (pre ++ [x]) = some (L ++ [⟨(u1 : Int), (u2 : Int)⟩]) := by rw [HA.out, HR.out, congr (congrArg mkR hu1) hu2]; rfl
          have HNe := Hd.mk hne
          clear hne hu1 hu2
          obtain ⟨i0, hi, hz0, hz1, hz2⟩ := info_parts info_range
          have hsz := HV3.out.size
          gi_wp2_with (first
            | (gi_at_builtin; refine wpListIn_append_own _ rfl _ _ 44 rfl (w.heap.size + 6) 78 i0 (.agg #[.int .u32 0, .int .u32 0]) 2 8 Tryd.underlying44 hi hz0 hz1 hz2 rfl (by decide) v L.length (rcells L) rfl (HRow.out.alloc _) ⟨V3.heap.size, 0, none⟩ 1 1 [.int .u32 u1, .int .u32 u2] rfl rfl (cell_two_new _ _ _ _) (by simp [Value.oneCell']) (by unfold maxLen; omega) (by omega) (by simp; omega) ?_; intro v' w3 hown' hg3 hnil3
               have hv3 : w3.heap[w.heap.size + 1 + 1]? = some (.cells #[v] 44 (0, 0)) := (hg3.block (w.heap.size + 1 + 1) (by simp; omega) (fun e => row_ne HRow.out Hv.out (fun cur e => by cases e) e.symm)).trans ((Below.heap_alloc _ _ _ (by omega)).trans Hv.out)
               obtain ⟨hc3, hf3⟩ := box_cell hv3
               obtain ⟨g', cap', cur', rfl, hbase', -⟩ : ∃ g' cap' cur', v' = .slice (some ⟨g', 0, none⟩) (L.length + 1) cap' ∧ w.heap.size + 6 ≤ g' ∧ w3.heap[g']? = some (.cells cur' 78 (0, 0)) := by
                 rcases hown'.2 with ⟨_, h0⟩ | ⟨g, c, cu, h1, h2, h3, _⟩
                 · exact absurd h0 (by omega)
                 · exact ⟨g, c, cu, h1, h2, h3⟩
               have HG3 : Hd _ := ⟨hg3⟩
               have HO3 : Hd _ := ⟨hown'⟩
               have HN3 : Hd _ := ⟨hnil3⟩
               have Hv3 : Hd _ := ⟨hv3⟩
               clear hg3 hown' hnil3 hv3 hc hf)
            | gi_in)
          refine ⟨?_, ?_, _, HNe.out, HPP.out, pout_put (r := ⟨(u1 : Int), (u2 : Int)⟩) HV3.out Hv.out HRow.out HG3.out HO3.out (by simp)⟩
          · simp only [World.size_alloc]
            exact keeps_put ((keeps_below D3.out).trans (keeps_grown HV3.out.size HRow.out HG3.out)) _ _ (by first | (simp; done) | (simp; omega))
          · intro k hk
            have hs6 := HV3.out.size
            have h5 : k < w.heap.size + 6 ∧ w.heap.size + 3 ≤ k := by rcases hk with rfl | rfl | rfl <;> omega
            exact (heap_setCell_ne _ _ _ (by omega)).trans ((grown_old HV3.out.size HRow.out HG3.out h5.1 (by omega)).trans (D3.out.block k (by have := HV.out.size; omega)))
        · have hne : rangesOf (pre ++ [x]) = none := by rw [HA.out, HR.out, congr (congrArg mkR hu1) hn2]; rfl
          have HNe := Hd.mk hne
          clear hne hu1 hn2
          gi_wp2
          exact ⟨keeps_put (keeps_put (keeps_below D3.out) _ _ (by simp only [World.size_alloc]; omega)) _ _ (by simp only [World.size_alloc]; omega), rfl, ⟨_, HV3.out.bad⟩, HPP.out, HNe.out⟩
      · have hne : rangesOf (pre ++ [x]) = none := by rw [HA.out, HR.out, congrArg mkR hn1]; rfl
        have HNe := Hd.mk hne
        clear hne hn1
        gi_wp2
        exact ⟨keeps_put (keeps_put (keeps_below D3.out) _ _ (by simp only [World.size_alloc]; omega)) _ _ (by simp only [World.size_alloc]; omega), rfl, ⟨_, HV3.out.bad⟩, HPP.out, HNe.out⟩
  case done =>
    rintro D xs V rfl rfl ⟨L, hL, -, hV⟩ hD
    have HD := Hd.mk hD
    have HV := Hd.mk hV
    obtain ⟨v, hv, hrow, hnil⟩ := hV.box
    obtain ⟨hc, hf⟩ := box_cell hv
    obtain ⟨q0, p0⟩ := box_cell hV.r0
    obtain ⟨q1, p1⟩ := box_cell hV.r1
    obtain ⟨A, c, rfl⟩ := own_slice hrow
    have HRow := Hd.mk hrow
    have HPL := Hd.mk (show parseOut (some L) = (r1, r2) by rw [← hL]; exact HPo.out)
    have hs6 := hV.size
    clear hv hrow hnil hV hD hL
    have hmark : ∀ (u e' : Value), ((V.setCell ⟨w.heap.size, 0, none⟩ u).setCell ⟨w.heap.size + 1, 0, none⟩ e').heap[w.heap.size + 6]? = some (.deferred (some [])) := fun u e' =>
      (heap_setCell_ne _ _ _ (by omega)).trans ((heap_setCell_ne _ _ _ (by omega)).trans (by simpa using HD.out))
    have HM := Hd.mk hmark
    clear hmark
    by_cases h64 : 64 < L.length
    · have g64 : (64 : Int) < (L.length : Int) := by omega
      obtain ⟨rfl, rfl⟩ := Prod.mk.inj (HPL.out.symm.trans (by unfold parseOut; exact if_pos h64))
      gi_wp2
      refine leaves_marks (B := w.heap.size + 6) _ _ ?_ ?_
      · refine ⟨fun d hd => ?_, List.pairwise_singleton _ _⟩
        rw [List.mem_singleton.1 hd]
        exact ⟨_, rfl, by simp, by simpa using HM.out _ _⟩
      · intro W' hs
        obtain ⟨k0, k1, k2, k3⟩ := pout_end HV.out HRow.out hs
        exact ⟨_, sqparse_end0 _ k0 k1 ⟨_, _, _, rfl⟩ rfl rfl, _, rfl, Kd.R_nil _ _ _ _ _, k3⟩
    · have g64 : ¬ (64 : Int) < (L.length : Int) := by omega
      obtain ⟨rfl, rfl⟩ := Prod.mk.inj (HPL.out.symm.trans (by unfold parseOut; exact if_neg h64))
      gi_wp2
      refine leaves_marks (B := w.heap.size + 6) _ _ ?_ ?_
      · refine ⟨fun d hd => ?_, List.pairwise_singleton _ _⟩
        rw [List.mem_singleton.1 hd]
        exact ⟨_, rfl, by simp, by simpa using HM.out _ _⟩
      · intro W' hs
        obtain ⟨k0, k1, k2, k3⟩ := pout_end HV.out HRow.out hs
        exact ⟨_, sqparse_end0 _ k0 k1 ⟨_, _, _, rfl⟩ rfl rfl, _, rfl, own_kd (own_weaken k2 (by omega)), k3⟩
  case stop =>
    rintro D c pre V rfl - ⟨rfl, ⟨L, hV⟩, ⟨post, hp⟩, hn⟩ hD
    have HD := Hd.mk hD
    have HV := Hd.mk hV
    obtain ⟨q0, p0⟩ := box_cell hV.r0
    obtain ⟨q1, p1⟩ := box_cell hV.r1
    have hs6 := hV.size
    have HPL := Hd.mk (show parseOut none = (r1, r2) by rw [← HPo.out, hp, rangesOf_none _ _ hn])
    clear hV hD hp hn
    obtain ⟨rfl, rfl⟩ := Prod.mk.inj HPL.out
    gi_wp2
    refine leaves_marks (B := w.heap.size + 6) _ _ ?_ ?_
    · refine ⟨fun d hd => ?_, List.pairwise_singleton _ _⟩
      rw [List.mem_singleton.1 hd]
      exact ⟨_, rfl, by simp, by simpa using HD.out⟩
    · intro W' hs
      exact ⟨_, sqparse_end0 _ (box_cell (hs.cells _ _ _ _ HV.out.r0)).1 (box_cell (hs.cells _ _ _ _ HV.out.r1)).1 ⟨_, _, _, rfl⟩ rfl rfl, _, rfl, Kd.R_nil _ _ _ _ _, HV.out.below.trans (hs.touch.below (by omega) (fun k hk e => by omega))⟩
end Go.Proofs.YtahbnpkhkhdmaaaDoor
