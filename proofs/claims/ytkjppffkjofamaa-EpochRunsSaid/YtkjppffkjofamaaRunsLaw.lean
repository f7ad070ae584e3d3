/- The law EpochRuns, walked: true for every input. No condition. -/
import Derived.Test.YtkjppffkjofamaaRunsStep
import Derived.Test.YtkjppffkjofamaaRunsRight
import Derived.Test.YtkjppffkjofamaaLimboLaw
import Derived.Deep.DeepCutAuto
import Derived.Deep.CutBlock
import Derived.Deep.RegionHeld3
set_option linter.unusedVariables false
set_option linter.unusedSimpArgs false
namespace Go.Proofs.Ytkjppffkjofamaa
open Go.RowKit Go.Shelf
/-- What one of several does: a row of kinds. -/
structure ActD where
  a : Option Addr
  cap : Nat
  zs : List Int
def RActs (W : World) : ActD → List Value → Prop := fun p cs => cs = [.slice p.a p.zs.length p.cap] ∧ Recs (RInt .u8) 1 W p.a p.zs.length p.zs
theorem Recs.lift {α : Type} {R : α → List Value → Prop} {size : Nat} {w w1 : World} {A : Option Addr} {n : Nat} {ps : List α} (h : Recs R size w A n ps) (hc : ∀ a v, w.cell? a = some v → w1.cell? a = some v) : Recs R size w1 A n ps := by
  obtain ⟨h1, h2, h3⟩ := h
  refine ⟨h1, h2, fun hn => ?_⟩
  obtain ⟨ad, rfl, h4⟩ := h3 hn
  refine ⟨ad, rfl, fun j p hj => ?_⟩
  obtain ⟨c, q1, q2, q3⟩ := h4 j p hj
  exact ⟨c, q1, q2, fun i u hu => hc _ _ (q3 i u hu)⟩
theorem cell_alloc_old {w : World} {o : Obj} {a : Addr} {v : Value} (h : w.cell? a = some v) : (w.alloc o).cell? a = some v := by
  have hb := lt_of_cell h
  exact (World.cell?_of_block (w := w) (Below.heap_alloc w o a.block hb)).trans h
theorem RS.drewN {W0 w : World} {I : Ids} {B : Nat} (h : RS W0 w I B) (m : Nat) : RS W0 (w.drewN m) I B := by
  obtain ⟨X, col, now, pins, cur, vg, G, mv, hW, hI⟩ := h
  exact ⟨X, col, now, pins, cur, vg, G, mv, hW.keep (fun _ _ => rfl) (Nat.le_refl _) (pw_drewN hW.below m), hI⟩
theorem RS.below {W0 w : World} {I : Ids} {B : Nat} (h : RS W0 w I B) : Below W0.heap.size W0 w := by
  obtain ⟨X, col, now, pins, cur, vg, G, mv, hW, hI⟩ := h
  exact hW.below
def sy0 : Sy := ⟨fun _ => 0, fun _ => none, fun _ => none, fun _ => 0, fun _ => false, fun _ => 0, fun _ => 0⟩
theorem rs_start {W0 w : World} {I : Ids} (hE : EpAt w I.b I.bm I.bp I.n 1 0 fun _ => 0) (hbw : w.heap[I.bw]? = some (.cells #[.pointer (some ⟨I.b, 0, none⟩), .slice (some ⟨I.ball, 0, none⟩) I.n I.n, .slice none 0 0, .int .u64 0] 51 (0, 0)))
    (hnum : ∀ i j, i < I.n → j < 7 → w.cell? ⟨I.ball, i * 7 + j, none⟩ = some (dcOf sy0 i j)) (hfree : ∀ o, w.frozen? ⟨I.ball, o, none⟩ = false) (hlt : I.ball < w.heap.size) (hge : W0.heap.size ≤ I.b ∧ W0.heap.size ≤ I.bm ∧ W0.heap.size ≤ I.bp ∧ W0.heap.size ≤ I.bw ∧ W0.heap.size ≤ I.ball)
    (hne : I.bw ≠ I.b ∧ I.bw ≠ I.bm ∧ I.bw ≠ I.bp ∧ I.bw ≠ I.ball ∧ I.ball ≠ I.b ∧ I.ball ≠ I.bm ∧ I.ball ≠ I.bp) (hB : Below W0.heap.size W0 w) : RS W0 w I 0 := by
  obtain ⟨g1, g2, g3, g4, g5⟩ := hge
  obtain ⟨n1, n2, n3, n4, n5, n6, n7⟩ := hne
  have l := hE.lt
  have lw := (Array.getElem?_eq_some_iff.1 hbw).1
  refine ⟨sy0, fun k => if k = I.bw then 2 else if k = I.ball then 3 else if k = I.b ∨ k = I.bm ∨ k = I.bp then 1 else 0, 0, fun _ => 0, fun _ => none, .slice none 0 0, [], 0,
    ⟨hE, ⟨?_, ?_, ?_⟩, ⟨if_pos rfl, ?_⟩, hbw, hnum, hfree, fun i hi c hc => (nomatch hc), World.ownsRow_nil _ _ _ _, fun x hx => (nomatch hx), fun g hg => (nomatch hg), fun k hk => ?_, hB⟩,
    ⟨rfl, Nat.le_refl _, fun i hi => rfl, fun i hi => Nat.le_refl _, fun i hi => Nat.le_refl _, fun i hi => by show 0 ≤ 3; omega, fun i hi hp => (nomatch hp), fun i hi c hc => (nomatch hc), fun i hi c k nv hc => (nomatch hc), Nat.le_refl _, fun g hg => (nomatch hg)⟩⟩
  · show (if I.b = I.bw then 2 else if I.b = I.ball then 3 else if I.b = I.b ∨ I.b = I.bm ∨ I.b = I.bp then 1 else 0) = 1
    rw [if_neg (Ne.symm n1), if_neg (Ne.symm n5), if_pos (.inl rfl)]
  · show (if I.bm = I.bw then 2 else if I.bm = I.ball then 3 else if I.bm = I.b ∨ I.bm = I.bm ∨ I.bm = I.bp then 1 else 0) = 1
    rw [if_neg (Ne.symm n2), if_neg (Ne.symm n6), if_pos (.inr (.inl rfl))]
  · show (if I.bp = I.bw then 2 else if I.bp = I.ball then 3 else if I.bp = I.b ∨ I.bp = I.bm ∨ I.bp = I.bp then 1 else 0) = 1
    rw [if_neg (Ne.symm n3), if_neg (Ne.symm n7), if_pos (.inr (.inr rfl))]
  · show (if I.ball = I.bw then 2 else if I.ball = I.ball then 3 else _) = 3
    rw [if_neg (Ne.symm n4), if_pos rfl]
  · have hk : (if k = I.bw then 2 else if k = I.ball then 3 else if k = I.b ∨ k = I.bm ∨ k = I.bp then 1 else 0) ≠ 0 := hk
    by_cases e1 : k = I.bw
    · subst e1; exact ⟨g4, lw⟩
    · rw [if_neg e1] at hk
      by_cases e2 : k = I.ball
      · subst e2; exact ⟨g5, hlt⟩
      · rw [if_neg e2] at hk
        by_cases e3 : k = I.b ∨ k = I.bm ∨ k = I.bp
        · rcases e3 with rfl | rfl | rfl
          · exact ⟨g1, l.1⟩
          · exact ⟨g2, l.2.1⟩
          · exact ⟨g3, l.2.2⟩
        · rw [if_neg e3] at hk; exact absurd rfl hk
theorem info_doing : (Try.prog.info? 80).map (fun i => (i.zero, i.size, i.bytes)) = some (some (.agg #[.int .i64 0, .pointer none, .pointer none, .int .u8 0, .bool false, .int .u64 0, .int .i64 0]), 7, 48) := by kernel_rfl
theorem made_doing (n i j : Nat) (hi : i < n) (hj : j < 7) : (madeCells (Value.agg #[.int .i64 0, .pointer none, .pointer none, .int .u8 0, .bool false, .int .u64 0, .int .i64 0]).cells (n * 7))[i * 7 + j]? = some (dcOf sy0 i j) := by
  have h : i * 7 + j < n * 7 := by omega
  unfold madeCells
  rw [Array.getElem?_map, Array.getElem?_range, if_pos h]
  have e : (i * 7 + j) % 7 = j := by omega
  match j, hj with
  | 0, _ => simp [Value.cells, e, dcOf, sy0, ptrV]
  | 1, _ => simp [Value.cells, e, dcOf, sy0, ptrV]
  | 2, _ => simp [Value.cells, e, dcOf, sy0, ptrV]
  | 3, _ => simp [Value.cells, e, dcOf, sy0, ptrV]
  | 4, _ => simp [Value.cells, e, dcOf, sy0, ptrV]
  | 5, _ => simp [Value.cells, e, dcOf, sy0, ptrV]
  | 6, _ => simp [Value.cells, e, dcOf, sy0, ptrV]
theorem rs_made1 {W1 w2 : World} {b bm bp n : Nat} {mc : Array Value} (hge : W1.heap.size ≤ b ∧ W1.heap.size ≤ bm ∧ W1.heap.size ≤ bp) (hE : EpAt w2 b bm bp n 1 0 fun _ => 0) (hB : Below W1.heap.size W1 w2) (hmd : ∀ i j, i < n → j < 7 → mc[i * 7 + j]? = some (dcOf sy0 i j)) :
    RS W1 ((w2.alloc (.cells mc 80)).alloc (.cells #[.pointer (some ⟨b, 0, none⟩), .slice (some ⟨w2.heap.size, 0, none⟩) n n, .slice none 0 0, .int .u64 0] 51)) ⟨w2.heap.size + 1, b, bm, bp, w2.heap.size, n⟩ 0 := by
  have l := hE.lt
  have hs := hB.size
  have e1 : (w2.alloc (.cells mc 80)).heap.size = w2.heap.size + 1 := by simp
  have a2 : Below w2.heap.size w2 ((w2.alloc (.cells mc 80)).alloc (.cells #[.pointer (some ⟨b, 0, none⟩), .slice (some ⟨w2.heap.size, 0, none⟩) n n, .slice none 0 0, .int .u64 0] 51)) := ((Below.refl _ _).alloc (Nat.le_refl _) _).alloc (by simp) _
  have hball : ((w2.alloc (.cells mc 80)).alloc (.cells #[.pointer (some ⟨b, 0, none⟩), .slice (some ⟨w2.heap.size, 0, none⟩) n n, .slice none 0 0, .int .u64 0] 51)).heap[w2.heap.size]? = some (.cells mc 80 (0, 0)) := by
    rw [Below.heap_alloc _ _ _ (by rw [e1]; omega)]; exact heap_alloc_new w2 _
  have hbw : ((w2.alloc (.cells mc 80)).alloc (.cells #[.pointer (some ⟨b, 0, none⟩), .slice (some ⟨w2.heap.size, 0, none⟩) n n, .slice none 0 0, .int .u64 0] 51)).heap[w2.heap.size + 1]? = some (.cells #[.pointer (some ⟨b, 0, none⟩), .slice (some ⟨w2.heap.size, 0, none⟩) n n, .slice none 0 0, .int .u64 0] 51 (0, 0)) := by
    rw [← e1]; exact heap_alloc_new _ _
  exact rs_start (hE.of_blocks (a2.block b l.1) (a2.block bm l.2.1) (a2.block bp l.2.2)) hbw (fun i j hi hj => blk_cell hball (hmd i j hi hj)) (fun o => blk_free hball o) (by simp; omega) ⟨hge.1, hge.2.1, hge.2.2, by show W1.heap.size ≤ w2.heap.size + 1; omega, hs⟩
    ⟨by show w2.heap.size + 1 ≠ b; omega, by show w2.heap.size + 1 ≠ bm; omega, by show w2.heap.size + 1 ≠ bp; omega, by show w2.heap.size + 1 ≠ w2.heap.size; omega, by show w2.heap.size ≠ b; omega, by show w2.heap.size ≠ bm; omega, by show w2.heap.size ≠ bp; omega⟩ (hB.trans (a2.mono hs))
theorem rs_made2 {W1 w2 : World} {b bm bp n : Nat} {mc : Array Value} (hge : W1.heap.size + 1 ≤ b ∧ W1.heap.size + 1 ≤ bm ∧ W1.heap.size + 1 ≤ bp) (hE : EpAt w2 b bm bp n 1 0 fun _ => 0) (hB : Below (W1.heap.size + 1) (W1.alloc (.cells mc 80)) w2) (hmd : ∀ i j, i < n → j < 7 → mc[i * 7 + j]? = some (dcOf sy0 i j)) :
    RS W1 (w2.alloc (.cells #[.pointer (some ⟨b, 0, none⟩), .slice (some ⟨W1.heap.size, 0, none⟩) n n, .slice none 0 0, .int .u64 0] 51)) ⟨w2.heap.size, b, bm, bp, W1.heap.size, n⟩ 0 := by
  have l := hE.lt
  have hs := hB.size
  have e1 : (W1.alloc (.cells mc 80)).heap.size = W1.heap.size + 1 := by simp
  rw [e1] at hs
  have a2 : Below w2.heap.size w2 (w2.alloc (.cells #[.pointer (some ⟨b, 0, none⟩), .slice (some ⟨W1.heap.size, 0, none⟩) n n, .slice none 0 0, .int .u64 0] 51)) := (Below.refl _ _).alloc (Nat.le_refl _) _
  have hball : (w2.alloc (.cells #[.pointer (some ⟨b, 0, none⟩), .slice (some ⟨W1.heap.size, 0, none⟩) n n, .slice none 0 0, .int .u64 0] 51)).heap[W1.heap.size]? = some (.cells mc 80 (0, 0)) := by
    rw [a2.block _ (by omega), hB.block _ (by omega)]; exact heap_alloc_new W1 _
  exact rs_start (hE.of_blocks (a2.block b l.1) (a2.block bm l.2.1) (a2.block bp l.2.2)) (heap_alloc_new w2 _) (fun i j hi hj => blk_cell hball (hmd i j hi hj)) (fun o => blk_free hball o) (by simp; omega) ⟨by show W1.heap.size ≤ b; omega, by show W1.heap.size ≤ bm; omega, by show W1.heap.size ≤ bp; omega, by show W1.heap.size ≤ w2.heap.size; omega, Nat.le_refl _⟩
    ⟨by show w2.heap.size ≠ b; omega, by show w2.heap.size ≠ bm; omega, by show w2.heap.size ≠ bp; omega, by show w2.heap.size ≠ W1.heap.size; omega, by show W1.heap.size ≠ b; omega, by show W1.heap.size ≠ bm; omega, by show W1.heap.size ≠ bp; omega⟩ ((((Below.refl W1.heap.size W1).alloc (Nat.le_refl _) _).trans (hB.mono (by omega))).trans (a2.mono (by omega)))
/-- The parameter, boxed. -/
structure Box (W1 : World) (pb n : Nat) (A1 : Option Addr) (len1 cap1 : Nat) (A2 : Option Addr) (len2 cap2 : Nat) : Prop where
  c0 : W1.cell? ⟨pb, 0, none⟩ = some (.int .i64 (n : Nat))
  c1 : W1.cell? ⟨pb, 1, none⟩ = some (.slice A1 len1 cap1)
  c2 : W1.cell? ⟨pb, 2, none⟩ = some (.slice A2 len2 cap2)
theorem Box.on {W1 w : World} {pb n : Nat} {A1 : Option Addr} {len1 cap1 : Nat} {A2 : Option Addr} {len2 cap2 : Nat} (h : Box W1 pb n A1 len1 cap1 A2 len2 cap2) (hb : Below W1.heap.size W1 w) : Box w pb n A1 len1 cap1 A2 len2 cap2 := by
  have hl : pb < W1.heap.size := lt_of_cell h.c0
  exact ⟨(hb.cell (p := ⟨pb, 0, none⟩) hl).trans h.c0, (hb.cell (p := ⟨pb, 1, none⟩) hl).trans h.c1, (hb.cell (p := ⟨pb, 2, none⟩) hl).trans h.c2⟩
theorem runs_no (W : World) (rd : Int) (A1 : Option Addr) (len1 cap1 : Nat) (A2 : Option Addr) (len2 cap2 : Nat) (h : rd < 1 ∨ 8 < rd ∨ (8 : Int) < (len1 : Int) ∨ (800 : Int) < (len2 : Int)) :
    Calls Try.prog 4 #[.agg #[.int .i64 rd, .slice A1 len1 cap1, .slice A2 len2 cap2]] W fun e w' => e = .returned (.bool true) ∧ Below W.heap.size W w' := by
  rcases (show rd < 1 ∨ (1 ≤ rd ∧ 8 < rd) ∨ (1 ≤ rd ∧ rd ≤ 8 ∧ (8 : Int) < (len1 : Int)) ∨ (1 ≤ rd ∧ rd ≤ 8 ∧ (len1 : Int) ≤ 8 ∧ (800 : Int) < (len2 : Int)) by omega) with h1 | ⟨h0, h1⟩ | ⟨h0, h1, h2⟩ | ⟨h0, h1, h2, h3⟩
  all_goals
    clear h
    go_enter Try.func4, Try.ntmps4
    go_wp2_with fail
    go_ret
    exact ⟨rfl, (Below.refl _ W).alloc (Nat.le_refl _) _⟩
set_option maxRecDepth 100000 in
set_option maxHeartbeats 8000000 in
theorem runs_any (W : World) (n : Nat) (h1 : 1 ≤ n) (h8 : n ≤ 8) (A1 : Option Addr) (len1 cap1 : Nat) (l1 : List ActD) (hR1 : Recs (RActs W) 1 W A1 len1 l1) (A2 : Option Addr) (len2 cap2 : Nat) (l2 : List Int) (hR2 : Recs (RInt .i64) 1 W A2 len2 l2) (hl1 : len1 ≤ 8) (hl2 : len2 ≤ 800) :
    Calls Try.prog 4 #[.agg #[.int .i64 (n : Nat), .slice A1 len1 cap1, .slice A2 len2 cap2]] W fun e w' => e = .returned (.bool true) ∧ Below W.heap.size W w' := by
  have H1 : Hd _ := ⟨hR1⟩
  have H2 : Hd _ := ⟨hR2⟩
  have hn0 : (1 : Int) ≤ (n : Int) := by omega
  have hn8 : (n : Int) ≤ 8 := by omega
  have hi1 : (len1 : Int) ≤ 8 := by omega
  have hi2 : (len2 : Int) ≤ 800 := by omega
  clear hR1 hR2
  go_enter Try.func4, Try.ntmps4
  have b1 : decide ((n : Int) < 1) = false := decide_eq_false (by omega)
  have b2 : decide ((8 : Int) < (n : Int)) = false := decide_eq_false (by omega)
  have b3 : decide ((8 : Int) < (len1 : Int)) = false := decide_eq_false (by omega)
  have b4 : decide ((800 : Int) < (len2 : Int)) = false := decide_eq_false (by omega)
  go_wp2_with fail
  try simp only [b1, b2, b3, b4, Bool.or_false]
  clear b1 b2 b3 b4
  obtain ⟨W1, hW1⟩ : ∃ W1, W.alloc (.cells #[.int .i64 (n : Nat), .slice A1 len1 cap1, .slice A2 len2 cap2] 43) = W1 := ⟨_, rfl⟩
  have hBW : Below W.heap.size W W1 := by rw [← hW1]; exact (Below.refl _ W).alloc (Nat.le_refl _) _
  have hbx : W1.heap[W.heap.size]? = some (.cells #[.int .i64 (n : Nat), .slice A1 len1 cap1, .slice A2 len2 cap2] 43 (0, 0)) := by rw [← hW1]; exact heap_alloc_new W _
  have HRA : Hd (Recs (RActs W) 1 W1 A1 len1 l1) := ⟨H1.out.lift (fun a v h => by rw [← hW1]; exact cell_alloc_old h)⟩
  have HRP : Hd (Recs (RInt .i64) 1 W1 A2 len2 l2) := ⟨H2.out.lift (fun a v h => by rw [← hW1]; exact cell_alloc_old h)⟩
  have HUp : Hd (∀ a v, W.cell? a = some v → W1.cell? a = some v) := ⟨fun a v h => by rw [← hW1]; exact cell_alloc_old h⟩
  simp only [hW1]
  obtain ⟨pb, hpb⟩ : ∃ pb, W.heap.size = pb := ⟨_, rfl⟩
  have HBW : Hd (Below W.heap.size W W1) := ⟨hBW⟩
  rw [hpb] at hbx
  simp only [hpb]
  have HX : Hd (Box W1 pb n A1 len1 cap1 A2 len2 cap2) := ⟨⟨blk_cell hbx rfl, blk_cell hbx rfl, blk_cell hbx rfl⟩⟩
  have x0 := HX.out.c0
  have x1 := HX.out.c1
  have x2 := HX.out.c2
  have HPB : Hd _ := ⟨hpb⟩
  clear hW1 hBW hbx hpb H1 H2
  go_loop [3] (fun i => ∃ j : Nat, j ≤ len1 ∧ i = .int .i64 j ∧ Hd (∀ q p, q < j → l1[q]? = some p → p.zs.length ≤ 40)) (fun i => len1 - (intOf i).toNat)
  case atStart => exact ⟨0, Nat.zero_le _, rfl, ⟨fun q p hq => absurd hq (Nat.not_lt_zero q)⟩⟩
  case round =>
    obtain ⟨j, hj, rfl, HJ⟩ := hrel
    by_cases hjl : j < len1
    · obtain ⟨hla, _, hrow⟩ := HRA.out
      obtain ⟨ad, hA, hc⟩ := hrow (by omega)
      obtain ⟨p, hp⟩ : ∃ p, l1[j]? = some p := ⟨_, List.getElem?_eq_getElem (by omega)⟩
      obtain ⟨c, _, ⟨rfl, _⟩, hcell⟩ := hc j p hp
      have hcj := hcell 0 _ rfl
      rw [Nat.mul_one, Nat.add_zero] at hcj
      have had : ad = ⟨ad.block, ad.off, none⟩ := by
        obtain ⟨p0, hp0⟩ : ∃ p, l1[0]? = some p := ⟨_, List.getElem?_eq_getElem (by omega)⟩
        obtain ⟨c, _, ⟨rfl, _⟩, hcell⟩ := hc 0 p0 hp0
        exact plain_of_cell (by simpa [Addr.add] using hcell 0 _ rfl)
      rw [had, add_off] at hcj
      rw [had] at hA
      obtain ⟨ab, hab⟩ : ∃ ab, ad.block = ab := ⟨_, rfl⟩
      obtain ⟨ao, hao⟩ : ∃ ao, ad.off = ao := ⟨_, rfl⟩
      rw [hab, hao] at hcj hA
      subst hA
      have HP : Hd _ := ⟨hp⟩
      clear hla hrow hc hcell had hab hao hp
      have hjo : (0 : Int) ≤ (j : Int) := by omega
      have hjh : (j : Int) < (len1 : Int) := by omega
      by_cases h40 : (40 : Int) < (p.zs.length : Int)
      · go_wp2_with fail
        go_ret
        exact ⟨rfl, HPB.out ▸ HBW.out⟩
      · go_wp2_with fail
        go_round
        case rel => exact ⟨j + 1, by omega, by go_num, ⟨fun q p' hq hp' => by
          by_cases e : q = j
          · subst e
            have := HP.out
            rw [hp'] at this
            cases this
            omega
          · exact HJ.out q p' (by omega) hp'⟩⟩
        case measure => simp [intOf]; omega
    · obtain rfl : j = len1 := by omega
      go_upto_region 8 with fail
      obtain ⟨i0, hi0, hz0, hz1, hz2⟩ := info_parts info_doing
      have hbb : (i0.bytes : Int) * (n : Int) ≤ 281474976710656 := by rw [hz2]; omega
      have hmk0 : ∀ w : World, (Instr.makeSlice 48 (.int .i64 (n : Nat)) (.int .i64 (n : Nat))).run Try.prog w = .ok (.slice (some ⟨w.heap.size, 0, none⟩) n n) (w.alloc (.cells (madeCells (Value.agg #[.int .i64 0, .pointer none, .pointer none, .int .u8 0, .bool false, .int .u64 0, .int .i64 0]).cells (n * 7)) 80)) := fun w => by
        have := run_makeSlice (P := Try.prog) w 48 80 i0 _ Try.underlying48 hi0 hz0 .i64 .i64 (n : Nat) (n : Nat) (by omega) (Int.le_refl _) (by rw [hz1]; omega) hbb (by omega)
        rw [hz1, Int.toNat_natCast] at this
        exact this
      have hmd := fun i j => made_doing n i j
      obtain ⟨mc, hmc⟩ : ∃ mc, madeCells (Value.agg #[.int .i64 0, .pointer none, .pointer none, .int .u8 0, .bool false, .int .u64 0, .int .i64 0]).cells (n * 7) = mc := ⟨_, rfl⟩
      rw [hmc] at hmk0 hmd
      have HMD : Hd _ := ⟨hmd⟩
      have hmk := hmk0
      have HMa : Hd (∀ X : World, Calls Try.prog 14 #[.int .i64 (n : Nat)] X (Made X n)) := ⟨fun X => made_any n X h1 h8⟩
      have hpl : pb < W1.heap.size := lt_of_cell x0
      clear hmc hmd hmk0 hi0 hz0 hz1 hz2 hbb x1 x2
      go_cut [4] (fun v wx => ∃ bw, v = .pointer (some ⟨bw, 0, none⟩) ∧ Hd (∃ I : Ids, I.bw = bw ∧ I.n = n ∧ RS W1 wx I 0))
      case first =>
        go_region_held3 (fun w' => w'.cell? ⟨pb, 0, none⟩ = some (.int .i64 (n : Nat)))
          (first | go_keep)
          (first
            | (go_at_call 14; refine (HMa.out _).mono ?_; rintro e w2 ⟨b, bm, bp, rfl, hge, hE, hB⟩; have hcx := hB.cell (p := ⟨pb, 0, none⟩) (by first | exact hpl | (show pb < (W1.alloc (.cells mc 80)).heap.size; simp; omega))))
        all_goals go_wp2_with fail
        all_goals go_meet
        · exact ⟨_, rfl, ⟨_, rfl, rfl, rs_made1 hge hE ⟨hB.os, hB.tape, hB.output, hB.size, hB.block⟩ HMD.out⟩⟩
        · have e1 : (W1.alloc (.cells mc 80)).drew.heap.size = W1.heap.size + 1 := by show (W1.alloc (.cells mc 80)).heap.size = _; simp
          rw [e1] at hge hB
          exact ⟨_, rfl, ⟨_, rfl, rfl, rs_made2 hge hE ⟨hB.os, hB.tape, hB.output, by have := hB.size; rw [e1] at this; simp; exact this, hB.block⟩ HMD.out⟩⟩
      case rest =>
        obtain ⟨bw, rfl, ⟨I, rfl, rfl, hRS⟩⟩ := hcut
        have HRS : Hd _ := ⟨hRS⟩
        obtain ⟨X0, _, _, _, _, _, _, _, hW0, _⟩ := hRS
        have hb0 : wc.cell? ⟨I.bw, 0, none⟩ = some (.pointer (some ⟨I.b, 0, none⟩)) := blk_cell hW0.blk (i := 0) rfl
        clear hW0 x0 hmk HMa
        go_wp2_with fail
        clear hb0
        go_loopw [5] (fun i wq => ∃ k : Nat, k ≤ len2 ∧ i = .int .i64 k ∧ Hd (RS W1 wq I (3 * k))) (fun i _ => len2 - (intOf i).toNat)
        case atStart => exact ⟨0, Nat.zero_le _, rfl, HRS⟩
        case round =>
          obtain ⟨k, hk, rfl, HR⟩ := hrel
          clear HRS
          have hbx := HX.out.on HR.out.below
          have x0 := hbx.c0
          have x1 := hbx.c1
          have x2 := hbx.c2
          clear hbx
          by_cases hkl : k < len2
          · obtain ⟨bx, ox, rfl, hbx, hx⟩ := recs_ints HRP.out (by omega)
            have hlen2 := HRP.out.1
            have hxk := (HR.out.below.cell (p := ⟨bx, ox + k, none⟩) hbx).trans (hx k (by omega))
            obtain ⟨z, hz⟩ : ∃ z, nth l2 k = z := ⟨_, rfl⟩
            rw [hz] at hxk
            clear hx hz hlen2
            have hko : (0 : Int) ≤ (k : Int) := by omega
            have hkh : (k : Int) < (len2 : Int) := by omega
            have hn1 : (I.n : Int) ≠ 0 := by omega
            go_upto_region 14 with fail
            go_cut [6] (fun v wx => v = .int .i64 (z.tmod (I.n : Int)) ∧ Hd (∃ m, wx = wr.drewN m))
            case first =>
              go_quiet (fail)
              go_wp2_with fail
              go_meet
              exact ⟨rfl, ⟨_, rfl⟩⟩
            case rest =>
              obtain ⟨rfl, HD⟩ := hcut
              have HR2 : Hd (RS W1 wc I (3 * k)) := ⟨by obtain ⟨m, rfl⟩ := HD.out; exact HR.out.drewN m⟩
              have y0 : wc.cell? ⟨pb, 0, none⟩ = _ := (HX.out.on HR2.out.below).c0
              have y1 : wc.cell? ⟨pb, 1, none⟩ = _ := (HX.out.on HR2.out.below).c1
              clear x0 x1 x2 hxk HD HR
              have ht1 : z.tmod (I.n : Int) < (I.n : Int) := Int.tmod_lt_of_pos z (by omega)
              have ht0 : -(I.n : Int) < z.tmod (I.n : Int) := by have := Int.lt_tmod_of_pos z (show (0 : Int) < (I.n : Int) by omega); omega
              obtain ⟨tm, htm⟩ : ∃ tm, z.tmod (I.n : Int) = tm := ⟨_, rfl⟩
              rw [htm] at ht0 ht1
              simp only [htm]
              clear htm
              go_upto_if 71 with (fail)
              go_cut [6] (fun v wx => ∃ who : Nat, who < I.n ∧ v = .int .i64 (who : Nat) ∧ Hd (wx = wc))
              case first =>
                by_cases hneg : tm < 0
                · go_wp2_with fail
                  go_meet
                  exact ⟨(tm + I.n).toNat, by omega, by rw [show (((tm + I.n).toNat : Nat) : Int) = tm + I.n by omega], ⟨rfl⟩⟩
                · go_wp2_with fail
                  go_meet
                  exact ⟨tm.toNat, by omega, by rw [show ((tm.toNat : Nat) : Int) = tm by omega], ⟨rfl⟩⟩
              case rest =>
                obtain ⟨who, hwho, rfl, ⟨rfl⟩⟩ := hcut
                have hwo : (0 : Int) ≤ (who : Int) := by omega
                have hwn : (who : Int) < (I.n : Int) := by omega
                by_cases hwl : who < j
                · obtain ⟨hla, _, hrow⟩ := HRA.out
                  obtain ⟨ad, hA, hc⟩ := hrow (by omega)
                  obtain ⟨p, hp⟩ : ∃ p, l1[who]? = some p := ⟨_, List.getElem?_eq_getElem (by omega)⟩
                  obtain ⟨c, _, ⟨rfl, hrec⟩, hcell⟩ := hc who p hp
                  have hcj := hcell 0 _ rfl
                  rw [Nat.mul_one, Nat.add_zero] at hcj
                  have had : ad = ⟨ad.block, ad.off, none⟩ := by
                    obtain ⟨p0, hp0⟩ : ∃ p, l1[0]? = some p := ⟨_, List.getElem?_eq_getElem (by omega)⟩
                    obtain ⟨c, _, ⟨rfl, _⟩, hcell⟩ := hc 0 p0 hp0
                    exact plain_of_cell (by simpa [Addr.add] using hcell 0 _ rfl)
                  rw [had, add_off] at hcj
                  rw [had] at hA
                  obtain ⟨ab, hab⟩ : ∃ ab, ad.block = ab := ⟨_, rfl⟩
                  obtain ⟨ao, hao⟩ : ∃ ao, ad.off = ao := ⟨_, rfl⟩
                  rw [hab, hao] at hcj hA
                  subst hA
                  have hcw := (HR2.out.below.cell (p := ⟨ab, ao + who, none⟩) (lt_of_cell hcj)).trans hcj
                  have HSt : Hd _ := ⟨step_law HR2.out hwho (by omega) p.a p.zs.length p.cap p.zs (hrec.lift HUp.out) (HJ.out who p hwl hp)⟩
                  have hwh : (who : Int) < (j : Int) := by omega
                  clear hla hrow hc hcell had hab hao hp hrec hcj
                  go_wp2_with (first
                    | (go_at_call 15; (with_reducible refine HSt.out.mono ?_); clear HSt; rintro e w3 ⟨rfl, hR3⟩; have HR3 : Hd _ := ⟨hR3⟩; clear hR3)
                    | (go_at_call 16; have hx := right_law HR3.out (by omega); (with_reducible refine hx.mono ?_); clear hx; rintro e w4 ⟨rfl, hD⟩; have HD4 : Hd _ := ⟨hD⟩; clear hD))
                  go_roundw
                  case rel => exact ⟨k + 1, by omega, by go_num, ⟨by obtain ⟨m, rfl⟩ := HD4.out; exact HR3.out.drewN m⟩⟩
                  case measure => simp [intOf]; omega
                · have HSt : Hd _ := ⟨step_law HR2.out hwho (by omega) none 0 0 [] ⟨rfl, by omega, fun h => absurd h (Nat.lt_irrefl _)⟩ (by omega)⟩
                  go_wp2_with (first
                    | (go_at_call 15; (with_reducible refine HSt.out.mono ?_); clear HSt; rintro e w3 ⟨rfl, hR3⟩; have HR3 : Hd _ := ⟨hR3⟩; clear hR3)
                    | (go_at_call 16; have hx := right_law HR3.out (by omega); (with_reducible refine hx.mono ?_); clear hx; rintro e w4 ⟨rfl, hD⟩; have HD4 : Hd _ := ⟨hD⟩; clear hD))
                  go_roundw
                  case rel => exact ⟨k + 1, by omega, by go_num, ⟨by obtain ⟨m, rfl⟩ := HD4.out; exact HR3.out.drewN m⟩⟩
                  case measure => simp [intOf]; omega
          · go_wp2_with (first
              | (go_at_call 13; refine (awake_any _).mono ?_; rintro e wf ⟨rfl, hA⟩; have HA2 : Hd _ := ⟨hA⟩; clear hA))
            go_ret
            have hB2 : Below W.heap.size W wr := HBW.out.trans (HR.out.below.mono HBW.out.size)
            exact ⟨rfl, hB2.trans (HA2.out.mono hB2.size)⟩
theorem runs_law (W : World) (rd : Int) (wf : (Lit.int .i64 rd).wf = true) (A1 : Option Addr) (len1 cap1 : Nat) (l1 : List ActD) (hR1 : Recs (RActs W) 1 W A1 len1 l1) (_ : len1 ≤ cap1) (A2 : Option Addr) (len2 cap2 : Nat) (l2 : List Int) (hR2 : Recs (RInt .i64) 1 W A2 len2 l2) (_ : len2 ≤ cap2) :
    Calls Try.prog 4 #[.agg #[.int .i64 rd, .slice A1 len1 cap1, .slice A2 len2 cap2]] W fun e w' => e = .returned (.bool true) ∧ Below W.heap.size W w' := by
  by_cases h : rd < 1 ∨ 8 < rd ∨ (8 : Int) < (len1 : Int) ∨ (800 : Int) < (len2 : Int)
  · exact runs_no W rd A1 len1 cap1 A2 len2 cap2 h
  · obtain ⟨n, rfl⟩ : ∃ n : Nat, rd = n := ⟨rd.toNat, by omega⟩
    exact runs_any W n (by omega) (by omega) A1 len1 cap1 l1 hR1 A2 len2 cap2 l2 hR2 (by omega) (by omega)
set_option maxRecDepth 100000 in
theorem byte_open {H : Type} {enc : TypeId × Value → H} {w : World} {spare : Nat → Bool} {held : Bool} : ∀ fuel cs x, DataW.trod enc Try.prog w 0 spare held fuel 82 cs = some x → cs.length = 1 → ∃ p, RInt .u8 p cs := by
  intro fuel cs x h hl
  match cs, hl with
  | [c0], _ =>
    obtain ⟨y0, n, _, _, h0⟩ := Go.ChangeShapes.trod_struct1 Try.underlying82 h
    simp only [(by kernel_rfl : Try.prog.cellsOf 5 = 1), List.drop, List.take, List.take_zero, List.drop_zero] at h0
    obtain ⟨v0, e0, _, w0⟩ := DataW.trod_int Try.underlying5 h0
    obtain rfl := (List.cons.inj e0).1
    exact ⟨v0, rfl, w0⟩
set_option maxRecDepth 100000 in
theorem acts_open {H : Type} {enc : TypeId × Value → H} {w : World} {spare : Nat → Bool} {held : Bool} : ∀ fuel cs x, DataW.trod enc Try.prog w 0 spare held fuel 44 cs = some x → cs.length = 1 → ∃ p, RActs w p cs := by
  intro fuel cs x h hl
  obtain ⟨a, len, cap, l, rfl, hle, hR⟩ := field_slice (RInt .u8) Try.underlying44 (by kernel_rfl : Try.prog.cellsOf 82 = 1) h byte_open
  obtain rfl := hR.1
  exact ⟨⟨a, cap, l⟩, rfl, hR⟩
end Go.Proofs.Ytkjppffkjofamaa
