/- Trees: TreeBack, walked. No condition but those of the row. -/
import Derived.Test.YtkcnakaneiocjaaTrTell
import Derived.Test.YtkcnakaneiocjaaTrBackP
set_option linter.unusedVariables false
set_option linter.unusedSimpArgs false
namespace Go.Proofs.Ytkcnakaneiocjaa.PTr
open Go.RowKit Go.Proofs.YtkcnakaneiocjaaW.PrintWords Go.Proofs.YtkcnakaneiocjaaW.PrintLast Go.Proofs.YtkcnakaneiocjaaW.PrintMore
theorem eqA33 (d : Nat) (w : World) (x0 y0 : Int) (x1 y1 : Int) (x2 y2 : ByteArray) :
    (Op.equalIn (d + 2) 33 (.agg #[.int .u32 x0, .int .u8 x1, .string x2]) (.agg #[.int .u32 y0, .int .u8 y1, .string y2])).run Try.prog w = .ok (x0 == y0 && (x1 == y1 && (x2.toList == y2.toList))) w := by
  refine eqA_of Try.underlying33 (by kernel_rfl) ?_
  refine eqf_cons (by rfl) (by go_simp; rfl) (by go_simp; rfl) (by go_simp) ?_
  refine eqf_cons (by rfl) (by go_simp; rfl) (by go_simp; rfl) (by go_simp) ?_
  exact eqf_last (by rfl) (by go_simp; rfl) (by go_simp; rfl) (by go_simp)
attribute [local go_sem high] eqA33
theorem back_w {W w0 w1 : World} {A1 : Option Addr} {N : List Nd} (h0 : Drawn0 W w0) (h1 : Hd (ShAt A1 N w1 ∧ Below w0.heap.size w0 w1)) (q : Obj) :
    Below W.heap.size W (w1.alloc q) ∧ ShAt A1 N (w1.alloc q) ∧ (w1.alloc q).heap[w1.heap.size]? = some q ∧ W.heap.size ≤ w1.heap.size := by
  have a := h0.below
  have b := a.trans (h1.out.2.mono a.size)
  exact ⟨below_alloc b _, h1.out.1.on (below_alloc (Below.refl _ _) _), heap_alloc_new w1 _, b.size⟩
theorem back_cells {W1 X : World} {b6 : Nat} {root hgt : Int} {P Q R : Prop} (h : Below W1.heap.size W1 X) (hp : Hd (P ∧ Q ∧ W1.heap[b6]? = some (.cells #[.int .i64 root, .int .i64 hgt] 27 (0, 0)) ∧ R)) :
    X.cell? ⟨b6, 0, none⟩ = some (.int .i64 root) ∧ X.cell? ⟨b6, 1, none⟩ = some (.int .i64 hgt) := by
  have h6 := hp.out.2.2.1
  have k6 := (h.block b6 (Array.getElem?_eq_some_iff.1 h6).1).trans h6
  exact ⟨blk_cell k6 0, blk_cell k6 1⟩
theorem back_lt {W1 X : World} {b6 : Nat} {o : Obj} {P Q R : Prop} (h : Below W1.heap.size W1 X) (hp : Hd (P ∧ Q ∧ W1.heap[b6]? = some o ∧ R)) : b6 < X.heap.size :=
  Nat.lt_of_lt_of_le (Array.getElem?_eq_some_iff.1 hp.out.2.2.1).1 h.size
theorem u8_wf {a : Int} (h : (Lit.int .u8 a).wf = true) : 0 ≤ a ∧ a < 256 := by
  have e : (Lit.int .u8 a).wf = (decide (IntKind.u8.min ≤ a) && decide (a ≤ IntKind.u8.max)) := rfl
  rw [e, Bool.and_eq_true, decide_eq_true_eq, decide_eq_true_eq] at h
  have h1 : IntKind.u8.min = 0 := rfl
  have h2 : IntKind.u8.max = 255 := rfl
  omega
set_option maxRecDepth 100000 in
set_option maxHeartbeats 4000000 in
theorem back_any (W : World) (A : Option Addr) (cap : Nat) (l : List Rec) (hin : InAt A l W) (hu : ∀ x ∈ l, 0 ≤ x.f0 ∧ x.f0 < 4294967296) (hcap : l.length ≤ cap) (more : Int) (u0 : 0 ≤ more) (u1 : more < 256) :
    Calls Try.prog 3 #[.slice A l.length cap, .int .u8 more] W fun e w' => e = .returned (.bool true) ∧ Hd (Below W.heap.size W w') := by
  obtain ⟨r, hr, hgr⟩ := great_f l 60 (by decide) 400 (by decide)
  have HGr : Hd (Calls Try.prog 6 #[.slice A l.length cap, .int .i64 60] W fun e w' => e = .returned (.bool r) ∧ Drawn0 W w') := ⟨postchaiselaw07_great.calls 400 A cap l 60 r W hin.c hcap hr⟩
  cases r with
  | true =>
    clear hin hr hgr
    go_enter Try.func3, Try.ntmps3
    go_wp2_with (first
      | (go_at_call 6; have hx := HGr.out; (with_reducible refine hx.mono ?_); clear hx; rintro e w1 ⟨rfl, HD0⟩))
    go_ret
    exact ⟨rfl, ⟨HD0.below⟩⟩
  | false =>
    obtain ⟨hln, hinc⟩ := hgr rfl
    clear hr hgr
    obtain ⟨m, hm, hm2⟩ : ∃ m : Nat, more % 9 = (m : Int) ∧ m ≤ 1000 := ⟨(more % 9).toNat, by omega, by omega⟩
    have hT := (stand_good (W := W) cap l hin.rd (by omega) hin.c hcap hu hinc 0 (by decide) m hm2).1
    have hS : ∀ w0, Below W.heap.size W w0 → _ := fun w0 h0 => (stand_good (W := w0) cap l (hin.on h0).rd (by omega) (hin.on h0).c hcap hu hinc 0 (by decide) m hm2).2
    obtain ⟨N, hN⟩ : ∃ N, treeN l 0 m = N := ⟨_, rfl⟩
    obtain ⟨root, hroot⟩ : ∃ root, rootOf l 0 = root := ⟨_, rfl⟩
    obtain ⟨hgt, hhgt⟩ : ∃ hgt, hgtOf l m = hgt := ⟨_, rfl⟩
    simp only [hN, hroot, hhgt] at hT hS
    have HSt : Hd (∀ w0, Below W.heap.size W w0 → Calls Try.prog 7 #[.slice A l.length cap, .int .i64 0, .int .i64 (m : Int)] w0 fun e w' => ∃ A' c', e = .returned (.tuple #[.slice A' N.length c', .agg #[.int .i64 root, .int .i64 (hgt : Int)]]) ∧ Hd (ShAt A' N w' ∧ Below w0.heap.size w0 w')) := ⟨hS⟩
    have HT := Hd.mk hT
    have HM := Hd.mk hm
    have HI := Hd.mk hin
    have HL := Hd.mk hln
    have HU := Hd.mk hu
    have HInc := Hd.mk hinc
    clear hS hN hroot hhgt hT hin hm hm2 hinc hu
    have HSl : Hd (∀ (A1 : Option Addr) (c : Nat) (X : World) (k : Int), ShAt A1 N X → Calls Try.prog 8 #[.agg #[.int .i64 root, .int .i64 (hgt : Int)], .iface 25 (.slice A1 N.length c), .int .i64 k] X fun e w' => e = .returned (.tuple #[.agg (recA (selL l k).1), .bool (selL l k).2]) ∧ Hd (Below X.heap.size X w')) := ⟨fun A1 c X k hX => tree_sel HT.out (by omega) hX c k⟩
    have HGt : Hd (∀ (A1 : Option Addr) (c : Nat) (X : World) (j : Nat) (hj : j < l.length), ShAt A1 N X → Calls Try.prog 9 #[.agg #[.int .i64 root, .int .i64 (hgt : Int)], .iface 25 (.slice A1 N.length c), .int .u32 l[j].f0] X fun e w' => e = .returned (.tuple #[.agg (recA l[j]), .bool true]) ∧ Hd (Below X.heap.size X w')) := ⟨fun A1 c X j hj hX => by
      have h := tree_get HT.out hX c l[j].f0 (HU.out _ (List.getElem_mem hj)).1 (HU.out _ (List.getElem_mem hj)).2
      rw [find_at HInc.out j hj] at h
      exact h⟩
    have HRk : Hd (∀ (A1 : Option Addr) (c : Nat) (X : World) (j : Nat) (hj : j < l.length), ShAt A1 N X → Calls Try.prog 10 #[.agg #[.int .i64 root, .int .i64 (hgt : Int)], .iface 25 (.slice A1 N.length c), .int .u32 l[j].f0] X fun e w' => e = .returned (.int .i64 j) ∧ Hd (Below X.heap.size X w')) := ⟨fun A1 c X j hj hX => by
      have h := tree_rank HT.out hX c l[j].f0 (HU.out _ (List.getElem_mem hj)).1 (HU.out _ (List.getElem_mem hj)).2
      rw [rank_at HInc.out j hj] at h
      exact h⟩
    have HRn : Hd (∀ (A1 : Option Addr) (c : Nat) (X : World) (j : Nat) (hj : j < l.length), l[j].f0 < 4294967295 → ShAt A1 N X → Calls Try.prog 10 #[.agg #[.int .i64 root, .int .i64 (hgt : Int)], .iface 25 (.slice A1 N.length c), .int .u32 (l[j].f0 + 1)] X fun e w' => e = .returned (.int .i64 ((j : Int) + 1)) ∧ Hd (Below X.heap.size X w')) := ⟨fun A1 c X j hj hlt hX => by
      have h := tree_rank HT.out hX c (l[j].f0 + 1) (by have := (HU.out _ (List.getElem_mem hj)).1; omega) (by omega)
      rw [rank_next HInc.out j hj] at h
      exact h⟩
    go_enter Try.func3, Try.ntmps3
    go_wp2_with (first
      | (go_at_call 6; have hx := HGr.out; (with_reducible refine hx.mono ?_); clear hx; rintro e w0 ⟨rfl, HD0⟩)
      | (go_at_call 7; rw [HM.out]; have hx := HSt.out w0 HD0.below; (with_reducible refine hx.mono ?_); clear hx; rintro e w1 ⟨A1, c1, rfl, HD1⟩)
      | fail)
    have HW1 := Hd.mk (back_w HD0 HD1 (.cells #[.int .i64 root, .int .i64 (hgt : Int)] 27))
    obtain ⟨b6, hb6⟩ : ∃ b, w1.heap.size = b := ⟨_, rfl⟩
    obtain ⟨W1, hW1⟩ : ∃ X, w1.alloc (.cells #[.int .i64 root, .int .i64 (hgt : Int)] 27) = X := ⟨_, rfl⟩
    rw [hW1, hb6] at HW1
    rw [hW1, hb6]
    clear HD0 HD1 hW1 hb6 HGr HSt HM
    go_loopw [7] (fun r wr => ∃ (j : Nat), j ≤ l.length ∧ r = .int .i64 (j : Int) ∧ Hd (Below W1.heap.size W1 wr)) (fun r _ => l.length - (intOf r).toNat)
    case atStart => exact ⟨0, Nat.zero_le _, rfl, ⟨Below.refl _ _⟩⟩
    case round =>
      obtain ⟨j, hle, rfl, HB⟩ := hrel
      obtain ⟨m0, m1⟩ := back_cells HB.out HW1
      by_cases hj : j < l.length
      · have hsel : selL l (j : Int) = (l[j], true) := dif_pos ⟨by omega, by omega⟩
        have HSj : Hd (∀ (X : World), Below W1.heap.size W1 X → Calls Try.prog 8 #[.agg #[.int .i64 root, .int .i64 (hgt : Int)], .iface 25 (.slice A1 N.length c1), .int .i64 (j : Int)] X fun e w' => e = .returned (.tuple #[.agg #[.int .u32 l[j].f0, .int .u8 l[j].f1, .string l[j].f2], .bool true]) ∧ Hd (Below X.heap.size X w')) := ⟨fun X hX => by
          have h := HSl.out A1 c1 X (j : Int) (HW1.out.2.1.on hX)
          rw [hsel] at h
          exact h⟩
        have HGj : Hd (∀ (X : World), Below W1.heap.size W1 X → Calls Try.prog 9 #[.agg #[.int .i64 root, .int .i64 (hgt : Int)], .iface 25 (.slice A1 N.length c1), .int .u32 l[j].f0] X fun e w' => e = .returned (.tuple #[.agg #[.int .u32 l[j].f0, .int .u8 l[j].f1, .string l[j].f2], .bool true]) ∧ Hd (Below X.heap.size X w')) := ⟨fun X hX => HGt.out A1 c1 X j hj (HW1.out.2.1.on hX)⟩
        have HRj : Hd (∀ (X : World), Below W1.heap.size W1 X → Calls Try.prog 10 #[.agg #[.int .i64 root, .int .i64 (hgt : Int)], .iface 25 (.slice A1 N.length c1), .int .u32 l[j].f0] X fun e w' => e = .returned (.int .i64 j) ∧ Hd (Below X.heap.size X w')) := ⟨fun X hX => HRk.out A1 c1 X j hj (HW1.out.2.1.on hX)⟩
        have HRo : Hd (∀ (X : World), l[j].f0 < 4294967295 → Below W1.heap.size W1 X → Calls Try.prog 10 #[.agg #[.int .i64 root, .int .i64 (hgt : Int)], .iface 25 (.slice A1 N.length c1), .int .u32 (l[j].f0 + 1)] X fun e w' => e = .returned (.int .i64 ((j : Int) + 1)) ∧ Hd (Below X.heap.size X w')) := ⟨fun X hlt hX => HRn.out A1 c1 X j hj hlt (HW1.out.2.1.on hX)⟩
        have hur := HU.out _ (List.getElem_mem hj)
        obtain ⟨s0, hs0⟩ : ∃ v, l[j].f0 = v := ⟨_, rfl⟩
        obtain ⟨s1, hs1⟩ : ∃ v, l[j].f1 = v := ⟨_, rfl⟩
        obtain ⟨s2, hs2⟩ : ∃ v, l[j].f2 = v := ⟨_, rfl⟩
        rw [hs0, hs1, hs2] at HSj HGj
        rw [hs0] at HRj HRo hur
        have HJ := Hd.mk hj
        have q2 : (j : Int) < 61 := by have := HL.out; omega
        have q3 : (0 : Int) ≤ (j : Int) := by omega
        clear hsel hs0 hs1 hs2 HSl HGt HRk HRn
        have q1 : (j : Int) < (l.length : Int) := by omega
        by_cases h9 : s0 < 4294967295
        · have q4 : decide (s0 < 4294967295) = true := decide_eq_true h9
          have q5 : s0 + 1 < 4294967296 := by omega
          obtain ⟨q6, q7⟩ := hur
          go_wp2_with (first
            | (go_at_call 8; have hx := HSj.out wr HB.out; (with_reducible refine hx.mono ?_); clear hx; rintro e w2 ⟨rfl, HD2⟩; have HX2 : Hd (Below W1.heap.size W1 w2) := ⟨tell_x HB.out HD2⟩; obtain ⟨e0, e1⟩ := back_cells HX2.out HW1; have hb2 : b6 < w2.heap.size := back_lt HX2.out HW1; have hn2 : (b6 = w2.heap.size) = False := eq_false (by omega); have hn2' : (w2.heap.size = b6) = False := eq_false (by omega))
            | (go_at_call 9; have hx := HGj.out (w2.alloc (.cells #[.int .u32 s0, .int .u8 s1, .string s2] 33)) (below_alloc HX2.out _); (with_reducible refine hx.mono ?_); clear hx; rintro e w3 ⟨rfl, HD3⟩; have HX3 : Hd (Below W1.heap.size W1 w3) := ⟨tell_x (below_alloc HX2.out _) HD3⟩; obtain ⟨f0, f1⟩ := back_cells HX3.out HW1; have HP3 := awk_rec HD3; have f2 : w3.cell? ⟨w2.heap.size, 0, none⟩ = some (.int .u32 s0) := blk_cell HP3.out 0; have f3 : w3.cell? ⟨w2.heap.size, 1, none⟩ = some (.int .u8 s1) := blk_cell HP3.out 1; have f4 : w3.cell? ⟨w2.heap.size, 2, none⟩ = some (.string s2) := blk_cell HP3.out 2; have hb3 : w2.heap.size < w3.heap.size := (Array.getElem?_eq_some_iff.1 HP3.out).1; have hb4 : b6 < w3.heap.size := Nat.lt_trans hb2 hb3; have hn3 : (b6 = w3.heap.size) = False := eq_false (by omega); have hn3' : (w3.heap.size = b6) = False := eq_false (by omega); have hn4 : (w2.heap.size = w3.heap.size) = False := eq_false (by omega); have hn4' : (w3.heap.size = w2.heap.size) = False := eq_false (by omega))
            | (go_at_call 10; have hx := HRj.out (w3.alloc (.cells #[.int .u32 s0, .int .u8 s1, .string s2] 33)) (below_alloc HX3.out _); (with_reducible refine hx.mono ?_); clear hx HRj; rintro e w4 ⟨rfl, HD4⟩; have HX4 : Hd (Below W1.heap.size W1 w4) := ⟨tell_x (below_alloc HX3.out _) HD4⟩; obtain ⟨g0, g1⟩ := back_cells HX4.out HW1; have HP4 := awk_keep HD4 HP3; have g2 : w4.cell? ⟨w2.heap.size, 0, none⟩ = some (.int .u32 s0) := blk_cell HP4.out 0)
            | (go_at_call 10; have hx := HRo.out w4 h9 HX4.out; (with_reducible refine hx.mono ?_); clear hx; rintro e w5 ⟨rfl, HD5⟩; have HX5 : Hd (Below W1.heap.size W1 w5) := ⟨tell_x HX4.out HD5⟩)
            | fail)
          go_roundw
          case rel => exact ⟨j + 1, HJ.out, by go_num, ⟨HX5.out⟩⟩
          case measure => simp only [intOf]; have := HJ.out; omega
        · have q4 : decide (s0 < 4294967295) = false := decide_eq_false h9
          obtain ⟨q6, q7⟩ := hur
          go_wp2_with (first
            | (go_at_call 8; have hx := HSj.out wr HB.out; (with_reducible refine hx.mono ?_); clear hx; rintro e w2 ⟨rfl, HD2⟩; have HX2 : Hd (Below W1.heap.size W1 w2) := ⟨tell_x HB.out HD2⟩; obtain ⟨e0, e1⟩ := back_cells HX2.out HW1; have hb2 : b6 < w2.heap.size := back_lt HX2.out HW1; have hn2 : (b6 = w2.heap.size) = False := eq_false (by omega); have hn2' : (w2.heap.size = b6) = False := eq_false (by omega))
            | (go_at_call 9; have hx := HGj.out (w2.alloc (.cells #[.int .u32 s0, .int .u8 s1, .string s2] 33)) (below_alloc HX2.out _); (with_reducible refine hx.mono ?_); clear hx; rintro e w3 ⟨rfl, HD3⟩; have HX3 : Hd (Below W1.heap.size W1 w3) := ⟨tell_x (below_alloc HX2.out _) HD3⟩; obtain ⟨f0, f1⟩ := back_cells HX3.out HW1; have HP3 := awk_rec HD3; have f2 : w3.cell? ⟨w2.heap.size, 0, none⟩ = some (.int .u32 s0) := blk_cell HP3.out 0; have f3 : w3.cell? ⟨w2.heap.size, 1, none⟩ = some (.int .u8 s1) := blk_cell HP3.out 1; have f4 : w3.cell? ⟨w2.heap.size, 2, none⟩ = some (.string s2) := blk_cell HP3.out 2; have hb3 : w2.heap.size < w3.heap.size := (Array.getElem?_eq_some_iff.1 HP3.out).1; have hb4 : b6 < w3.heap.size := Nat.lt_trans hb2 hb3; have hn3 : (b6 = w3.heap.size) = False := eq_false (by omega); have hn3' : (w3.heap.size = b6) = False := eq_false (by omega); have hn4 : (w2.heap.size = w3.heap.size) = False := eq_false (by omega); have hn4' : (w3.heap.size = w2.heap.size) = False := eq_false (by omega))
            | (go_at_call 10; have hx := HRj.out (w3.alloc (.cells #[.int .u32 s0, .int .u8 s1, .string s2] 33)) (below_alloc HX3.out _); (with_reducible refine hx.mono ?_); clear hx HRj; rintro e w4 ⟨rfl, HD4⟩; have HX4 : Hd (Below W1.heap.size W1 w4) := ⟨tell_x (below_alloc HX3.out _) HD4⟩; obtain ⟨g0, g1⟩ := back_cells HX4.out HW1; have HP4 := awk_keep HD4 HP3; have g2 : w4.cell? ⟨w2.heap.size, 0, none⟩ = some (.int .u32 s0) := blk_cell HP4.out 0)
            | fail)
          go_roundw
          case rel => exact ⟨j + 1, HJ.out, by go_num, ⟨HX4.out⟩⟩
          case measure => simp only [intOf]; have := HJ.out; omega
      · obtain rfl : j = l.length := by omega
        have hsel : selL l (l.length : Int) = (rc0, false) := dif_neg (by omega)
        have HSj : Hd (∀ (X : World), Below W1.heap.size W1 X → Calls Try.prog 8 #[.agg #[.int .i64 root, .int .i64 (hgt : Int)], .iface 25 (.slice A1 N.length c1), .int .i64 (l.length : Int)] X fun e w' => e = .returned (.tuple #[.agg #[.int .u32 0, .int .u8 0, .string ⟨#[]⟩], .bool false]) ∧ Hd (Below X.heap.size X w')) := ⟨fun X hX => by
          have h := HSl.out A1 c1 X (l.length : Int) (HW1.out.2.1.on hX)
          rw [hsel] at h
          exact h⟩
        clear hsel HSl HGt HRk HRn hj hle
        go_wp2_with (first
          | (go_at_call 8; have hx := HSj.out wr HB.out; (with_reducible refine hx.mono ?_); clear hx; rintro e w2 ⟨rfl, HD2⟩; have HX2 : Hd (Below W1.heap.size W1 w2) := ⟨tell_x HB.out HD2⟩)
          | (go_at_call 11; (with_reducible refine (awake_any _).mono ?_); rintro e w9 ⟨rfl, HB9⟩)
          | fail)
        go_ret
        refine ⟨rfl, ⟨?_⟩⟩
        have h1 := below_alloc (HW1.out.1.trans (HX2.out.mono HW1.out.1.size)) (.cells #[.int .u32 0, .int .u8 0, .string ⟨#[]⟩] 33)
        exact h1.trans (HB9.out.mono h1.size)
theorem treeBack_any (w : World) (A : Option Addr) (len cap : Nat) (l : List (Int × Int × ByteArray)) (hr : Recs RRec 3 w A len l) (hc : len ≤ cap) (hb : len * 24 ≤ 140737488351232) (more : Int) (wm : (Lit.int .u8 more).wf = true) :
    Calls Try.prog 3 #[.slice A len cap, .int .u8 more] w fun e w' => e = .returned (.bool true) ∧ Below w.heap.size w w' := by
  obtain ⟨hi, hu, hl⟩ := recs_in hr
  have e : (l.map toRec).length = len := by rw [List.length_map, hl]
  have h := back_any w A cap (l.map toRec) hi hu (by omega) more (u8_wf wm).1 (u8_wf wm).2
  rw [e] at h
  exact h.mono fun e w' x => ⟨x.1, x.2.out⟩
end Go.Proofs.Ytkcnakaneiocjaa.PTr
