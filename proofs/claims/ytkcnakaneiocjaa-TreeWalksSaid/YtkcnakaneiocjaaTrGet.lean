/- Trees: Get, walked. No condition but those that each contract bears. -/
import Derived.Test.YtkcnakaneiocjaaTrBelow
import Derived.Test.YtkcnakaneiocjaaTrNum
set_option linter.unusedVariables false
set_option linter.unusedSimpArgs false
namespace Go.Proofs.Ytkcnakaneiocjaa.PTr
open Go.RowKit Go.Proofs.YtkcnakaneiocjaaW.PrintWords Go.Proofs.YtkcnakaneiocjaaW.PrintLast Go.Proofs.YtkcnakaneiocjaaW.PrintMore
attribute [local go_sem] method_201
def rc0 : S41 := ⟨0, 0, ⟨#[]⟩⟩
def recA (r : S41) : Array Value := #[.int .u32 r.f0, .int .u8 r.f1, .string r.f2]
def getN (N : List Nd) (uid : Int) : Nat → Int → S41 × Bool
  | 0, slot => ((atN N slot).1.rc, (atN N slot).2)
  | h + 1, slot => if (atN N slot).2 = false then (rc0, false) else getN N uid h ((atN N slot).1.kid (dig uid h).toNat)
theorem res_rec {fn : Func} {p u : Tmp} (h : fn.results = #[.cell p 33, .tmp u]) (tmps : Array Value) (w : World) (g : Nat) (r : S41) (bb : Bool) (hp : tmps.getD p undef = .pointer (some ⟨g, 0, none⟩)) (hu : tmps.getD u undef = .bool bb)
    (hg : w.heap[g]? = some (.cells (recA r) 33 (0, 0))) : (results fn tmps).run Try.prog w = .ok (.tuple #[.agg (recA r), .bool bb]) w := by
  have c0 : w.cell? ⟨g, 0, none⟩ = some (.int .u32 r.f0) := (blk_cell hg 0).trans rfl
  have c1 : w.cell? ⟨g, 1, none⟩ = some (.int .u8 r.f1) := (blk_cell hg 1).trans rfl
  have c2 : w.cell? ⟨g, 2, none⟩ = some (.string r.f2) := (blk_cell hg 2).trans rfl
  rw [results_cell_tmp h, hp, hu]
  go_simp
  rfl
theorem rec_cells {W : World} {k : Nat} {r : S41} (hp : W.heap[k]? = some (.cells (recA r) 33 (0, 0))) : W.cell? ⟨k, 0, none⟩ = some (.int .u32 r.f0) ∧ W.cell? ⟨k, 1, none⟩ = some (.int .u8 r.f1) ∧ W.cell? ⟨k, 2, none⟩ = some (.string r.f2) ∧ W.frozen? ⟨k, 0, none⟩ = false ∧ W.frozen? ⟨k, 1, none⟩ = false ∧ W.frozen? ⟨k, 2, none⟩ = false :=
  ⟨(blk_cell hp 0).trans rfl, (blk_cell hp 1).trans rfl, (blk_cell hp 2).trans rfl, by simp [World.frozen?, hp], by simp [World.frozen?, hp], by simp [World.frozen?, hp]⟩
theorem rec_set {W : World} {k : Nat} {r r' : S41} (hp : W.heap[k]? = some (.cells (recA r) 33 (0, 0))) : (((W.setCell ⟨k, 0, none⟩ (.int .u32 r'.f0)).setCell ⟨k, 1, none⟩ (.int .u8 r'.f1)).setCell ⟨k, 2, none⟩ (.string r'.f2)).heap[k]? = some (.cells (recA r') 33 (0, 0)) := by
  rw [blk_set (blk_set (blk_set hp 0 (.int .u32 r'.f0)) 1 (.int .u8 r'.f1)) 2 (.string r'.f2)]
  rfl
theorem tr_new_at (w : World) (o : Obj) {k : Nat} (hk : k = w.heap.size) : (w.alloc o).heap[k]? = some o := by subst hk; exact heap_alloc_new w o
theorem below_rec {B : Nat} {W X : World} (h : Below B W X) {k : Nat} (hk : B ≤ k) (a b c : Value) : Below B W (((X.setCell ⟨k, 0, none⟩ a).setCell ⟨k, 1, none⟩ b).setCell ⟨k, 2, none⟩ c) :=
  ((h.setCell (p := ⟨k, 0, none⟩) hk a).setCell (p := ⟨k, 1, none⟩) hk b).setCell (p := ⟨k, 2, none⟩) hk c
theorem kid_cell (n : Nd) (d : Nat) (hd : d < 16) : (ncells n)[2 + d]? = some (.int .i64 (n.kid d)) := by
  have : d = 0 ∨ d = 1 ∨ d = 2 ∨ d = 3 ∨ d = 4 ∨ d = 5 ∨ d = 6 ∨ d = 7 ∨ d = 8 ∨ d = 9 ∨ d = 10 ∨ d = 11 ∨ d = 12 ∨ d = 13 ∨ d = 14 ∨ d = 15 := by omega
  rcases this with rfl | rfl | rfl | rfl | rfl | rfl | rfl | rfl | rfl | rfl | rfl | rfl | rfl | rfl | rfl | rfl <;> rfl
set_option maxRecDepth 100000 in
set_option maxHeartbeats 1000000 in
theorem get_any {A : Option Addr} {N : List Nd} {W : World} (h : ShAt A N W) (hN : N.length ≤ 1000000) (cap : Nat) (root : Int) (hgt : Nat) (hh : hgt ≤ 8) (uid : Int) (h0 : 0 ≤ uid) (h1 : uid < 4294967296) :
    Calls Try.prog 9 #[.agg #[.int .i64 root, .int .i64 (hgt : Int)], .iface 25 (.slice A N.length cap), .int .u32 uid] W fun e w' =>
      e = .returned (.tuple #[.agg (recA (if needN uid ≤ hgt then getN N uid hgt root else (rc0, false)).1), .bool (if needN uid ≤ hgt then getN N uid hgt root else (rc0, false)).2]) ∧ Hd (Below W.heap.size W w') := by
  have HH := Hd.mk h
  have HHas : Hd (∀ X, Calls Try.prog 27 #[.agg #[.int .i64 root, .int .i64 (hgt : Int)], .int .u32 uid] X fun e w' => e = .returned (.bool (decide (needN uid ≤ hgt))) ∧ Below X.heap.size X w') := ⟨fun X => by
    have := tree_Tree_has.calls 20 root hgt uid _ X (has_f root hgt uid h0 h1 20 (by decide))
    have e : decide ((needN uid : Int) ≤ (hgt : Int)) = decide (needN uid ≤ hgt) := by simp
    rwa [e] at this⟩
  have HAt : Hd (∀ X slot, Below W.heap.size W X → Calls Try.prog 48 #[.slice A N.length cap, .int .i64 slot] X fun e w' => e = .returned (.tuple #[.agg (nArr (atN N slot).1), .bool (atN N slot).2]) ∧ Hd (Below X.heap.size X w')) := ⟨fun X slot hX => at_any (h.on hX) hN cap slot⟩
  have HDg : Hd (∀ (X : World) (r : Nat), r ≤ 7 → Calls Try.prog 28 #[.int .u32 uid, .int .i64 (r : Int)] X fun e w' => e = .returned (.int .i64 ((dig uid r).toNat : Int)) ∧ Drawn0 X w') := ⟨fun X r hr => by
    have := tree_digit.calls uid r _ X (dig_f uid h0 r hr)
    rwa [show ((dig uid r).toNat : Int) = dig uid r by have := dig_range uid r; omega]⟩
  clear h h0 h1
  by_cases hn : needN uid ≤ hgt
  · have qn : decide (needN uid ≤ hgt) = true := decide_eq_true hn
    simp only [if_pos hn]
    obtain ⟨R, hR⟩ : ∃ R, getN N uid hgt root = R := ⟨_, rfl⟩
    rw [hR]
    have HR := Hd.mk hR
    rw [qn] at HHas
    clear hn hR
    go_enter Try.func9, Try.ntmps9
    go_wp2_with (first
      | (go_at_call 27; have hx := HHas.out ((W.alloc (.cells #[.int .i64 root, .int .i64 (hgt : Int)] 27)).alloc (.cells #[.int .u32 0, .int .u8 0, .string ⟨#[]⟩] 33)); (with_reducible refine hx.mono ?_); clear hx; rintro e w1 ⟨rfl, hB⟩; have HB := Hd.mk hB; clear hB
         have e0 : w1.cell? ⟨W.heap.size, 0, none⟩ = some (.int .i64 root) := (HB.out.cell (p := ⟨W.heap.size, 0, none⟩) (by simp; omega)).trans (by simp)
         have e1 : w1.cell? ⟨W.heap.size, 1, none⟩ = some (.int .i64 (hgt : Int)) := (HB.out.cell (p := ⟨W.heap.size, 1, none⟩) (by simp; omega)).trans (by simp)))
    have HP1 := Hd.mk ((HB.out.block (W.heap.size + 1) (by simp)).trans (show ((W.alloc (.cells #[.int .i64 root, .int .i64 (hgt : Int)] 27)).alloc (.cells #[.int .u32 0, .int .u8 0, .string ⟨#[]⟩] 33)).heap[W.heap.size + 1]? = some (Obj.cells (recA rc0) 33 (0, 0)) from tr_new_at _ _ (by simp)))
    have HW1 : Hd (Below W.heap.size W w1) := ⟨(below_alloc (below_alloc (Below.refl _ _) _) _).trans (HB.out.mono (by simp; omega))⟩
    clear HB e0 e1
    go_loopw [8, 9] (fun s r wr => ∃ (h : Nat) (p : Int), h ≤ hgt ∧ s = .int .i64 p ∧ r = .int .i64 ((h : Int) - 1) ∧ Hd (getN N uid h p = R) ∧ Hd (Below w1.heap.size w1 wr)) (fun _ r _ => (intOf r + 1).toNat)
    case atStart => exact ⟨hgt, root, Nat.le_refl _, rfl, rfl, HR, ⟨Below.refl _ _⟩⟩
    case round =>
      clear HR
      obtain ⟨h, p, hle, rfl, rfl, HR, HB⟩ := hrel
      have HWr := Hd.mk (HW1.out.trans (HB.out.mono HW1.out.size))
      have HPr := Hd.mk ((HB.out.block (W.heap.size + 1) (Array.getElem?_eq_some_iff.1 HP1.out).1).trans HP1.out)
      have HA := Hd.mk (HAt.out wr p HWr.out)
      have HG0 := Hd.mk (show getN N uid 0 p = ((atN N p).1.rc, (atN N p).2) from rfl)
      have HG1 := Hd.mk (fun j => show getN N uid (j + 1) p = if (atN N p).2 = false then (rc0, false) else getN N uid j ((atN N p).1.kid (dig uid j).toNat) from rfl)
      obtain ⟨⟨n, is⟩, hr⟩ : ∃ r, atN N p = r := ⟨_, rfl⟩
      rw [hr] at HA
      simp only [hr] at HG0 HG1
      clear hr
      have hpl : W.heap.size + 1 < wr.heap.size := (Array.getElem?_eq_some_iff.1 HPr.out).1
      obtain rfl | ⟨j, rfl⟩ : h = 0 ∨ ∃ j, h = j + 1 := by
        cases h with
        | zero => exact .inl rfl
        | succ j => exact .inr ⟨j, rfl⟩
      · rw [show ((0 : Nat) : Int) - 1 = -1 from rfl]
        go_wp2_with (first
          | (go_at_call 48; have hx := HA.out; (with_reducible refine hx.mono ?_); clear hx; rintro e w2 ⟨rfl, HB2⟩; have d18 := nd_cell w2 n 18 _ rfl; have d19 := nd_cell w2 n 19 _ rfl; have d20 := nd_cell w2 n 20 _ rfl; have hp2 := (Below.heap_alloc w2 (.cells (nArr n) 60) (W.heap.size + 1) (by have := HB2.out.size; omega)).trans ((HB2.out.block (W.heap.size + 1) hpl).trans HPr.out); have HP2 := Hd.mk hp2; obtain ⟨p0, p1, p2, p3, p4, p5⟩ := rec_cells hp2; clear hp2)
          | ((with_reducible refine gate_store (t := 60) rfl ?_); refine wp_st60 rfl _ _ rfl _ (nArr n) rfl rfl rfl (narr_size _) (narr_one _) ?_))
        refine bodyPost_ret (res_rec rfl _ _ (W.heap.size + 1) n.rc is rfl rfl (rec_set (r' := n.rc) HP2.out)) rfl ?_
        rw [← HR.out, HG0.out]
        exact ⟨rfl, ⟨below_rec (below_alloc (HWr.out.trans (HB2.out.mono HWr.out.size)) _) (Nat.le_succ _) _ _ _⟩⟩
      · rw [show ((j + 1 : Nat) : Int) - 1 = (j : Int) by omega]
        replace HG1 := Hd.mk (HG1.out j)
        have hj0 : (0 : Int) ≤ (j : Int) := by omega
        cases is with
        | false =>
          have HG2 := Hd.mk (HR.out.symm.trans (HG1.out.trans (if_pos rfl)))
          go_wp2_with (first
            | (go_at_call 48; have hx := HA.out; (with_reducible refine hx.mono ?_); clear hx; rintro e w2 ⟨rfl, HB2⟩; have hp2 := (Below.heap_alloc w2 (.cells (nArr n) 60) (W.heap.size + 1) (by have := HB2.out.size; omega)).trans ((HB2.out.block (W.heap.size + 1) hpl).trans HPr.out); have HP2 := Hd.mk hp2; obtain ⟨p0, p1, p2, p3, p4, p5⟩ := rec_cells hp2; clear hp2)
            | ((with_reducible refine gate_store (t := 60) rfl ?_); refine wp_st60 rfl _ _ rfl _ (nArr n) rfl rfl rfl (narr_size _) (narr_one _) ?_))
          all_goals (try simp only [Exit.noGoto])
          all_goals refine bodyPost_ret (res_rec rfl _ _ (W.heap.size + 1) rc0 false rfl rfl (rec_set (r' := rc0) HP2.out)) rfl ?_
          all_goals rw [HG2.out]
          all_goals exact ⟨rfl, ⟨below_rec (below_alloc (HWr.out.trans (HB2.out.mono HWr.out.size)) _) (Nat.le_succ _) _ _ _⟩⟩
        | true =>
          have HG2 := Hd.mk (HG1.out.symm.trans HR.out)
          have HD := Hd.mk (fun X => HDg.out X j (by omega))
          have hd16 : (dig uid j).toNat < 16 := by have := dig_range uid j; omega
          obtain ⟨d, hd⟩ : ∃ d, (dig uid j).toNat = d := ⟨_, rfl⟩
          rw [hd] at HD HG2 hd16
          have hb0 : (0 : Int) ≤ (d : Int) := by omega
          have hb1 : (d : Int) < 16 := by omega
          clear hd HG1
          go_wp2_with (first
            | (go_at_call 48; have hx := HA.out; (with_reducible refine hx.mono ?_); clear hx; rintro e w2 ⟨rfl, HB2⟩; have dk := nd_cell w2 n (2 + d) _ (kid_cell n d hd16))
            | ((with_reducible refine gate_store (t := 60) rfl ?_); refine wp_st60 rfl _ _ rfl _ (nArr n) rfl rfl rfl (narr_size _) (narr_one _) ?_)
            | (go_at_call 28; have hx := HD.out (w2.alloc (.cells (nArr n) 60)); (with_reducible refine hx.mono ?_); clear hx; rintro e w3 ⟨rfl, ⟨nd, rfl⟩⟩))
          go_roundw
          case rel => exact ⟨j, n.kid d, by omega, rfl, by go_num, ⟨HG2.out⟩, ⟨pw_below_drewN (below_alloc (HB.out.trans (HB2.out.mono HB.out.size)) _) nd⟩⟩
          case measure => first | (simp [intOf]; done) | (simp [intOf]; omega)
  · have qn : decide (needN uid ≤ hgt) = false := decide_eq_false hn
    simp only [if_neg hn]
    rw [qn] at HHas
    clear hn
    go_enter Try.func9, Try.ntmps9
    go_wp2_with (first
      | (go_at_call 27; have hx := HHas.out ((W.alloc (.cells #[.int .i64 root, .int .i64 (hgt : Int)] 27)).alloc (.cells #[.int .u32 0, .int .u8 0, .string ⟨#[]⟩] 33)); (with_reducible refine hx.mono ?_); clear hx; rintro e w1 ⟨rfl, hB⟩
         have hp1 := (hB.block (W.heap.size + 1) (by simp)).trans (show ((W.alloc (.cells #[.int .i64 root, .int .i64 (hgt : Int)] 27)).alloc (.cells #[.int .u32 0, .int .u8 0, .string ⟨#[]⟩] 33)).heap[W.heap.size + 1]? = some (Obj.cells (recA rc0) 33 (0, 0)) from tr_new_at _ _ (by simp))
         have HP2 := Hd.mk hp1; obtain ⟨p0, p1, p2, p3, p4, p5⟩ := rec_cells hp1; have HB := Hd.mk hB; clear hp1 hB))
    refine bodyPost_ret (res_rec rfl _ _ (W.heap.size + 1) rc0 false rfl rfl (rec_set (r' := rc0) HP2.out)) rfl ?_
    have HW1 := Hd.mk ((below_alloc (below_alloc (Below.refl W.heap.size W) _) _).trans (HB.out.mono (by simp; omega)))
    exact ⟨rfl, ⟨below_rec HW1.out (Nat.le_succ _) _ _ _⟩⟩
end Go.Proofs.Ytkcnakaneiocjaa.PTr
