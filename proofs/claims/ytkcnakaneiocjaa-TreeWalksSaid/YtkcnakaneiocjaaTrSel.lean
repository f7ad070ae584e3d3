/- Trees: Select, walked. No condition but those that each contract bears. -/
import Derived.Test.YtkcnakaneiocjaaTrRank
set_option linter.unusedVariables false
set_option linter.unusedSimpArgs false
namespace Go.Proofs.Ytkcnakaneiocjaa.PTr
open Go.RowKit Go.Proofs.YtkcnakaneiocjaaW.PrintWords Go.Proofs.YtkcnakaneiocjaaW.PrintLast Go.Proofs.YtkcnakaneiocjaaW.PrintMore
attribute [local go_sem] method_201
def kArr (n : Nd) : Array Value := #[.int .i64 (n.kid 0), .int .i64 (n.kid 1), .int .i64 (n.kid 2), .int .i64 (n.kid 3), .int .i64 (n.kid 4), .int .i64 (n.kid 5), .int .i64 (n.kid 6), .int .i64 (n.kid 7), .int .i64 (n.kid 8), .int .i64 (n.kid 9), .int .i64 (n.kid 10), .int .i64 (n.kid 11), .int .i64 (n.kid 12), .int .i64 (n.kid 13), .int .i64 (n.kid 14), .int .i64 (n.kid 15)]
theorem karr_get (n : Nd) (d : Nat) (hd : d < 16) : (kArr n)[d]? = some (.int .i64 (n.kid d)) := by
  have : d = 0 ∨ d = 1 ∨ d = 2 ∨ d = 3 ∨ d = 4 ∨ d = 5 ∨ d = 6 ∨ d = 7 ∨ d = 8 ∨ d = 9 ∨ d = 10 ∨ d = 11 ∨ d = 12 ∨ d = 13 ∨ d = 14 ∨ d = 15 := by omega
  rcases this with rfl | rfl | rfl | rfl | rfl | rfl | rfl | rfl | rfl | rfl | rfl | rfl | rfl | rfl | rfl | rfl <;> rfl
theorem idx55 (n : Nd) (d : Nat) (hd : d < 16) (X : World) : (Instr.index 55 (.agg (kArr n)) (.int .i64 (d : Int))).run Try.prog X = .ok (.int .i64 (n.kid d)) X := by
  have : d = 0 ∨ d = 1 ∨ d = 2 ∨ d = 3 ∨ d = 4 ∨ d = 5 ∨ d = 6 ∨ d = 7 ∨ d = 8 ∨ d = 9 ∨ d = 10 ∨ d = 11 ∨ d = 12 ∨ d = 13 ∨ d = 14 ∨ d = 15 := by omega
  rcases this with rfl | rfl | rfl | rfl | rfl | rfl | rfl | rfl | rfl | rfl | rfl | rfl | rfl | rfl | rfl | rfl
  all_goals rfl
theorem info55 : (Try.prog.info? 55).map (·.size) = some 16 := by kernel_rfl
theorem ld55 (X : World) (g o : Nat) (cs : Array Value) (hc : cs.size = 16) (h : ∀ j u, cs[j]? = some u → X.cell? ⟨g, o + j, none⟩ = some u) : (loadVar 55 ⟨g, o, none⟩).run Try.prog X = .ok (.agg cs) X := by
  have hl : (loadCells ⟨g, o, none⟩ cs.toList.length).run Try.prog X = .ok cs.toList.toArray X :=
    run_loadCells_list (P := Try.prog) X ⟨g, o, none⟩ cs.toList (fun j v hv => by
      have hadd : (⟨g, o, none⟩ : Addr).add j = ⟨g, o + j, none⟩ := by unfold Addr.add; split <;> simp_all
      rw [hadd]
      exact h j v (by simpa using hv))
  have hi := info55
  cases hq : Try.prog.info? 55 with
  | none => rw [hq] at hi; cases hi
  | some i =>
    have hs : i.size = cs.size := by rw [hq] at hi; simp at hi; omega
    have hagg : (isAgg 55).run Try.prog X = .ok true X := by
      unfold isAgg
      rw [Sem.run_bind, run_underlying Try.underlying55 X]
      rfl
    simp only [Array.length_toList, Array.toArray_toList] at hl
    simp [loadVar, Sem.run_bind, hagg, sizeOf, typeInfo, hq, hs, hl]
theorem wp_ld55 {ops : Array Oper} {rest : List Oper} {o : Oper} {a : Act} {w : World} {Q : Exit → Act → World → Prop} (hgd : o.guard = none) (x : Operand) (ho : o.op = .load 55 x)
    (g f : Nat) (cs : Array Value) (hx : a.eval x = .pointer (some ⟨g, f, none⟩)) (hc : cs.size = 16) (hcell : ∀ j u, cs[j]? = some u → w.cell? ⟨g, f + j, none⟩ = some u)
    (h : wpList Try.prog ops Q rest (a.put o.dst (.agg cs)) w) : wpList Try.prog ops Q (o :: rest) a w :=
  wpList_plain hgd fun _ hK => by
    have hr := ld55 w g f cs hc hcell
    unfold Oper.wp execOp
    simp only [ho, hx, Instr.loadAt, Instr.sureAddr, Sem.run_bind, Sem.run_pure, Result.andThen_ok, hr]
    exact hK _ _ h
theorem touch_row (w : World) (g : Nat) (cs : Array Value) : Touch (· = g) w (w.setRow g cs) :=
  ⟨rfl, rfl, rfl, by simp, fun k _ hk => setRow_other w g k cs hk⟩
/-- A variable of nodes is written whole. -/
theorem wp_put60 {ops : Array Oper} {rest : List Oper} {o : Oper} {a : Act} {w : World} {Q : Exit → Act → World → Prop} (hgd : o.guard = none) (x y : Operand) (ho : o.op = .store 60 x y)
    (g : Nat) (old cs : Array Value) (hg : w.heap[g]? = some (.cells old 60 (0, 0))) (hx : a.eval x = .pointer (some ⟨g, 0, none⟩)) (hy : a.eval y = .agg cs) (hZ : old.size = 26) (hc : cs.size = 26) (h1 : cs.all (·.oneCell') = true)
    (h : ∀ w', w'.heap[g]? = some (.cells cs 60 (0, 0)) → Touch (· = g) w w' → wpList Try.prog ops Q rest (a.put o.dst undef) w') : wpList Try.prog ops Q (o :: rest) a w :=
  wpList_store_row hgd 60 x y ho g cs hx hy 60 old hg (by rw [hc]; exact info60) (by omega) h1 (h _ (setRow_heap w g old cs 60 _ hg) (touch_row w g cs))
def scanN (N : List Nd) (n : Nd) : Nat → Nat → Int → Nd × Int
  | 0, _, k => (n, k)
  | r + 1, d, k => if k < belowN N (n.kid d) then ((atN N (n.kid d)).1, k) else scanN N n r (d + 1) (k - belowN N (n.kid d))
def selN (N : List Nd) : Nat → Nd → Int → Nd
  | 0, n, _ => n
  | h + 1, n, k => selN N h (scanN N n 16 0 k).1 (scanN N n 16 0 k).2
theorem nd_cells {w : World} {g : Nat} {n : Nd} (hg : w.heap[g]? = some (.cells (nArr n) 60 (0, 0))) (j : Nat) (u : Value) (h : (ncells n)[j]? = some u) : w.cell? ⟨g, j, none⟩ = some u := by
  rw [World.cell?, hg]
  simpa [nArr] using h
theorem kcells {w : World} {g : Nat} {n : Nd} (hg : w.heap[g]? = some (.cells (nArr n) 60 (0, 0))) : ∀ j u, (kArr n)[j]? = some u → w.cell? ⟨g, 2 + j, none⟩ = some u := fun j u hu => by
  have hj : j < 16 := (Array.getElem?_eq_some_iff.1 hu).1
  rw [karr_get n j hj] at hu
  injection hu with hu
  rw [← hu]
  exact nd_cells hg (2 + j) _ (kid_cell n j hj)
set_option maxRecDepth 100000 in
set_option maxHeartbeats 1000000 in
theorem select_any {A : Option Addr} {N : List Nd} {W : World} (h : ShAt A N W) (hN : N.length ≤ 1000000) (hbl : ∀ s, 0 ≤ belowN N s ∧ belowN N s ≤ 1000000) (cap : Nat) (root : Int) (hgt : Nat) (hh : hgt ≤ 8) (hcr : (atN N root).1.cnt ≤ 1000000) (k : Int) :
    Calls Try.prog 8 #[.agg #[.int .i64 root, .int .i64 (hgt : Int)], .iface 25 (.slice A N.length cap), .int .i64 k] W fun e w' =>
      e = .returned (.tuple #[.agg (recA (if 0 ≤ k ∧ k < (atN N root).1.cnt then (selN N hgt (atN N root).1 k).rc else rc0)), .bool (decide (0 ≤ k ∧ k < (atN N root).1.cnt))]) ∧ Hd (Below W.heap.size W w') := by
  have HAt : Hd (∀ X slot, Below W.heap.size W X → Calls Try.prog 48 #[.slice A N.length cap, .int .i64 slot] X fun e w' => e = .returned (.tuple #[.agg (nArr (atN N slot).1), .bool (atN N slot).2]) ∧ Hd (Below X.heap.size X w')) := ⟨fun X slot hX => at_any (h.on hX) hN cap slot⟩
  have HBl : Hd (∀ X slot, Below W.heap.size W X → Calls Try.prog 26 #[.iface 25 (.slice A N.length cap), .int .i64 slot] X fun e w' => e = .returned (.int .i64 (belowN N slot)) ∧ Hd (Below X.heap.size X w')) := ⟨fun X slot hX => below_any (h.on hX) hN cap slot⟩
  have HLn : Hd (∀ X, Below W.heap.size W X → Calls Try.prog 15 #[.agg #[.int .i64 root, .int .i64 (hgt : Int)], .iface 25 (.slice A N.length cap)] X fun e w' => e = .returned (.int .i64 (atN N root).1.cnt) ∧ Hd (Below X.heap.size X w')) := ⟨fun X hX => len_any (h.on hX) hN cap root hgt⟩
  have HBr := Hd.mk hbl
  clear h hbl
  obtain ⟨n0, hn0⟩ : ∃ n0, (atN N root).1 = n0 := ⟨_, rfl⟩
  rw [hn0] at HLn hcr
  simp only [hn0]
  have HN0 := Hd.mk hn0
  clear hn0
  have HW0 : Hd (Below W.heap.size W ((W.alloc (.cells #[.int .i64 root, .int .i64 (hgt : Int)] 27)).alloc (.cells #[.int .u32 0, .int .u8 0, .string ⟨#[]⟩] 33))) := ⟨below_alloc (below_alloc (Below.refl _ _) _) _⟩
  have HP0 : Hd (((W.alloc (.cells #[.int .i64 root, .int .i64 (hgt : Int)] 27)).alloc (.cells #[.int .u32 0, .int .u8 0, .string ⟨#[]⟩] 33)).heap[W.heap.size + 1]? = some (Obj.cells (recA rc0) 33 (0, 0))) := ⟨tr_new_at _ _ (by simp)⟩
  by_cases hk0 : k < 0
  · have q0 : decide (k < 0) = true := decide_eq_true hk0
    have qf : decide (0 ≤ k ∧ k < n0.cnt) = false := decide_eq_false (by omega)
    rw [qf, if_neg (by omega)]
    clear hk0
    obtain ⟨p0, p1, p2, p3, p4, p5⟩ := rec_cells HP0.out
    go_enter Try.func8, Try.ntmps8
    go_wp2
    go_step3
    go_wp2
    simp only [Exit.noGoto]
    refine bodyPost_ret (res_rec rfl _ _ (W.heap.size + 1) rc0 false rfl rfl HP0.out) rfl ?_
    exact ⟨rfl, HW0⟩
  · have q0 : decide (k < 0) = false := decide_eq_false hk0
    by_cases hk1 : n0.cnt ≤ k
    · have q1 : decide (n0.cnt ≤ k) = true := decide_eq_true hk1
      have qf : decide (0 ≤ k ∧ k < n0.cnt) = false := decide_eq_false (by omega)
      rw [qf, if_neg (by omega)]
      clear hk0 hk1
      go_enter Try.func8, Try.ntmps8
      go_wp2
      go_step3
      go_wp2_with (first
        | (go_at_call 15; have hx := HLn.out ((W.alloc (.cells #[.int .i64 root, .int .i64 (hgt : Int)] 27)).alloc (.cells #[.int .u32 0, .int .u8 0, .string ⟨#[]⟩] 33)) HW0.out; (with_reducible refine hx.mono ?_); clear hx; rintro e w1 ⟨rfl, HB1⟩; have hp1 := (HB1.out.block (W.heap.size + 1) (by simp)).trans HP0.out; have HP1 := Hd.mk hp1; obtain ⟨p0, p1, p2, p3, p4, p5⟩ := rec_cells hp1; clear hp1; have e0 : w1.cell? ⟨W.heap.size, 0, none⟩ = some (.int .i64 root) := (HB1.out.cell (p := ⟨W.heap.size, 0, none⟩) (by simp; omega)).trans (by simp); have e1 : w1.cell? ⟨W.heap.size, 1, none⟩ = some (.int .i64 (hgt : Int)) := (HB1.out.cell (p := ⟨W.heap.size, 1, none⟩) (by simp; omega)).trans (by simp)))
      simp only [Exit.noGoto]
      refine bodyPost_ret (res_rec rfl _ _ (W.heap.size + 1) rc0 false rfl rfl (rec_set (r' := rc0) HP1.out)) rfl ?_
      exact ⟨rfl, ⟨below_rec (HW0.out.trans (HB1.out.mono (by simp; omega))) (Nat.le_succ _) _ _ _⟩⟩
    · have q1 : decide (n0.cnt ≤ k) = false := decide_eq_false hk1
      have qf : decide (0 ≤ k ∧ k < n0.cnt) = true := decide_eq_true (by omega)
      rw [qf, if_pos (by omega)]
      have HKr : Hd (0 ≤ k ∧ k < n0.cnt) := ⟨by omega⟩
      clear hk0 hk1
      obtain ⟨R, hR⟩ : ∃ R, selN N hgt n0 k = R := ⟨_, rfl⟩
      have HR := Hd.mk hR
      simp only [hR]
      clear hR
      go_enter Try.func8, Try.ntmps8
      go_wp2
      go_step3
      go_wp2_with (first
        | (go_at_call 15; have hx := HLn.out ((W.alloc (.cells #[.int .i64 root, .int .i64 (hgt : Int)] 27)).alloc (.cells #[.int .u32 0, .int .u8 0, .string ⟨#[]⟩] 33)) HW0.out; (with_reducible refine hx.mono ?_); clear hx; rintro e w1 ⟨rfl, HB1⟩; have hp1 := (HB1.out.block (W.heap.size + 1) (by simp)).trans HP0.out; have HP1 := Hd.mk hp1; obtain ⟨p0, p1, p2, p3, p4, p5⟩ := rec_cells hp1; clear hp1; have e0 : w1.cell? ⟨W.heap.size, 0, none⟩ = some (.int .i64 root) := (HB1.out.cell (p := ⟨W.heap.size, 0, none⟩) (by simp; omega)).trans (by simp); have e1 : w1.cell? ⟨W.heap.size, 1, none⟩ = some (.int .i64 (hgt : Int)) := (HB1.out.cell (p := ⟨W.heap.size, 1, none⟩) (by simp; omega)).trans (by simp); have HW1 := Hd.mk (HW0.out.trans (HB1.out.mono (by simp; omega))); have HA0 := Hd.mk (HAt.out w1 root HW1.out))
        | (go_at_call 48; have hx := HA0.out; rw [HN0.out] at hx; (with_reducible refine hx.mono ?_); clear hx; rintro e w2 ⟨rfl, HB2⟩)
        | ((with_reducible refine gate_store (t := 60) rfl ?_); refine wp_st60 rfl _ _ rfl _ (nArr n0) rfl rfl rfl (narr_size _) (narr_one _) ?_))
      have HN3 : Hd ((w2.alloc (.cells (nArr n0) 60)).heap[w2.heap.size]? = some (.cells (nArr n0) 60 (0, 0))) := ⟨heap_alloc_new w2 _⟩
      have HW3 : Hd (Below w1.heap.size w1 (w2.alloc (.cells (nArr n0) 60)) ∧ w1.heap.size ≤ w2.heap.size) := ⟨below_alloc HB2.out _, HB2.out.size⟩
      obtain ⟨bn, hbn⟩ : ∃ bn, w2.heap.size = bn := ⟨_, rfl⟩
      obtain ⟨w3, hw3⟩ : ∃ w3, w2.alloc (.cells (nArr n0) 60) = w3 := ⟨_, rfl⟩
      obtain ⟨is0, his0⟩ : ∃ b, (atN N root).2 = b := ⟨_, rfl⟩
      rw [hw3, hbn] at HN3 HW3
      simp only [hw3, hbn, his0]
      have hP1 : w1.heap[W.heap.size + 1]? = some (Obj.cells (recA rc0) 33 (0, 0)) := HP1.out
      have hpl : W.heap.size + 1 < w1.heap.size := (Array.getElem?_eq_some_iff.1 hP1).1
      have e1 : w3.cell? ⟨W.heap.size, 1, none⟩ = some (.int .i64 (hgt : Int)) := (HW3.out.1.cell (p := ⟨W.heap.size, 1, none⟩) (by show W.heap.size < _; omega)).trans e1
      have HP3 := Hd.mk ((HW3.out.1.block (W.heap.size + 1) hpl).trans hP1)
      have HWW := Hd.mk (HW1.out.trans (HW3.out.1.mono HW1.out.size))
      have hbnW : W.heap.size + 1 < bn := by have := HW3.out.2; omega
      clear hbn hw3 his0 e0 hP1 HN0 HA0 HB2 p0 p1 p2 p3 p4 p5
      go_step3
      go_wp2
      go_loopw [2, 32] (fun a r wr => ∃ (i : Nat) (nd : Nd) (q : Int), i ≤ hgt ∧ a = .int .i64 q ∧ r = .int .i64 (i : Int) ∧ Hd (selN N (hgt - i) nd q = R) ∧ Hd (0 ≤ q ∧ q ≤ k) ∧ Hd (wr.heap[bn]? = some (.cells (nArr nd) 60 (0, 0))) ∧ Hd (Touch (· = bn) w3 wr)) (fun _ r _ => hgt - (intOf r).toNat)
      case atStart => exact ⟨0, n0, k, Nat.zero_le _, rfl, rfl, HR, ⟨HKr.out.1, Int.le_refl _⟩, HN3, ⟨Touch.refl _ _⟩⟩
      case round =>
        clear HR
        obtain ⟨i, nd, q, hi, rfl, rfl, HR, HQ, HNd, HT⟩ := hrel
        have HWr : Hd (Below W.heap.size W wr) := ⟨HWW.out.trans (HT.out.below HWW.out.size (fun g hg e => by omega))⟩
        have hbl := (Array.getElem?_eq_some_iff.1 HNd.out).1
        by_cases hlt : i < hgt
        · have hi0 : (0 : Int) ≤ (i : Int) := by omega
          have hi1 : (i : Int) < (hgt : Int) := by omega
          have HS := Hd.mk (show selN N (hgt - i) nd q = selN N (hgt - (i + 1)) (scanN N nd 16 0 q).1 (scanN N nd 16 0 q).2 by
            rw [show hgt - i = (hgt - (i + 1)) + 1 by omega]; rfl)
          obtain ⟨S, hS⟩ : ∃ S, scanN N nd 16 0 q = S := ⟨_, rfl⟩
          have HSc := Hd.mk hS
          rw [hS] at HS
          clear hS
          go_wp2_with ((with_reducible refine gate_load (t := 55) rfl ?_); refine wp_ld55 rfl _ rfl bn 2 (kArr nd) rfl rfl (kcells HNd.out) ?_)
          obtain ⟨wo, hwo⟩ : ∃ wo, wr = wo := ⟨_, rfl⟩
          have HWo := Hd.mk hwo
          rw [hwo] at HNd HT HWr hbl
          go_loopw [2, 36] (fun a r wx => ∃ (d : Nat) (p : Int), d ≤ 16 ∧ a = .int .i64 p ∧ r = .int .i64 (d : Int) ∧ Hd (scanN N nd (16 - d) d p = S) ∧ Hd (0 ≤ p ∧ p ≤ k) ∧ Hd (Below wo.heap.size wo wx)) (fun _ r _ => 16 - (intOf r).toNat)
          case atStart => exact ⟨0, q, Nat.zero_le _, rfl, rfl, HSc, HQ, ⟨by rw [hwo]; exact Below.refl _ _⟩⟩
          case round =>
            clear HSc hwo HWo
            obtain ⟨d, p, hd, rfl, rfl, HP, HPr, HBx⟩ := hrel
            have HWx := Hd.mk (HWr.out.trans (HBx.out.mono HWr.out.size))
            by_cases hd16 : d < 16
            · have hd0 : (0 : Int) ≤ (d : Int) := by omega
              have hd1 : (d : Int) < 16 := by omega
              have kg := fun X => idx55 nd d hd16 X
              have HBk := Hd.mk (HBl.out wr (nd.kid d) HWx.out)
              have HSt := Hd.mk (show scanN N nd (16 - d) d p = if p < belowN N (nd.kid d) then ((atN N (nd.kid d)).1, p) else scanN N nd (16 - (d + 1)) (d + 1) (p - belowN N (nd.kid d)) by
                rw [show 16 - d = (16 - (d + 1)) + 1 by omega]; rfl)
              have hbr := HBr.out (nd.kid d)
              have hpr := HPr.out
              obtain ⟨bl, hbe⟩ : ∃ bl, belowN N (nd.kid d) = bl := ⟨_, rfl⟩
              rw [hbe] at HBk HSt hbr
              clear hbe
              by_cases hlb : p < bl
              · have ql : decide (p < bl) = true := decide_eq_true hlb
                have HS2 := Hd.mk (HP.out.symm.trans (HSt.out.trans (if_pos hlb)))
                obtain ⟨n2, hn2⟩ : ∃ n2, (atN N (nd.kid d)).1 = n2 := ⟨_, rfl⟩
                rw [hn2] at HS2
                have HN2 := Hd.mk hn2
                clear hn2
                go_wp2_with (first
                  | (go_at_call 26; have hx := HBk.out; (with_reducible refine hx.mono ?_); clear hx; rintro e w4 ⟨rfl, HB4⟩; have HA4 := Hd.mk (HAt.out w4 (nd.kid d) (HWx.out.trans (HB4.out.mono HWx.out.size))))
                  | (go_at_call 48; have hx := HA4.out; rw [HN2.out] at hx; (with_reducible refine hx.mono ?_); clear hx; rintro e w5 ⟨rfl, HB5⟩; have HBo := Hd.mk (HBx.out.trans ((HB4.out.trans (HB5.out.mono HB4.out.size)).mono HBx.out.size)); have HN5 := Hd.mk ((HBo.out.block bn hbl).trans HNd.out))
                  | ((with_reducible refine gate_store (t := 60) rfl ?_); refine wp_put60 rfl _ _ rfl bn (nArr nd) (nArr n2) HN5.out rfl rfl (narr_size _) (narr_size _) (narr_one _) ?_; intro w6 hn6 ht6; have HN6 := Hd.mk hn6; have HT6 := Hd.mk ht6; clear hn6 ht6))
                go_roundw
                case rel =>
                  refine ⟨i + 1, n2, p, by omega, rfl, by go_num, ⟨?_⟩, HPr, HN6, ⟨(HT.out.trans (Touch.of_below HBo.out _)).trans HT6.out⟩⟩
                  rw [← HR.out, HS.out, HS2.out]
                case measure => first | (simp [intOf]; done) | (simp [intOf]; omega)
              · have ql : decide (p < bl) = false := decide_eq_false hlb
                have HS2 := Hd.mk (HSt.out.symm.trans HP.out |> fun e => (if_neg hlb).symm.trans e)
                have HLb : Hd (0 ≤ p - bl ∧ p - bl ≤ k) := ⟨by omega, by omega⟩
                have hkr := HKr.out
                have hwp : IntKind.i64.wrap (p - bl) = p - bl := by rw [IntKind.wrap_i64]; omega
                clear hkr
                go_wp2_with (first
                  | (go_at_call 26; have hx := HBk.out; (with_reducible refine hx.mono ?_); clear hx; rintro e w4 ⟨rfl, HB4⟩))
                go_roundw
                case rel => exact ⟨d + 1, p - bl, by omega, by first | rfl | go_num, by go_num, HS2, HLb, ⟨HBx.out.trans (HB4.out.mono HBx.out.size)⟩⟩
                case measure => first | (simp [intOf]; done) | (simp [intOf]; omega)
            · obtain rfl : d = 16 := by omega
              have HS2 := Hd.mk (show S = (nd, p) from HP.out.symm)
              go_wp2
              go_roundw
              case rel =>
                refine ⟨i + 1, nd, p, by omega, rfl, by go_num, ⟨?_⟩, HPr, ⟨(HBx.out.block bn hbl).trans HNd.out⟩, ⟨HT.out.trans (Touch.of_below HBx.out _)⟩⟩
                rw [← HR.out, HS.out, HS2.out]
              case measure => first | (simp [intOf]; done) | (simp [intOf]; omega)
        · obtain rfl : i = hgt := by omega
          have hnd := HNd.out
          have d18 := nd_cells hnd 18 _ rfl
          have d19 := nd_cells hnd 19 _ rfl
          have d20 := nd_cells hnd 20 _ rfl
          have HPx := Hd.mk ((HT.out.block (W.heap.size + 1) (Array.getElem?_eq_some_iff.1 HP3.out).1 (by omega)).trans HP3.out)
          obtain ⟨p0, p1, p2, p3, p4, p5⟩ := rec_cells HPx.out
          obtain rfl : nd = R := by have := HR.out; rwa [Nat.sub_self] at this
          clear hnd
          go_wp2
          (try simp only [Exit.noGoto])
          refine bodyPost_ret (res_rec rfl _ _ (W.heap.size + 1) nd.rc true rfl rfl (rec_set (r' := nd.rc) HPx.out)) rfl ?_
          exact ⟨rfl, ⟨below_rec HWr.out (Nat.le_succ _) _ _ _⟩⟩
end Go.Proofs.Ytkcnakaneiocjaa.PTr
