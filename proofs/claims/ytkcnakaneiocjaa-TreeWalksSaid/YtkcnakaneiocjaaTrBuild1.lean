/- Trees: the document's Build at a branch, walked. No condition but those that each contract bears. -/
import Derived.Test.YtkcnakaneiocjaaTrBuild0
set_option linter.unusedVariables false
set_option linter.unusedSimpArgs false
namespace Go.Proofs.Ytkcnakaneiocjaa.PTr
open Go.RowKit Go.Proofs.YtkcnakaneiocjaaW.PrintWords Go.Proofs.YtkcnakaneiocjaaW.PrintLast Go.Proofs.YtkcnakaneiocjaaW.PrintMore
theorem upd_set (n : Rn) (d : Nat) (hd : d < 16) (z : Int) : (rArr n).setIfInBounds (2 + d) (.int .i64 z) = rArr ⟨n.leaf, n.cnt, upd n.kid d z, n.rc⟩ := by
  have : d = 0 ∨ d = 1 ∨ d = 2 ∨ d = 3 ∨ d = 4 ∨ d = 5 ∨ d = 6 ∨ d = 7 ∨ d = 8 ∨ d = 9 ∨ d = 10 ∨ d = 11 ∨ d = 12 ∨ d = 13 ∨ d = 14 ∨ d = 15 := by omega
  rcases this with rfl | rfl | rfl | rfl | rfl | rfl | rfl | rfl | rfl | rfl | rfl | rfl | rfl | rfl | rfl | rfl <;> rfl
theorem rkid_cell (n : Rn) (d : Nat) (hd : d < 16) : (rArr n)[2 + d]? = some (.int .i64 (n.kid d)) := by
  have : d = 0 ∨ d = 1 ∨ d = 2 ∨ d = 3 ∨ d = 4 ∨ d = 5 ∨ d = 6 ∨ d = 7 ∨ d = 8 ∨ d = 9 ∨ d = 10 ∨ d = 11 ∨ d = 12 ∨ d = 13 ∨ d = 14 ∨ d = 15 := by omega
  rcases this with rfl | rfl | rfl | rfl | rfl | rfl | rfl | rfl | rfl | rfl | rfl | rfl | rfl | rfl | rfl | rfl <;> rfl
theorem kid_set {X : World} {bn : Nat} {n : Rn} (h : X.heap[bn]? = some (.cells (rArr n) 71 (0, 0))) (d : Nat) (hd : d < 16) (z : Int) : (X.setCell ⟨bn, 2 + d, none⟩ (.int .i64 z)).heap[bn]? = some (.cells (rArr ⟨n.leaf, n.cnt, upd n.kid d z, n.rc⟩) 71 (0, 0)) := by
  rw [blk_set h (2 + d) (.int .i64 z), upd_set n d hd z]
theorem kid_facts {X : World} {bn : Nat} {n : Rn} (h : X.heap[bn]? = some (.cells (rArr n) 71 (0, 0))) (d : Nat) (hd : d < 16) : X.cell? ⟨bn, 2 + d, none⟩ = some (.int .i64 (n.kid d)) ∧ X.frozen? ⟨bn, 2 + d, none⟩ = false :=
  ⟨by rw [World.cell?, h]; exact rkid_cell n d hd, by simp [World.frozen?, h]⟩
theorem bs71 (n : Rn) (w : World) : (Instr.buildSlice 67 1 #[(0, .agg (rArr n))]).run Try.prog w = .ok (.slice (some ⟨w.heap.size, 0, none⟩) 1 1) (w.alloc (.cells (rArr n) 71)) := by kernel_rfl
theorem gate_bs {P : Program} {ops : Array Oper} {Q : Exit → Act → World → Prop} {o : Oper} {rest : List Oper} {a : Act} {w : World} {t : TypeId} {k : Nat} {ps : Array (Nat × Operand)} (_ : o.op = .buildSlice t k ps) (h : wpList P ops Q (o :: rest) a w) : wpList P ops Q (o :: rest) a w := h
theorem wp_bs71 {ops : Array Oper} {rest : List Oper} {o : Oper} {a : Act} {w : World} {Q : Exit → Act → World → Prop} (hgd : o.guard = none) (x : Operand) (ho : o.op = .buildSlice 67 1 #[(0, x)]) (n : Rn) (hx : a.eval x = .agg (rArr n))
    (h : wpList Try.prog ops Q rest (a.put o.dst (.slice (some ⟨w.heap.size, 0, none⟩) 1 1)) (w.alloc (.cells (rArr n) 71))) : wpList Try.prog ops Q (o :: rest) a w :=
  wpList_plain hgd fun _ hK => by
    have hr := bs71 n w
    unfold Oper.wp execOp
    simp only [ho, hx, List.map_toArray, List.map_cons, List.map_nil, Sem.run_bind, Sem.run_pure, Result.andThen_ok, hr]
    exact hK _ _ h
def recc (l : List Rec) : List Value := l.flatMap fun r => [.int .u32 r.f0, .int .u8 r.f1, .string r.f2]
theorem recc_append (l m : List Rec) : recc (l ++ m) = recc l ++ recc m := by unfold recc; rw [List.flatMap_append]
theorem recc_get : ∀ (l : List Rec) (i : Nat) (hi : i < l.length), (recc l)[i * 3]? = some (.int .u32 l[i].f0) ∧ (recc l)[i * 3 + 1]? = some (.int .u8 l[i].f1) ∧ (recc l)[i * 3 + 2]? = some (.string l[i].f2)
  | r :: l, 0, hi => ⟨rfl, rfl, rfl⟩
  | r :: l, i + 1, hi => by
    have := recc_get l i (by simpa using hi)
    show (Value.int .u32 r.f0 :: Value.int .u8 r.f1 :: Value.string r.f2 :: recc l)[(i + 1) * 3]? = _ ∧ (Value.int .u32 r.f0 :: Value.int .u8 r.f1 :: Value.string r.f2 :: recc l)[(i + 1) * 3 + 1]? = _ ∧ (Value.int .u32 r.f0 :: Value.int .u8 r.f1 :: Value.string r.f2 :: recc l)[(i + 1) * 3 + 2]? = _
    rw [show (i + 1) * 3 = i * 3 + 1 + 1 + 1 by omega]
    simp only [show i * 3 + 1 + 1 + 1 + 1 = i * 3 + 1 + 1 + 1 + 1 from rfl, show i * 3 + 1 + 1 + 1 + 2 = i * 3 + 2 + 1 + 1 + 1 by omega, List.getElem?_cons_succ, List.getElem_cons_succ]
    exact this
/-- A row of one's own may be read. -/
theorem own_rd {W : World} {base : Nat} {p : Value} {l : List Rec} (h : W.ownsRow base 41 3 p l.length (recc l)) (hn : 0 < l.length) : ∃ g c, p = .slice (some ⟨g, 0, none⟩) l.length c ∧ RdAt (some ⟨g, 0, none⟩) l W := by
  rcases h.2 with ⟨_, h0⟩ | ⟨g, cap, cur, rfl, _, hg, _⟩
  · omega
  · refine ⟨g, cap, rfl, ⟨fun _ => ⟨g, 0, rfl, (Array.getElem?_eq_some_iff.1 hg).1, fun i hi => ?_⟩⟩⟩
    obtain ⟨e0, e1, e2⟩ := recc_get l i hi
    rw [Nat.zero_add]
    exact ⟨(h.cellAt (i * 3) (by omega)).trans e0, (h.cellAt (i * 3 + 1) (by omega)).trans e1, (h.cellAt (i * 3 + 2) (by omega)).trans e2⟩
/-- What stands at the head of a digit's round. -/
structure BAt (base : Nat) (v : Value) (nodes : List Rn) (l : List Rec) (h : Nat) (W : World) (d : Nat) (u : Value) (X : World) : Prop where
  row : X.ownsRow base 71 21 u (nodes ++ ⟨false, (l.length : Int), fun _ => 0, rc0⟩ :: (stB (build h) l h (nodes.length + 1) d).2).length (rowc (nodes ++ ⟨false, (l.length : Int), fun _ => 0, rc0⟩ :: (stB (build h) l h (nodes.length + 1) d).2))
  nblk : X.heap[W.heap.size]? = some (.cells (rArr ⟨false, (l.length : Int), (stB (build h) l h (nodes.length + 1) d).1, rc0⟩) 71 (0, 0))
  grown : W.grownBy X v.ownBlock
  blk : u.ownBlock = v.ownBlock ∨ ∃ k, u.ownBlock = some k ∧ W.heap.size < k
theorem grown_trans {W X Y : World} {r s : Option Nat} (h : W.grownBy X r) (k : X.grownBy Y s) (hs : s = r ∨ ∀ g, s = some g → W.heap.size ≤ g) : W.grownBy Y r :=
  ⟨k.os.trans h.os, k.tape.trans h.tape, k.output.trans h.output, Nat.le_trans h.size k.size, fun g hg hn => (k.block g (Nat.lt_of_lt_of_le hg h.size) (fun e => by
    rcases hs with hs | hs
    · exact hn (e.trans hs)
    · have := hs g e.symm; omega)).trans (h.block g hg hn)⟩
theorem grown_of {W X : World} (h : Below W.heap.size W X) (r : Option Nat) : W.grownBy X r := ⟨h.os, h.tape, h.output, h.size, fun k hk _ => h.block k hk⟩
theorem set_grown (X : World) (b j : Nat) (u : Value) : X.grownBy (X.setCell ⟨b, j, none⟩ u) (some b) := ⟨rfl, rfl, rfl, by simp [World.setCell], fun k _ hk => Below.heap_setCell _ _ _ k (fun e => hk (by rw [e]))⟩
theorem set_sz (X : World) (p : Addr) (u : Value) : (X.setCell p u).heap.size = X.heap.size := by simp [World.setCell]
/-- The messages of a digit, among the first ones. -/
structure PAt (l : List Rec) (h d : Nat) (X : World) (i : Nat) (p : Value) (Y : World) : Prop where
  row : Y.ownsRow X.heap.size 41 3 p (part (l.take i) h d).length (recc (part (l.take i) h d))
  below : Below X.heap.size X Y
theorem wp_mid71 {ops : Array Oper} {rest : List Oper} {o : Oper} {a : Act} {w : World} {Q : Exit → Act → World → Prop} (hgd : o.guard = none) (x y : Operand) (ho : o.op = .store 71 x y)
    (g f : Nat) (n : Rn) (hx : a.eval x = .pointer (some ⟨g, f, none⟩)) (hy : a.eval y = .agg (rArr n)) (ht : w.there g f 21)
    (h : ∀ w', w' = w.setCells g f (rcells n) → wpList Try.prog ops Q rest (a.put o.dst undef) w') : wpList Try.prog ops Q (o :: rest) a w :=
  wpList_store_mid hgd 71 x y ho g f (rArr n) hx hy ht (by rw [rarr_size]; exact size71) (rarr_one n) (h _ rfl)
theorem own_there {w : World} {base g n cap : Nat} {xs : List Value} (h : w.ownsRow base 71 21 (.slice (some ⟨g, 0, none⟩) n cap) n xs) (i : Nat) (hi : i < n) : w.there g (i * 21) 21 := fun j hj => by
  refine ⟨?_, h.frozenAt _⟩
  rw [h.cellAt (i * 21 + j) (by omega), List.getElem?_eq_getElem (by rw [h.1]; omega)]
  rfl
theorem upd_upd (K : Nat → Int) (d : Nat) (y z : Int) : upd (upd K d y) d z = upd K d z := by
  funext k
  unfold upd
  split <;> rfl
/-- The node's block and the row of nodes are apart. -/
theorem BAt.apart {base : Nat} {v : Value} {nodes : List Rn} {l : List Rec} {h : Nat} {W : World} {d : Nat} {u : Value} {X : World} (hb : BAt base v nodes l h W d u X) (hv : ∀ k, v.ownBlock = some k → k < W.heap.size) : u.ownBlock ≠ some W.heap.size := fun e => by
  rcases hb.blk with h1 | ⟨k, h1, h2⟩
  · have := hv _ (h1.symm.trans e)
    omega
  · rw [h1] at e
    injection e with e
    omega
theorem BAt.nlt {base : Nat} {v : Value} {nodes : List Rn} {l : List Rec} {h : Nat} {W : World} {d : Nat} {u : Value} {X : World} (hb : BAt base v nodes l h W d u X) : W.heap.size < X.heap.size := (Array.getElem?_eq_some_iff.1 hb.nblk).1
/-- A digit that no message has. -/
theorem BAt.empty {base : Nat} {v : Value} {nodes : List Rn} {l : List Rec} {h : Nat} {W : World} {d : Nat} {u : Value} {X Y : World} (hb : BAt base v nodes l h W d u X) (hv : ∀ k, v.ownBlock = some k → k < W.heap.size) (hd : d < 16) (hY : Below X.heap.size X Y) (hp : part l h d = []) : BAt base v nodes l h W (d + 1) u (Y.setCell ⟨W.heap.size, 2 + d, none⟩ (.int .i64 (-1))) := by
  have e : stB (build h) l h (nodes.length + 1) (d + 1) = (upd (stB (build h) l h (nodes.length + 1) d).1 d (-1), (stB (build h) l h (nodes.length + 1) d).2) := if_pos hp
  have hn := (hY.block W.heap.size hb.nlt).trans hb.nblk
  refine ⟨?_, ?_, grown_trans (grown_trans hb.grown (grown_of hY Option.none) (.inr fun g e => by cases e)) (set_grown Y W.heap.size (2 + d) _) (.inr fun g e => by injection e with e; omega), hb.blk⟩
  · rw [e]
    exact own_grown (own_grown hb.row (grown_of hY Option.none) (fun _ _ => by simp)) (set_grown Y W.heap.size (2 + d) _) (fun k hk e => hb.apart hv (hk.trans e.symm))
  · rw [e]
    exact kid_set hn d hd (-1)
/-- A digit that some have. -/
theorem BAt.more {base : Nat} {v : Value} {nodes : List Rn} {l : List Rec} {h : Nat} {W : World} {d : Nat} {u v' : Value} {X Y Z : World} (hb : BAt base v nodes l h W d u X) (hv : ∀ k, v.ownBlock = some k → k < W.heap.size) (hd : d < 16) (hY : Below X.heap.size X Y) (hp : part l h d ≠ []) {mu : Nat}
    (hmu : (nodes ++ ⟨false, (l.length : Int), fun _ => 0, rc0⟩ :: (stB (build h) l h (nodes.length + 1) d).2).length = mu)
    (ho : Z.ownsRow base 71 21 v' ((nodes ++ ⟨false, (l.length : Int), fun _ => 0, rc0⟩ :: (stB (build h) l h (nodes.length + 1) d).2) ++ build h (nodes.length + 1 + (stB (build h) l h (nodes.length + 1) d).2.length) (part l h d)).length (rowc ((nodes ++ ⟨false, (l.length : Int), fun _ => 0, rc0⟩ :: (stB (build h) l h (nodes.length + 1) d).2) ++ build h (nodes.length + 1 + (stB (build h) l h (nodes.length + 1) d).2.length) (part l h d))))
    (hg : (Y.setCell ⟨W.heap.size, 2 + d, none⟩ (.int .i64 (-1))).grownBy Z u.ownBlock) (hk : v'.ownBlock = u.ownBlock ∨ ∃ k, v'.ownBlock = Option.some k ∧ (Y.setCell ⟨W.heap.size, 2 + d, none⟩ (.int .i64 (-1))).heap.size ≤ k) :
    Z.heap[W.heap.size]? = Option.some (.cells (rArr ⟨false, (l.length : Int), upd (stB (build h) l h (nodes.length + 1) d).1 d (-1), rc0⟩) 71 (0, 0)) ∧
    BAt base v nodes l h W (d + 1) v' (Z.setCell ⟨W.heap.size, 2 + d, none⟩ (.int .i64 (mu : Int))) := by
  have e : stB (build h) l h (nodes.length + 1) (d + 1) = (upd (stB (build h) l h (nodes.length + 1) d).1 d ((nodes.length + 1 + (stB (build h) l h (nodes.length + 1) d).2.length : Nat) : Int), (stB (build h) l h (nodes.length + 1) d).2 ++ build h (nodes.length + 1 + (stB (build h) l h (nodes.length + 1) d).2.length) (part l h d)) := if_neg hp
  have hm : nodes.length + 1 + (stB (build h) l h (nodes.length + 1) d).2.length = mu := by rw [← hmu, List.length_append, List.length_cons]; omega
  have hn := (hY.block W.heap.size hb.nlt).trans hb.nblk
  have hsz := hY.size
  have hnl := hb.nlt
  have hnz := (hg.block W.heap.size (by rw [set_sz]; omega) (fun e => hb.apart hv e.symm)).trans (kid_set hn d hd (-1))
  have hvn : v'.ownBlock ≠ Option.some W.heap.size := fun e2 => by
    rcases hk with h1 | ⟨k, h1, h2⟩
    · exact hb.apart hv (h1.symm.trans e2)
    · rw [h1] at e2
      injection e2 with e2
      rw [set_sz] at h2
      omega
  refine ⟨hnz, ?_, ?_, ?_, ?_⟩
  · rw [e]
    have := own_grown ho (set_grown Z W.heap.size (2 + d) (.int .i64 (mu : Int))) (fun k hk e3 => hvn (hk.trans e3.symm))
    simpa only [List.append_assoc, List.cons_append] using this
  · rw [e]
    have := kid_set hnz d hd (mu : Int)
    rw [this]
    dsimp only
    rw [upd_upd, hm]
  · have g1 := grown_trans (grown_trans hb.grown (grown_of hY Option.none) (.inr fun g e => by cases e)) (set_grown Y W.heap.size (2 + d) (.int .i64 (-1))) (.inr fun g e => by injection e with e; omega)
    have g2 := grown_trans g1 hg (by
      rcases hb.blk with h1 | ⟨k, h1, h2⟩
      · exact .inl h1
      · exact .inr fun g e => by rw [h1] at e; injection e with e; omega)
    exact grown_trans g2 (set_grown Z W.heap.size (2 + d) _) (.inr fun g e => by injection e with e; omega)
  · rcases hk with h1 | ⟨k, h1, h2⟩
    · rw [h1]; exact hb.blk
    · rw [set_sz] at h2
      exact .inr ⟨k, h1, by omega⟩
set_option maxRecDepth 100000 in
set_option maxHeartbeats 4000000 in
theorem build_node {base : Nat} {W : World} {v : Value} {nodes : List Rn} (h : Nat) (hh : h ≤ 7) (hv : W.ownsRow base 71 21 v nodes.length (rowc nodes)) (hbase : base ≤ W.heap.size)
    {A : Option Addr} (cap : Nat) (l : List Rec) (hl0 : 0 < l.length) (hl : RdAt A l W) (hln : l.length ≤ 10000) (hb : ∀ d, (nodes ++ ⟨false, (l.length : Int), fun _ => 0, rc0⟩ :: (stB (build h) l h (nodes.length + 1) d).2).length ≤ 1000000)
    (hsep : ∀ g o, A = some ⟨g, o, none⟩ → v.ownBlock ≠ some g) (hu : ∀ x ∈ l, 0 ≤ x.f0 ∧ x.f0 < 4294967296)
    (IH : ∀ (d : Nat) (X : World) (u : Value) (p : Option Addr) (c : Nat), d < 16 → part l h d ≠ [] → X.ownsRow base 71 21 u (nodes ++ ⟨false, (l.length : Int), fun _ => 0, rc0⟩ :: (stB (build h) l h (nodes.length + 1) d).2).length (rowc (nodes ++ ⟨false, (l.length : Int), fun _ => 0, rc0⟩ :: (stB (build h) l h (nodes.length + 1) d).2)) → base ≤ X.heap.size → RdAt p (part l h d) X → (∀ g o, p = some ⟨g, o, none⟩ → u.ownBlock ≠ some g) →
      Calls Try.prog 24 #[u, .slice p (part l h d).length c, .int .i64 ((h : Int) - 1)] X (BuildPost base u (nodes ++ ⟨false, (l.length : Int), fun _ => 0, rc0⟩ :: (stB (build h) l h (nodes.length + 1) d).2) (build h (nodes.length + 1 + (stB (build h) l h (nodes.length + 1) d).2.length) (part l h d)) X)) :
    Calls Try.prog 24 #[v, .slice A l.length cap, .int .i64 (h : Int)] W (BuildPost base v nodes (build (h + 1) nodes.length l) W) := by
  obtain ⟨A0, cap0, hsv, hcap0⟩ := row_form hv
  have HV := Hd.mk hv
  have HSp := Hd.mk hsep
  have HRd := Hd.mk hl
  have HU := Hd.mk hu
  have HI := Hd.mk IH
  have HBd := Hd.mk hb
  have hnn : nodes.length + 1 ≤ 1000000 := by have := hb 0; rw [List.length_append, List.length_cons] at this; omega
  have hvl : ∀ k, v.ownBlock = some k → k < W.heap.size := fun k hk => by
    obtain ⟨cur, hc⟩ := own_typed hv k hk
    exact (Array.getElem?_eq_some_iff.1 hc).1
  have HVl := Hd.mk hvl
  obtain ⟨ga, oa, rfl, hga, hca⟩ := hl.cell hl0
  have HGa : Hd (ga < W.heap.size ∧ v.ownBlock ≠ some ga) := ⟨hga, hsep ga oa rfl⟩
  have HDg : Hd (∀ (X : World) (x : Rec), x ∈ l → Calls Try.prog 32 #[.int .u32 x.f0, .int .i64 (h : Int)] X fun e w' => e = .returned (.int .i64 (dig x.f0 h)) ∧ Drawn0 X w') := ⟨fun X x hx => postchaiseref07_digit.calls 20 x.f0 h _ X (rdig_f x.f0 (hu x hx).1 (hu x hx).2 h (by omega) 20 (by omega))⟩
  subst hsv
  obtain ⟨i0, hi, hz0, hz1, hz2⟩ := inf_parts info71
  obtain ⟨i1, hi1, hy0, hy1, hy2⟩ := inf_parts info41
  have hh0 : (0 : Int) ≤ (h : Int) := by omega
  have q0 : decide ((h : Int) < 0) = false := decide_eq_false (by omega)
  obtain ⟨L, hL⟩ : ∃ L, l.length = L := ⟨_, rfl⟩
  have HL := Hd.mk hL
  rw [hL] at hl0 hln
  simp only [hL]
  clear hv hl hsep hu IH hb hvl hL hga hca
  go_enter Try.func24, Try.ntmps24
  go_upto_region 5 with (first
    | ((with_reducible refine gate_store (t := 71) rfl ?_); refine wp_st71 rfl _ _ rfl _ (rArr ⟨false, (L : Int), fun _ => 0, rc0⟩) rfl rfl rfl (rarr_size _) (rarr_one _) ?_))
  go_wp2_with (first
    | ((with_reducible refine gate_load (t := 71) rfl ?_); refine wp_ld71 rfl _ rfl W.heap.size ⟨false, (L : Int), fun _ => 0, rc0⟩ rfl (heap_alloc_new W _) ?_)
    | ((with_reducible refine gate_bs rfl ?_); refine wp_bs71 rfl _ rfl ⟨false, (L : Int), fun _ => 0, rc0⟩ rfl ?_)
    | (at_builtin; (
       refine wpList_append_own_at _ rfl _ _ 67 rfl base 71 i0 _ 21 168 Try.underlying67 hi hz0 hz1 hz2 rfl (by decide) (.slice A0 nodes.length cap0) nodes.length (rowc nodes) rfl (own_grown HV.out (row := none) ⟨rfl, rfl, rfl, by simp; omega, fun k hk _ => (Below.heap_alloc _ _ _ (by simp; omega)).trans (Below.heap_alloc _ _ _ hk)⟩ (fun _ _ => by simp)) ⟨W.heap.size + 1, 0, none⟩ 1 1 (rcells ⟨false, (L : Int), fun _ => 0, rc0⟩) (by simp [go_sem]) rfl (World.news_of_block (cs := rArr ⟨false, (L : Int), fun _ => 0, rc0⟩) (t := 71) (fr := (0, 0)) (tr_new_at _ _ (by simp))) (rcells_one _) (by unfold maxLen; omega) (by omega) (by simp; omega) ?_
       intro v3 w3 hown3 hg3 hnil3 hat3
       have HO3 := Hd.mk hown3
       have HG3 := Hd.mk hg3
       have HA3 := Hd.mk hat3
       obtain ⟨A3, cap3, hv3, hcap3⟩ := row_form hown3
       subst hv3
       clear hown3 hg3 hnil3 hat3)))
  have H0 : Hd (BAt base (.slice A0 nodes.length cap0) nodes l h W 0 (.slice A3 (nodes.length + 1) cap3) w3) := ⟨by
    have hL := HL.out
    refine ⟨?_, ?_, grown_below (below_alloc (below_alloc (Below.refl _ _) _) _) HG3.out, ?_⟩
    · have := HO3.out
      rw [← rowc_one, ← rowc_append] at this
      rw [hL, List.length_append]
      exact this
    · rw [hL]
      exact (HG3.out.block W.heap.size (by simp; omega) (fun e => by have := HVl.out _ e.symm; omega)).trans ((Below.heap_alloc _ _ _ (by simp)).trans (heap_alloc_new W _))
    · rcases HA3.out with e | e
      · exact .inl e
      · exact .inr ⟨_, e, by simp; omega⟩⟩
  clear HO3 HG3 HA3
  go_loopw [0, 10] (fun u r wr => ∃ d : Nat, d ≤ 16 ∧ r = .int .i64 (d : Int) ∧ Hd (BAt base (.slice A0 nodes.length cap0) nodes l h W d u wr)) (fun _ r _ => 16 - (intOf r).toNat)
  case atStart => exact ⟨0, Nat.zero_le _, rfl, H0⟩
  case round =>
    clear H0
    obtain ⟨d, hd, rfl, HB⟩ := hrel
    obtain ⟨Au, capu, hu, hcapu⟩ := row_form HB.out.row
    subst hu
    obtain ⟨mu, hmu⟩ : ∃ m, (nodes ++ ⟨false, (l.length : Int), fun _ => 0, rc0⟩ :: (stB (build h) l h (nodes.length + 1) d).2).length = m := ⟨_, rfl⟩
    have HMu := Hd.mk hmu
    rw [hmu] at HB hcapu
    simp only [hmu]
    clear hmu
    by_cases hlt : d < 16
    · have hd0 : (0 : Int) ≤ (d : Int) := by omega
      have hd1 : (d : Int) < 16 := by omega
      go_wp2
      obtain ⟨X, hX⟩ : ∃ X, wr = X := ⟨_, rfl⟩
      rw [hX] at HB
      have HXe := Hd.mk hX
      clear hX
      go_loopw [11, 12] (fun p r wx => ∃ i : Nat, i ≤ L ∧ r = .int .i64 (i : Int) ∧ Hd (PAt l h d X i p wx)) (fun _ r _ => L - (intOf r).toNat)
      case atStart => exact ⟨0, Nat.zero_le _, rfl, ⟨⟨⟨rfl, .inl ⟨rfl, rfl⟩⟩, by rw [HXe.out]; exact Below.refl _ _⟩⟩⟩
      case round =>
        clear HXe
        obtain ⟨i, hi2, rfl, HP⟩ := hrel
        obtain ⟨Ap, capp, hp, hcapp⟩ := row_form HP.out.row
        subst hp
        have HRx := Hd.mk ((HRd.out.grown HB.out.grown (fun g o e => by cases e; exact HGa.out.2)).on HP.out.below)
        by_cases hil : i < L
        · have hill : i < l.length := by rw [HL.out]; exact hil
          obtain ⟨ga', oa', hae, _, hcc⟩ := HRx.out.cell (by omega)
          cases hae
          obtain ⟨e0, e1, e2⟩ := hcc i hill
          have b0 : (0 : Int) ≤ (i : Int) := by omega
          have b1 : (i : Int) < (L : Int) := by omega
          have HD := Hd.mk (fun X => HDg.out X l[i] (List.getElem_mem hill))
          have htk : l.take (i + 1) = l.take i ++ [l[i]] := by rw [List.take_add_one, List.getElem?_eq_getElem hill]; rfl
          have HPt : Hd (part (l.take (i + 1)) h d = if dig l[i].f0 h = (d : Int) then part (l.take i) h d ++ [l[i]] else part (l.take i) h d) := ⟨by
            rw [htk]
            unfold part
            rw [List.filter_append]
            by_cases e : dig l[i].f0 h = (d : Int)
            · rw [if_pos e]; simp [e]
            · rw [if_neg e]; simp [e]⟩
          obtain ⟨x, hx⟩ : ∃ x, l[i] = x := ⟨_, rfl⟩
          rw [hx] at e0 e1 e2 HD HPt
          obtain ⟨m, hm⟩ : ∃ m, (part (l.take i) h d).length = m := ⟨_, rfl⟩
          have HM := Hd.mk hm
          have hmL : m ≤ 10000 := by rw [← hm]; have := List.length_filter_le (fun x => dig x.f0 h == (d : Int)) (l.take i); rw [List.length_take] at this; unfold part; omega
          simp only [hm]
          rw [hm] at HP hcapp
          have HPr := HP.out.row
          rw [hm] at HPr
          have HRw := Hd.mk HPr
          have HPb := Hd.mk HP.out.below
          clear hx hcc htk hm HPr
          by_cases hdg : dig x.f0 h = (d : Int)
          · have qd : (dig x.f0 h == (d : Int)) = true := by rw [hdg]; simp
            replace HPt := Hd.mk (HPt.out.trans (if_pos hdg))
            clear hdg
            go_wp2_with (first
              | (go_at_call 32; have hx := HD.out wr; (with_reducible refine hx.mono ?_); clear hx; rintro e w5 ⟨rfl, ⟨nd, rfl⟩⟩)
              | (at_builtin; (
                 refine wpList_append_own _ rfl _ _ 22 rfl X.heap.size 41 i1 _ 3 24 Try.underlying22 hi1 hy0 hy1 hy2 rfl (by decide) (.slice Ap m capp) m (recc (part (l.take i) h d)) rfl (own_grown (X := wr) HRw.out (row := none) (grown_of (below_alloc (pw_below_drewN (Below.refl _ _) nd) _) none) (fun _ _ => by simp)) ⟨wr.heap.size, 0, none⟩ 1 1 [.int .u32 x.f0, .int .u8 x.f1, .string x.f2] rfl rfl (World.news_of_block (cs := #[.int .u32 x.f0, .int .u8 x.f1, .string x.f2]) (t := 41) (fr := (0, 0)) (tr_new_at _ _ (by simp))) (by simp [Value.oneCell']) (by unfold maxLen; omega) (by omega) (by have := HPb.out.size; simp; omega) ?_
                 intro v6 w6 hown6 hg6 hnil6
                 have HO6 := Hd.mk hown6
                 have HG6 := Hd.mk hg6
                 clear hown6 hg6 hnil6)))
            go_roundw
            case rel =>
              refine ⟨i + 1, by omega, by go_num, ⟨⟨?_, ?_⟩⟩⟩
              · rw [HPt.out, List.length_append, recc_append, HM.out]
                exact HO6.out
              · refine ⟨HG6.out.os.trans HPb.out.os, HG6.out.tape.trans HPb.out.tape, HG6.out.output.trans HPb.out.output, Nat.le_trans HPb.out.size (Nat.le_trans (by show _ ≤ (World.alloc _ _).heap.size; simp) HG6.out.size), fun g hg => ?_⟩
                refine (HG6.out.block g (by have := HPb.out.size; show _ < (World.alloc _ _).heap.size; simp; omega) (fun e => ?_)).trans ((Below.heap_alloc _ _ _ (by have := HPb.out.size; show g < wr.heap.size; omega)).trans (HPb.out.block g hg))
                have := own_base HRw.out g e.symm
                omega
            case measure => first | (simp [intOf]; done) | (simp [intOf]; omega)
          · have qd : (dig x.f0 h == (d : Int)) = false := beq_eq_false_iff_ne.2 hdg
            replace HPt := Hd.mk (HPt.out.trans (if_neg hdg))
            clear hdg
            go_wp2_with (first
              | (go_at_call 32; have hx := HD.out wr; (with_reducible refine hx.mono ?_); clear hx; rintro e w5 ⟨rfl, ⟨nd, rfl⟩⟩))
            go_roundw
            case rel =>
              refine ⟨i + 1, by omega, by go_num, ⟨⟨?_, pw_below_drewN HPb.out nd⟩⟩⟩
              rw [HPt.out, HM.out]
              exact HRw.out
            case measure => first | (simp [intOf]; done) | (simp [intOf]; omega)
        · obtain rfl : i = L := by omega
          have htl : l.take i = l := by rw [← HL.out, List.take_length]
          have HPa : Hd (wr.ownsRow X.heap.size 41 3 (.slice Ap (part (l.take i) h d).length capp) (part l h d).length (recc (part l h d)) ∧ Below X.heap.size X wr) := ⟨by have := HP.out.row; rw [htl] at this ⊢; exact this, HP.out.below⟩
          rw [htl] at HPa
          simp only [htl]
          have hn := (HPa.out.2.block W.heap.size HB.out.nlt).trans HB.out.nblk
          obtain ⟨ck, fk⟩ := kid_facts hn d hlt
          have HK := Hd.mk (kid_facts (kid_set hn d hlt (-1)) d hlt)
          clear hn htl HP HRx
          by_cases hp : part l h d = []
          · have HBn := Hd.mk (HB.out.empty HVl.out hlt HPa.out.2 hp)
            have hm0 : (part l h d).length = 0 := by rw [hp]; rfl
            simp only [hm0]
            clear hp hm0
            go_wp2
            go_roundw
            case rel => exact ⟨d + 1, by omega, by go_num, HBn⟩
            case measure => first | (simp [intOf]; done) | (simp [intOf]; omega)
          · have hpl : 0 < (part l h d).length := List.length_pos_iff.2 hp
            obtain ⟨gp, cp, hpe, hrd⟩ := own_rd HPa.out.1 hpl
            have hgp := own_base HPa.out.1 gp (by rw [hpe]; rfl)
            have hX2 : Hd (BAt base (.slice A0 nodes.length cap0) nodes l h W d (.slice Au mu capu) X) := HB
            have hul : ∀ k, Value.ownBlock (.slice Au mu capu) = some k → k < X.heap.size := fun k hk => own_lt HB.out.row k hk
            have HX := Hd.mk (HI.out d (wr.setCell ⟨W.heap.size, 2 + d, none⟩ (.int .i64 (-1))) (.slice Au mu capu) (some ⟨gp, 0, none⟩) cp hlt hp
              (own_grown (own_grown HB.out.row (grown_of HPa.out.2 none) (fun _ _ => by simp)) (set_grown wr W.heap.size (2 + d) _) (fun k hk e => HB.out.apart HVl.out (hk.trans e.symm)))
              (by rw [set_sz]; have := HPa.out.2.size; have := HB.out.nlt; omega)
              (hrd.grown (set_grown wr W.heap.size (2 + d) _) (fun g o e => by cases e; intro e2; injection e2 with e2; have := HB.out.nlt; omega))
              (fun g o e e2 => by cases e; have := hul gp e2; omega))
            replace HX : Hd (Calls Try.prog 24 #[.slice Au mu capu, .slice (some ⟨gp, 0, none⟩) (part l h d).length cp, .int .i64 ((h : Int) - 1)] (wr.setCell ⟨W.heap.size, 2 + d, none⟩ (.int .i64 (-1))) fun e w' => ∃ A9 n9 c9, e = .returned (.tuple #[.slice A9 n9 c9, .int .i64 (mu : Int)]) ∧
                Hd (w'.heap[W.heap.size]? = some (.cells (rArr ⟨false, (l.length : Int), upd (stB (build h) l h (nodes.length + 1) d).1 d (-1), rc0⟩) 71 (0, 0)) ∧ BAt base (.slice A0 nodes.length cap0) nodes l h W (d + 1) (.slice A9 n9 c9) (w'.setCell ⟨W.heap.size, 2 + d, none⟩ (.int .i64 (mu : Int))))) :=
              ⟨HX.out.mono fun e w' ⟨v', k1, k2⟩ => by
                obtain ⟨A9, c9, hv9, _⟩ := row_form k2.out.1
                have hm9 := HB.out.more HVl.out hlt HPa.out.2 hp HMu.out k2.out.1 k2.out.2.1 k2.out.2.2
                rw [HMu.out] at k1
                rw [hv9] at k1 hm9
                exact ⟨A9, _, c9, k1, ⟨hm9⟩⟩⟩
            obtain ⟨m, hm⟩ : ∃ m, (part l h d).length = m := ⟨_, rfl⟩
            rw [hm] at HX hpl hpe
            simp only [hm]
            injection hpe with hpe1 _ hpe2
            subst hpe1
            subst hpe2
            have hm0 : decide (0 < m) = true := decide_eq_true hpl
            have hm1 : (0 : Int) < (m : Int) := by omega
            have hwh : IntKind.i64.wrap ((h : Int) - 1) = (h : Int) - 1 := by rw [IntKind.wrap_i64]; omega
            clear hp hm hrd hgp
            go_wp2_with (first
              | (go_at_call 24; (have hx := HX.out; (with_reducible refine hx.mono ?_); clear hx; rintro e w7 ⟨A9, n9, c9, rfl, HZ⟩); have hz7 := HZ.out.1; obtain ⟨ck7, fk7⟩ := kid_facts hz7 d hlt; clear hz7))
            go_roundw
            case rel => exact ⟨d + 1, by omega, by go_num, ⟨HZ.out.2⟩⟩
            case measure => first | (simp [intOf]; done) | (simp [intOf]; omega)
    · obtain rfl : d = 16 := by omega
      have hmu1 : nodes.length < mu := by rw [← HMu.out, List.length_append, List.length_cons]; omega
      have hrow := HB.out.row
      rw [HMu.out] at hrow
      obtain ⟨gu, hgu⟩ : ∃ gu, Au = some ⟨gu, 0, none⟩ := by
        rcases hrow.2 with ⟨_, h0⟩ | ⟨g, cap, cur, e, _⟩
        · omega
        · injection e with e1 _ _; exact ⟨g, e1⟩
      subst hgu
      have HRow := Hd.mk hrow
      have b0 : (0 : Int) ≤ (nodes.length : Int) := by omega
      have b1 : (nodes.length : Int) < (mu : Int) := by omega
      have hnb := HB.out.nblk
      rw [HL.out] at hnb
      have HNb := Hd.mk hnb
      clear hnb hrow
      go_wp2_with (first
        | ((with_reducible refine gate_load (t := 71) rfl ?_); (refine wp_ld71 rfl _ rfl W.heap.size ⟨false, (L : Int), (stB (build h) l h (nodes.length + 1) 16).1, rc0⟩ rfl HNb.out ?_))
        | ((with_reducible refine gate_store (t := 71) rfl ?_); (refine wp_mid71 rfl _ _ rfl gu (nodes.length * 21) ⟨false, (L : Int), (stB (build h) l h (nodes.length + 1) 16).1, rc0⟩ (by simp [go_sem]) rfl (own_there HRow.out nodes.length hmu1) ?_; intro w9 hw9; have HW9 := Hd.mk hw9; clear hw9)))
      go_ret2
      obtain ⟨ho9, hg9⟩ := own_setCells (rcells ⟨false, (L : Int), (stB (build h) l h (nodes.length + 1) 16).1, rc0⟩) (nodes.length * 21) wr _ HRow.out
      rw [← HW9.out] at ho9 hg9
      have hgt := grown_trans HB.out.grown hg9 (by
        rcases HB.out.blk with e | ⟨k, e, hk⟩
        · exact .inl e
        · exact .inr fun g e2 => by
            cases e2
            have e3 : some gu = some k := e
            injection e3 with e3
            omega)
      rw [row_put] at ho9
      have e1 : build (h + 1) nodes.length l = ⟨false, (L : Int), (stB (build h) l h (nodes.length + 1) 16).1, rc0⟩ :: (stB (build h) l h (nodes.length + 1) 16).2 := by rw [← HL.out]; rfl
      refine ⟨.slice (some ⟨gu, 0, none⟩) mu capu, rfl, ⟨?_, hgt, ?_⟩⟩
      · rw [e1]
        have e : (nodes ++ (⟨false, (L : Int), (stB (build h) l h (nodes.length + 1) 16).1, rc0⟩ :: (stB (build h) l h (nodes.length + 1) 16).2)).length = mu := by rw [← HMu.out, List.length_append, List.length_append, List.length_cons, List.length_cons]
        rw [e]
        exact ho9
      · rcases HB.out.blk with e | ⟨k, e, hk⟩
        · exact .inl e
        · exact .inr ⟨k, e, by omega⟩
end Go.Proofs.Ytkcnakaneiocjaa.PTr
