/- Trees: the law's Stand, walked. No condition but those that each contract bears. -/
import Derived.Test.YtkcnakaneiocjaaTrBuild
set_option linter.unusedVariables false
set_option linter.unusedSimpArgs false
namespace Go.Proofs.Ytkcnakaneiocjaa.PTr
open Go.RowKit Go.Proofs.YtkcnakaneiocjaaW.PrintWords Go.Proofs.YtkcnakaneiocjaaW.PrintLast Go.Proofs.YtkcnakaneiocjaaW.PrintMore
theorem nupd_set (n : Nd) (d : Nat) (hd : d < 16) (z : Int) : (nArr n).setIfInBounds (2 + d) (.int .i64 z) = nArr ⟨n.kind, n.cnt, upd n.kid d z, n.rc⟩ := by
  have : d = 0 ∨ d = 1 ∨ d = 2 ∨ d = 3 ∨ d = 4 ∨ d = 5 ∨ d = 6 ∨ d = 7 ∨ d = 8 ∨ d = 9 ∨ d = 10 ∨ d = 11 ∨ d = 12 ∨ d = 13 ∨ d = 14 ∨ d = 15 := by omega
  rcases this with rfl | rfl | rfl | rfl | rfl | rfl | rfl | rfl | rfl | rfl | rfl | rfl | rfl | rfl | rfl | rfl <;> rfl
theorem nkid_set {X : World} {bn : Nat} {n : Nd} (h : X.heap[bn]? = some (.cells (nArr n) 60 (0, 0))) (d : Nat) (hd : d < 16) (z : Int) : (X.setCell ⟨bn, 2 + d, none⟩ (.int .i64 z)).heap[bn]? = some (.cells (nArr ⟨n.kind, n.cnt, upd n.kid d z, n.rc⟩) 60 (0, 0)) := by
  rw [blk_set h (2 + d) (.int .i64 z), nupd_set n d hd z]
theorem nkid_facts {X : World} {bn : Nat} {n : Nd} (h : X.heap[bn]? = some (.cells (nArr n) 60 (0, 0))) (d : Nat) (hd : d < 16) : X.cell? ⟨bn, 2 + d, none⟩ = some (.int .i64 (n.kid d)) ∧ X.frozen? ⟨bn, 2 + d, none⟩ = false :=
  ⟨nd_cells h (2 + d) _ (kid_cell n d hd), by simp [World.frozen?, h]⟩
theorem narr_congr (n m : Nd) (h1 : n.kind = m.kind) (h2 : n.cnt = m.cnt) (h3 : n.rc = m.rc) (h4 : ∀ j, j < 16 → n.kid j = m.kid j) : nArr n = nArr m := by
  unfold nArr ncells
  rw [h1, h2, h3, h4 0 (by decide), h4 1 (by decide), h4 2 (by decide), h4 3 (by decide), h4 4 (by decide), h4 5 (by decide), h4 6 (by decide), h4 7 (by decide), h4 8 (by decide), h4 9 (by decide), h4 10 (by decide), h4 11 (by decide), h4 12 (by decide), h4 13 (by decide), h4 14 (by decide), h4 15 (by decide)]
theorem bs60 (n : Nd) (w : World) : (Instr.buildSlice 25 1 #[(0, .agg (nArr n))]).run Try.prog w = .ok (.slice (some ⟨w.heap.size, 0, none⟩) 1 1) (w.alloc (.cells (nArr n) 60)) := by kernel_rfl
theorem wp_bs60 {ops : Array Oper} {rest : List Oper} {o : Oper} {a : Act} {w : World} {Q : Exit → Act → World → Prop} (hgd : o.guard = none) (x : Operand) (ho : o.op = .buildSlice 25 1 #[(0, x)]) (n : Nd) (hx : a.eval x = .agg (nArr n))
    (h : wpList Try.prog ops Q rest (a.put o.dst (.slice (some ⟨w.heap.size, 0, none⟩) 1 1)) (w.alloc (.cells (nArr n) 60))) : wpList Try.prog ops Q (o :: rest) a w :=
  wpList_plain hgd fun _ hK => by
    have hr := bs60 n w
    unfold Oper.wp execOp
    simp only [ho, hx, List.map_toArray, List.map_cons, List.map_nil, Sem.run_bind, Sem.run_pure, Result.andThen_ok, hr]
    exact hK _ _ h
def rown (L : List Nd) : List Value := L.flatMap ncells
theorem rown_append (L M : List Nd) : rown (L ++ M) = rown L ++ rown M := by unfold rown; rw [List.flatMap_append]
theorem rown_one (n : Nd) : rown [n] = ncells n := by unfold rown; simp
theorem ncells_one (n : Nd) : ∀ u ∈ ncells n, u.oneCell' = true := by unfold ncells; simp [Value.oneCell']
theorem info60b : (Try.prog.info? 60).map (fun i => (i.zero, i.size, i.bytes)) = some (some (.agg (nArr Nd.zero)), 26, 200) := by kernel_rfl
/-- The slots ahead of the tree. -/
structure GAt (w1 : World) (i : Nat) (p : Value) (X : World) : Prop where
  row : X.ownsRow w1.heap.size 60 26 p i (rown (List.replicate i Nd.zero))
  below : Below w1.heap.size w1 X
theorem GAt.step {w1 X Y : World} {i : Nat} {p p' : Value} (h : GAt w1 i p X) (ho : Y.ownsRow w1.heap.size 60 26 p' (i + 1) (rown (List.replicate i Nd.zero) ++ ncells Nd.zero)) (hg : (X.alloc (.cells (nArr Nd.zero) 60)).grownBy Y p.ownBlock) : GAt w1 (i + 1) p' Y := by
  refine ⟨?_, ⟨hg.os.trans h.below.os, hg.tape.trans h.below.tape, hg.output.trans h.below.output, Nat.le_trans h.below.size (Nat.le_trans (by simp) hg.size), fun k hk => ?_⟩⟩
  · rw [List.replicate_succ', rown_append, rown_one]
    exact ho
  · have hs := h.below.size
    refine (hg.block k (by simp; omega) (fun e => ?_)).trans ((Below.heap_alloc _ _ _ (by omega)).trans (h.below.block k hk))
    have := own_base h.row k e.symm
    omega
theorem rowc_get : ∀ (B : List Rn) (i : Nat) (hi : i < B.length) (j : Nat), j < 21 → (rowc B)[i * 21 + j]? = (rcells B[i])[j]?
  | n :: B, 0, _, j, hj => by
    show (rcells n ++ rowc B)[0 * 21 + j]? = _
    rw [Nat.zero_mul, Nat.zero_add, List.getElem?_append_left (by rw [rcells_len]; exact hj)]
    rfl
  | n :: B, i + 1, hi, j, hj => by
    show (rcells n ++ rowc B)[(i + 1) * 21 + j]? = _
    rw [List.getElem?_append_right (by rw [rcells_len]; omega), rcells_len, show (i + 1) * 21 + j - 21 = i * 21 + j by omega, rowc_get B i (by simpa using hi) j hj]
    rfl
/-- The nodes converted so far. -/
structure SAt (w1 : World) (b71 gap g4 c4 : Nat) (B : List Rn) (i : Nat) (p : Value) (X : World) : Prop where
  row : X.ownsRow w1.heap.size 60 26 p (gap + i) (rown (shelf gap (B.take i)))
  src : X.ownsRow b71 71 21 (.slice (some ⟨g4, 0, none⟩) B.length c4) B.length (rowc B)
  below : Below w1.heap.size w1 X
/-- Rows of two types are apart. -/
theorem own_apart {X : World} {b1 b2 : Nat} {e1 e2 : TypeId} {s1 s2 n1 n2 : Nat} {v1 v2 : Value} {x1 x2 : List Value} (h1 : X.ownsRow b1 e1 s1 v1 n1 x1) (h2 : X.ownsRow b2 e2 s2 v2 n2 x2) (he : e1 ≠ e2) : ∀ k, v1.ownBlock = some k → v2.ownBlock ≠ some k := fun k k1 k2 => by
  obtain ⟨c1, hc1⟩ := own_typed h1 k k1
  obtain ⟨c2, hc2⟩ := own_typed h2 k k2
  rw [hc1] at hc2
  injection hc2 with hc2
  injection hc2 with _ hc2
  exact he hc2
theorem SAt.step {w1 X Y Z : World} {b71 gap g4 c4 : Nat} {B : List Rn} {i : Nat} {p p' : Value} (h : SAt w1 b71 gap g4 c4 B i p X) (hi : i < B.length) (hXY : Below X.heap.size X Y) (ho : Z.ownsRow w1.heap.size 60 26 p' (gap + i + 1) (rown (shelf gap (B.take i)) ++ ncells (conv gap B[i]))) (hg : Y.grownBy Z p.ownBlock) : SAt w1 b71 gap g4 c4 B (i + 1) p' Z := by
  have hr := own_grown h.row (grown_of hXY none) (fun _ _ => by simp)
  have hs := own_grown h.src (grown_of hXY none) (fun _ _ => by simp)
  have hsz := h.below.size
  refine ⟨?_, own_grown hs hg (own_apart hs hr (by decide)), ⟨hg.os.trans (hXY.os.trans h.below.os), hg.tape.trans (hXY.tape.trans h.below.tape), hg.output.trans (hXY.output.trans h.below.output), Nat.le_trans hsz (Nat.le_trans hXY.size hg.size), fun k hk => ?_⟩⟩
  · have e : shelf gap (B.take (i + 1)) = shelf gap (B.take i) ++ [conv gap B[i]] := by
      unfold shelf
      rw [List.take_add_one, List.getElem?_eq_getElem hi]
      show _ ++ (B.take i ++ [B[i]]).map (conv gap) = _
      rw [List.map_append, ← List.append_assoc]
      rfl
    rw [e, rown_append, rown_one, ← Nat.add_assoc]
    exact ho
  · have := hXY.size
    refine (hg.block k (by omega) (fun e => ?_)).trans ((hXY.block k (by omega)).trans (h.below.block k hk))
    have := own_base hr k e.symm
    omega
theorem rown_len : ∀ (L : List Nd), (rown L).length = L.length * 26
  | [] => rfl
  | n :: L => by
    show (ncells n ++ rown L).length = _
    rw [List.length_append, rown_len L, List.length_cons]
    show 26 + _ = _
    omega
theorem rown_get : ∀ (B : List Nd) (i : Nat) (hi : i < B.length) (j : Nat), j < 26 → (rown B)[i * 26 + j]? = (ncells B[i])[j]?
  | n :: B, 0, _, j, hj => by
    show (ncells n ++ rown B)[0 * 26 + j]? = _
    rw [Nat.zero_mul, Nat.zero_add, List.getElem?_append_left (by show _ < 26; exact hj)]
    rfl
  | n :: B, i + 1, hi, j, hj => by
    have e26 : (ncells n).length = 26 := rfl
    show (ncells n ++ rown B)[(i + 1) * 26 + j]? = _
    rw [List.getElem?_append_right (by rw [e26]; omega), e26, show (i + 1) * 26 + j - 26 = i * 26 + j by omega, rown_get B i (by simpa using hi) j hj]
    rfl
/-- A row of nodes of one's own is a shelf. -/
theorem own_shelf {X : World} {base n c : Nat} {A : Option Addr} {N : List Nd} (h : X.ownsRow base 60 26 (.slice A n c) n (rown N)) (hn : n = N.length) : ShAt A N X := by
  subst hn
  rcases h.2 with ⟨_, h0⟩ | ⟨g, cap, cur, e, _, hg, _⟩
  · exact ⟨fun hp => by omega⟩
  · injection e with e1 _ e3
    subst e1
    refine ⟨fun hp => ⟨g, 0, rfl, (Array.getElem?_eq_some_iff.1 hg).1, fun i hi j u hu => ?_⟩⟩
    have hj : j < 26 := (List.getElem?_eq_some_iff.1 hu).1
    rw [Nat.zero_add, h.cellAt (i * 26 + j) (by omega), rown_get N i hi j hj]
    exact hu
theorem res_stand {fn : Func} {p u : Tmp} (h : fn.results = #[.tmp u, .cell p 27]) (tmps : Array Value) (w : World) (g : Nat) (x y : Int) (v : Value) (hp : tmps.getD p undef = .pointer (some ⟨g, 0, none⟩)) (hu : tmps.getD u undef = v)
    (hg : w.heap[g]? = some (.cells #[.int .i64 x, .int .i64 y] 27 (0, 0))) : (results fn tmps).run Try.prog w = .ok (.tuple #[v, .agg #[.int .i64 x, .int .i64 y]]) w := by
  have c0 : w.cell? ⟨g, 0, none⟩ = some (.int .i64 x) := (blk_cell hg 0).trans rfl
  have c1 : w.cell? ⟨g, 1, none⟩ = some (.int .i64 y) := (blk_cell hg 1).trans rfl
  have e : (results fn tmps).run Try.prog w = ((asAddr (tmps.getD p undef)).run Try.prog w).andThen fun a w₁ => ((loadVar 27 a).run Try.prog w₁).andThen fun v w₂ => .ok (.tuple #[tmps.getD u undef, v]) w₂ := by
    simp only [results, h]
    simp [Sem.run_bind, Result.andThen]
  rw [e, hp, hu]
  go_simp
def kidTo (f : Nat → Int) (k : Nat) : Nat → Int := fun j => if j < k then f j else 0
theorem kidTo_step (f : Nat → Int) (k : Nat) : upd (kidTo f k) k (f k) = kidTo f (k + 1) := by
  funext j
  unfold upd kidTo
  by_cases e : j = k
  · subst e; rw [if_pos rfl, if_pos (by omega)]
  · rw [if_neg e]
    by_cases e2 : j < k
    · rw [if_pos e2, if_pos (by omega)]
    · rw [if_neg e2, if_neg (by omega)]
theorem rcells_kid (n : Rn) (k : Nat) (hk : k < 16) : (rcells n)[2 + k]? = some (.int .i64 (n.kid k)) := by
  have := rkid_cell n k hk
  simpa [rArr] using this
set_option maxRecDepth 100000 in
set_option maxHeartbeats 4000000 in
theorem stand_any {W : World} {A : Option Addr} (cap : Nat) (l : List Rec) (hl0 : 0 < l.length) (hl : RdAt A l W) (hln : l.length ≤ 1000) (gap : Nat) (hgap : gap ≤ 1000) (more : Nat) (hmore : more ≤ 1000) (hc : Kd.C k41 W A l.length l) (hcap : l.length ≤ cap)
    (hgt nd : Nat) (hnd : nd ≤ 8) (hhg : hgt = min 8 (nd + more)) (hg1 : 1 ≤ hgt) (hHt : postchaiseref07_Height.f 20 l = some (nd : Int)) (hu : ∀ x ∈ l, 0 ≤ x.f0 ∧ x.f0 < 4294967296) (h1 : Same l hgt) (h2 : Srt l) (hkid : ∀ r ∈ build hgt 0 l, ∀ k, k < 16 → r.kid k ≤ 1000000) :
    Calls Try.prog 7 #[.slice A l.length cap, .int .i64 (gap : Int), .int .i64 (more : Int)] W fun e w' => ∃ A' c', e = .returned (.tuple #[.slice A' (shelf gap (build hgt 0 l)).length c', .agg #[.int .i64 (gap : Int), .int .i64 (hgt : Int)]]) ∧ Hd (ShAt A' (shelf gap (build hgt 0 l)) w' ∧ Below W.heap.size W w') := by
  obtain ⟨ga, oa, rfl, hga, hca⟩ := hl.cell hl0
  have HRd := Hd.mk hl
  have HHt : Hd (∀ X, Below W.heap.size W X → Calls Try.prog 23 #[.slice (some ⟨ga, oa, none⟩) l.length cap] X fun e w' => e = .returned (.int .i64 (nd : Int)) ∧ Below X.heap.size X w') := ⟨fun X hX => (postchaiseref07_Height.calls 20 _ cap l _ X (Kd.C_below hc hX) hcap hHt).mono fun e w' ⟨k1, k2⟩ => ⟨k1, k2.below⟩⟩
  have hlen := build_len hgt 0 l (List.length_pos_iff.1 hl0)
  have hlen2 : (build hgt 0 l).length ≤ 9000 := by
    have : (hgt + 1) * l.length ≤ 9 * l.length := Nat.mul_le_mul_right _ (by omega)
    omega
  have HBd : Hd (∀ X, Below W.heap.size W X → Calls Try.prog 24 #[.slice none 0 0, .slice (some ⟨ga, oa, none⟩) l.length cap, .int .i64 ((hgt : Int) - 1)] X (BuildPost X.heap.size (.slice none 0 0) [] (build hgt 0 l) X)) := ⟨fun X hX =>
    build_any hgt (by omega) (v := .slice none 0 0) (nodes := []) (base := X.heap.size) ⟨rfl, .inl ⟨rfl, rfl⟩⟩ (Nat.le_refl _) cap l hl0 (hl.on hX) (by omega) (by have : (hgt + 1) * l.length ≤ 9 * l.length := Nat.mul_le_mul_right _ (by omega); simp; omega) (fun g o _ => by simp [Value.ownBlock]) hu h1 h2⟩
  have hB0 : 0 < (build hgt 0 l).length := by cases hgt <;> simp [build]
  obtain ⟨B, hB⟩ : ∃ B, build hgt 0 l = B := ⟨_, rfl⟩
  rw [hB] at HBd hlen2 hB0 hkid
  have HKd := Hd.mk hkid
  clear hkid
  simp only [hB]
  obtain ⟨i0, hi, hz0, hz1, hz2⟩ := inf_parts info60b
  have hlb : ((l.length : Int) == 0) = false := beq_eq_false_iff_ne.2 (by omega)
  have hlb2 : (l.length == 0) = false := beq_eq_false_iff_ne.2 (by omega)
  obtain ⟨L, hL⟩ : ∃ L, l.length = L := ⟨_, rfl⟩
  rw [hL] at HHt HBd hlb hlb2 hl0
  simp only [hL]
  have HLn := Hd.mk hL
  have hsp : (hgt = 8 ∧ (8 : Int) ≤ (nd : Int) + (more : Int)) ∨ ((nd : Int) + (more : Int) = (hgt : Int) ∧ (hgt : Int) < 8) := by omega
  have hwm : IntKind.i64.wrap ((nd : Int) + (more : Int)) = (nd : Int) + (more : Int) := by rw [IntKind.wrap_i64]; omega
  clear hc hHt hu h1 h2 hlen hB hca hl hL hln hcap hhg
  have HW0 : Hd (Below W.heap.size W (W.alloc (.cells #[.int .i64 0, .int .i64 0] 27))) := ⟨below_alloc (Below.refl _ _) _⟩
  rcases hsp with ⟨rfl, hs8⟩ | ⟨hs8, hs9⟩
  · rw [show ((8 : Nat) : Int) - 1 = 7 from rfl] at HBd
    go_enter Try.func7, Try.ntmps7
    go_wp2_with (first
      | (go_at_call 23; have hx := HHt.out (W.alloc (.cells #[.int .i64 0, .int .i64 0] 27)) HW0.out; (with_reducible refine hx.mono ?_); clear hx; rintro e w1 ⟨rfl, hB1⟩; have HB1 := Hd.mk hB1; clear hB1))
    have HW1 : Hd (Below W.heap.size W w1) := ⟨HW0.out.trans (HB1.out.mono (by simp))⟩
    have HT1 : Hd (w1.heap[W.heap.size]? = some (.cells #[.int .i64 0, .int .i64 0] 27 (0, 0))) := ⟨(HB1.out.block W.heap.size (by simp)).trans (heap_alloc_new W _)⟩
    clear HB1 HW0 HHt
    go_loopw [9, 10] (fun p r wr => ∃ i : Nat, i ≤ gap ∧ r = .int .i64 (i : Int) ∧ Hd (GAt w1 i p wr)) (fun _ r _ => gap - (intOf r).toNat)
    case atStart => exact ⟨0, Nat.zero_le _, rfl, ⟨⟨rfl, .inl ⟨rfl, rfl⟩⟩, Below.refl _ _⟩⟩
    case round =>
      obtain ⟨i, hi2, rfl, HG⟩ := hrel
      obtain ⟨Ap, capp, hp, hcp⟩ := row_form HG.out.row
      subst hp
      by_cases hlt : i < gap
      · have b0 : (i : Int) < (gap : Int) := by omega
        go_wp2_with (first
          | ((with_reducible refine gate_bs rfl ?_); refine wp_bs60 rfl _ rfl Nd.zero rfl ?_)
          | (at_builtin; (
             refine wpList_append_own _ rfl _ _ 25 rfl w1.heap.size 60 i0 _ 26 200 Try.underlying25 hi hz0 hz1 hz2 rfl (by decide) (.slice Ap i capp) i (rown (List.replicate i Nd.zero)) rfl (own_grown HG.out.row (grown_of (below_alloc (Below.refl _ _) _) none) (fun _ _ => by simp)) ⟨wr.heap.size, 0, none⟩ 1 1 (ncells Nd.zero) rfl rfl (World.news_of_block (cs := nArr Nd.zero) (t := 60) (fr := (0, 0)) (heap_alloc_new wr _)) (ncells_one _) (by unfold maxLen; omega) (by omega) (by have := HG.out.below.size; simp; omega) ?_
             intro v3 w3 hown3 hg3 hnil3
             have HS := Hd.mk (HG.out.step hown3 hg3)
             clear hown3 hg3 hnil3)))
        go_roundw
        case rel => exact ⟨i + 1, by omega, by go_num, HS⟩
        case measure => first | (simp [intOf]; done) | (simp [intOf]; omega)
      · obtain rfl : i = gap := by omega
        have HWr := Hd.mk (HW1.out.trans (HG.out.below.mono HW1.out.size))
        have HX := Hd.mk (HBd.out wr HWr.out)
        go_wp2_with (first
          | (go_at_call 24; have hx := HX.out; (with_reducible refine hx.mono ?_); clear hx; rintro e w4 ⟨v4, rfl, HZ⟩))
        obtain ⟨g4, c4, hv4⟩ : ∃ g4 c4, v4 = .slice (some ⟨g4, 0, none⟩) B.length c4 := by
          rcases HZ.out.1.2 with ⟨_, h0⟩ | ⟨g, c, cur, e, _⟩
          · rw [List.nil_append] at h0; omega
          · rw [List.nil_append] at e; exact ⟨g, c, e⟩
        subst hv4
        have H0 : Hd (SAt w1 wr.heap.size i g4 c4 B 0 (.slice Ap i capp) w4) := ⟨by
          have hr := HG.out.row
          have hb : Below wr.heap.size wr w4 := ⟨HZ.out.2.1.os, HZ.out.2.1.tape, HZ.out.2.1.output, HZ.out.2.1.size, fun k hk => HZ.out.2.1.block k hk (by simp [Value.ownBlock])⟩
          refine ⟨?_, ?_, HG.out.below.trans (hb.mono HG.out.below.size)⟩
          · have := own_grown hr (grown_of hb none) (fun _ _ => by simp)
            simpa [shelf] using this
          · have := HZ.out.1
            rwa [List.nil_append] at this⟩
        obtain ⟨b71, hb71⟩ : ∃ b, wr.heap.size = b := ⟨_, rfl⟩
        rw [hb71] at H0
        obtain ⟨mB, hmB⟩ : ∃ m, B.length = m := ⟨_, rfl⟩
        have HMB := Hd.mk hmB
        simp only [hmB]
        rw [hmB] at hlen2
        clear hb71 hmB HZ HG HX hcp
        go_loopw [9, 13] (fun p r wx => ∃ q : Nat, q ≤ mB ∧ r = .int .i64 (q : Int) ∧ Hd (SAt w1 b71 i g4 c4 B q p wx)) (fun _ r _ => mB - (intOf r).toNat)
        case atStart => exact ⟨0, Nat.zero_le _, rfl, H0⟩
        case round =>
          clear H0
          obtain ⟨q, hq, rfl, HS⟩ := hrel
          obtain ⟨Aq, capq, hpq, hcq⟩ := row_form HS.out.row
          subst hpq
          by_cases hlt : q < mB
          · have HqB : Hd (q < B.length) := ⟨by rw [HMB.out]; exact hlt⟩
            have hget := rowc_get B q HqB.out
            have hsc : ∀ j, j < 21 → wr.cell? ⟨g4, q * 21 + j, none⟩ = (rcells (B[q]'HqB.out))[j]? := fun j hj => (HS.out.src.cellAt (q * 21 + j) (by have := HqB.out; omega)).trans (hget j hj)
            have s0 : wr.cell? ⟨g4, q * 21, none⟩ = some (.bool (B[q]'HqB.out).leaf) := hsc 0 (by decide)
            have s1 : wr.cell? ⟨g4, q * 21 + 1, none⟩ = some (.int .i64 (B[q]'HqB.out).cnt) := hsc 1 (by decide)
            have s18 : wr.cell? ⟨g4, q * 21 + 18, none⟩ = some (.int .u32 (B[q]'HqB.out).rc.f0) := hsc 18 (by decide)
            have s19 : wr.cell? ⟨g4, q * 21 + 19, none⟩ = some (.int .u8 (B[q]'HqB.out).rc.f1) := hsc 19 (by decide)
            have s20 : wr.cell? ⟨g4, q * 21 + 20, none⟩ = some (.string (B[q]'HqB.out).rc.f2) := hsc 20 (by decide)
            have hg4 : g4 < wr.heap.size := own_lt HS.out.src g4 rfl
            have b0 : (0 : Int) ≤ (q : Int) := by omega
            have b1 : (q : Int) < (mB : Int) := by omega
            have HSc := Hd.mk hsc
            have HRq := Hd.mk HS.out.row
            obtain ⟨rn, hrn⟩ : ∃ rn, B[q]'HqB.out = rn := ⟨_, rfl⟩
            have HRn := Hd.mk hrn
            rw [hrn] at s0 s1 s18 s19 s20 HSc
            clear hget hsc hrn
            have HOwn : Hd (∀ X : World, Calls Try.prog 25 #[.agg #[.int .u32 rn.rc.f0, .int .u8 rn.rc.f1, .string rn.rc.f2]] X fun e w' => e = .returned (.agg #[.int .u32 rn.rc.f0, .int .u8 rn.rc.f1, .string rn.rc.f2]) ∧ Below X.heap.size X w') := ⟨fun X => postchaiselaw07_Own.calls _ _ _ _ _ _ X rfl⟩
            by_cases hlf : rn.leaf = true
            · rw [hlf] at s0
              have HCv := Hd.mk (show conv i rn = ⟨2, 0, fun _ => 0, rn.rc⟩ by unfold conv; rw [if_pos hlf])
              clear hlf
              go_upto_region 16 with (first
                | ((with_reducible refine gate_store (t := 60) rfl ?_); (first | (refine wp_st60 rfl _ _ rfl _ (nArr ⟨1, rn.cnt, fun _ => 0, rc0⟩) rfl rfl rfl (narr_size _) (narr_one _) ?_) | (refine wp_put60 rfl _ _ rfl wr.heap.size (nArr ⟨1, rn.cnt, fun _ => 0, rc0⟩) (nArr ⟨2, 0, fun _ => 0, rn.rc⟩) HN5.out rfl rfl (narr_size _) (narr_size _) (narr_one _) ?_; intro w6 hn6 ht6; have HN6 := Hd.mk hn6; have HT6 := Hd.mk ht6; clear hn6 ht6)))
                | (go_at_call 25; have hx := HOwn.out (wr.alloc (.cells (nArr ⟨1, rn.cnt, fun _ => 0, rc0⟩) 60)); (with_reducible refine hx.mono ?_); clear hx; rintro e w5 ⟨rfl, hB5⟩; have HB5 := Hd.mk hB5; clear hB5; have HN5 := Hd.mk ((HB5.out.block wr.heap.size (by simp)).trans (heap_alloc_new wr _))))
              have HW6 := Hd.mk (((below_alloc (Below.refl wr.heap.size wr) (.cells (nArr ⟨1, rn.cnt, fun _ => 0, rc0⟩) 60)).trans (HB5.out.mono (by simp))).trans (HT6.out.below (by have := HB5.out.size; simp at this; omega) (fun k hk e => by omega)))
              have c0 : w6.cell? ⟨g4, q * 21, none⟩ = some (.bool true) := (HW6.out.cell (p := ⟨g4, q * 21, none⟩) hg4).trans s0
              have HYb := Hd.mk (below_alloc HW6.out (.cells (nArr ⟨2, 0, fun _ => 0, rn.rc⟩) 60))
              have hbn : wr.heap.size < w6.heap.size := (Array.getElem?_eq_some_iff.1 HN6.out).1
              obtain ⟨wo, hwo⟩ : ∃ wo, wr = wo := ⟨_, rfl⟩
              rw [hwo] at HS HRq HW6 HYb HN6 hbn
              simp only [hwo]
              clear hwo s0 s1 s18 s19 s20 HT6 HB5 HN5 hg4 HSc
              go_wp2
              go_loopw [15] (fun r wz => r = .int .i64 0 ∧ wz = w6) (fun r _ => 16 - (intOf r).toNat)
              case atStart => exact ⟨rfl, rfl⟩
              case round =>
                obtain ⟨rfl, rfl⟩ := hrel
                go_wp2_with (first
                  | ((with_reducible refine gate_load (t := 60) rfl ?_); (refine wp_ld60 rfl _ rfl wo.heap.size 0 (nArr ⟨2, 0, fun _ => 0, rn.rc⟩) rfl (narr_size _) (fun j u hu => by rw [Nat.zero_add]; exact nd_cells HN6.out j u (by simpa [nArr] using hu)) ?_))
                  | ((with_reducible refine gate_bs rfl ?_); (refine wp_bs60 rfl _ rfl ⟨2, 0, fun _ => 0, rn.rc⟩ rfl ?_))
                  | (at_builtin; (
                     refine wpList_append_own _ rfl _ _ 25 rfl w1.heap.size 60 i0 _ 26 200 Try.underlying25 hi hz0 hz1 hz2 rfl (by decide) (.slice Aq (i + q) capq) (i + q) (rown (shelf i (B.take q))) rfl (own_grown HRq.out (grown_of HYb.out none) (fun _ _ => by simp)) ⟨wr.heap.size, 0, none⟩ 1 1 (ncells ⟨2, 0, fun _ => 0, rn.rc⟩) rfl rfl (World.news_of_block (cs := nArr ⟨2, 0, fun _ => 0, rn.rc⟩) (t := 60) (fr := (0, 0)) (heap_alloc_new wr _)) (ncells_one _) (by unfold maxLen; omega) (by omega) (by have := HS.out.below.size; have := HYb.out.size; simp at this ⊢; omega) ?_
                     intro v8 w8 hown8 hg8 hnil8
                     rw [← HCv.out, ← HRn.out] at hown8
                     have HS8 := Hd.mk (HS.out.step HqB.out HYb.out hown8 hg8)
                     clear hown8 hg8 hnil8)))
                go_roundw
                case rel => exact ⟨q + 1, by omega, by go_num, HS8⟩
                case measure => first | (simp [intOf]; done) | (simp [intOf]; omega)
            · have hlf0 : rn.leaf = false := by cases h : rn.leaf with | true => exact absurd h hlf | false => rfl
              rw [hlf0] at s0
              have HCv := Hd.mk (show conv i rn = ⟨1, rn.cnt, fun k => if 0 ≤ rn.kid k then rn.kid k + i else rn.kid k, rc0⟩ by unfold conv; rw [if_neg (by rw [hlf0]; simp)])
              have HKr : Hd (∀ k, k < 16 → rn.kid k ≤ 1000000) := ⟨HKd.out rn (by rw [← HRn.out]; exact List.getElem_mem _)⟩
              obtain ⟨ck, hck⟩ : ∃ ck : Nat → Int, (fun k => if 0 ≤ rn.kid k then rn.kid k + (i : Int) else rn.kid k) = ck := ⟨_, rfl⟩
              rw [hck] at HCv
              have HCk := Hd.mk (fun k => (show (if 0 ≤ rn.kid k then rn.kid k + (i : Int) else rn.kid k) = ck k from congrFun hck k))
              clear hlf hlf0 hck
              go_upto_region 16 with (first
                | ((with_reducible refine gate_store (t := 60) rfl ?_); (refine wp_st60 rfl _ _ rfl _ (nArr ⟨1, rn.cnt, fun _ => 0, rc0⟩) rfl rfl rfl (narr_size _) (narr_one _) ?_)))
              have HN6 : Hd ((wr.alloc (.cells (nArr ⟨1, rn.cnt, fun _ => 0, rc0⟩) 60)).heap[wr.heap.size]? = some (.cells (nArr ⟨1, rn.cnt, kidTo ck 0, rc0⟩) 60 (0, 0))) := ⟨heap_alloc_new wr _⟩
              have HW6 := Hd.mk (below_alloc (Below.refl wr.heap.size wr) (.cells (nArr ⟨1, rn.cnt, fun _ => 0, rc0⟩) 60))
              obtain ⟨w6, hw6⟩ : ∃ w6, wr.alloc (.cells (nArr ⟨1, rn.cnt, fun _ => 0, rc0⟩) 60) = w6 := ⟨_, rfl⟩
              rw [hw6] at HN6 HW6
              simp only [hw6]
              obtain ⟨wo, hwo⟩ : ∃ wo, wr = wo := ⟨_, rfl⟩
              have HC0 : Hd (∀ X, Below wo.heap.size wo X → X.cell? ⟨g4, q * 21, none⟩ = some (.bool false) ∧ ∀ k, k < 16 → X.cell? ⟨g4, q * 21 + 2 + k, none⟩ = some (.int .i64 (rn.kid k))) := ⟨fun X hX => by
                rw [← hwo] at hX
                exact ⟨(hX.cell (p := ⟨g4, q * 21, none⟩) hg4).trans s0, fun k hk => by
                  rw [Nat.add_assoc]
                  exact (hX.cell (p := ⟨g4, q * 21 + (2 + k), none⟩) hg4).trans ((HSc.out (2 + k) (by omega)).trans (rcells_kid rn k hk))⟩⟩
              rw [hwo] at HS HRq HW6 HN6
              simp only [hwo]
              clear hwo hw6 s0 s1 s18 s19 s20 hg4 HSc
              go_wp2
              go_loopw [15] (fun r wz => ∃ k : Nat, k ≤ 16 ∧ r = .int .i64 (k : Int) ∧ Hd (wz.heap[wo.heap.size]? = some (.cells (nArr ⟨1, rn.cnt, kidTo ck k, rc0⟩) 60 (0, 0))) ∧ Hd (Below wo.heap.size wo wz)) (fun r _ => 16 - (intOf r).toNat)
              case atStart => exact ⟨0, Nat.zero_le _, rfl, HN6, HW6⟩
              case round =>
                obtain ⟨k, hk, rfl, HNz, HBz⟩ := hrel
                obtain ⟨c0, cks⟩ := HC0.out wr HBz.out
                by_cases hk16 : k < 16
                · have k0 : (0 : Int) ≤ (k : Int) := by omega
                  have k1 : (k : Int) < 16 := by omega
                  have ckk := cks k hk16
                  obtain ⟨n0c, n0f⟩ := nkid_facts HNz.out k hk16
                  have hbound := HKr.out k hk16
                  have hcke := HCk.out k
                  clear cks
                  by_cases hneg : 0 ≤ rn.kid k
                  · rw [if_pos hneg] at hcke
                    have qn : decide (0 ≤ rn.kid k) = true := decide_eq_true hneg
                    have hwk : IntKind.i64.wrap (rn.kid k + (i : Int)) = rn.kid k + (i : Int) := by rw [IntKind.wrap_i64]; omega
                    have HE := Hd.mk hcke
                    clear hcke hbound hneg
                    go_wp2
                    go_roundw
                    case rel =>
                      refine ⟨k + 1, by omega, by go_num, ⟨?_⟩, ⟨(HBz.out.setCell (p := ⟨wo.heap.size, 2 + k, none⟩) (Nat.le_refl _) _).setCell (p := ⟨wo.heap.size, 2 + k, none⟩) (Nat.le_refl _) _⟩⟩
                      have := nkid_set (nkid_set HNz.out k hk16 (rn.kid k)) k hk16 (rn.kid k + (i : Int))
                      dsimp only at this
                      rw [upd_upd, HE.out, kidTo_step] at this
                      rw [← HE.out] at this
                      exact this
                    case measure => first | (simp [intOf]; done) | (simp [intOf]; omega)
                  · rw [if_neg hneg] at hcke
                    have qn : decide (0 ≤ rn.kid k) = false := decide_eq_false hneg
                    have HE := Hd.mk hcke
                    clear hcke hbound hneg
                    go_wp2
                    go_roundw
                    case rel =>
                      refine ⟨k + 1, by omega, by go_num, ⟨?_⟩, ⟨HBz.out.setCell (p := ⟨wo.heap.size, 2 + k, none⟩) (Nat.le_refl _) _⟩⟩
                      have := nkid_set HNz.out k hk16 (rn.kid k)
                      dsimp only at this
                      rw [HE.out, kidTo_step] at this
                      rw [← HE.out] at this
                      exact this
                    case measure => first | (simp [intOf]; done) | (simp [intOf]; omega)
                · obtain rfl : k = 16 := by omega
                  have HNc : Hd (wr.heap[wo.heap.size]? = some (.cells (nArr (conv i rn)) 60 (0, 0))) := ⟨by
                    rw [narr_congr (conv i rn) ⟨1, rn.cnt, kidTo ck 16, rc0⟩ (by rw [HCv.out]) (by rw [HCv.out]) (by rw [HCv.out]) (fun j hj => by rw [HCv.out]; unfold kidTo; dsimp only; rw [if_pos hj])]
                    exact HNz.out⟩
                  have HYb := Hd.mk (below_alloc HBz.out (.cells (nArr (conv i rn)) 60))
                  have hbz := HBz.out.size
                  clear cks
                  go_wp2_with (first
                    | ((with_reducible refine gate_load (t := 60) rfl ?_); (refine wp_ld60 rfl _ rfl wo.heap.size 0 (nArr (conv i rn)) rfl (narr_size _) (fun j u hu => by rw [Nat.zero_add]; exact nd_cells HNc.out j u (by simpa [nArr] using hu)) ?_))
                    | ((with_reducible refine gate_bs rfl ?_); (refine wp_bs60 rfl _ rfl (conv i rn) rfl ?_))
                    | (at_builtin; (
                       refine wpList_append_own _ rfl _ _ 25 rfl w1.heap.size 60 i0 _ 26 200 Try.underlying25 hi hz0 hz1 hz2 rfl (by decide) (.slice Aq (i + q) capq) (i + q) (rown (shelf i (B.take q))) rfl (own_grown HRq.out (grown_of HYb.out none) (fun _ _ => by simp)) ⟨wr.heap.size, 0, none⟩ 1 1 (ncells (conv i rn)) rfl rfl (World.news_of_block (cs := nArr (conv i rn)) (t := 60) (fr := (0, 0)) (heap_alloc_new wr _)) (ncells_one _) (by unfold maxLen; omega) (by omega) (by have := HS.out.below.size; have := HYb.out.size; simp at this ⊢; omega) ?_
                       intro v8 w8 hown8 hg8 hnil8
                       rw [← HRn.out] at hown8
                       have HS8 := Hd.mk (HS.out.step HqB.out HYb.out hown8 (by rw [← HRn.out] at hg8; rw [← HRn.out]; exact hg8))
                       clear hown8 hg8 hnil8)))
                  go_roundw
                  case rel => exact ⟨q + 1, by omega, by go_num, HS8⟩
                  case measure => first | (simp [intOf]; done) | (simp [intOf]; omega)
          · obtain rfl : q = mB := by omega
            have HTw := Hd.mk ((HS.out.below.block W.heap.size (Array.getElem?_eq_some_iff.1 HT1.out).1).trans HT1.out)
            have t0 : wr.cell? ⟨W.heap.size, 0, none⟩ = some (.int .i64 0) := (blk_cell HTw.out 0).trans rfl
            have t1 : wr.cell? ⟨W.heap.size, 1, none⟩ = some (.int .i64 0) := (blk_cell HTw.out 1).trans rfl
            have f0 : wr.frozen? ⟨W.heap.size, 0, none⟩ = false := by simp [World.frozen?, HTw.out]
            have f1 : wr.frozen? ⟨W.heap.size, 1, none⟩ = false := by simp [World.frozen?, HTw.out]
            go_wp2
            have hfin : ((wr.setCell ⟨W.heap.size, 0, none⟩ (.int .i64 (i : Int))).setCell ⟨W.heap.size, 1, none⟩ (.int .i64 (8 : Int))).heap[W.heap.size]? = some (.cells #[.int .i64 (i : Int), .int .i64 (8 : Int)] 27 (0, 0)) := by
              rw [blk_set (blk_set HTw.out 0 (.int .i64 (i : Int))) 1 (.int .i64 (8 : Int))]
              rfl
            refine bodyPost_ret (res_stand rfl _ _ W.heap.size i 8 (.slice Aq (i + q) capq) rfl rfl hfin) rfl ?_
            have hBq : B.take q = B := by rw [← HMB.out, List.take_length]
            have hlenS : i + q = (shelf i B).length := by unfold shelf; rw [List.length_append, List.length_replicate, List.length_map, HMB.out]
            have hrow := HS.out.row
            rw [hBq] at hrow
            have hWs : W.heap.size < w1.heap.size := (Array.getElem?_eq_some_iff.1 HT1.out).1
            have hr2 := own_grown (own_grown hrow (set_grown wr W.heap.size 0 (.int .i64 (i : Int))) (fun k hk e => by injection e with e; have := own_base hrow k hk; omega)) (set_grown _ W.heap.size 1 (.int .i64 (8 : Int))) (fun k hk e => by injection e with e; have := own_base hrow k hk; omega)
            have hsh := own_shelf hr2 hlenS
            rw [hlenS]
            exact ⟨Aq, capq, rfl, ⟨hsh, ((HW1.out.trans (HS.out.below.mono HW1.out.size)).setCell (p := ⟨W.heap.size, 0, none⟩) (Nat.le_refl _) _).setCell (p := ⟨W.heap.size, 1, none⟩) (Nat.le_refl _) _⟩⟩
  · go_enter Try.func7, Try.ntmps7
    go_wp2_with (first
      | (go_at_call 23; have hx := HHt.out (W.alloc (.cells #[.int .i64 0, .int .i64 0] 27)) HW0.out; (with_reducible refine hx.mono ?_); clear hx; rintro e w1 ⟨rfl, hB1⟩; have HB1 := Hd.mk hB1; clear hB1))
    have HW1 : Hd (Below W.heap.size W w1) := ⟨HW0.out.trans (HB1.out.mono (by simp))⟩
    have HT1 : Hd (w1.heap[W.heap.size]? = some (.cells #[.int .i64 0, .int .i64 0] 27 (0, 0))) := ⟨(HB1.out.block W.heap.size (by simp)).trans (heap_alloc_new W _)⟩
    clear HB1 HW0 HHt
    go_loopw [9, 10] (fun p r wr => ∃ i : Nat, i ≤ gap ∧ r = .int .i64 (i : Int) ∧ Hd (GAt w1 i p wr)) (fun _ r _ => gap - (intOf r).toNat)
    case atStart => exact ⟨0, Nat.zero_le _, rfl, ⟨⟨rfl, .inl ⟨rfl, rfl⟩⟩, Below.refl _ _⟩⟩
    case round =>
      obtain ⟨i, hi2, rfl, HG⟩ := hrel
      obtain ⟨Ap, capp, hp, hcp⟩ := row_form HG.out.row
      subst hp
      by_cases hlt : i < gap
      · have b0 : (i : Int) < (gap : Int) := by omega
        go_wp2_with (first
          | ((with_reducible refine gate_bs rfl ?_); refine wp_bs60 rfl _ rfl Nd.zero rfl ?_)
          | (at_builtin; (
             refine wpList_append_own _ rfl _ _ 25 rfl w1.heap.size 60 i0 _ 26 200 Try.underlying25 hi hz0 hz1 hz2 rfl (by decide) (.slice Ap i capp) i (rown (List.replicate i Nd.zero)) rfl (own_grown HG.out.row (grown_of (below_alloc (Below.refl _ _) _) none) (fun _ _ => by simp)) ⟨wr.heap.size, 0, none⟩ 1 1 (ncells Nd.zero) rfl rfl (World.news_of_block (cs := nArr Nd.zero) (t := 60) (fr := (0, 0)) (heap_alloc_new wr _)) (ncells_one _) (by unfold maxLen; omega) (by omega) (by have := HG.out.below.size; simp; omega) ?_
             intro v3 w3 hown3 hg3 hnil3
             have HS := Hd.mk (HG.out.step hown3 hg3)
             clear hown3 hg3 hnil3)))
        go_roundw
        case rel => exact ⟨i + 1, by omega, by go_num, HS⟩
        case measure => first | (simp [intOf]; done) | (simp [intOf]; omega)
      · obtain rfl : i = gap := by omega
        have HWr := Hd.mk (HW1.out.trans (HG.out.below.mono HW1.out.size))
        have HX := Hd.mk (HBd.out wr HWr.out)
        go_wp2_with (first
          | (go_at_call 24; have hx := HX.out; (with_reducible refine hx.mono ?_); clear hx; rintro e w4 ⟨v4, rfl, HZ⟩))
        obtain ⟨g4, c4, hv4⟩ : ∃ g4 c4, v4 = .slice (some ⟨g4, 0, none⟩) B.length c4 := by
          rcases HZ.out.1.2 with ⟨_, h0⟩ | ⟨g, c, cur, e, _⟩
          · rw [List.nil_append] at h0; omega
          · rw [List.nil_append] at e; exact ⟨g, c, e⟩
        subst hv4
        have H0 : Hd (SAt w1 wr.heap.size i g4 c4 B 0 (.slice Ap i capp) w4) := ⟨by
          have hr := HG.out.row
          have hb : Below wr.heap.size wr w4 := ⟨HZ.out.2.1.os, HZ.out.2.1.tape, HZ.out.2.1.output, HZ.out.2.1.size, fun k hk => HZ.out.2.1.block k hk (by simp [Value.ownBlock])⟩
          refine ⟨?_, ?_, HG.out.below.trans (hb.mono HG.out.below.size)⟩
          · have := own_grown hr (grown_of hb none) (fun _ _ => by simp)
            simpa [shelf] using this
          · have := HZ.out.1
            rwa [List.nil_append] at this⟩
        obtain ⟨b71, hb71⟩ : ∃ b, wr.heap.size = b := ⟨_, rfl⟩
        rw [hb71] at H0
        obtain ⟨mB, hmB⟩ : ∃ m, B.length = m := ⟨_, rfl⟩
        have HMB := Hd.mk hmB
        simp only [hmB]
        rw [hmB] at hlen2
        clear hb71 hmB HZ HG HX hcp
        go_loopw [9, 13] (fun p r wx => ∃ q : Nat, q ≤ mB ∧ r = .int .i64 (q : Int) ∧ Hd (SAt w1 b71 i g4 c4 B q p wx)) (fun _ r _ => mB - (intOf r).toNat)
        case atStart => exact ⟨0, Nat.zero_le _, rfl, H0⟩
        case round =>
          clear H0
          obtain ⟨q, hq, rfl, HS⟩ := hrel
          obtain ⟨Aq, capq, hpq, hcq⟩ := row_form HS.out.row
          subst hpq
          by_cases hlt : q < mB
          · have HqB : Hd (q < B.length) := ⟨by rw [HMB.out]; exact hlt⟩
            have hget := rowc_get B q HqB.out
            have hsc : ∀ j, j < 21 → wr.cell? ⟨g4, q * 21 + j, none⟩ = (rcells (B[q]'HqB.out))[j]? := fun j hj => (HS.out.src.cellAt (q * 21 + j) (by have := HqB.out; omega)).trans (hget j hj)
            have s0 : wr.cell? ⟨g4, q * 21, none⟩ = some (.bool (B[q]'HqB.out).leaf) := hsc 0 (by decide)
            have s1 : wr.cell? ⟨g4, q * 21 + 1, none⟩ = some (.int .i64 (B[q]'HqB.out).cnt) := hsc 1 (by decide)
            have s18 : wr.cell? ⟨g4, q * 21 + 18, none⟩ = some (.int .u32 (B[q]'HqB.out).rc.f0) := hsc 18 (by decide)
            have s19 : wr.cell? ⟨g4, q * 21 + 19, none⟩ = some (.int .u8 (B[q]'HqB.out).rc.f1) := hsc 19 (by decide)
            have s20 : wr.cell? ⟨g4, q * 21 + 20, none⟩ = some (.string (B[q]'HqB.out).rc.f2) := hsc 20 (by decide)
            have hg4 : g4 < wr.heap.size := own_lt HS.out.src g4 rfl
            have b0 : (0 : Int) ≤ (q : Int) := by omega
            have b1 : (q : Int) < (mB : Int) := by omega
            have HSc := Hd.mk hsc
            have HRq := Hd.mk HS.out.row
            obtain ⟨rn, hrn⟩ : ∃ rn, B[q]'HqB.out = rn := ⟨_, rfl⟩
            have HRn := Hd.mk hrn
            rw [hrn] at s0 s1 s18 s19 s20 HSc
            clear hget hsc hrn
            have HOwn : Hd (∀ X : World, Calls Try.prog 25 #[.agg #[.int .u32 rn.rc.f0, .int .u8 rn.rc.f1, .string rn.rc.f2]] X fun e w' => e = .returned (.agg #[.int .u32 rn.rc.f0, .int .u8 rn.rc.f1, .string rn.rc.f2]) ∧ Below X.heap.size X w') := ⟨fun X => postchaiselaw07_Own.calls _ _ _ _ _ _ X rfl⟩
            by_cases hlf : rn.leaf = true
            · rw [hlf] at s0
              have HCv := Hd.mk (show conv i rn = ⟨2, 0, fun _ => 0, rn.rc⟩ by unfold conv; rw [if_pos hlf])
              clear hlf
              go_upto_region 16 with (first
                | ((with_reducible refine gate_store (t := 60) rfl ?_); (first | (refine wp_st60 rfl _ _ rfl _ (nArr ⟨1, rn.cnt, fun _ => 0, rc0⟩) rfl rfl rfl (narr_size _) (narr_one _) ?_) | (refine wp_put60 rfl _ _ rfl wr.heap.size (nArr ⟨1, rn.cnt, fun _ => 0, rc0⟩) (nArr ⟨2, 0, fun _ => 0, rn.rc⟩) HN5.out rfl rfl (narr_size _) (narr_size _) (narr_one _) ?_; intro w6 hn6 ht6; have HN6 := Hd.mk hn6; have HT6 := Hd.mk ht6; clear hn6 ht6)))
                | (go_at_call 25; have hx := HOwn.out (wr.alloc (.cells (nArr ⟨1, rn.cnt, fun _ => 0, rc0⟩) 60)); (with_reducible refine hx.mono ?_); clear hx; rintro e w5 ⟨rfl, hB5⟩; have HB5 := Hd.mk hB5; clear hB5; have HN5 := Hd.mk ((HB5.out.block wr.heap.size (by simp)).trans (heap_alloc_new wr _))))
              have HW6 := Hd.mk (((below_alloc (Below.refl wr.heap.size wr) (.cells (nArr ⟨1, rn.cnt, fun _ => 0, rc0⟩) 60)).trans (HB5.out.mono (by simp))).trans (HT6.out.below (by have := HB5.out.size; simp at this; omega) (fun k hk e => by omega)))
              have c0 : w6.cell? ⟨g4, q * 21, none⟩ = some (.bool true) := (HW6.out.cell (p := ⟨g4, q * 21, none⟩) hg4).trans s0
              have HYb := Hd.mk (below_alloc HW6.out (.cells (nArr ⟨2, 0, fun _ => 0, rn.rc⟩) 60))
              have hbn : wr.heap.size < w6.heap.size := (Array.getElem?_eq_some_iff.1 HN6.out).1
              obtain ⟨wo, hwo⟩ : ∃ wo, wr = wo := ⟨_, rfl⟩
              rw [hwo] at HS HRq HW6 HYb HN6 hbn
              simp only [hwo]
              clear hwo s0 s1 s18 s19 s20 HT6 HB5 HN5 hg4 HSc
              go_wp2
              go_loopw [15] (fun r wz => r = .int .i64 0 ∧ wz = w6) (fun r _ => 16 - (intOf r).toNat)
              case atStart => exact ⟨rfl, rfl⟩
              case round =>
                obtain ⟨rfl, rfl⟩ := hrel
                go_wp2_with (first
                  | ((with_reducible refine gate_load (t := 60) rfl ?_); (refine wp_ld60 rfl _ rfl wo.heap.size 0 (nArr ⟨2, 0, fun _ => 0, rn.rc⟩) rfl (narr_size _) (fun j u hu => by rw [Nat.zero_add]; exact nd_cells HN6.out j u (by simpa [nArr] using hu)) ?_))
                  | ((with_reducible refine gate_bs rfl ?_); (refine wp_bs60 rfl _ rfl ⟨2, 0, fun _ => 0, rn.rc⟩ rfl ?_))
                  | (at_builtin; (
                     refine wpList_append_own _ rfl _ _ 25 rfl w1.heap.size 60 i0 _ 26 200 Try.underlying25 hi hz0 hz1 hz2 rfl (by decide) (.slice Aq (i + q) capq) (i + q) (rown (shelf i (B.take q))) rfl (own_grown HRq.out (grown_of HYb.out none) (fun _ _ => by simp)) ⟨wr.heap.size, 0, none⟩ 1 1 (ncells ⟨2, 0, fun _ => 0, rn.rc⟩) rfl rfl (World.news_of_block (cs := nArr ⟨2, 0, fun _ => 0, rn.rc⟩) (t := 60) (fr := (0, 0)) (heap_alloc_new wr _)) (ncells_one _) (by unfold maxLen; omega) (by omega) (by have := HS.out.below.size; have := HYb.out.size; simp at this ⊢; omega) ?_
                     intro v8 w8 hown8 hg8 hnil8
                     rw [← HCv.out, ← HRn.out] at hown8
                     have HS8 := Hd.mk (HS.out.step HqB.out HYb.out hown8 hg8)
                     clear hown8 hg8 hnil8)))
                go_roundw
                case rel => exact ⟨q + 1, by omega, by go_num, HS8⟩
                case measure => first | (simp [intOf]; done) | (simp [intOf]; omega)
            · have hlf0 : rn.leaf = false := by cases h : rn.leaf with | true => exact absurd h hlf | false => rfl
              rw [hlf0] at s0
              have HCv := Hd.mk (show conv i rn = ⟨1, rn.cnt, fun k => if 0 ≤ rn.kid k then rn.kid k + i else rn.kid k, rc0⟩ by unfold conv; rw [if_neg (by rw [hlf0]; simp)])
              have HKr : Hd (∀ k, k < 16 → rn.kid k ≤ 1000000) := ⟨HKd.out rn (by rw [← HRn.out]; exact List.getElem_mem _)⟩
              obtain ⟨ck, hck⟩ : ∃ ck : Nat → Int, (fun k => if 0 ≤ rn.kid k then rn.kid k + (i : Int) else rn.kid k) = ck := ⟨_, rfl⟩
              rw [hck] at HCv
              have HCk := Hd.mk (fun k => (show (if 0 ≤ rn.kid k then rn.kid k + (i : Int) else rn.kid k) = ck k from congrFun hck k))
              clear hlf hlf0 hck
              go_upto_region 16 with (first
                | ((with_reducible refine gate_store (t := 60) rfl ?_); (refine wp_st60 rfl _ _ rfl _ (nArr ⟨1, rn.cnt, fun _ => 0, rc0⟩) rfl rfl rfl (narr_size _) (narr_one _) ?_)))
              have HN6 : Hd ((wr.alloc (.cells (nArr ⟨1, rn.cnt, fun _ => 0, rc0⟩) 60)).heap[wr.heap.size]? = some (.cells (nArr ⟨1, rn.cnt, kidTo ck 0, rc0⟩) 60 (0, 0))) := ⟨heap_alloc_new wr _⟩
              have HW6 := Hd.mk (below_alloc (Below.refl wr.heap.size wr) (.cells (nArr ⟨1, rn.cnt, fun _ => 0, rc0⟩) 60))
              obtain ⟨w6, hw6⟩ : ∃ w6, wr.alloc (.cells (nArr ⟨1, rn.cnt, fun _ => 0, rc0⟩) 60) = w6 := ⟨_, rfl⟩
              rw [hw6] at HN6 HW6
              simp only [hw6]
              obtain ⟨wo, hwo⟩ : ∃ wo, wr = wo := ⟨_, rfl⟩
              have HC0 : Hd (∀ X, Below wo.heap.size wo X → X.cell? ⟨g4, q * 21, none⟩ = some (.bool false) ∧ ∀ k, k < 16 → X.cell? ⟨g4, q * 21 + 2 + k, none⟩ = some (.int .i64 (rn.kid k))) := ⟨fun X hX => by
                rw [← hwo] at hX
                exact ⟨(hX.cell (p := ⟨g4, q * 21, none⟩) hg4).trans s0, fun k hk => by
                  rw [Nat.add_assoc]
                  exact (hX.cell (p := ⟨g4, q * 21 + (2 + k), none⟩) hg4).trans ((HSc.out (2 + k) (by omega)).trans (rcells_kid rn k hk))⟩⟩
              rw [hwo] at HS HRq HW6 HN6
              simp only [hwo]
              clear hwo hw6 s0 s1 s18 s19 s20 hg4 HSc
              go_wp2
              go_loopw [15] (fun r wz => ∃ k : Nat, k ≤ 16 ∧ r = .int .i64 (k : Int) ∧ Hd (wz.heap[wo.heap.size]? = some (.cells (nArr ⟨1, rn.cnt, kidTo ck k, rc0⟩) 60 (0, 0))) ∧ Hd (Below wo.heap.size wo wz)) (fun r _ => 16 - (intOf r).toNat)
              case atStart => exact ⟨0, Nat.zero_le _, rfl, HN6, HW6⟩
              case round =>
                obtain ⟨k, hk, rfl, HNz, HBz⟩ := hrel
                obtain ⟨c0, cks⟩ := HC0.out wr HBz.out
                by_cases hk16 : k < 16
                · have k0 : (0 : Int) ≤ (k : Int) := by omega
                  have k1 : (k : Int) < 16 := by omega
                  have ckk := cks k hk16
                  obtain ⟨n0c, n0f⟩ := nkid_facts HNz.out k hk16
                  have hbound := HKr.out k hk16
                  have hcke := HCk.out k
                  clear cks
                  by_cases hneg : 0 ≤ rn.kid k
                  · rw [if_pos hneg] at hcke
                    have qn : decide (0 ≤ rn.kid k) = true := decide_eq_true hneg
                    have hwk : IntKind.i64.wrap (rn.kid k + (i : Int)) = rn.kid k + (i : Int) := by rw [IntKind.wrap_i64]; omega
                    have HE := Hd.mk hcke
                    clear hcke hbound hneg
                    go_wp2
                    go_roundw
                    case rel =>
                      refine ⟨k + 1, by omega, by go_num, ⟨?_⟩, ⟨(HBz.out.setCell (p := ⟨wo.heap.size, 2 + k, none⟩) (Nat.le_refl _) _).setCell (p := ⟨wo.heap.size, 2 + k, none⟩) (Nat.le_refl _) _⟩⟩
                      have := nkid_set (nkid_set HNz.out k hk16 (rn.kid k)) k hk16 (rn.kid k + (i : Int))
                      dsimp only at this
                      rw [upd_upd, HE.out, kidTo_step] at this
                      rw [← HE.out] at this
                      exact this
                    case measure => first | (simp [intOf]; done) | (simp [intOf]; omega)
                  · rw [if_neg hneg] at hcke
                    have qn : decide (0 ≤ rn.kid k) = false := decide_eq_false hneg
                    have HE := Hd.mk hcke
                    clear hcke hbound hneg
                    go_wp2
                    go_roundw
                    case rel =>
                      refine ⟨k + 1, by omega, by go_num, ⟨?_⟩, ⟨HBz.out.setCell (p := ⟨wo.heap.size, 2 + k, none⟩) (Nat.le_refl _) _⟩⟩
                      have := nkid_set HNz.out k hk16 (rn.kid k)
                      dsimp only at this
                      rw [HE.out, kidTo_step] at this
                      rw [← HE.out] at this
                      exact this
                    case measure => first | (simp [intOf]; done) | (simp [intOf]; omega)
                · obtain rfl : k = 16 := by omega
                  have HNc : Hd (wr.heap[wo.heap.size]? = some (.cells (nArr (conv i rn)) 60 (0, 0))) := ⟨by
                    rw [narr_congr (conv i rn) ⟨1, rn.cnt, kidTo ck 16, rc0⟩ (by rw [HCv.out]) (by rw [HCv.out]) (by rw [HCv.out]) (fun j hj => by rw [HCv.out]; unfold kidTo; dsimp only; rw [if_pos hj])]
                    exact HNz.out⟩
                  have HYb := Hd.mk (below_alloc HBz.out (.cells (nArr (conv i rn)) 60))
                  have hbz := HBz.out.size
                  clear cks
                  go_wp2_with (first
                    | ((with_reducible refine gate_load (t := 60) rfl ?_); (refine wp_ld60 rfl _ rfl wo.heap.size 0 (nArr (conv i rn)) rfl (narr_size _) (fun j u hu => by rw [Nat.zero_add]; exact nd_cells HNc.out j u (by simpa [nArr] using hu)) ?_))
                    | ((with_reducible refine gate_bs rfl ?_); (refine wp_bs60 rfl _ rfl (conv i rn) rfl ?_))
                    | (at_builtin; (
                       refine wpList_append_own _ rfl _ _ 25 rfl w1.heap.size 60 i0 _ 26 200 Try.underlying25 hi hz0 hz1 hz2 rfl (by decide) (.slice Aq (i + q) capq) (i + q) (rown (shelf i (B.take q))) rfl (own_grown HRq.out (grown_of HYb.out none) (fun _ _ => by simp)) ⟨wr.heap.size, 0, none⟩ 1 1 (ncells (conv i rn)) rfl rfl (World.news_of_block (cs := nArr (conv i rn)) (t := 60) (fr := (0, 0)) (heap_alloc_new wr _)) (ncells_one _) (by unfold maxLen; omega) (by omega) (by have := HS.out.below.size; have := HYb.out.size; simp at this ⊢; omega) ?_
                       intro v8 w8 hown8 hg8 hnil8
                       rw [← HRn.out] at hown8
                       have HS8 := Hd.mk (HS.out.step HqB.out HYb.out hown8 (by rw [← HRn.out] at hg8; rw [← HRn.out]; exact hg8))
                       clear hown8 hg8 hnil8)))
                  go_roundw
                  case rel => exact ⟨q + 1, by omega, by go_num, HS8⟩
                  case measure => first | (simp [intOf]; done) | (simp [intOf]; omega)
          · obtain rfl : q = mB := by omega
            have HTw := Hd.mk ((HS.out.below.block W.heap.size (Array.getElem?_eq_some_iff.1 HT1.out).1).trans HT1.out)
            have t0 : wr.cell? ⟨W.heap.size, 0, none⟩ = some (.int .i64 0) := (blk_cell HTw.out 0).trans rfl
            have t1 : wr.cell? ⟨W.heap.size, 1, none⟩ = some (.int .i64 0) := (blk_cell HTw.out 1).trans rfl
            have f0 : wr.frozen? ⟨W.heap.size, 0, none⟩ = false := by simp [World.frozen?, HTw.out]
            have f1 : wr.frozen? ⟨W.heap.size, 1, none⟩ = false := by simp [World.frozen?, HTw.out]
            go_wp2
            have hfin : ((wr.setCell ⟨W.heap.size, 0, none⟩ (.int .i64 (i : Int))).setCell ⟨W.heap.size, 1, none⟩ (.int .i64 (hgt : Int))).heap[W.heap.size]? = some (.cells #[.int .i64 (i : Int), .int .i64 (hgt : Int)] 27 (0, 0)) := by
              rw [blk_set (blk_set HTw.out 0 (.int .i64 (i : Int))) 1 (.int .i64 (hgt : Int))]
              rfl
            refine bodyPost_ret (res_stand rfl _ _ W.heap.size i hgt (.slice Aq (i + q) capq) rfl rfl hfin) rfl ?_
            have hBq : B.take q = B := by rw [← HMB.out, List.take_length]
            have hlenS : i + q = (shelf i B).length := by unfold shelf; rw [List.length_append, List.length_replicate, List.length_map, HMB.out]
            have hrow := HS.out.row
            rw [hBq] at hrow
            have hWs : W.heap.size < w1.heap.size := (Array.getElem?_eq_some_iff.1 HT1.out).1
            have hr2 := own_grown (own_grown hrow (set_grown wr W.heap.size 0 (.int .i64 (i : Int))) (fun k hk e => by injection e with e; have := own_base hrow k hk; omega)) (set_grown _ W.heap.size 1 (.int .i64 (hgt : Int))) (fun k hk e => by injection e with e; have := own_base hrow k hk; omega)
            have hsh := own_shelf hr2 hlenS
            rw [hlenS]
            exact ⟨Aq, capq, rfl, ⟨hsh, ((HW1.out.trans (HS.out.below.mono HW1.out.size)).setCell (p := ⟨W.heap.size, 0, none⟩) (Nat.le_refl _) _).setCell (p := ⟨W.heap.size, 1, none⟩) (Nat.le_refl _) _⟩⟩
end Go.Proofs.Ytkcnakaneiocjaa.PTr
