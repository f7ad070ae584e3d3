/- The statement FlagsTells: walked. No condition but those that each contract bears. -/
import Derived.Test.YtahbnpkhkhdmaaaDoorFlHas
set_option linter.unusedVariables false
set_option linter.unusedSimpArgs false
namespace Go.Proofs.YtahbnpkhkhdmaaaDoor
open Go.RowKit Go.Shelf PFl Go.Proofs.YtahbnpkhkhdmaaaDoorW.PrintWords Go.Proofs.YtahbnpkhkhdmaaaDoorW.PrintLast Go.Proofs.YtahbnpkhkhdmaaaDoorW.PrintMore
attribute [local go_sem] Oper.semAt_some
theorem namesTo_more {p : Nat → Bool} : ∀ {j k : Nat}, j ≤ k → (namesTo p j).length ≤ (namesTo p k).length ∧ ((namesTo p j).length = (namesTo p k).length → ∀ i, j ≤ i → i < k → p i = false)
  | j, 0, h => by obtain rfl : j = 0 := by omega
                  exact ⟨Nat.le_refl _, fun _ i h1 h2 => absurd h2 (by omega)⟩
  | j, k + 1, h => by
    by_cases e : j = k + 1
    · subst e; exact ⟨Nat.le_refl _, fun _ i h1 h2 => absurd h2 (by omega)⟩
    · obtain ⟨h1, h2⟩ := namesTo_more (p := p) (j := j) (k := k) (by omega)
      have hl : (namesTo p (k + 1)).length = (namesTo p k).length + (if p k then 1 else 0) := by
        show (namesTo p k ++ (if p k then [name5 k] else [])).length = _
        rw [List.length_append]
        split <;> rfl
      refine ⟨by omega, fun he i hi hi2 => ?_⟩
      cases hpk : p k with
      | true => rw [hpk] at hl; simp at hl; omega
      | false =>
        rw [hpk] at hl
        by_cases hik : i = k
        · rw [hik]; exact hpk
        · exact h2 (by simp at hl; omega) i hi (by omega)
/-- Where the names up to j are those up to k, and j's flag is set: k is not past j, and none between is set. -/
theorem namesTo_at {p : Nat → Bool} {j k : Nat} (h : namesTo p k = namesTo p j) (hj : p j = true) : k ≤ j ∧ ∀ i, k ≤ i → i < j → p i = false := by
  have hk : k ≤ j := by
    by_cases hlt : k ≤ j
    · exact hlt
    · have := (namesTo_more (p := p) (j := j) (k := k) (by omega)).2 (by rw [h]) j (Nat.le_refl _) (by omega)
      rw [hj] at this; cases this
  exact ⟨hk, (namesTo_more (p := p) hk).2 (by rw [h])⟩
theorem bit_false {s : Int} (h0 : 0 ≤ s) (h1 : s < 256) {i : Nat} (hi : i < 5) (h : postchaiseref01_Bit.f s (i : Int) = some false) : bitAt s i = false := Option.some.inj ((bit_both h0 h1 hi).2.symm.trans h)
/-- What the statement keeps: the boxed s, its result, the walk's s, the boxed number of the next flag. -/
structure TellAt (s : Int) (w0 : World) (pre : List ByteArray) (k : Nat) (W : World) : Prop where
  below : Below w0.heap.size w0 W
  cs : W.cell? ⟨w0.heap.size, 0, none⟩ = some (.int .u8 s)
  cr : W.cell? ⟨w0.heap.size + 1, 0, none⟩ = some (.bool false)
  cc : W.cell? ⟨w0.heap.size + 1 + 1, 0, none⟩ = some (.int .u8 s)
  ci : W.cell? ⟨w0.heap.size + 1 + 1 + 1, 0, none⟩ = some (.int .i64 k)
  fr : W.frozen? ⟨w0.heap.size + 1, 0, none⟩ = false
  fi : W.frozen? ⟨w0.heap.size + 1 + 1 + 1, 0, none⟩ = false
  k5 : k ≤ 5
  pre : pre = namesTo (bitAt s) k
theorem TellAt.on {s : Int} {w0 : World} {pre : List ByteArray} {k : Nat} {W W' : World} (h : TellAt s w0 pre k W) (hb : Below (w0.heap.size + 4) W W') : TellAt s w0 pre k W' :=
  ⟨h.below.trans (hb.mono (by omega)), (World.cell?_of_block (w := W) (hb.block _ (by simp))).trans h.cs, (World.cell?_of_block (w := W) (hb.block _ (by simp))).trans h.cr, (World.cell?_of_block (w := W) (hb.block _ (by simp))).trans h.cc, (World.cell?_of_block (w := W) (hb.block _ (by simp))).trans h.ci,
    (World.frozen?_of_block (w := W) (hb.block _ (by simp))).trans h.fr, (World.frozen?_of_block (w := W) (hb.block _ (by simp))).trans h.fi, h.k5, h.pre⟩
theorem TellAt.drewN {s : Int} {w0 : World} {pre : List ByteArray} {k : Nat} {W : World} (h : TellAt s w0 pre k W) (n : Nat) : TellAt s w0 pre k (W.drewN n) := h.on (pw_below_drewN (Below.refl _ _) n)
theorem TellAt.put {s : Int} {w0 : World} {pre : List ByteArray} {k : Nat} {W : World} (h : TellAt s w0 pre k W) (pre' : List ByteArray) (k' : Nat) (h5 : k' ≤ 5) (hp : pre' = namesTo (bitAt s) k') (n : Int) (hn : n = k') : TellAt s w0 pre' k' (W.setCell ⟨w0.heap.size + 1 + 1 + 1, 0, none⟩ (.int .i64 n)) := by
  subst hn
  exact ⟨h.below.setCell (by simp; omega) _, (World.cell?_setCell_other _ _ _ _ (by intro h; injection h; omega)).trans h.cs, (World.cell?_setCell_other _ _ _ _ (by intro h; injection h; omega)).trans h.cr,
    (World.cell?_setCell_other _ _ _ _ (by intro h; injection h; omega)).trans h.cc, World.cell?_setCell_same' _ _ _ (by rw [h.ci]; rfl), by rw [World.frozen?_setCell]; exact h.fr, by rw [World.frozen?_setCell]; exact h.fi, h5, hp⟩
theorem keeps_drewN {B : Nat} {V W : World} (h : KeepsFrom B V W) (n : Nat) : KeepsFrom B V (W.drewN n) := ⟨h.size, h.same⟩
theorem keeps_drew {B : Nat} {V W : World} (h : KeepsFrom B V W) : KeepsFrom B V W.drew := ⟨h.size, h.same⟩
theorem namesTo_skip {p : Nat → Bool} {k : Nat} (h : p k = false) : namesTo p (k + 1) = namesTo p k := by
  show namesTo p k ++ (if p k then [name5 k] else []) = _
  rw [h]; simp
theorem namesTo_put {p : Nat → Bool} {k : Nat} (h : p k = true) : namesTo p (k + 1) = namesTo p k ++ [name5 k] := by
  show namesTo p k ++ (if p k then [name5 k] else []) = _
  rw [h]; simp
/-- What is kept behind the range: the boxed s, the result, the mark. -/
structure TellD (s : Int) (w0 W : World) : Prop where
  below : Below w0.heap.size w0 W
  cs : W.cell? ⟨w0.heap.size, 0, none⟩ = some (.int .u8 s)
  cr : W.cell? ⟨w0.heap.size + 1, 0, none⟩ = some (.bool false)
  fr : W.frozen? ⟨w0.heap.size + 1, 0, none⟩ = false
  mark : W.heap[w0.heap.size + 1 + 1 + 1 + 1]? = some (.deferred (some []))
theorem TellD.lt {s : Int} {w0 W : World} (h : TellD s w0 W) : w0.heap.size + 5 ≤ W.heap.size := (Array.getElem?_eq_some_iff.1 h.mark).1
theorem TellD.on {s : Int} {w0 W W' : World} (h : TellD s w0 W) (hb : Below W.heap.size W W') : TellD s w0 W' := by
  have := h.lt
  exact ⟨h.below.trans (hb.mono (by omega)), (World.cell?_of_block (w := W) (hb.block _ (by simp; omega))).trans h.cs, (World.cell?_of_block (w := W) (hb.block _ (by simp; omega))).trans h.cr, (World.frozen?_of_block (w := W) (hb.block _ (by simp; omega))).trans h.fr, (hb.block _ (by omega)).trans h.mark⟩
theorem TellD.drewN {s : Int} {w0 W : World} (h : TellD s w0 W) (n : Nat) : TellD s w0 (W.drewN n) := ⟨pw_below_drewN h.below n, h.cs, h.cr, h.fr, h.mark⟩
theorem TellD.drew {s : Int} {w0 W : World} (h : TellD s w0 W) : TellD s w0 W.drew := ⟨h.below.drew, h.cs, h.cr, h.fr, h.mark⟩
theorem TellD.put {s : Int} {w0 W : World} (h : TellD s w0 W) (u : Value) : TellD s w0 (W.setCell ⟨w0.heap.size + 1 + 1 + 1, 0, none⟩ u) :=
  ⟨h.below.setCell (by simp; omega) _, (World.cell?_setCell_other _ _ _ _ (by intro h; injection h; omega)).trans h.cs, (World.cell?_setCell_other _ _ _ _ (by intro h; injection h; omega)).trans h.cr, by rw [World.frozen?_setCell]; exact h.fr, (Below.heap_setCell _ _ _ _ (by simp)).trans h.mark⟩
theorem results_cell1 {fn : Func} {a : Tmp} {ta : TypeId} (h : fn.results = #[.cell a ta]) (tmps : Array Value) (P : Program) (w : World) :
    (results fn tmps).run P w = ((asAddr (tmps.getD a undef)).run P w).andThen fun x w₁ => (loadVar ta x).run P w₁ := by
  simp only [results, h]
  simp [Sem.run_bind, Result.andThen]
theorem tell_end {s : Int} {w0 W W' : World} (tmps : Array Value) (h : TellD s w0 W) (hs : Shut (w0.heap.size + 4) (W.setCell ⟨w0.heap.size + 1, 0, none⟩ (.bool true)) W') (h6 : tmps.getD 6 undef = .pointer (some ⟨w0.heap.size + 1, 0, none⟩)) :
    (results Tryd.f4 tmps).run Tryd.prog W' = .ok (.bool true) W' ∧ Below w0.heap.size w0 W' := by
  have hl := h.lt
  have hl2 : (W.setCell ⟨w0.heap.size + 1, 0, none⟩ (.bool true)).heap.size = W.heap.size := by simp [World.setCell]
  have hO := hs.touch.below (B := w0.heap.size + 4) (by omega) (fun k hk e => by omega)
  have k1 : W'.cell? ⟨w0.heap.size + 1, 0, none⟩ = some (.bool true) := (World.cell?_of_block (w := W.setCell ⟨w0.heap.size + 1, 0, none⟩ (.bool true)) (hO.block _ (show w0.heap.size + 1 < _ by omega))).trans (World.cell?_setCell_same' _ _ _ (by rw [h.cr]; rfl))
  refine ⟨?_, (h.below.setCell (by simp) _).trans (hO.mono (by omega))⟩
  rw [results_cell1 rfl, h6]
  go_simp
theorem tell_res {s : Int} {w0 W W' : World} (tmps : Array Value) (h : TellD s w0 W) (hs : Shut (w0.heap.size + 4) (W.setCell ⟨w0.heap.size + 1, 0, none⟩ (.bool true)) W') (h6 : tmps.getD 6 undef = .pointer (some ⟨w0.heap.size + 1, 0, none⟩)) :
    (results Tryd.f4 tmps).run Tryd.prog W' = .ok (.bool true) W' := (tell_end tmps h hs h6).1
def hasTo (s o : Int) (n : Nat) : Bool := (List.range n).all fun k => !bitAt o k || bitAt s k
theorem hasTo_next (s o : Int) (n : Nat) : hasTo s o (n + 1) = (hasTo s o n && (!bitAt o n || bitAt s n)) := by
  unfold hasTo
  rw [List.range_succ, List.all_append]
  simp
theorem func_nil (g : Nat) (lb : Array Value) (W : World) : (binOp .eql 31 (.func (.func g) #[] lb) .nilFunc).run Tryd.prog W = .ok (.bool false) W := by
  have h : (Op.equal 31 (.func (.func g) #[] lb) .nilFunc).run Tryd.prog W = .ok false W := by
    have key : ∀ d, (Op.equalIn (d + 1) 31 (.func (.func g) #[] lb) .nilFunc).run Tryd.prog W = .ok false W := fun d => by
      unfold Op.equalIn
      simp [go_sem, Tryd.underlying31]
    exact key 9999
  simp [binOp, go_sem, h]
/-- The reference's names, as they lie. -/
theorem refNames_any (w : World) : Calls Tryd.prog 14 #[] w fun e w' => ∃ b o c, e = .returned (.slice (some ⟨b, o, none⟩) 5 c) ∧ (∀ i : Nat, i < 5 → w'.cell? ⟨b, o + i, none⟩ = some (.string (name5 i))) ∧ Hd (Below w.heap.size w w') := by
  refine (postchaiseref01_Names.calls names5 w rfl).mono ?_
  rintro e w' ⟨v, rfl, hR, hb⟩
  obtain ⟨A, c, rfl⟩ := Kd.R_slice hR
  have hr := (Kd.R_reads' hR).2.2
  have hc : ∀ i : Nat, i < 5 → ∃ ad, A = some ad ∧ w'.cell? (ad.add i) = some (.string (name5 i)) := fun i hi => by
    obtain ⟨ad, e1, e2⟩ := Kd.at_string hr i (by omega) (by show (i : Int) < 5; omega)
    refine ⟨ad, e1, ?_⟩
    have e3 : ((i : Int)).toNat = i := by omega
    rw [e3] at e2
    rw [e2]
    show some (Value.string (names5.getD (i : Int).toNat _)) = _
    rw [e3]
    unfold name5
    match i, hi with
    | 0, _ => rfl
    | 1, _ => rfl
    | 2, _ => rfl
    | 3, _ => rfl
    | 4, _ => rfl
  obtain ⟨ad, rfl, h0⟩ := hc 0 (by omega)
  obtain ⟨b, o, rfl⟩ : ∃ b o, ad = ⟨b, o, none⟩ := by
    have e0 : ad.add 0 = ad := by simp [Addr.add]
    rw [e0] at h0
    exact ⟨_, _, plain_of_cell h0⟩
  refine ⟨b, o, c, rfl, fun i hi => ?_, ⟨hb⟩⟩
  obtain ⟨ad', e1, e2⟩ := hc i hi
  cases e1
  rw [add_off] at e2
  exact e2
set_option maxRecDepth 100000 in
set_option maxHeartbeats 1000000 in
theorem flagsTells_any (s o how : Int) (w : World) (hs : 0 ≤ s) (hs' : s < 256) (ho : 0 ≤ o) (ho' : o < 256) {bn on cn : Nat} (hN : NamesAt w bn on cn) (m : Nat) (hm : 20 ≤ m) :
    CallsIn Fence.wide m Tryd.prog 4 #[.int .u8 s, .int .u8 o, .int .i64 how] w fun e w' => e = .returned (.bool true) ∧ Below w.heap.size w w' := by
  have HN : Hd _ := ⟨hN⟩
  clear hN
  refine callsIn_of_wp_marks Tryd.func4 rfl trivial ?_ rfl
  simp only [Tryd.ntmps4, List.size_toArray, List.length_cons, List.length_nil, Nat.reduceAdd, Nat.reduceSub, Array.replicate_succ, Array.replicate_zero, List.push_toArray, List.append_toArray, List.nil_append, List.cons_append]
  gi_wp2
  refine And.intro trivial (And.intro (fun h => absurd h (by simp [Fence.wide])) ((callsIn_wide.2 (names_any s _)).mono ?_))
  rintro e w1 ⟨rfl, rfl⟩
  have hfn := func_nil 37 #[.pointer (some ⟨w.heap.size + 1 + 1, 0, none⟩)]
  gi_wp2
  have hneed : ∀ (pre : List ByteArray) (W : World), (∃ k, TellAt s w pre k W) → NamesSt s (w.heap.size + 1 + 1) bn on cn W := fun pre W ⟨k, h⟩ => ⟨h.cc, HN.out.on h.below⟩
  refine wpIn_rangeFunc_hears rfl (by omega) (gf := 37) (lb := #[.pointer (some ⟨w.heap.size + 1 + 1, 0, none⟩)]) rfl trivial
    (enters_of Tryd.func37 (by kernel_rfl) rfl) (fun pre W => ∃ k, TellAt s w pre k W) _ _ (names_hears s (w.heap.size + 1 + 1) bn on cn _ hneed _)
    (fun _ => rfl) ?own ?zero
    (fun x => { tmps := #[.int .u8 s, .int .u8 o, .int .i64 how, .pointer (some ⟨w.heap.size, 0, none⟩), undef, undef, .pointer (some ⟨w.heap.size + 1, 0, none⟩), .func (.func 37) #[] #[.pointer (some ⟨w.heap.size + 1 + 1, 0, none⟩)], .pointer (some ⟨w.heap.size + 1 + 1 + 1, 0, none⟩), .string x, undef, undef, .int .u8 s, .func (.func 37) #[] #[.pointer (some ⟨w.heap.size + 1 + 1, 0, none⟩)], .func (.func 37) #[] #[.pointer (some ⟨w.heap.size + 1 + 1, 0, none⟩)], .bool false, .func (.func 37) #[] #[.pointer (some ⟨w.heap.size + 1 + 1, 0, none⟩)], .string x, undef, undef, undef, undef, undef, undef, undef, undef, undef, undef, undef, undef, undef, undef, undef, undef, undef, undef, undef, undef, undef, undef, undef, undef, undef, undef, undef, undef, undef, undef, undef, undef, undef, undef, undef, undef, undef, undef, undef, undef, undef, undef, undef, undef, undef, undef, undef, undef, undef, undef, undef, undef, undef, undef, undef, undef, undef, undef, undef, undef, undef, undef, undef, undef, undef, undef, undef, undef, undef, undef, undef], defers := [] }) ?assign ?body ?done
  case own =>
    rintro pre X Y row ⟨k, hX⟩ hg hr
    exact ⟨k, hX.on ((Below.refl _ X).grown hg (lt_of_cell hX.ci) (fun k e => by have := (hr k e).1; simp only [World.size_alloc] at this; omega))⟩
  case zero =>
    refine ⟨0, ?_, by go_simp, by go_simp, by go_simp, by go_simp, by go_simp, by go_simp, by omega, rfl⟩
    exact (((((Below.refl _ w).alloc (Nat.le_refl _) _).alloc (by simp) _).alloc (by simp; omega) _).alloc (by simp; omega) _)
  case assign =>
    intro l x V K hK
    gi_wp2
    exact hK
  case body =>
    rintro l pre x V ⟨k, hV⟩ ⟨j, hj, hbj, hpre, hx⟩
    obtain ⟨hkj, hno⟩ := namesTo_at (hV.pre.symm.trans hpre) hbj
    have HX : Hd (bitAt s j = true ∧ pre = namesTo (bitAt s) j ∧ x = name5 j) := ⟨hbj, hpre, hx⟩
    have HJ : Hd (postchaiseref01_Bit.f s (j : Int) = some true) := ⟨by rw [(bit_both hs hs' hj).2, hbj]⟩
    have hI : Hd (∃ k', k' ≤ j ∧ (∀ i, k' ≤ i → i < j → bitAt s i = false) ∧ TellAt s w pre k' V ∧ Stood (fun _ => False) V V) := ⟨k, hkj, hno, hV, Stood.refl _ _⟩
    clear hV hkj hno hpre hx hbj
    gi_wp2
    gi_loopw [18] (fun _ wr => Hd (∃ k', k' ≤ j ∧ (∀ i, k' ≤ i → i < j → bitAt s i = false) ∧ TellAt s w pre k' wr ∧ KeepsFrom (w.heap.size + 4) V wr)) (fun _ wr => 5 - (match wr.cell? ⟨w.heap.size + 1 + 1 + 1, 0, none⟩ with | some v => (intOf v).toNat | none => 0))
    case atStart =>
      obtain ⟨k', h1, h2, h3, _⟩ := hI.out
      exact ⟨k', h1, h2, h3, KeepsFrom.refl _ _⟩
    case round =>
      obtain ⟨k', h1, h2, h3, h4⟩ := hrel.out
      have hlt : (k' : Int) < 5 := by omega
      have hlo : (0 : Int) ≤ (k' : Int) := by omega
      have c0 := h3.cs
      have c1 := h3.ci
      have c2 := h3.fi
      have HT : Hd (∀ i, k' ≤ i → i < j → bitAt s i = false) := ⟨h2⟩
      have HS : Hd _ := ⟨h3⟩
      have HK : Hd _ := ⟨h4⟩
      clear h2 h3 h4 hrel
      by_cases he : k' = j
      · subst he
        gi_wp2
        refine And.intro trivial (And.intro (fun h => absurd h (by simp [Fence.wide])) ((CallsIn.inRound l (callsIn_wide.2 (postchaiseref01_Bit.calls s k' true wr HJ.out))).mono ?_))
        rintro e w1 ⟨rfl, nd, rfl⟩
        gi_wp2
        have hmix : Tryd.prog.follows .mixedOrders = true := by kernel_rfl
        gi_region_with_o (first | (refine And.intro trivial (And.intro (fun h => absurd h (by simp [Fence.wide])) ((CallsIn.inRound l (callsIn_wide.2 (refNames_any _))).mono ?_)); rintro e w2 ⟨b, o2, c, rfl, hN2, hb2⟩; have HS2 := (HS.out.drewN (nd + 1)).on (hb2.out.mono (by have := HS.out.below.size; have := lt_of_cell HS.out.ci; simp at this ⊢; omega)); have x0 := hN2 k' (by omega); have x1 := HS2.ci))
        all_goals
          have hxe : x = name5 k' := HX.out.2.2
          have hcond : (decide (5 ≤ (k' : Int)) || !(x.toList == (name5 k').toList)) = false := by
            rw [hxe]; simp; omega
          simp only [hcond]
          have x2 := HS2.fi
          clear hxe
          gi_wp2
          refine ⟨?_, k' + 1, HS2.put (pre ++ [x]) (k' + 1) (by omega) ?_ _ rfl⟩
          · simp only [World.size_alloc]
            exact keeps_put ((keeps_drewN HK.out (nd + 1)).trans (keeps_below hb2.out)) _ _ (by simp)
          · rw [namesTo_put (p := bitAt s) HX.out.1, ← HX.out.2.1, HX.out.2.2]
      · have hb : bitAt s k' = false := HT.out k' (Nat.le_refl _) (by omega)
        have HB : Hd (postchaiseref01_Bit.f s (k' : Int) = some false) := ⟨by rw [(bit_both hs hs' (by omega)).2, hb]⟩
        clear hb
        gi_wp2
        refine And.intro trivial (And.intro (fun h => absurd h (by simp [Fence.wide])) ((CallsIn.inRound l (callsIn_wide.2 (postchaiseref01_Bit.calls s k' false wr HB.out))).mono ?_))
        rintro e w1 ⟨rfl, nd, rfl⟩
        gi_wp2
        go_roundw
        case rel => exact ⟨k' + 1, by omega, fun i h1 h2 => HT.out i (by omega) h2, (HS.out.drewN nd).put pre (k' + 1) (by omega) (by rw [namesTo_skip (bit_false hs hs' (by omega) HB.out)]; exact HS.out.pre) _ rfl, keeps_put (keeps_drewN HK.out nd) _ _ (by simp)⟩
        case measure =>
          have q0 := ((HS.out.drewN nd).put pre (k' + 1) (by omega) (by rw [namesTo_skip (bit_false hs hs' (by omega) HB.out)]; exact HS.out.pre) ((k' : Int) + 1) rfl).ci
          have q1 := HS.out.ci
          rw [q0, q1]
          simp [intOf]; omega
  case done =>
    rintro D xs V rfl rfl ⟨k, hV⟩ hD
    have hno : ∀ i, k ≤ i → i < 5 → bitAt s i = false := (namesTo_more (p := bitAt s) hV.k5).2 (by rw [← hV.pre])
    simp only [World.size_alloc] at hD
    have hI : Hd (∃ k', k' ≤ 5 ∧ (∀ i, k' ≤ i → i < 5 → bitAt s i = false) ∧ V.cell? ⟨w.heap.size + 1 + 1 + 1, 0, none⟩ = some (.int .i64 (k' : Nat)) ∧ V.frozen? ⟨w.heap.size + 1 + 1 + 1, 0, none⟩ = false ∧ TellD s w V) := ⟨k, hV.k5, hno, hV.ci, hV.fi, hV.below, hV.cs, hV.cr, hV.fr, hD⟩
    clear hV hno hD
    simp only [World.size_alloc]
    gi_wp2
    gi_loopw [40] (fun _ wr => Hd (∃ k' : Nat, k' ≤ 5 ∧ (∀ i, k' ≤ i → i < 5 → bitAt s i = false) ∧ wr.cell? ⟨w.heap.size + 1 + 1 + 1, 0, none⟩ = some (.int .i64 (k' : Nat)) ∧ wr.frozen? ⟨w.heap.size + 1 + 1 + 1, 0, none⟩ = false ∧ TellD s w wr)) (fun _ wr => 5 - (match wr.cell? ⟨w.heap.size + 1 + 1 + 1, 0, none⟩ with | some v => (intOf v).toNat | none => 0))
    case atStart => exact hI
    case round =>
      obtain ⟨k', h1, h2, h3, h4, h5⟩ := hrel.out
      have c0 := h5.cs
      have HT : Hd (∀ i, k' ≤ i → i < 5 → bitAt s i = false) := ⟨h2⟩
      have HS : Hd _ := ⟨h5⟩
      clear h2 h5 hrel hI
      by_cases he : k' < 5
      · have hlt : (k' : Int) < 5 := by omega
        have hb : bitAt s k' = false := HT.out k' (Nat.le_refl _) (by omega)
        have HB : Hd (postchaiseref01_Bit.f s (k' : Int) = some false) := ⟨by rw [(bit_both hs hs' (by omega)).2, hb]⟩
        clear hb
        gi_wp2
        refine And.intro trivial (And.intro (fun h => absurd h (by simp [Fence.wide])) ((callsIn_wide.2 (postchaiseref01_Bit.calls s k' false wr HB.out)).mono ?_))
        rintro e w1 ⟨rfl, nd, rfl⟩
        gi_wp2
        go_roundw
        case rel => exact ⟨k' + 1, by omega, fun i h1 h2 => HT.out i (by omega) h2, (World.cell?_setCell_same' _ _ _ (by show (wr.cell? _).isSome; rw [h3]; rfl)), by rw [World.frozen?_setCell]; exact h4, (HS.out.drewN nd).put _⟩
        case measure =>
          have q0 : ((wr.drewN nd).setCell ⟨w.heap.size + 1 + 1 + 1, 0, none⟩ (.int .i64 ((k' : Int) + 1))).cell? ⟨w.heap.size + 1 + 1 + 1, 0, none⟩ = some (.int .i64 ((k' : Int) + 1)) := World.cell?_setCell_same' _ _ _ (by show (wr.cell? _).isSome; rw [h3]; rfl)
          rw [q0, h3]
          simp [intOf]; omega
      · have hlt : ¬ (k' : Int) < 5 := by omega
        gi_wp2
        gi_loopw [10, 11] (fun a b wr => ∃ k : Nat, k ≤ 5 ∧ a = .bool (hasTo s o k) ∧ b = .int .i64 (k : Nat) ∧ Hd (TellD s w wr)) (fun a b _ => 5 - (intOf b).toNat)
        case atStart => exact ⟨0, by omega, rfl, rfl, HS⟩
        case round =>
          obtain ⟨k, hk, rfl, rfl, HD⟩ := hrel
          by_cases hk5 : k < 5
          · have hlt : (k : Int) < 5 := by omega
            have HO : Hd _ := ⟨(bit_both ho ho' hk5).2⟩
            have HS2 : Hd _ := ⟨(bit_both hs hs' hk5).2⟩
            have hnx := hasTo_next s o k
            have c0 := HD.out.cs
            obtain ⟨H, hH⟩ : ∃ H, hasTo s o k = H := ⟨_, rfl⟩
            rw [hH] at hnx ⊢
            cases H with
            | false =>
              have HN2 : Hd (hasTo s o (k + 1) = false) := ⟨by rw [hnx]; rfl⟩
              clear hnx hH
              refine (wpIn_wide (n := m)).2 ?_
              go_wp2
              go_roundw
              case rel => exact ⟨k + 1, by omega, by rw [HN2.out], by go_num, HD⟩
              case measure => simp [intOf]; omega
            | true =>
              obtain ⟨bo, hbo⟩ : ∃ b, bitAt o k = b := ⟨_, rfl⟩
              rw [hbo] at HO hnx
              cases bo with
              | false =>
                have HN2 : Hd (hasTo s o (k + 1) = true) := ⟨by rw [hnx]; rfl⟩
                clear hnx hH hbo
                refine (wpIn_wide (n := m)).2 ?_
                go_wp2_with (first | (go_at_call 13; refine (postchaiseref01_Bit.calls o k false wr HO.out).mono ?_; rintro e w1 ⟨rfl, nd, rfl⟩))
                go_roundw
                case rel => exact ⟨k + 1, by omega, by rw [HN2.out], by go_num, ⟨HD.out.drewN nd⟩⟩
                case measure => simp [intOf]; omega
              | true =>
                obtain ⟨bs, hbs⟩ : ∃ b, bitAt s k = b := ⟨_, rfl⟩
                rw [hbs] at HS2 hnx
                have HN2 : Hd (hasTo s o (k + 1) = bs) := ⟨by rw [hnx]; rfl⟩
                clear hnx hH hbo hbs
                refine (wpIn_wide (n := m)).2 ?_
                go_wp2_with (first | (go_at_call 13; refine (postchaiseref01_Bit.calls o k true wr HO.out).mono ?_; rintro e w1 ⟨rfl, nd, rfl⟩) | (go_at_call 13; refine (postchaiseref01_Bit.calls s k bs _ HS2.out).mono ?_; rintro e w1 ⟨rfl, nd2, rfl⟩))
                go_roundw
                case rel => exact ⟨k + 1, by omega, by rw [HN2.out], by go_num, ⟨by first | exact (HD.out.drewN nd).drewN nd2 | exact HD.out.drewN _⟩⟩
                case measure => simp [intOf]; omega
          · have hlt : ¬ (k : Int) < 5 := by omega
            obtain rfl : k = 5 := by omega
            have hH : hasF s o = hasTo s o 5 := has_at hs hs' ho ho'
            obtain ⟨H, hH2⟩ : ∃ H, hasTo s o 5 = H := ⟨_, rfl⟩
            rw [hH2] at hH ⊢
            obtain ⟨t, ht⟩ : ∃ t, strOf s = t := ⟨_, rfl⟩
            have htx := text_at hs hs'
            rw [ht] at htx
            obtain ⟨cv, hcv⟩ : ∃ cv, changeF s how o = cv := ⟨_, rfl⟩
            have hch := change_at how hs hs' ho ho'
            rw [hcv] at hch
            have hst : (t.toList == t.toList) = true := beq_self_eq_true _
            have HS : Hd (∀ w' : World, TellD s w w' → Calls Tryd.prog 15 #[.int .u8 s] w' fun e w2 => e = .returned (.string t) ∧ Hd (TellD s w w2)) := ⟨fun w' h => (string_calls _ w' (HN.out.on h.below) ht).mono (fun _ _ g => ⟨g.1, ⟨h.on g.2.out⟩⟩)⟩
            have HX : Hd (∀ w' : World, TellD s w w' → Calls Tryd.prog 16 #[.int .u8 s] w' fun e w2 => e = .returned (.string t) ∧ Hd (TellD s w w2)) := ⟨fun w' h => (postchaiseref01_Text.calls 30 s t w' htx).mono (fun _ _ g => ⟨g.1, ⟨h.on g.2⟩⟩)⟩
            have HH : Hd (∀ w' : World, TellD s w w' → Calls Tryd.prog 17 #[.int .u8 s, .int .u8 o] w' fun e w2 => e = .returned (.bool H) ∧ Hd (TellD s w w2)) := ⟨fun w' h => (has_any s o w').mono (fun _ _ g => ⟨by rw [g.1, hH], ⟨h.on g.2⟩⟩)⟩
            have HC : Hd (∀ w' : World, TellD s w w' → Calls Tryd.prog 18 #[.int .u8 s, .int .i64 how, .int .u8 o] w' fun e w2 => e = .returned (.int .u8 cv) ∧ Hd (TellD s w w2)) := ⟨fun w' h => (change_any s how o w').mono (fun _ _ g => ⟨by rw [g.1, hcv], ⟨h.on g.2⟩⟩)⟩
            have HR : Hd (∀ w' : World, TellD s w w' → Calls Tryd.prog 19 #[.int .u8 s, .int .i64 how, .int .u8 o] w' fun e w2 => e = .returned (.int .u8 cv) ∧ Hd (TellD s w w2)) := ⟨fun w' h => (postchaiseref01_Change.calls 60 s how o cv w' hch).mono (fun _ _ g => ⟨g.1, ⟨by obtain ⟨nd, rfl⟩ := g.2; exact h.drewN nd⟩⟩)⟩
            have HA : Hd (∀ w' : World, TellD s w w' → Calls Tryd.prog 11 #[] w' fun e w2 => e = .returned (.bool true) ∧ Hd (TellD s w w2)) := ⟨fun w' h => (awake_any w' (HN.out.on h.below)).mono (fun _ _ g => ⟨g.1, ⟨h.on g.2⟩⟩)⟩
            have D0 : Hd (TellD s w wr.drew) := ⟨HD.out.drew⟩
            have c0 := HD.out.cs
            have c1 := HD.out.cr
            have c2 := HD.out.fr
            clear hH hH2 ht htx hcv hch
            gi_wp2
            refine (wpIn_wide (n := m)).2 ?_
            go_region_held3 (fun w' => w'.cell? ⟨w.heap.size, 0, none⟩ = some (.int .u8 s) ∧ w'.frozen? ⟨w.heap.size + 1, 0, none⟩ = false)
              (first | (simp [go_sem, *]; done))
              (first
                | (go_at_call 15; have hx := HS.out _ D0.out; (with_reducible refine hx.mono ?_); clear hx; rintro e w1 ⟨rfl, D1⟩; have x1 := D1.out.cs; have y1 := D1.out.cr; have z1 := D1.out.fr)
                | (go_at_call 16; have hx := HX.out _ D1.out; (with_reducible refine hx.mono ?_); clear hx; rintro e w2 ⟨rfl, D2⟩; have x2 := D2.out.cs; have y2 := D2.out.cr; have z2 := D2.out.fr)
                | (go_at_call 17; have hx := HH.out _ D2.out; (with_reducible refine hx.mono ?_); clear hx; rintro e w3 ⟨rfl, D3⟩; have x3 := D3.out.cs; have y3 := D3.out.cr; have z3 := D3.out.fr)
                | (go_at_call 18; have hx := HC.out _ D3.out; (with_reducible refine hx.mono ?_); clear hx; rintro e w4 ⟨rfl, D4⟩; have x4 := D4.out.cs; have y4 := D4.out.cr; have z4 := D4.out.fr)
                | (go_at_call 19; have hx := HR.out _ D4.out; (with_reducible refine hx.mono ?_); clear hx; rintro e w5 ⟨rfl, D5⟩; have x5 := D5.out.cs; have y5 := D5.out.cr; have z5 := D5.out.fr)
                | (go_at_call 11; have hx := HA.out _ D5.out; (with_reducible refine hx.mono ?_); clear hx; rintro e w6 ⟨rfl, D6⟩; have x6 := D6.out.cs; have y6 := D6.out.cr; have z6 := D6.out.fr))
            gi_wp2
            refine leaves_marks (R := fun e w' => e = .returned (.bool true) ∧ Below w.heap.size w w') (B := w.heap.size + 4) _ _ ?_ ?_
            · refine ⟨fun d hd => ?_, List.pairwise_singleton _ _⟩
              rw [List.mem_singleton.1 hd]
              exact ⟨_, rfl, by omega, (Below.heap_setCell _ _ _ _ (by simp; omega)).trans D6.out.mark⟩
            · intro W' hs
              exact ⟨.bool true, tell_res _ D6.out hs rfl, rfl, (tell_end (#[undef, undef, undef, undef, undef, undef, .pointer (some ⟨w.heap.size + 1, 0, none⟩)] : Array Value) D6.out hs rfl).2⟩
end Go.Proofs.YtahbnpkhkhdmaaaDoor
