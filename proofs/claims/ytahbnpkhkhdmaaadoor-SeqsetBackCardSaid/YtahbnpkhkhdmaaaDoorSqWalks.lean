/- The statement SeqsetWalks: walked. No condition but those that each contract bears. -/
import Derived.Test.YtahbnpkhkhdmaaaDoorSqOf
import Derived.Test.YtahbnpkhkhdmaaaDoorSqLaw
import Derived.Lib.SliceRun
import Derived.Sort.CutIn
set_option linter.unusedVariables false
set_option linter.unusedSimpArgs false
namespace Go.Proofs.YtahbnpkhkhdmaaaDoor
open Go.RowKit Go.Shelf PSq Go.Proofs.YtahbnpkhkhdmaaaDoorW.PrintWords Go.Proofs.YtahbnpkhkhdmaaaDoorW.PrintLast Go.Proofs.YtahbnpkhkhdmaaaDoorW.PrintMore
attribute [local go_sem] Oper.semAt_some
theorem walkMk_any (A : Option Addr) (n c : Nat) (last : Int) (w : World) : Calls Tryd.prog 27 #[.slice A n c, .int .u32 last] w fun e w' => e = .returned (.func (.func 46) #[] #[.pointer (some ⟨w.heap.size, 0, none⟩), .pointer (some ⟨w.heap.size + 1, 0, none⟩)]) ∧ w' = (w.alloc (.cells #[.slice A n c] 44)).alloc (.cells #[.int .u32 last] 58) := by
  go_enter Tryd.func27, Tryd.ntmps27
  go_wp2
  go_ret
  exact ⟨rfl, rfl⟩
theorem walk_func_nil (g : Nat) (lb : Array Value) (W : World) : (binOp .eql 55 (.func (.func g) #[] lb) .nilFunc).run Tryd.prog W = .ok (.bool false) W := by
  have h : (Op.equal 55 (.func (.func g) #[] lb) .nilFunc).run Tryd.prog W = .ok false W := by
    have key : ∀ d, (Op.equalIn (d + 1) 55 (.func (.func g) #[] lb) .nilFunc).run Tryd.prog W = .ok false W := fun d => by
      unfold Op.equalIn
      simp [go_sem, Tryd.underlying55]
    exact key 9999
  simp [binOp, go_sem, h]
theorem three_new (X : World) (a b c : Value) (ta tb tc : TypeId) :
    (((X.alloc (.cells #[a] ta)).alloc (.cells #[b] tb)).alloc (.cells #[c] tc)).cell? ⟨X.heap.size, 0, none⟩ = some a ∧
    (((X.alloc (.cells #[a] ta)).alloc (.cells #[b] tb)).alloc (.cells #[c] tc)).cell? ⟨X.heap.size + 1, 0, none⟩ = some b ∧
    (((X.alloc (.cells #[a] ta)).alloc (.cells #[b] tb)).alloc (.cells #[c] tc)).frozen? ⟨X.heap.size + 1, 0, none⟩ = false ∧
    (((X.alloc (.cells #[a] ta)).alloc (.cells #[b] tb)).alloc (.cells #[c] tc)).cell? ⟨X.heap.size + 1 + 1, 0, none⟩ = some c ∧
    (((X.alloc (.cells #[a] ta)).alloc (.cells #[b] tb)).alloc (.cells #[c] tc)).frozen? ⟨X.heap.size + 1 + 1, 0, none⟩ = false :=
  ⟨by go_simp, by go_simp, by go_simp, by go_simp, by go_simp⟩
/-- What the statement keeps: its boxes; many, from. -/
structure TW (w0 : World) (B : Nat) (sv : Value) (t : Nat) (most many fr : Nat) (W : World) : Prop where
  below : Below w0.heap.size w0 W
  c0 : W.cell? ⟨w0.heap.size, 0, none⟩ = some sv
  c1 : W.cell? ⟨w0.heap.size + 1, 0, none⟩ = some (.int .u16 t)
  c2 : W.cell? ⟨w0.heap.size + 1 + 1, 0, none⟩ = some (.bool false)
  f2 : W.frozen? ⟨w0.heap.size + 1 + 1, 0, none⟩ = false
  cm : W.cell? ⟨B + 1 + 1, 0, none⟩ = some (.int .i64 most)
  cn : W.cell? ⟨B + 1 + 1 + 1, 0, none⟩ = some (.int .i64 many)
  fn : W.frozen? ⟨B + 1 + 1 + 1, 0, none⟩ = false
  cf : W.cell? ⟨B + 1 + 1 + 1 + 1, 0, none⟩ = some (.int .u32 fr)
  ff : W.frozen? ⟨B + 1 + 1 + 1 + 1, 0, none⟩ = false
  lo : w0.heap.size + 3 ≤ B
theorem TW.same {w0 : World} {B : Nat} {sv : Value} {t most many fr : Nat} {W W' : World} (h : TW w0 B sv t most many fr W) (hw : Below w0.heap.size w0 W')
    (hb : ∀ k, (k < w0.heap.size + 3 ∨ (B + 2 ≤ k ∧ k < B + 5)) → W'.heap[k]? = W.heap[k]?) : TW w0 B sv t most many fr W' := by
  have hB := h.lo
  exact ⟨hw, (World.cell?_of_block (w := W) (hb _ (.inl (by show w0.heap.size < _; omega)))).trans h.c0, (World.cell?_of_block (w := W) (hb _ (.inl (by show w0.heap.size + 1 < _; omega)))).trans h.c1, (World.cell?_of_block (w := W) (hb _ (.inl (by show w0.heap.size + 1 + 1 < _; omega)))).trans h.c2,
    (World.frozen?_of_block (w := W) (hb _ (.inl (by show w0.heap.size + 1 + 1 < _; omega)))).trans h.f2, (World.cell?_of_block (w := W) (hb _ (.inr ⟨by show B + 2 ≤ B + 1 + 1; omega, by show B + 1 + 1 < _; omega⟩))).trans h.cm, (World.cell?_of_block (w := W) (hb _ (.inr ⟨by show B + 2 ≤ B + 1 + 1 + 1; omega, by show B + 1 + 1 + 1 < _; omega⟩))).trans h.cn,
    (World.frozen?_of_block (w := W) (hb _ (.inr ⟨by show B + 2 ≤ B + 1 + 1 + 1; omega, by show B + 1 + 1 + 1 < _; omega⟩))).trans h.fn, (World.cell?_of_block (w := W) (hb _ (.inr ⟨by show B + 2 ≤ B + 1 + 1 + 1 + 1; omega, by show B + 1 + 1 + 1 + 1 < _; omega⟩))).trans h.cf, (World.frozen?_of_block (w := W) (hb _ (.inr ⟨by show B + 2 ≤ B + 1 + 1 + 1 + 1; omega, by show B + 1 + 1 + 1 + 1 < _; omega⟩))).trans h.ff, hB⟩
theorem TW.lt {w0 : World} {B : Nat} {sv : Value} {t most many fr : Nat} {W : World} (h : TW w0 B sv t most many fr W) : B + 5 ≤ W.heap.size := by have := lt_of_cell h.cf; exact this
theorem TW.on {w0 : World} {B : Nat} {sv : Value} {t most many fr : Nat} {W W' : World} (h : TW w0 B sv t most many fr W) (hb : Below (B + 5) W W') : TW w0 B sv t most many fr W' := by
  have := h.lo
  exact h.same (h.below.trans (hb.mono (by omega))) (fun k hk => hb.block k (by omega))
theorem TW.drewN {w0 : World} {B : Nat} {sv : Value} {t most many fr : Nat} {W : World} (h : TW w0 B sv t most many fr W) (n : Nat) : TW w0 B sv t most many fr (W.drewN n) := h.on (pw_below_drewN (Below.refl _ _) n)
theorem TW.from {w0 : World} {B : Nat} {sv : Value} {t most many fr : Nat} {W : World} (h : TW w0 B sv t most many fr W) (f' : Nat) (u : Int) (hu : u = f') : TW w0 B sv t most many f' (W.setCell ⟨B + 1 + 1 + 1 + 1, 0, none⟩ (.int .u32 u)) := by
  subst hu
  have := h.lo
  exact ⟨h.below.setCell (by show _ ≤ B + 1 + 1 + 1 + 1; omega) _, (World.cell?_setCell_other _ _ _ _ (by intro h; injection h; omega)).trans h.c0, (World.cell?_setCell_other _ _ _ _ (by intro h; injection h; omega)).trans h.c1, (World.cell?_setCell_other _ _ _ _ (by intro h; injection h; omega)).trans h.c2, by rw [World.frozen?_setCell]; exact h.f2,
    (World.cell?_setCell_other _ _ _ _ (by intro h; injection h; omega)).trans h.cm, (World.cell?_setCell_other _ _ _ _ (by intro h; injection h; omega)).trans h.cn, by rw [World.frozen?_setCell]; exact h.fn, World.cell?_setCell_same' _ _ _ (by rw [h.cf]; rfl), by rw [World.frozen?_setCell]; exact h.ff, h.lo⟩
theorem TW.many {w0 : World} {B : Nat} {sv : Value} {t most many fr : Nat} {W : World} (h : TW w0 B sv t most many fr W) (m' : Nat) (u : Int) (hu : u = m') : TW w0 B sv t most m' fr (W.setCell ⟨B + 1 + 1 + 1, 0, none⟩ (.int .i64 u)) := by
  subst hu
  have := h.lo
  exact ⟨h.below.setCell (by show _ ≤ B + 1 + 1 + 1; omega) _, (World.cell?_setCell_other _ _ _ _ (by intro h; injection h; omega)).trans h.c0, (World.cell?_setCell_other _ _ _ _ (by intro h; injection h; omega)).trans h.c1, (World.cell?_setCell_other _ _ _ _ (by intro h; injection h; omega)).trans h.c2, by rw [World.frozen?_setCell]; exact h.f2,
    (World.cell?_setCell_other _ _ _ _ (by intro h; injection h; omega)).trans h.cm, World.cell?_setCell_same' _ _ _ (by rw [h.cn]; rfl), by rw [World.frozen?_setCell]; exact h.fn, (World.cell?_setCell_other _ _ _ _ (by intro h; injection h; omega)).trans h.cf, by rw [World.frozen?_setCell]; exact h.ff, h.lo⟩
theorem TW.touched {w0 : World} {B : Nat} {sv : Value} {t most many fr : Nat} {W W' : World} {Bk : Nat → Prop} (h : TW w0 B sv t most many fr W) (ht : Touch Bk W W') (hbk : ∀ k, Bk k → w0.heap.size + 3 ≤ k ∧ k < B + 2) : TW w0 B sv t most many fr W' := by
  have hl := h.lt
  have hB := h.lo
  exact h.same (h.below.trans (ht.below h.below.size (fun k hk e => by have := (hbk k e).1; omega))) (fun k hk => ht.block k (by omega) (fun e => by have := hbk k e; omega))
theorem meantTo_more {p : Nat → Bool} : ∀ {j k : Nat}, j ≤ k → (meantTo p j).length ≤ (meantTo p k).length ∧ ((meantTo p j).length = (meantTo p k).length → ∀ i, j < i → i ≤ k → p i = false)
  | j, 0, h => by obtain rfl : j = 0 := by omega
                  exact ⟨Nat.le_refl _, fun _ i h1 h2 => absurd h2 (by omega)⟩
  | j, k + 1, h => by
    by_cases e : j = k + 1
    · subst e; exact ⟨Nat.le_refl _, fun _ i h1 h2 => absurd h2 (by omega)⟩
    · obtain ⟨h1, h2⟩ := meantTo_more (p := p) (j := j) (k := k) (by omega)
      have hl : (meantTo p (k + 1)).length = (meantTo p k).length + (if p (k + 1) then 1 else 0) := by
        show (meantTo p k ++ (if p (k + 1) then [k + 1] else [])).length = _
        rw [List.length_append]
        split <;> rfl
      refine ⟨by omega, fun he i hi hi2 => ?_⟩
      cases hpk : p (k + 1) with
      | true => rw [hpk] at hl; simp at hl; omega
      | false =>
        rw [hpk] at hl
        by_cases hik : i = k + 1
        · rw [hik]; exact hpk
        · exact h2 (by simp at hl; omega) i hi (by omega)
/-- Where the numbers up to k and one more, m, are those up to m: none lies between. -/
theorem meantTo_at {p : Nat → Bool} {k m : Nat} (hm0 : 0 < m) (hm : p m = true) (h : meantTo p k ++ [m] = meantTo p m) : k < m ∧ ∀ i, k < i → i < m → p i = false := by
  obtain ⟨j, rfl⟩ : ∃ j, m = j + 1 := ⟨m - 1, by omega⟩
  have hj : meantTo p (j + 1) = meantTo p j ++ [j + 1] := by show meantTo p j ++ (if p (j + 1) then [j + 1] else []) = _; rw [hm]; rfl
  rw [hj] at h
  have he := List.append_cancel_right h
  have hk : k < j + 1 := by
    by_cases hlt : k < j + 1
    · exact hlt
    · have := (meantTo_more (p := p) (j := j + 1) (k := k) (by omega)).1
      rw [hj, List.length_append, he] at this
      have h5 : ([j + 1] : List Nat).length = 1 := rfl
      omega
  exact ⟨hk, fun i h1 h2 => (meantTo_more (p := p) (j := k) (k := j) (by omega)).2 (by rw [he]) i h1 (by omega)⟩
theorem keeps_drewN {B : Nat} {V W : World} (h : KeepsFrom B V W) (n : Nat) : KeepsFrom B V (W.drewN n) := ⟨h.size, h.same⟩
theorem results_cell1w {fn : Func} {a : Tmp} {ta : TypeId} (h : fn.results = #[.cell a ta]) (tmps : Array Value) (P : Program) (w : World) :
    (results fn tmps).run P w = ((asAddr (tmps.getD a undef)).run P w).andThen fun x w₁ => (loadVar ta x).run P w₁ := by
  simp only [results, h]
  simp [Sem.run_bind, Result.andThen]
theorem sw_res {n0 : Nat} {W W' : World} (tmps : Array Value) (hc : W.cell? ⟨n0 + 1 + 1, 0, none⟩ = some (.bool true)) (hs : Shut (n0 + 3) W W') (h6 : tmps.getD 6 undef = .pointer (some ⟨n0 + 1 + 1, 0, none⟩)) :
    (results Tryd.f7 tmps).run Tryd.prog W' = .ok (.bool true) W' := by
  have hl := lt_of_cell hc
  have k1 := (World.cell?_of_block (w := W) (hs.touch.block (n0 + 1 + 1) hl (by omega))).trans hc
  rw [results_cell1w rfl, h6]
  go_simp
theorem sw_below {w0 W W' : World} {B : Nat} (hs : Shut B W W') (hB : w0.heap.size ≤ B) (hb : Below w0.heap.size w0 W) : Below w0.heap.size w0 W' :=
  hb.trans (hs.touch.below hb.size (fun k hk e => by omega))
set_option maxRecDepth 100000 in
set_option maxHeartbeats 4000000 in
theorem seqsetWalks_any (w : World) (A0 : Option Addr) (c0 : Nat) (l0 : List S80) (t : Int) (A2 : Option Addr) (c2 : Nat) (l2 : List Int) (hr0 : Kd.C k80 w A0 l0.length l0) (hc0 : l0.length ≤ c0) (ht0 : 0 ≤ t) (ht1 : t < 65536) (hr2 : Kd.C (Kd.int .u32) w A2 l2.length l2) (hc2 : l2.length ≤ c2) (h32 : U32 l2) (hG : GlobOk w) (m : Nat) (hm : 20 ≤ m) :
    CallsIn Fence.wide m Tryd.prog 7 #[.slice A0 l0.length c0, .int .u16 t, .slice A2 l2.length c2] w fun e w' => e = .returned (.bool true) ∧ Below w.heap.size w w' := by
  have HR0 := Hd.mk hr0
  have HR2 := Hd.mk hr2
  have HG := Hd.mk hG
  have HC0 := Hd.mk hc0
  have HC2 := Hd.mk hc2
  have H32 := Hd.mk h32
  have hl0 : l0.length ≤ 9223372036854775807 := hr0.2.1
  have hl2 : l2.length ≤ 9223372036854775807 := hr2.2.1
  clear hr0 hr2 hG hc0 hc2 h32
  refine callsIn_of_wp_marks Tryd.func7 rfl trivial ?_ rfl
  simp only [Tryd.ntmps7, List.size_toArray, List.length_cons, List.length_nil, Nat.reduceAdd, Nat.reduceSub, Array.replicate_succ, Array.replicate_zero, List.push_toArray, List.append_toArray, List.nil_append, List.cons_append]
  by_cases g0 : (70 : Int) < (l0.length : Int)
  · gi_wp2
    refine leaves_marks (B := w.heap.size + 3) _ _ ?_ ?_
    · exact ⟨fun d hd => absurd hd List.not_mem_nil, List.Pairwise.nil⟩
    · intro W' hs
      refine ⟨.bool true, sw_res _ (by go_simp) hs rfl, rfl, sw_below hs (by omega) ?_⟩
      refine Below.alloc (Below.alloc (Below.alloc (Below.refl _ _) ?_ _) ?_ _) ?_ _ <;> first | exact Nat.le_refl _ | (simp; done) | (simp; omega)
  · by_cases g1 : 400 < t
    · gi_wp2
      refine leaves_marks (B := w.heap.size + 3) _ _ ?_ ?_
      · exact ⟨fun d hd => absurd hd List.not_mem_nil, List.Pairwise.nil⟩
      · intro W' hs
        refine ⟨.bool true, sw_res _ (by go_simp) hs rfl, rfl, sw_below hs (by omega) ?_⟩
        refine Below.alloc (Below.alloc (Below.alloc (Below.refl _ _) ?_ _) ?_ _) ?_ _ <;> first | exact Nat.le_refl _ | (simp; done) | (simp; omega)
    · by_cases g2 : (100 : Int) < (l2.length : Int)
      · gi_wp2
        refine leaves_marks (B := w.heap.size + 3) _ _ ?_ ?_
        · exact ⟨fun d hd => absurd hd List.not_mem_nil, List.Pairwise.nil⟩
        · intro W' hs
          refine ⟨.bool true, sw_res _ (by go_simp) hs rfl, rfl, sw_below hs (by omega) ?_⟩
          refine Below.alloc (Below.alloc (Below.alloc (Below.refl _ _) ?_ _) ?_ _) ?_ _ <;> first | exact Nat.le_refl _ | (simp; done) | (simp; omega)
      · obtain ⟨tn, rfl⟩ : ∃ tn : Nat, t = tn := ⟨t.toNat, by omega⟩
        have hw0 : Below w.heap.size w (((w.alloc (.cells #[.slice A0 l0.length c0] 47)).alloc (.cells #[.int .u16 tn] 52)).alloc (.cells #[.bool false] 4)).drew := ((((Below.refl _ w).alloc (Nat.le_refl _) _).alloc (by simp) _).alloc (by simp; omega) _).drew
        have HW0 := Hd.mk hw0
        have HOwn := Hd.mk (own_f l0 (by omega) 80 (by omega))
        have htw : IntKind.u32.wrap (tn : Int) = (tn : Int) := by rw [IntKind.wrap_u32]; omega
        clear hw0
        gi_wp2
        refine (wpIn_wide (n := m)).2 ?_
        go_region_held3 (fun w' => w'.cell? ⟨w.heap.size, 0, none⟩ = some (.slice A0 l0.length c0) ∧ w'.cell? ⟨w.heap.size + 1, 0, none⟩ = some (.int .u16 tn))
          (first | (simp [go_sem, *]; done))
          (first
            | (go_at_call 26; (with_reducible refine (postchaiselaw02_Own.calls 80 A0 c0 l0 (l0.map ofR) _ (Kd.C_below HR0.out HW0.out) HC0.out HOwn.out).mono ?_); rintro e W1 ⟨v, rfl, hR, hB⟩;
               have y0 : W1.cell? ⟨w.heap.size, 0, none⟩ = some (.slice A0 l0.length c0) := (hB.cell (p := ⟨w.heap.size, 0, none⟩) (by simp; omega)).trans (by go_simp);
               have y1 : W1.cell? ⟨w.heap.size + 1, 0, none⟩ = some (.int .u16 tn) := (hB.cell (p := ⟨w.heap.size + 1, 0, none⟩) (by simp)).trans (by go_simp);
               have HB1 := Hd.mk hB; have HR1 := Hd.mk hR; obtain ⟨A1, c1, hv, hc1, hrow⟩ := Kd.R_reads hR; rw [hv]; rw [hv] at HR1; have HRow := Hd.mk hrow; clear hB hR hrow hv)
            | (go_at_call 27; (with_reducible refine (walkMk_any _ _ _ _ _).mono ?_); rintro e W2 ⟨rfl, hW2⟩;
               have y2 : W2.cell? ⟨w.heap.size, 0, none⟩ = some (.slice A0 l0.length c0) := by rw [hW2]; exact Go.Lib.cell?_alloc_some _ (Go.Lib.cell?_alloc_some _ y0);
               have y3 : W2.cell? ⟨w.heap.size + 1, 0, none⟩ = some (.int .u16 tn) := by rw [hW2]; exact Go.Lib.cell?_alloc_some _ (Go.Lib.cell?_alloc_some _ y1);
               have HW2 := Hd.mk hW2; clear hW2))
        have hfn := walk_func_nil 46 #[.pointer (some ⟨W1.heap.size, 0, none⟩), .pointer (some ⟨W1.heap.size + 1, 0, none⟩)]
        have h40 : IntKind.i64.wrap ((l2.length : Int) + 1) = (l2.length : Int) + 1 := by rw [i64_w]; exact w64n (by omega) (by omega)
        have hs2 : W2.heap.size = W1.heap.size + 1 + 1 := by rw [HW2.out]; simp
        have hxl : (l0.map ofR).length = l0.length := by rw [List.length_map]
        have hloc : A1 = none ∨ ∃ g, A1 = some ⟨g, 0, none⟩ ∧ w.heap.size + 3 ≤ g ∧ g < W1.heap.size := by
          obtain ⟨inner, ho⟩ := Kd.R_own HR1.out
          rcases ho.2 with ⟨e, _⟩ | ⟨g, cap, cur, e, hg, hh, _⟩
          · injection e with e1 e2 e3; exact .inl e1
          · injection e with e1 e2 e3
            exact .inr ⟨g, e1, by simpa using hg, (Array.getElem?_eq_some_iff.1 hh).1⟩
        have HLoc := Hd.mk hloc
        have hB1 : w.heap.size + 3 ≤ W1.heap.size := by have := HB1.out.size; simpa using this
        have hbk : ∀ k, walkBk A1 W1.heap.size (W1.heap.size + 1) k → w.heap.size + 3 ≤ k ∧ k < W1.heap.size + 2 := fun k hk => by
          rcases hk with rfl | rfl | ⟨ad, e, rfl⟩
          · omega
          · omega
          · rcases HLoc.out with h | ⟨g, h, h1, h2⟩
            · rw [h] at e; cases e
            · rw [h] at e; cases e; exact ⟨h1, by show g < _; omega⟩
        have HBk := Hd.mk hbk
        clear hloc hbk
        gi_wp2
        refine wpIn_rangeFunc_state rfl (by omega) (gf := 46) (lb := #[.pointer (some ⟨W1.heap.size, 0, none⟩), .pointer (some ⟨W1.heap.size + 1, 0, none⟩)]) rfl trivial
          (enters_of Tryd.func46 (by kernel_rfl) rfl) (walk_state (l0.map ofR) tn A1 c1 W1.heap.size (W1.heap.size + 1) (by omega) (by omega) _)
          ?blocks ?stands (fun _ => rfl)
          (fun pre W => ∃ k, k ≤ tn ∧ pre = meantTo (hasB (l0.map ofR) tn) k ∧ pre.length < l2.length + 1 ∧ TW w W1.heap.size (.slice A0 l0.length c0) tn (l2.length + 1) pre.length (k + 1) W)
          (fun c pre W => c = .exit 0 ∧ ∃ k, k ≤ tn ∧ TW w W1.heap.size (.slice A0 l0.length c0) tn (l2.length + 1) (l2.length + 1) (k + 1) W)
          ?own ?ownx ?abide ?abidex ?zero
          (fun x => { tmps := #[.slice A0 l0.length c0, .int .u16 tn, .slice A2 l2.length c2, .pointer (some ⟨w.heap.size, 0, none⟩), .pointer (some ⟨w.heap.size + 1, 0, none⟩), undef, .pointer (some ⟨w.heap.size + 1 + 1, 0, none⟩), .func (.func 46) #[] #[.pointer (some ⟨W1.heap.size, 0, none⟩), .pointer (some ⟨W1.heap.size + 1, 0, none⟩)], .pointer (some ⟨W1.heap.size + 1 + 1, 0, none⟩), .pointer (some ⟨W1.heap.size + 1 + 1 + 1, 0, none⟩), .pointer (some ⟨W1.heap.size + 1 + 1 + 1 + 1, 0, none⟩), .int .u32 (x : Nat), .slice A0 l0.length c0, .int .i64 (l0.length : Nat), .bool false, .bool false, .int .u16 tn, .bool false, .bool false, .bool false, .slice A2 l2.length c2, .int .i64 (l2.length : Nat), .bool false, .bool false, .slice A0 l0.length c0, .slice A1 l0.length c1, .int .u16 tn, .int .u32 tn, .func (.func 46) #[] #[.pointer (some ⟨W1.heap.size, 0, none⟩), .pointer (some ⟨W1.heap.size + 1, 0, none⟩)], .func (.func 46) #[] #[.pointer (some ⟨W1.heap.size, 0, none⟩), .pointer (some ⟨W1.heap.size + 1, 0, none⟩)], .bool false, .slice A2 l2.length c2, .int .i64 (l2.length : Nat), .int .i64 ((l2.length : Int) + 1), .func (.func 46) #[] #[.pointer (some ⟨W1.heap.size, 0, none⟩), .pointer (some ⟨W1.heap.size + 1, 0, none⟩)], .int .u32 (x : Nat), undef, undef, undef, undef, undef, undef, undef, undef, undef, undef, undef, undef, undef, undef, undef, undef, undef, undef, undef, undef, undef, undef, undef, undef, undef, undef, undef, undef, undef, undef, undef, undef, undef, undef, undef, undef, undef, undef, undef, undef, undef, undef, undef, undef, undef, undef, undef, undef, undef, undef, undef, undef, undef, undef], defers := [] }) ?assign ?body ?done ?stop
        case blocks =>
          intro k hk
          have := (HBk.out k hk).2
          simp only [World.size_alloc]
          omega
        case stands =>
          intro W hW
          refine WalkSt.on ?_ hW
          refine ⟨?_, ?_, ?_⟩
          · refine Go.Lib.cell?_alloc_some _ (Go.Lib.cell?_alloc_some _ (Go.Lib.cell?_alloc_some _ ?_))
            rw [HW2.out, hxl]; go_simp
          · refine Go.Lib.cell?_alloc_some _ (Go.Lib.cell?_alloc_some _ (Go.Lib.cell?_alloc_some _ ?_))
            rw [HW2.out]; go_simp
          · rw [HW2.out]
            have hb := (((((Below.refl W1.heap.size W1).alloc (Nat.le_refl _) (.cells #[.slice A1 l0.length c1] 44)).alloc (by simp) (.cells #[.int .u32 tn] 58)).alloc (by simp; omega) (.cells #[.int .i64 ((l2.length : Int) + 1)] 3)).alloc (by simp; omega) (.cells #[.int .i64 0] 3)).alloc (by simp; omega) (.cells #[.int .u32 1] 58)
            exact Kd.C_below (hxl ▸ HRow.out) hb
        case own =>
          rintro pre X Y row ⟨k, hk, hp, hl, hX⟩ hg hr
          exact ⟨k, hk, hp, hl, hX.on ((Below.refl _ X).grown hg hX.lt (fun j e => by have := (hr j e).1; simp only [World.size_alloc] at this; omega))⟩
        case ownx =>
          rintro c pre X Y row ⟨hc, k, hk, hX⟩ hg hr
          exact ⟨hc, k, hk, hX.on ((Below.refl _ X).grown hg hX.lt (fun j e => by have := (hr j e).1; simp only [World.size_alloc] at this; omega))⟩
        case abide =>
          rintro pre X Y ⟨k, hk, hp, hl, hX⟩ ht
          exact ⟨k, hk, hp, hl, hX.touched ht HBk.out⟩
        case abidex =>
          rintro c pre X Y ⟨hc, k, hk, hX⟩ ht
          exact ⟨hc, k, hk, hX.touched ht HBk.out⟩
        case zero =>
          refine ⟨0, Nat.zero_le _, rfl, Nat.succ_pos _, ?_⟩
          have z2 : W1.cell? ⟨w.heap.size + 1 + 1, 0, none⟩ = some (.bool false) := (HB1.out.cell (p := ⟨w.heap.size + 1 + 1, 0, none⟩) (by simp)).trans (by go_simp)
          have z3 : W1.frozen? ⟨w.heap.size + 1 + 1, 0, none⟩ = false := (World.frozen?_of_block (HB1.out.block (w.heap.size + 1 + 1) (by simp))).trans (by go_simp)
          have hs1 : W1.heap.size + 1 + 1 = W2.heap.size := hs2.symm
          have hbb : Below w.heap.size w W2 := by
            rw [HW2.out]
            exact ((HW0.out.trans (HB1.out.mono (by simp; omega))).alloc (by omega) _).alloc (by simp; omega) _
          refine ⟨((hbb.alloc hbb.size _).alloc (by have := hbb.size; simp; omega) _).alloc (by have := hbb.size; simp; omega) _, ?_, ?_, ?_, ?_, ?_, ?_, ?_, ?_, ?_, hB1⟩
          · exact Go.Lib.cell?_alloc_some _ (Go.Lib.cell?_alloc_some _ (Go.Lib.cell?_alloc_some _ y2))
          · exact Go.Lib.cell?_alloc_some _ (Go.Lib.cell?_alloc_some _ (Go.Lib.cell?_alloc_some _ y3))
          · rw [HW2.out]
            exact Go.Lib.cell?_alloc_some _ (Go.Lib.cell?_alloc_some _ (Go.Lib.cell?_alloc_some _ (Go.Lib.cell?_alloc_some _ (Go.Lib.cell?_alloc_some _ z2))))
          · rw [HW2.out]
            refine (World.frozen?_of_block (((((((Below.refl W1.heap.size W1).alloc (Nat.le_refl _) _).alloc (by simp) _).alloc (by simp; omega) _).alloc (by simp; omega) _).alloc (by simp; omega) _).block (w.heap.size + 1 + 1) (by omega))).trans z3
          · rw [hs1]; exact (three_new W2 _ _ _ _ _ _).1
          · rw [hs1]; exact (three_new W2 _ _ _ _ _ _).2.1
          · rw [hs1]; exact (three_new W2 _ _ _ _ _ _).2.2.1
          · rw [hs1]; exact (three_new W2 _ _ _ _ _ _).2.2.2.1
          · rw [hs1]; exact (three_new W2 _ _ _ _ _ _).2.2.2.2
        case assign =>
          intro l x V K hK
          gi_wp2
          exact hK
        case body =>
          rintro l pre x V ⟨k, hk, hpre, hlen, hV⟩ ⟨hx0, hxt, hxp, hxe⟩
          rw [hpre] at hxe
          obtain ⟨hkx, hno⟩ := meantTo_at (p := hasB (l0.map ofR) tn) hx0 hxp hxe
          have HE := Hd.mk (show pre ++ [x] = meantTo (hasB (l0.map ofR) tn) x by rw [hpre]; exact hxe)
          have HHas : Hd (∀ (n : Nat) (W : World), 0 < n → Below w.heap.size w W → Calls Tryd.prog 28 #[.slice A0 l0.length c0, .int .u32 n, .int .u32 tn] W fun e w' => e = .returned (.bool (hasB (l0.map ofR) tn n)) ∧ ∃ nd, w' = W.drewN nd) := ⟨fun n W hn hb => (postchaiseref02_Has.calls 2100 A0 c0 l0 n tn _ W (Kd.C_below HR0.out hb) HC0.out (refHas_f l0 n tn hn (by omega) 2100 (by omega))).mono fun _ _ g => ⟨g.1, by obtain ⟨nd, e⟩ := g.2; exact ⟨nd, e⟩⟩⟩
          have HXP := Hd.mk hxp
          have hI : Hd (∃ f, 0 < f ∧ f ≤ x ∧ (∀ i, f ≤ i → i < x → hasB (l0.map ofR) tn i = false) ∧ TW w W1.heap.size (.slice A0 l0.length c0) tn (l2.length + 1) pre.length f V ∧ KeepsFrom (W1.heap.size + 5) V V ∧ Stood (walkBk A1 W1.heap.size (W1.heap.size + 1)) V V) := ⟨k + 1, Nat.succ_pos _, hkx, fun i h1 h2 => hno i h1 h2, hV, KeepsFrom.refl _ _, Stood.refl _ _⟩
          clear hV hno hkx hxe hpre hxp
          gi_wp2
          gi_loopw [36] (fun _ wr => Hd (∃ f, 0 < f ∧ f ≤ x ∧ (∀ i, f ≤ i → i < x → hasB (l0.map ofR) tn i = false) ∧ TW w W1.heap.size (.slice A0 l0.length c0) tn (l2.length + 1) pre.length f wr ∧ KeepsFrom (W1.heap.size + 5) V wr ∧ Stood (walkBk A1 W1.heap.size (W1.heap.size + 1)) V wr)) (fun _ wr => x - (match wr.cell? ⟨W1.heap.size + 1 + 1 + 1 + 1, 0, none⟩ with | some v => (intOf v).toNat | none => 0))
          case atStart => exact hI
          case round =>
            obtain ⟨f, h0, h1, h2, h3, h4, h5⟩ := hrel.out
            have HSt := Hd.mk h5
            have d0 := h3.c0
            have d1 := h3.c1
            have d2 := h3.cf
            have d3 := h3.ff
            have HT := Hd.mk h2
            have HS := Hd.mk h3
            have HK := Hd.mk h4
            have q0 : (f : Int) ≤ (tn : Int) := by omega
            have fw : IntKind.u32.wrap ((f : Int) + 1) = (f : Int) + 1 := by rw [IntKind.wrap_u32]; omega
            clear h2 h3 h4 h5 hrel hI
            by_cases he : f = x
            · have hq := HHas.out f wr h0 HS.out.below
              rw [show hasB (l0.map ofR) tn f = true by rw [he]; exact HXP.out] at hq
              have HQ := Hd.mk hq
              clear hq
              subst he
              have hml : (pre.length : Int) + 1 < 9223372036854775807 := by omega
              have mw : IntKind.i64.wrap ((pre.length : Int) + 1) = (pre.length : Int) + 1 := by rw [i64_w]; exact w64n (by omega) (by omega)
              clear HT
              gi_wp2
              refine And.intro trivial (And.intro (fun h => absurd h (by simp [Fence.wide])) ((CallsIn.inRound l (callsIn_wide.2 HQ.out)).mono ?_))
              rintro e w1 ⟨rfl, nd, rfl⟩
              have q1 : ((tn : Int) < (f : Int)) = False := eq_false (by omega)
              clear q0
              have z0 := HS.out.cn
              have z1 := HS.out.fn
              have z2 := HS.out.cm
              by_cases h5 : (l2.length : Int) + 1 ≤ (pre.length : Int) + 1
              · have hpl : pre.length + 1 = l2.length + 1 := by omega
                have HPl := Hd.mk hpl
                clear hpl
                gi_wp2
                refine ⟨by simp only [World.size_alloc, hs2]; exact keeps_put (keeps_put (keeps_drewN HK.out nd) _ _ (by simp)) _ _ (by simp), rfl, f, hxt, ?_⟩
                exact ((HS.out.drewN nd).from (f + 1) _ (by omega)).many (l2.length + 1) _ (by have := HPl.out; omega)
              · have hpl : (pre ++ [f]).length < l2.length + 1 := by rw [List.length_append]; show pre.length + 1 < _; omega
                have HPl := Hd.mk hpl
                have h6 : ((l2.length : Int) + 1 ≤ (pre.length : Int) + 1) = False := eq_false h5
                have h7 : ((l2.length : Int) ≤ (pre.length : Int)) = False := eq_false (by omega)
                clear hpl h5 hlen
                gi_wp2
                refine ⟨by simp only [World.size_alloc, hs2]; exact keeps_put (keeps_put (keeps_drewN HK.out nd) _ _ (by simp)) _ _ (by simp), ?_, f, hxt, HE.out, HPl.out, ?_⟩
                · exact stood_put (stood_put (fun k hk => HSt.out k hk) ⟨W1.heap.size + 1 + 1 + 1 + 1, 0, none⟩ _ (fun k hk => by have := (HBk.out k hk).2; show k ≠ W1.heap.size + 1 + 1 + 1 + 1; omega)) ⟨W1.heap.size + 1 + 1 + 1, 0, none⟩ _ (fun k hk => by have := (HBk.out k hk).2; show k ≠ W1.heap.size + 1 + 1 + 1; omega)
                · rw [List.length_append]
                  exact ((HS.out.drewN nd).from (f + 1) _ (by omega)).many (pre.length + 1) _ (by omega)
            · have hq := HHas.out f wr h0 HS.out.below
              rw [HT.out f (by omega) (by omega)] at hq
              have HQ := Hd.mk hq
              have HNe := Hd.mk he
              clear hq he
              gi_wp2
              refine And.intro trivial (And.intro (fun h => absurd h (by simp [Fence.wide])) ((CallsIn.inRound l (callsIn_wide.2 HQ.out)).mono ?_))
              rintro e w1 ⟨rfl, nd, rfl⟩
              gi_wp2
              go_roundw
              case rel => exact ⟨f + 1, Nat.succ_pos _, by have := HNe.out; omega, fun i h1 h2 => HT.out i (by omega) h2, (HS.out.drewN nd).from (f + 1) _ (by omega), keeps_put (keeps_drewN HK.out nd) _ _ (by simp), stood_put (fun k hk => HSt.out k hk) ⟨W1.heap.size + 1 + 1 + 1 + 1, 0, none⟩ _ (fun k hk => by have := (HBk.out k hk).2; show k ≠ W1.heap.size + 1 + 1 + 1 + 1; omega)⟩
              case measure =>
                have z0 := ((HS.out.drewN nd).from (f + 1) ((f : Int) + 1) (by omega)).cf
                have z1 := HS.out.cf
                rw [z0, z1]
                have := HNe.out
                simp [intOf]; omega
        case' done =>
          rintro D xs V rfl rfl ⟨k, hk, hxs, hlen, hV⟩ hD
          have hno : ∀ i, k < i → i ≤ tn → hasB (l0.map ofR) tn i = false := (meantTo_more (p := hasB (l0.map ofR) tn) hk).2 (by rw [← hxs])
          simp only [World.size_alloc, hs2] at hD
          have hI : Hd (∃ many f, 0 < f ∧ f ≤ tn + 1 ∧ (many < l2.length + 1 → ∀ i, f ≤ i → i ≤ tn → hasB (l0.map ofR) tn i = false) ∧ TW w W1.heap.size (.slice A0 l0.length c0) tn (l2.length + 1) many f V ∧ V.heap[W1.heap.size + 1 + 1 + 1 + 1 + 1]? = some (.deferred (some []))) := ⟨_, k + 1, Nat.succ_pos _, by omega, fun _ i h1 h2 => hno i h1 h2, hV, hD⟩
          clear hV hno hxs hlen hD
          simp only [World.size_alloc, hs2]
          gi_wp2
        case' stop =>
          rintro D c pre V rfl - ⟨rfl, k, hk, hV⟩ hD
          simp only [World.size_alloc, hs2] at hD
          have hI : Hd (∃ many f, 0 < f ∧ f ≤ tn + 1 ∧ (many < l2.length + 1 → ∀ i, f ≤ i → i ≤ tn → hasB (l0.map ofR) tn i = false) ∧ TW w W1.heap.size (.slice A0 l0.length c0) tn (l2.length + 1) many f V ∧ V.heap[W1.heap.size + 1 + 1 + 1 + 1 + 1]? = some (.deferred (some []))) := ⟨_, k + 1, Nat.succ_pos _, by omega, fun h => absurd h (Nat.lt_irrefl _), hV, hD⟩
          clear hV hD
          simp only [World.size_alloc, hs2]
          gi_wp2
        all_goals
          obtain ⟨many, hI⟩ := hI.out
          have HI := Hd.mk hI
          clear hI
          gi_loopw [66] (fun _ wr => Hd (∃ f, 0 < f ∧ f ≤ tn + 1 ∧ (many < l2.length + 1 → ∀ i, f ≤ i → i ≤ tn → hasB (l0.map ofR) tn i = false) ∧ TW w W1.heap.size (.slice A0 l0.length c0) tn (l2.length + 1) many f wr ∧ wr.heap[W1.heap.size + 1 + 1 + 1 + 1 + 1]? = some (.deferred (some [])))) (fun _ wr => tn + 1 - (match wr.cell? ⟨W1.heap.size + 1 + 1 + 1 + 1, 0, none⟩ with | some v => (intOf v).toNat | none => 0))
          case atStart => exact HI
          case round =>
            obtain ⟨f, h0, h1, h2, h3, h4⟩ := hrel.out
            have d0 := h3.c0
            have d1 := h3.c1
            have d2 := h3.cf
            have d3 := h3.ff
            have d4 := h3.cn
            have d5 := h3.cm
            have HT := Hd.mk h2
            have HS := Hd.mk h3
            have HM := Hd.mk h4
            have fw : IntKind.u32.wrap ((f : Int) + 1) = (f : Int) + 1 := by rw [IntKind.wrap_u32]; omega
            clear h2 h3 h4 hrel HI
            have HHas : Hd (∀ (n : Nat) (W : World), 0 < n → Below w.heap.size w W → Calls Tryd.prog 28 #[.slice A0 l0.length c0, .int .u32 n, .int .u32 tn] W fun e w' => e = .returned (.bool (hasB (l0.map ofR) tn n)) ∧ ∃ nd, w' = W.drewN nd) := ⟨fun n W hn hb => (postchaiseref02_Has.calls 2100 A0 c0 l0 n tn _ W (Kd.C_below HR0.out hb) HC0.out (refHas_f l0 n tn hn (by omega) 2100 (by omega))).mono fun _ _ g => ⟨g.1, by obtain ⟨nd, e⟩ := g.2; exact ⟨nd, e⟩⟩⟩
            by_cases hA : many < l2.length + 1 ∧ f ≤ tn
            · have hq := HHas.out f wr h0 HS.out.below
              rw [HT.out hA.1 f (Nat.le_refl _) hA.2] at hq
              have HQ := Hd.mk hq
              have qa : (many : Int) < (l2.length : Int) + 1 := by omega
              have qb : (f : Int) ≤ (tn : Int) := by omega
              have HA2 := Hd.mk hA
              clear hq hA h1
              gi_wp2
              refine And.intro trivial (And.intro (fun h => absurd h (by simp [Fence.wide])) ((callsIn_wide.2 HQ.out).mono ?_))
              rintro e w1 ⟨rfl, nd, rfl⟩
              clear qa qb d4 d5
              gi_wp2
              go_roundw
              case rel => exact ⟨f + 1, by omega, by have := HA2.out.2; omega, fun h i h1 h2 => HT.out h i (by omega) h2, (HS.out.drewN nd).from (f + 1) _ (by omega), (Below.heap_setCell _ _ _ _ (by show _ ≠ W1.heap.size + 1 + 1 + 1 + 1; omega)).trans HM.out⟩
              case measure =>
                have z0 := ((HS.out.drewN nd).from (f + 1) ((f : Int) + 1) (by omega)).cf
                have z1 := HS.out.cf
                rw [z0, z1]
                have := HA2.out.2
                simp [intOf]; omega
            · have hB : ((many : Int) < (l2.length : Int) + 1) = False ∨ (((many : Int) < (l2.length : Int) + 1) = True ∧ ((f : Int) ≤ (tn : Int)) = False) := by
                by_cases h5 : many < l2.length + 1
                · exact .inr ⟨eq_true (by omega), eq_false (by omega)⟩
                · exact .inl (eq_false (by omega))
              have e2 := HS.out.c2
              have e3 := HS.out.f2
              have HOf := Hd.mk (of_f l2 H32.out (by omega) 2100 (by omega))
              have HROf := Hd.mk (refOf_f l2 H32.out (by omega) 2100 (by omega))
              have hol := ofGo_len l2 l2.length 0 []
              have hol2 : (ofGo l2 l2.length 0 []).length ≤ 1000 := by have h00 : ([] : List S78).length = 0 := rfl; omega
              obtain ⟨og, hog⟩ : ∃ og, ofGo l2 l2.length 0 [] = og := ⟨_, rfl⟩
              rw [hog] at HOf HROf hol2
              have HSame := Hd.mk (same_f og (by omega) 2000 (by omega))
              have hogl : (og.map toR).length = og.length := by rw [List.length_map]
              have HAw := Hd.mk (awake_f 2100 (by omega))
              clear hA h1 hol hol2 hog
              rcases hB with qa | ⟨qa, qb⟩
              all_goals
                gi_wp2
                refine And.intro trivial (And.intro (fun h => absurd h (by simp [Fence.wide])) ((callsIn_wide.2 (seqset_Of.calls 2100 A2 c2 l2 _ wr (Kd.C_below HR2.out HS.out.below) HC2.out HOf.out)).mono ?_))
                rintro e w1 ⟨v1, rfl, R1, B1⟩
                obtain ⟨a1, n1, rfl, hn1, C1⟩ := Kd.R_reads R1
                have HB1x := Hd.mk B1
                have HC1x := Hd.mk C1
                have HN1x := Hd.mk hn1
                clear R1 B1 C1 hn1
                gi_wp2
                refine And.intro trivial (And.intro (fun h => absurd h (by simp [Fence.wide])) ((callsIn_wide.2 (postchaiseref02_Of.calls 2100 A2 c2 l2 _ w1 (Kd.C_below HR2.out (HS.out.below.trans (HB1x.out.mono HS.out.below.size))) HC2.out HROf.out)).mono ?_))
                rintro e w2 ⟨v2, rfl, R2, B2⟩
                obtain ⟨a2, n2, rfl, hn2, C2⟩ := Kd.R_reads R2
                rw [hogl] at hn2 C2 ⊢
                have HB2x := Hd.mk B2
                have HC2x := Hd.mk C2
                have HN2x := Hd.mk hn2
                clear R2 B2 C2 hn2
                gi_wp2
                have hS := postchaiselaw02_Same.calls 2000 a1 n1 og a2 n2 (og.map toR) true w2 (Kd.C_below HC1x.out HB2x.out) HN1x.out (hogl.symm ▸ HC2x.out) (hogl.symm ▸ HN2x.out) HSame.out
                rw [hogl] at hS
                have HSm := Hd.mk hS
                clear hS
                refine And.intro trivial (And.intro (fun h => absurd h (by simp [Fence.wide])) ((callsIn_wide.2 HSm.out).mono ?_))
                rintro e w3 ⟨rfl, nd, rfl⟩
                have hg3 : Below w.heap.size w (w2.drewN nd) := pw_below_drewN ((HS.out.below.trans (HB1x.out.mono HS.out.below.size)).trans (HB2x.out.mono (Nat.le_trans HS.out.below.size HB1x.out.size))) nd
                have HG3 := Hd.mk hg3
                clear hg3
                gi_wp2
                refine And.intro trivial (And.intro (fun h => absurd h (by simp [Fence.wide])) ((callsIn_wide.2 (postchaiselaw02_awake.calls 2100 true (w2.drewN nd) (HG.out.on HG3.out) HAw.out)).mono ?_))
                rintro e w4 ⟨rfl, B4⟩
                have hT4 : Below (wr.heap.size) wr w4 := HB1x.out.trans ((HB2x.out.mono HB1x.out.size).trans (((Below.refl _ w2).mono (Nat.le_refl _) |> fun h => pw_below_drewN h nd).mono (Nat.le_trans HB1x.out.size HB2x.out.size) |>.trans (B4.mono (Nat.le_trans HB1x.out.size HB2x.out.size))))
                have HT4 := Hd.mk (HS.out.on (hT4.mono HS.out.lt))
                have HM4 := Hd.mk ((hT4.block _ (Array.getElem?_eq_some_iff.1 HM.out).1).trans HM.out)
                have k2 := HT4.out.c2
                have k3 := HT4.out.f2
                have hc5 : (w4.setCell ⟨w.heap.size + 1 + 1, 0, none⟩ (.bool true)).cell? ⟨w.heap.size + 1 + 1, 0, none⟩ = some (.bool true) := World.cell?_setCell_same' w4 _ _ (by rw [k2]; rfl)
                have hb5 : Below w.heap.size w (w4.setCell ⟨w.heap.size + 1 + 1, 0, none⟩ (.bool true)) := HT4.out.below.setCell (by show w.heap.size ≤ w.heap.size + 1 + 1; omega) _
                have hm5 : (w4.setCell ⟨w.heap.size + 1 + 1, 0, none⟩ (.bool true)).heap[W1.heap.size + 1 + 1 + 1 + 1 + 1]? = some (.deferred (some [])) := (Below.heap_setCell _ _ _ _ (by show W1.heap.size + 1 + 1 + 1 + 1 + 1 ≠ w.heap.size + 1 + 1; omega)).trans HM4.out
                have HC5 := Hd.mk hc5
                have HB5 := Hd.mk hb5
                have HM5 := Hd.mk hm5
                clear hT4 B4 e2 e3 hc5 hb5 hm5
                gi_wp2
                refine leaves_marks (B := w.heap.size + 3) _ _ ?_ ?_
                · refine ⟨fun d hd => ?_, List.pairwise_singleton _ _⟩
                  rw [List.mem_singleton.1 hd]
                  exact ⟨_, rfl, by omega, HM5.out⟩
                · intro W' hs
                  exact ⟨.bool true, sw_res _ HC5.out hs rfl, rfl, sw_below hs (by omega) HB5.out⟩
end Go.Proofs.YtahbnpkhkhdmaaaDoor
