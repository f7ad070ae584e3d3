/- Trees: Walk, the walk through a tree's messages: a range over Slots whose body hands on. No condition but those that each contract bears. -/
import Derived.Test.YtkcnakaneiocjaaTrSlots
import Derived.Test.YtkcnakaneiocjaaTrStd
set_option linter.unusedVariables false
set_option linter.unusedSimpArgs false
namespace Go.Proofs.Ytkcnakaneiocjaa.PTr
open Go.RowKit Go.Shelf Go.Proofs.YtkcnakaneiocjaaW.PrintWords Go.Proofs.YtkcnakaneiocjaaW.PrintLast Go.Proofs.YtkcnakaneiocjaaW.PrintMore
attribute [local go_sem] Oper.semAt_some wide_fn
/-- The messages of what a walk comes to. -/
def recsOf (v : List Vis) : List Rec := (v.filter fun x => x.2.kind == 2).map fun x => x.2.rc
def encR (r : Rec) : Array Value := #[.agg (recA r)]
def CanR (L pre : List Rec) (x : Rec) : Prop := ∃ post, L = pre ++ x :: post
theorem recsOf_app (a b : List Vis) : recsOf (a ++ b) = recsOf a ++ recsOf b := by unfold recsOf; rw [List.filter_append, List.map_append]
theorem recsOf_yes {x : Vis} (h : x.2.kind = 2) : recsOf [x] = [x.2.rc] := by unfold recsOf; rw [List.filter_cons, if_pos (by rw [h]; rfl)]; rfl
theorem recsOf_no {x : Vis} (h : x.2.kind ≠ 2) : recsOf [x] = [] := by unfold recsOf; rw [List.filter_cons, if_neg (by simpa using h)]; rfl
theorem can_rec {L pre : List Vis} {x : Vis} (h : CanV L pre x) (hk : x.2.kind = 2) : CanR (recsOf L) (recsOf pre) x.2.rc := by
  obtain ⟨post, rfl⟩ := h
  exact ⟨recsOf post, by rw [recsOf_app, show x :: post = [x] ++ post from rfl, recsOf_app, recsOf_yes hk]; rfl⟩
structure WkSt (n bt bs : Nat) (A : Option Addr) (N : List Nd) (cap : Nat) (root hgt : Int) (W : World) : Prop where
  t0 : W.cell? ⟨bt, 0, none⟩ = some (.int .i64 root)
  t1 : W.cell? ⟨bt, 1, none⟩ = some (.int .i64 hgt)
  s : W.cell? ⟨bs, 0, none⟩ = some (.iface 25 (.slice A N.length cap))
  sh : ShB n A N W
theorem kp_put {n : Nat} {B : Nat} (hn : n ≤ B) (W : World) (l : Nat) (o o' : Obj) (hl : B ≤ l) (h : W.heap[l]? = some o) (ho : o.isCells = false) : Kp n W (W.putObj l o') := by
  have hne : ∀ k, k ≠ l → (W.putObj l o').heap[k]? = W.heap[k]? := fun k hk => World.putObj_heap_other hk
  refine ⟨⟨rfl, rfl, rfl, by simp [World.putObj], fun k hk => hne k (by omega)⟩, fun k cs t m _ hk => (hne k (fun e => ?_)).trans hk⟩
  subst e
  rw [h] at hk
  cases hk
  cases ho
set_option maxRecDepth 100000 in
set_option maxHeartbeats 4000000 in
theorem walk_can (m n bt bs : Nat) (hm : 8 ≤ m) (A : Option Addr) (N : List Nd) (hN : N.length ≤ 1000000) (cap : Nat) (root hgt : Int) (h : Nat) (hD : Dep N h root) :
    SeqCan Fence.wide m Try.prog 31 #[.pointer (some ⟨bt, 0, none⟩), .pointer (some ⟨bs, 0, none⟩)] encR (Kp n) (WkSt n bt bs A N cap root hgt) (CanR (recsOf (vis N h root))) (fun xs => xs = recsOf (vis N h root)) (fun _ => True) := by
  intro l J Jx W hJ hJx hJo hJxo hSt h0 hY
  have e0 := hSt.t0
  have e1 := hSt.t1
  have e2 := hSt.s
  have l0 := lt_of_cell e0
  have l2 := lt_of_cell e2
  have HSt := Hd.mk hSt
  have HJ := Hd.mk hJ
  have HJx := Hd.mk hJx
  have HJo := Hd.mk hJo
  have HJxo := Hd.mk hJxo
  have H0 := Hd.mk h0
  have HY := Hd.mk hY
  clear hJ hJx hJo hJxo hSt h0 hY
  show CallsIn Fence.wide m Try.prog 31 #[.func (.yield l) #[] #[], .pointer (some ⟨bt, 0, none⟩), .pointer (some ⟨bs, 0, none⟩)] W _
  refine callsIn_of_wp_marks Try.func31 rfl trivial ?_ rfl
  simp only [Try.ntmps31, List.size_toArray, List.length_cons, List.length_nil, Nat.reduceAdd, Nat.reduceSub, Array.replicate_succ, Array.replicate_zero, List.push_toArray, List.append_toArray, List.nil_append, List.cons_append]
  gi_wp2_with (first
    | (refine And.intro (fun h => absurd h (by simp [Fence.wide])) (CallsIn.mono (callsIn_wide.2 (slots_mk root hgt A N.length cap (W.alloc (.cells #[.func (.yield l) #[] #[]] 84)))) ?_); rintro e w2 ⟨rfl, rfl⟩)
    | fail)
  obtain ⟨W1, hW1⟩ : ∃ X, ((W.alloc (.cells #[.func (.yield l) #[] #[]] 84)).alloc (.cells #[.int .i64 root, .int .i64 hgt] 27)).alloc (.cells #[.iface 25 (.slice A N.length cap)] 74) = X := ⟨_, rfl⟩
  have hb1 : Below W.heap.size W W1 := by rw [← hW1]; exact below_alloc (below_alloc (below_alloc (Below.refl _ _) _) _) _
  have hz1 : W1.heap.size = W.heap.size + 3 := by rw [← hW1]; simp
  have hy1 : W1.heap[W.heap.size]? = some (.cells #[.func (.yield l) #[] #[]] 84 (0, 0)) := by
    rw [← hW1]
    exact (Below.heap_alloc _ _ _ (by simp only [World.size_alloc]; omega)).trans ((Below.heap_alloc _ _ _ (by simp only [World.size_alloc]; omega)).trans (heap_alloc_new W _))
  have ht1 : W1.heap[W.heap.size + 1]? = some (.cells #[.int .i64 root, .int .i64 hgt] 27 (0, 0)) := by
    rw [← hW1]
    exact (Below.heap_alloc _ _ _ (by simp only [World.size_alloc]; omega)).trans (tr_new_at _ _ (by simp))
  have hs1 : W1.heap[W.heap.size + 2]? = some (.cells #[.iface 25 (.slice A N.length cap)] 74 (0, 0)) := by
    rw [← hW1]
    exact tr_new_at _ _ (by simp)
  rw [hW1]
  have hn1 : n ≤ W1.heap.size := by have := HSt.out.sh.n; omega
  have hSl : ∀ V, Below W1.heap.size W1 V → SlSt n (W.heap.size + 1 + 1) (W.heap.size + 1) A N cap root V := fun V hV =>
    ⟨blk_cell ((hV.block _ (by omega)).trans hs1) 0, blk_cell ((hV.block _ (by omega)).trans ht1) 0, (HSt.out.sh.on (hb1.mono HSt.out.sh.n)).on (hV.mono hn1)⟩
  have HB1 := Hd.mk hb1
  clear e0 e1 e2 hW1 hb1 ht1 hs1
  refine wpIn_rangeFunc_can rfl (by omega) (gf := 29) (lb := #[.pointer (some ⟨W.heap.size + 1 + 1, 0, none⟩), .pointer (some ⟨W.heap.size + 1, 0, none⟩)]) rfl trivial
    (enters_of Try.func29 (by kernel_rfl) rfl) (slots_can (m - 1) n (W.heap.size + 1 + 1) (W.heap.size + 1) A N hN cap root h hD) (fun _ _ _ => Kp.trans) (fun V k o o' => kp_put hn1 V k o o') hSl (fun _ => rfl)
    (fun pre V => J (recsOf pre) V ∧ V.heap[W.heap.size]? = some (.cells #[.func (.yield l) #[] #[]] 84 (0, 0))) (fun c pre V => c = .ret ∧ ∃ q, Jx q V)
    (fun pre X Y row hX hg hr => ⟨ownFrom_up HJo.out (show W.heap.size ≤ W1.heap.size by omega) _ _ _ _ hX.1 hg hr, (hg.block _ (Array.getElem?_eq_some_iff.1 hX.2).1 (fun e => by have := (hr _ e.symm).1; omega)).trans hX.2⟩)
    (fun c pre X Y row hX hg hr => ⟨hX.1, by obtain ⟨q, hq⟩ := hX.2; exact ⟨q, ownFrom_up HJxo.out (show W.heap.size ≤ W1.heap.size by omega) _ _ _ _ hq hg hr⟩⟩)
    (fun pre X Y hX ht => ⟨HJ.out _ _ _ hX.1 ht, (ht.block _ (Array.getElem?_eq_some_iff.1 hX.2).1 (fun e => e)).trans hX.2⟩)
    (fun c pre X Y hX ht => ⟨hX.1, by obtain ⟨q, hq⟩ := hX.2; exact ⟨q, HJx.out _ _ _ hq ht⟩⟩)
    ⟨HJ.out _ _ _ H0.out (touch_new HB1.out), hy1⟩
    (fun x a V => ∃ b, V.heap[b]? = some (.cells (nArr x.2) 60 (0, 0)) ∧ a = { tmps := #[.func (.yield l) #[] #[], .pointer (some ⟨bt, 0, none⟩), .pointer (some ⟨bs, 0, none⟩), .pointer (some ⟨W.heap.size, 0, none⟩), undef, .pointer (some ⟨b, 0, none⟩), .agg #[.int .i64 root, .int .i64 hgt], .iface 25 (.slice A N.length cap), .func (.func 29) #[] #[.pointer (some ⟨W.heap.size + 1 + 1, 0, none⟩), .pointer (some ⟨W.heap.size + 1, 0, none⟩)], .int .i64 x.1, .agg (nArr x.2), undef, undef, undef, undef, undef, undef, undef, undef, undef, undef], defers := [] })
    ?ax ?assign ?body ?done ?stop
  case ax =>
    rintro ⟨x, a⟩ X Y row ⟨b, hb, ha⟩ hg hr
    refine ⟨b, (hg.block _ (Array.getElem?_eq_some_iff.1 hb).1 (fun e => ?_)).trans hb, ha⟩
    obtain ⟨_, o, ho, hn⟩ := hr b e.symm
    rw [hb] at ho; cases ho; cases hn
  case assign =>
    rintro l' pre x V hV hc
    have HV := Hd.mk hV
    clear hV hc
    obtain ⟨x1, x2⟩ := x
    dsimp only [encV]
    gi_wp2_with ((with_reducible refine gi_gate_store (t := 60) rfl ?_); refine gi_st60 rfl _ _ rfl _ (nArr x2) rfl rfl rfl (narr_size _) (narr_one _) ?_)
    have hle : n ≤ V.heap.size := by have := HSt.out.sh.n; have := (Array.getElem?_eq_some_iff.1 HV.out.2).1; omega
    have hbV : Below V.heap.size V (V.alloc (.cells (nArr x2) 60)) := below_alloc (Below.refl _ _) _
    exact ⟨(KeepsOthers.alloc V _).from _, Kp.of hbV hle, ⟨HJ.out _ _ _ HV.out.1 (touch_new hbV), (Below.heap_alloc _ _ _ (Array.getElem?_eq_some_iff.1 HV.out.2).1).trans HV.out.2⟩, V.heap.size, heap_alloc_new V _, rfl⟩
  case body =>
    rintro l' pre x a V hV hc ⟨b, hb, rfl⟩
    obtain ⟨x1, x2⟩ := x
    have c0 := nd_cells hb 0 _ rfl
    have c18 := nd_cells hb 18 _ rfl
    have c19 := nd_cells hb 19 _ rfl
    have c20 := nd_cells hb 20 _ rfl
    have c3 : V.cell? ⟨W.heap.size, 0, none⟩ = some (.func (.yield l) #[] #[]) := blk_cell hV.2 0
    have HV := Hd.mk hV
    clear hb hV
    by_cases hk : x2.kind = 2
    · obtain ⟨fn, tmps, assign, body, hy, hR⟩ := HY.out (recsOf pre) x2.rc V HV.out.1 (can_rec hc hk)
      have HR := Hd.mk hR
      have HC := Hd.mk hc
      clear hR hc
      dsimp only [encR, recA] at hy
      gi_wp2_with (first
        | (refine And.intro (fun h => absurd h (by simp [Fence.wide])) (RoundIn.mono (RoundIn.inRound l' (RoundIn.anyN HR.out)) ?_); rintro e V2 (⟨rfl, hJ2, hK2, hF2⟩ | ⟨rfl, hX2, hF2⟩))
        | fail)
      · refine ⟨keepsFrom_up hF2 (by omega), hK2, ?_, hK2.t _ _ _ _ (.inr rfl) HV.out.2⟩
        rw [recsOf_app, recsOf_yes hk]
        exact hJ2
      · exact ⟨keepsFrom_up hF2 (by omega), rfl, _, hX2⟩
    · clear hc
      gi_wp2
      refine ⟨KeepsFrom.refl _ _, Kp.refl _ _, ?_, HV.out.2⟩
      rw [recsOf_app, recsOf_no hk, List.append_nil]
      exact HV.out.1
  case done =>
    rintro D xs V rfl rfl hV hD
    have HV := Hd.mk hV
    clear hV
    gi_wp2
    refine ⟨by simp, .inl ⟨_, _, rfl, run_takeDeferred hD, ?_⟩⟩
    exact ⟨_, results_none rfl _ _ _, ⟨_, rfl⟩, .inl ⟨_, rfl, HJo.out.putObj _ HV.out.1 (by omega) hD rfl⟩⟩
  case stop =>
    rintro D c pre V rfl - ⟨rfl, q, hq⟩ hD
    have HQ := Hd.mk hq
    clear hq
    gi_wp2
    refine ⟨by simp, .inl ⟨_, _, rfl, run_takeDeferred hD, ?_⟩⟩
    exact ⟨_, results_none rfl _ _ _, ⟨_, rfl⟩, .inr ⟨q, trivial, HJxo.out.putObj _ HQ.out (by omega) hD rfl⟩⟩
end Go.Proofs.Ytkcnakaneiocjaa.PTr
