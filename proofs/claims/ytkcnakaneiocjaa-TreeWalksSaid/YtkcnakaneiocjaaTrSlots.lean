/- Trees: slots, the walk through a tree's slots, by induction on the height. No condition but those that each contract bears. -/
import Derived.Test.YtkcnakaneiocjaaTrSel
import Derived.Test.YtkcnakaneiocjaaRangeC
set_option linter.unusedVariables false
set_option linter.unusedSimpArgs false
namespace Go.Proofs.Ytkcnakaneiocjaa.PTr
open Go.RowKit Go.Shelf Go.Proofs.YtkcnakaneiocjaaW.PrintWords Go.Proofs.YtkcnakaneiocjaaW.PrintLast Go.Proofs.YtkcnakaneiocjaaW.PrintMore
attribute [local go_sem] method_201 Oper.semAt_some
theorem gi_st60 {F : Fence} {n : Nat} {ops : Array Oper} {rest : List Oper} {o : Oper} {a : Act} {w : World} {Q : Exit → Act → World → Prop} (hgd : o.guard = none) (x y : Operand) (ho : o.op = .store 60 x y)
    (Z cs : Array Value) (hx : a.eval x = .pointer (some ⟨w.heap.size, 0, none⟩)) (hy : a.eval y = .agg cs) (hZ : Z.size = 26) (hc : cs.size = 26) (h1 : cs.all (·.oneCell') = true)
    (h : wpListIn F n Try.prog ops Q rest (a.put o.dst undef) (w.alloc (.cells cs 60))) : wpListIn F n Try.prog ops Q (o :: rest) a (w.alloc (.cells Z 60)) :=
  wpListIn_plain hgd fun K hK => by
    refine ⟨fun f hf => by simp [Oper.about, ho] at hf, ?_⟩
    rw [Oper.semAt_plain F _ _ (by rw [ho]; intro c h; cases h)]
    have hr := run_storeVar_row (P := Try.prog) (w.alloc (.cells Z 60)) w.heap.size 60 60 Z cs (heap_alloc_new w _) (by rw [hc]; exact info60) (by omega) h1
    unfold execOp
    simp only [ho, hx, hy, Instr.storeAt, Instr.sureAddr, Sem.run_bind, Sem.run_pure, Result.andThen_ok, hr, setRow_alloc]
    exact hK _ _ h
theorem gi_ld60 {F : Fence} {n : Nat} {ops : Array Oper} {rest : List Oper} {o : Oper} {a : Act} {w : World} {Q : Exit → Act → World → Prop} (hgd : o.guard = none) (x : Operand) (ho : o.op = .load 60 x)
    (g f : Nat) (cs : Array Value) (hx : a.eval x = .pointer (some ⟨g, f, none⟩)) (hc : cs.size = 26) (hcell : ∀ j u, cs[j]? = some u → w.cell? ⟨g, f + j, none⟩ = some u)
    (h : wpListIn F n Try.prog ops Q rest (a.put o.dst (.agg cs)) w) : wpListIn F n Try.prog ops Q (o :: rest) a w :=
  wpListIn_plain hgd fun K hK => by
    refine ⟨fun f hf => by simp [Oper.about, ho] at hf, ?_⟩
    rw [Oper.semAt_plain F _ _ (by rw [ho]; intro c h; cases h)]
    have hr := ld60 w g f cs hc hcell
    unfold execOp
    simp only [ho, hx, Instr.loadAt, Instr.sureAddr, Sem.run_bind, Sem.run_pure, Result.andThen_ok, hr]
    exact hK _ _ h
theorem gi_gate_store {F : Fence} {n : Nat} {P : Program} {ops : Array Oper} {Q : Exit → Act → World → Prop} {o : Oper} {rest : List Oper} {a : Act} {w : World} {t : TypeId} {x y : Operand} (_ : o.op = .store t x y) (h : wpListIn F n P ops Q (o :: rest) a w) : wpListIn F n P ops Q (o :: rest) a w := h
theorem gi_gate_load {F : Fence} {n : Nat} {P : Program} {ops : Array Oper} {Q : Exit → Act → World → Prop} {o : Oper} {rest : List Oper} {a : Act} {w : World} {t : TypeId} {x : Operand} (_ : o.op = .load t x) (h : wpListIn F n P ops Q (o :: rest) a w) : wpListIn F n P ops Q (o :: rest) a w := h
/-- What a round keeps: all below n, each node's block, each box of a function of messages. -/
structure Kp (n : Nat) (W X : World) : Prop where
  b : Below n W X
  t : ∀ (k : Nat) (cs : Array Value) (t : TypeId) (m : Nat × Nat), t = 60 ∨ t = 84 → W.heap[k]? = some (Obj.cells cs t m) → X.heap[k]? = some (Obj.cells cs t m)
theorem Kp.refl (n : Nat) (W : World) : Kp n W W := ⟨Below.refl _ _, fun _ _ _ _ _ h => h⟩
theorem Kp.trans {n : Nat} {A B C : World} (h : Kp n A B) (k : Kp n B C) : Kp n A C := ⟨h.b.trans k.b, fun i cs t m ht hi => k.t i cs t m ht (h.t i cs t m ht hi)⟩
theorem Kp.of {n : Nat} {W X : World} (h : Below W.heap.size W X) (hn : n ≤ W.heap.size) : Kp n W X := ⟨h.mono hn, fun k cs t m _ hk => (h.block k (Array.getElem?_eq_some_iff.1 hk).1).trans hk⟩
/-- A shelf that lies below n. -/
structure ShB (n : Nat) (A : Option Addr) (N : List Nd) (W : World) : Prop where
  at_ : ShAt A N W
  lt : ∀ g o, 0 < N.length → A = some ⟨g, o, none⟩ → g < n
  n : n ≤ W.heap.size
theorem ShB.on {n : Nat} {A : Option Addr} {N : List Nd} {W X : World} (h : ShB n A N W) (hb : Below n W X) : ShB n A N X := ⟨⟨fun hn => by
  obtain ⟨g, o, h1, h2, h3⟩ := h.at_.cell hn
  exact ⟨g, o, h1, Nat.lt_of_lt_of_le h2 hb.size, fun i hi j u hu => (hb.cell (p := ⟨g, o + i * 26 + j, none⟩) (h.lt g o hn h1)).trans (h3 i hi j u hu)⟩⟩, h.lt, Nat.le_trans h.n hb.size⟩
abbrev Vis := Int × Nd
def encV (x : Vis) : Array Value := #[.int .i64 x.1, .agg (nArr x.2)]
/-- Which slots a walk comes to, below a slot. -/
def vis (N : List Nd) : Nat → Int → List Vis
  | 0, s => if (atN N s).2 = true then [(s, (atN N s).1)] else []
  | h + 1, s => if (atN N s).2 = true then (s, (atN N s).1) :: (if (atN N s).1.kind = 1 then (List.range 16).flatMap fun d => vis N h ((atN N s).1.kid d) else []) else []
def Dep (N : List Nd) : Nat → Int → Prop
  | 0, s => (atN N s).2 = true → (atN N s).1.kind ≠ 1
  | h + 1, s => (atN N s).2 = true → (atN N s).1.kind = 1 → ∀ d, d < 16 → Dep N h ((atN N s).1.kid d)
def CanV (L pre : List Vis) (x : Vis) : Prop := ∃ post, L = pre ++ x :: post
theorem atN_neg2 {N : List Nd} {s : Int} (h : s < 0) : (atN N s).2 = false := by unfold atN; rw [if_neg (by omega)]
theorem flat_step (f : Nat → List Vis) (d : Nat) : (List.range (d + 1)).flatMap f = (List.range d).flatMap f ++ f d := by rw [List.range_succ, List.flatMap_append]; simp
theorem flat_split (f : Nat → List Vis) {d : Nat} : ∀ n, d < n → ∃ post, (List.range n).flatMap f = (List.range d).flatMap f ++ f d ++ post
  | 0, h => absurd h (Nat.not_lt_zero _)
  | n + 1, h => by
    rw [flat_step]
    rcases Nat.lt_or_eq_of_le (Nat.le_of_lt_succ h) with h | rfl
    · obtain ⟨post, hp⟩ := flat_split f n h
      exact ⟨post ++ f n, by rw [hp]; simp⟩
    · exact ⟨[], by simp⟩
/-- A round of the caller, and what the iterator hears of it. -/
def Round (l n : Nat) (J Jx : List Vis → World → Prop) (L : List Vis) : Prop :=
  ∀ m pre x W, J pre W → CanV L pre x → YieldAt Fence.wide m Try.prog l (encV x) W fun e W' => (e = .returned (.bool true) ∧ J (pre ++ [x]) W' ∧ Kp n W W') ∨ (e = .returned (.bool false) ∧ Jx (pre ++ [x]) W')
def SlotsPost (n : Nat) (J Jx : List Vis → World → Prop) (W : World) (pre v : List Vis) (e : Ending) (W' : World) : Prop :=
  (e = .returned (.bool true) ∧ Hd (J (pre ++ v) W' ∧ Kp n W W')) ∨ (e = .returned (.bool false) ∧ Hd (∃ q, Jx q W'))
theorem touch_new {W X : World} (h : Below W.heap.size W X) : Touch (fun _ => False) W X := Touch.of_below h _
theorem slots_none {n : Nat} {J Jx : List Vis → World → Prop} {A : Option Addr} {N : List Nd} {W w2 : World} {pre v : List Vis} (hS : Hd (ShB n A N W)) (hJ : Hd (∀ pre A B, J pre A → Touch (fun _ => False) A B → J pre B)) (h0 : Hd (J pre W)) (hv : Hd (v = [])) (h2 : Hd (Below W.heap.size W w2)) (o : Obj) :
    SlotsPost n J Jx W pre v (.returned (.bool true)) (w2.alloc o) := by
  have hb := below_alloc h2.out o
  refine .inl ⟨rfl, ⟨?_, Kp.of hb hS.out.n⟩⟩
  rw [hv.out, List.append_nil]
  exact hJ.out _ _ _ h0.out (touch_new hb)
theorem nd_at {w : World} {g : Nat} {n : Nd} (hg : w.heap[g]? = some (.cells (nArr n) 60 (0, 0))) : ∀ j u, (nArr n)[j]? = some u → w.cell? ⟨g, 0 + j, none⟩ = some u := fun j u hj => by
  rw [Nat.zero_add]
  exact nd_cells hg j u (by simpa [nArr] using hj)
theorem slots_post {L pre v : List Vis} {x : Vis} (f : Nat → List Vis) (d : Nat) (hd : d < 16) (hL : ∃ post, L = pre ++ v ++ post) (hv : v = x :: (List.range 16).flatMap f) : ∃ post, L = pre ++ (x :: (List.range d).flatMap f) ++ f d ++ post := by
  obtain ⟨p1, h1⟩ := hL
  obtain ⟨p2, h2⟩ := flat_split f 16 hd
  exact ⟨p2 ++ p1, by rw [h1, hv, h2]; simp⟩
set_option maxRecDepth 100000 in
set_option maxHeartbeats 2000000 in
theorem slots_gone (l n : Nat) (J Jx : List Vis → World → Prop) (A : Option Addr) (N : List Nd) (hN : N.length ≤ 1000000) (cap : Nat) (hJ : ∀ pre A B, J pre A → Touch (fun _ => False) A B → J pre B)
    (s : Int) (hr : (atN N s).2 = false) (pre : List Vis) (W : World) (hS : ShB n A N W) (hJ0 : J pre W) :
    Calls Try.prog 30 #[.iface 25 (.slice A N.length cap), .int .i64 s, .func (.yield l) #[] #[]] W (SlotsPost n J Jx W pre []) := by
  have HA := Hd.mk (at_any hS.at_ hN cap s)
  have HS := Hd.mk hS
  have HJ := Hd.mk hJ
  have HJ0 := Hd.mk hJ0
  rw [hr] at HA
  obtain ⟨n0, hn0⟩ : ∃ n0, (atN N s).1 = n0 := ⟨_, rfl⟩
  rw [hn0] at HA
  clear hr hn0 hS hJ hJ0
  go_enter Try.func30, Try.ntmps30
  by_cases hs : s < 0
  · have q1 : decide (s < 0) = true := decide_eq_true hs
    clear hs
    go_wp2_with (first
      | (go_at_call 48; have hx := HA.out; (with_reducible refine hx.mono ?_); clear hx; rintro e w2 ⟨rfl, HB2⟩)
      | ((with_reducible refine gate_store (t := 60) rfl ?_); refine wp_st60 rfl _ _ rfl _ (nArr n0) rfl rfl rfl (narr_size _) (narr_one _) ?_))
    go_ret
    exact slots_none HS HJ HJ0 ⟨rfl⟩ HB2 _
  · have q1 : decide (s < 0) = false := decide_eq_false hs
    clear hs
    go_wp2_with (first
      | (go_at_call 48; have hx := HA.out; (with_reducible refine hx.mono ?_); clear hx; rintro e w2 ⟨rfl, HB2⟩)
      | ((with_reducible refine gate_store (t := 60) rfl ?_); refine wp_st60 rfl _ _ rfl _ (nArr n0) rfl rfl rfl (narr_size _) (narr_one _) ?_))
    go_ret
    exact slots_none HS HJ HJ0 ⟨rfl⟩ HB2 _
set_option maxRecDepth 100000 in
set_option maxHeartbeats 2000000 in
theorem slots_node (l n : Nat) (J Jx : List Vis → World → Prop) (A : Option Addr) (N : List Nd) (hN : N.length ≤ 1000000) (cap : Nat) (L : List Vis) (hJ : ∀ pre A B, J pre A → Touch (fun _ => False) A B → J pre B) (hY : Round l n J Jx L)
    (s : Int) (n0 : Nd) (hn : atN N s = (n0, true)) (f : Nat → List Vis) (hk : n0.kind = 1 → ∀ d, d < 16 → ∀ (pre : List Vis) (W : World), ShB n A N W → J pre W → (∃ post, L = pre ++ f d ++ post) → Calls Try.prog 30 #[.iface 25 (.slice A N.length cap), .int .i64 (n0.kid d), .func (.yield l) #[] #[]] W (SlotsPost n J Jx W pre (f d)))
    (pre : List Vis) (W : World) (hS : ShB n A N W) (hJ0 : J pre W) (hL : ∃ post, L = pre ++ ((s, n0) :: (if n0.kind = 1 then (List.range 16).flatMap f else [])) ++ post) :
    Calls Try.prog 30 #[.iface 25 (.slice A N.length cap), .int .i64 s, .func (.yield l) #[] #[]] W (SlotsPost n J Jx W pre ((s, n0) :: (if n0.kind = 1 then (List.range 16).flatMap f else []))) := by
  have HA := Hd.mk (at_any hS.at_ hN cap s)
  have hs : ¬ s < 0 := fun h => by have := atN_neg2 (N := N) h; rw [hn] at this; cases this
  rw [hn] at HA
  have HS := Hd.mk hS
  have HJ := Hd.mk hJ
  have HJ0 := Hd.mk hJ0
  have HY := Hd.mk hY
  have HK := Hd.mk hk
  have HL := Hd.mk hL
  obtain ⟨v, hv⟩ : ∃ v, ((s, n0) :: (if n0.kind = 1 then (List.range 16).flatMap f else [])) = v := ⟨_, rfl⟩
  rw [hv] at HL ⊢
  have HV := Hd.mk hv
  have q1 : decide (s < 0) = false := decide_eq_false hs
  clear hY hJ hJ0 hS hk hL hs hn hv
  go_enter Try.func30, Try.ntmps30
  go_upto_region 4 with (first
    | (go_at_call 48; have hx := HA.out; (with_reducible refine hx.mono ?_); clear hx; rintro e w2 ⟨rfl, HB2⟩)
    | ((with_reducible refine gate_store (t := 60) rfl ?_); refine wp_st60 rfl _ _ rfl _ (nArr n0) rfl rfl rfl (narr_size _) (narr_one _) ?_))
  have HN2 : Hd ((w2.alloc (.cells (nArr n0) 60)).heap[w2.heap.size]? = some (.cells (nArr n0) 60 (0, 0))) := ⟨heap_alloc_new w2 _⟩
  have HB3 : Hd (Below W.heap.size W (w2.alloc (.cells (nArr n0) 60))) := ⟨below_alloc HB2.out _⟩
  obtain ⟨bn, hbn⟩ : ∃ bn, w2.heap.size = bn := ⟨_, rfl⟩
  obtain ⟨w3, hw3⟩ : ∃ w3, w2.alloc (.cells (nArr n0) 60) = w3 := ⟨_, rfl⟩
  rw [hw3, hbn] at HN2
  rw [hw3] at HB3
  simp only [hw3, hbn]
  clear hw3 hbn HB2 HA
  have HJ3 := Hd.mk (HJ.out _ _ _ HJ0.out (touch_new HB3.out))
  obtain ⟨fn, tmps, assign, body, hy, hR⟩ := HY.out 0 pre (s, n0) w3 HJ3.out (by obtain ⟨post, hp⟩ := HL.out; exact ⟨_, by rw [hp, ← HV.out, List.append_assoc, List.cons_append]⟩)
  have HR := Hd.mk hR
  clear hR
  dsimp only [encV] at hy
  refine (wpIn_wide (n := 5)).1 ?_
  gi_wp2_with (first
    | ((with_reducible refine gi_gate_load (t := 60) rfl ?_); refine gi_ld60 rfl _ rfl bn 0 (nArr n0) rfl (narr_size _) (nd_at HN2.out) ?_)
    | ((with_reducible refine RoundIn.mono (RoundIn.anyN HR.out) ?_); rintro e W2 (⟨rfl, hJ2, hK2⟩ | ⟨rfl, hX2⟩)))
  · have HK2 := Hd.mk hK2
    have HJ2 := Hd.mk hJ2
    have HNb := Hd.mk (hK2.t bn _ _ _ (.inl rfl) HN2.out)
    have c0 := nd_cells HNb.out 0 _ rfl
    have HKW : Hd (Kp n W W2) := ⟨(Kp.of HB3.out HS.out.n).trans hK2⟩
    have HSW : Hd (ShB n A N W2) := ⟨HS.out.on HKW.out.b⟩
    clear hK2 hJ2 HR hy HY HJ0 HJ3 HN2 HB3 HK2
    by_cases hk1 : n0.kind = 1
    · have HV2 := Hd.mk (HV.out.symm.trans (by rw [if_pos hk1]))
      have HKf := Hd.mk (HK.out hk1)
      clear HK HV
      have hbl := (Array.getElem?_eq_some_iff.1 HNb.out).1
      go_wp2_with ((with_reducible refine gate_load (t := 55) rfl ?_); refine wp_ld55 rfl _ rfl bn 2 (kArr n0) rfl rfl (kcells HNb.out) ?_)
      go_loopw [33] (fun r wx => ∃ d : Nat, d ≤ 16 ∧ r = .int .i64 (d : Int) ∧ Hd (J (pre ++ ((s, n0) :: (List.range d).flatMap f)) wx ∧ Kp n W2 wx)) (fun r _ => 16 - (intOf r).toNat)
      case atStart => exact ⟨0, Nat.zero_le _, rfl, ⟨HJ2.out, Kp.refl _ _⟩⟩
      case round =>
        obtain ⟨d, hd, rfl, HX⟩ := hrel
        by_cases hd16 : d < 16
        · have hd0 : (0 : Int) ≤ (d : Int) := by omega
          have hd1 : (d : Int) < 16 := by omega
          have kg := fun X => idx55 n0 d hd16 X
          have HC := Hd.mk (HKf.out d hd16 (pre ++ ((s, n0) :: (List.range d).flatMap f)) wr (HSW.out.on HX.out.2.b) HX.out.1 (slots_post f d hd16 HL.out HV2.out))
          go_wp2_with (first
            | (go_at_call 30; have hx := HC.out; (with_reducible refine hx.mono ?_); clear hx; rintro e w4 (⟨rfl, H4⟩ | ⟨rfl, H4⟩)))
          · go_roundw
            case rel => exact ⟨d + 1, hd16, by go_num, ⟨by rw [flat_step, ← List.cons_append, ← List.append_assoc]; exact H4.out.1, HX.out.2.trans H4.out.2⟩⟩
            case measure => first | (simp [intOf]; done) | (simp [intOf]; omega)
          · go_ret
            exact .inr ⟨rfl, H4⟩
        · obtain rfl : d = 16 := by omega
          go_wp2
          go_ret
          exact .inl ⟨rfl, ⟨by rw [HV2.out]; exact HX.out.1, HKW.out.trans HX.out.2⟩⟩
    · have HV2 := Hd.mk (HV.out.symm.trans (by rw [if_neg hk1]))
      go_wp2
      go_ret
      exact .inl ⟨rfl, ⟨by rw [HV2.out]; exact HJ2.out, HKW.out⟩⟩
  · go_wp2
    go_ret
    exact .inr ⟨rfl, ⟨_, hX2⟩⟩
set_option maxRecDepth 100000 in
set_option maxHeartbeats 2000000 in
theorem slots_any (l n : Nat) (J Jx : List Vis → World → Prop) (A : Option Addr) (N : List Nd) (hN : N.length ≤ 1000000) (cap : Nat) (L : List Vis) (hJ : ∀ pre A B, J pre A → Touch (fun _ => False) A B → J pre B) (hY : Round l n J Jx L) :
    ∀ (h : Nat) (s : Int) (pre : List Vis) (W : World), ShB n A N W → J pre W → Dep N h s → (∃ post, L = pre ++ vis N h s ++ post) →
      Calls Try.prog 30 #[.iface 25 (.slice A N.length cap), .int .i64 s, .func (.yield l) #[] #[]] W (SlotsPost n J Jx W pre (vis N h s)) := by
  intro h
  induction h with
  | zero =>
    intro s pre W hS hJ0 hD hL
    cases hr : (atN N s).2 with
    | false =>
      have HV := (show vis N 0 s = [] by unfold vis; rw [hr]; rfl)
      rw [HV]
      exact slots_gone l n J Jx A N hN cap hJ s hr pre W hS hJ0
    | true =>
      have hn : atN N s = ((atN N s).1, true) := by rw [← hr]
      have hk := hD hr
      have HV : vis N 0 s = (s, (atN N s).1) :: (if (atN N s).1.kind = 1 then (List.range 16).flatMap (fun _ => []) else []) := by
        unfold vis; rw [if_pos hr, if_neg hk]
      rw [HV] at hL ⊢
      exact slots_node l n J Jx A N hN cap L hJ hY s _ hn (fun _ => []) (fun h => absurd h hk) pre W hS hJ0 hL
  | succ h ih =>
    intro s pre W hS hJ0 hD hL
    cases hr : (atN N s).2 with
    | false =>
      have HV := (show vis N (h + 1) s = [] by unfold vis; rw [hr]; rfl)
      rw [HV]
      exact slots_gone l n J Jx A N hN cap hJ s hr pre W hS hJ0
    | true =>
      have hn : atN N s = ((atN N s).1, true) := by rw [← hr]
      have HV : vis N (h + 1) s = (s, (atN N s).1) :: (if (atN N s).1.kind = 1 then (List.range 16).flatMap (fun d => vis N h ((atN N s).1.kid d)) else []) := by
        unfold vis; rw [if_pos hr]; cases h <;> rfl
      rw [HV] at hL ⊢
      exact slots_node l n J Jx A N hN cap L hJ hY s _ hn _ (fun hk d hd pre W hS hJ1 hL1 => ih _ pre W hS hJ1 (hD hr hk d hd) hL1) pre W hS hJ0 hL
/-- What Slots' value reads as it begins. -/
structure SlSt (n bs bt : Nat) (A : Option Addr) (N : List Nd) (cap : Nat) (root : Int) (W : World) : Prop where
  s : W.cell? ⟨bs, 0, none⟩ = some (.iface 25 (.slice A N.length cap))
  t : W.cell? ⟨bt, 0, none⟩ = some (.int .i64 root)
  sh : ShB n A N W
theorem wide_fn (f : Nat) : Fence.wide.fn f := trivial
set_option maxRecDepth 100000 in
set_option maxHeartbeats 2000000 in
theorem slots_can (m n bs bt : Nat) (A : Option Addr) (N : List Nd) (hN : N.length ≤ 1000000) (cap : Nat) (root : Int) (h : Nat) (hD : Dep N h root) :
    SeqCan Fence.wide m Try.prog 29 #[.pointer (some ⟨bs, 0, none⟩), .pointer (some ⟨bt, 0, none⟩)] encV (Kp n) (SlSt n bs bt A N cap root) (CanV (vis N h root)) (fun xs => xs = vis N h root) (fun _ => True) := by
  intro l J Jx W hJ hJx hJo hJxo hSt h0 hY
  have HS := Hd.mk (slots_any l n J Jx A N hN cap (vis N h root) hJ (fun m pre x W1 hj hc => YieldAt.anyN m (YieldAt.mono (hY pre x W1 hj hc) fun e W' h => h.elim (fun h => .inl ⟨h.1, h.2.1, h.2.2.1⟩) (fun h => .inr ⟨h.1, h.2.1⟩))) h root [] W hSt.sh h0 hD ⟨[], by simp⟩)
  have e0 := hSt.s
  have e1 := hSt.t
  clear hJ hJx hJo hJxo hSt h0 hY hD
  refine callsIn_wide.2 ?_
  show Calls Try.prog 29 #[.func (.yield l) #[] #[], .pointer (some ⟨bs, 0, none⟩), .pointer (some ⟨bt, 0, none⟩)] W _
  obtain ⟨v, hv⟩ : ∃ v, vis N h root = v := ⟨_, rfl⟩
  rw [hv] at HS ⊢
  clear hv
  go_enter Try.func29, Try.ntmps29
  go_wp2_with (first
    | (go_at_call 30; have hx := HS.out; (with_reducible refine hx.mono ?_); clear hx; rintro e w2 (⟨rfl, H2⟩ | ⟨rfl, H2⟩)))
  · go_end0
    exact ⟨⟨_, rfl⟩, .inl ⟨_, rfl, by simpa using H2.out.1⟩⟩
  · go_end0
    obtain ⟨q, hq⟩ := H2.out
    exact ⟨⟨_, rfl⟩, .inr ⟨q, trivial, hq⟩⟩
theorem slots_mk (root hgt : Int) (A : Option Addr) (len cap : Nat) (w : World) : Calls Try.prog 20 #[.agg #[.int .i64 root, .int .i64 hgt], .iface 25 (.slice A len cap)] w fun e w' =>
    e = .returned (.func (.func 29) #[] #[.pointer (some ⟨w.heap.size + 1, 0, none⟩), .pointer (some ⟨w.heap.size, 0, none⟩)]) ∧ w' = (w.alloc (.cells #[.int .i64 root, .int .i64 hgt] 27)).alloc (.cells #[.iface 25 (.slice A len cap)] 74) := by
  go_enter Try.func20, Try.ntmps20
  go_wp2
  go_ret
  exact ⟨rfl, rfl⟩
theorem walk_mk (root hgt : Int) (A : Option Addr) (len cap : Nat) (w : World) : Calls Try.prog 21 #[.agg #[.int .i64 root, .int .i64 hgt], .iface 25 (.slice A len cap)] w fun e w' =>
    e = .returned (.func (.func 31) #[] #[.pointer (some ⟨w.heap.size, 0, none⟩), .pointer (some ⟨w.heap.size + 1, 0, none⟩)]) ∧ w' = (w.alloc (.cells #[.int .i64 root, .int .i64 hgt] 27)).alloc (.cells #[.iface 25 (.slice A len cap)] 74) := by
  go_enter Try.func21, Try.ntmps21
  go_wp2
  go_ret
  exact ⟨rfl, rfl⟩
end Go.Proofs.Ytkcnakaneiocjaa.PTr
