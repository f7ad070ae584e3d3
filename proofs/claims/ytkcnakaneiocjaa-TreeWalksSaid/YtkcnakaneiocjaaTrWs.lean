/- Trees: TreeWalks, what is needed: the document's Same at two rows, a node's comparison, a drawn region within a round, what comes next in a walk. No condition but those that each contract bears. -/
import Derived.Test.YtkcnakaneiocjaaTrAll
import Derived.Test.YtkcnakaneiocjaaTrVisP
import Derived.Test.YtkcnakaneiocjaaTrAwk
import Derived.DeepKeys
import Derived.Sort.QuietIn
set_option linter.unusedVariables false
set_option linter.unusedSimpArgs false
namespace Go.Proofs.Ytkcnakaneiocjaa
open Go.RowKit
variable {F : Fence} {n : Nat} {P : Program} {ops : Array Oper} {md : Region.Mode} {C : World → Prop}
/-- No operation defers. -/
def noDefer (ops : Array Oper) : Bool := ops.all fun o => match o.op with | .defer _ => false | _ => true
theorem noDefer_spec {i : Nat} {o : Oper} (h : noDefer ops = true) (hi : ops[i]? = some o) : ∀ c, o.op ≠ .defer c := by
  intro c e
  have hm : o ∈ ops := Array.mem_of_getElem? hi
  have := Array.all_eq_true_iff_forall_mem.1 h o hm
  rw [e] at this
  cases this
theorem quietR_op {o : Oper} {a : Act} {K : Act → Prop} {K' : Act → World → Prop} {Q' : Exit → Act → World → Prop} {w : World} (hd : ∀ c, o.op ≠ .defer c) (hw : C w) (h : ∀ a w', C w' → K a → K' a w')
    (ha : o.askedIn F P a C) (hh : o.quietIn F n P a C K) : o.wpIn F n P a w K' Q' := by
  obtain ⟨v, h1, h2⟩ := hh
  have h3 := h1 w hw
  unfold Oper.quietAtIn at h3
  unfold Oper.wpIn
  refine ⟨ha w hw, ?_⟩
  rw [Oper.semAt_eq _ _ _ hd]
  generalize (execOp a.eval o).run P w = r at *
  cases r with
  | ok x w' =>
    cases x <;> simp only [Oper.quietUponIn] at h3 <;> simp only [Oper.uponIn]
    case value u =>
      obtain ⟨e1, e2⟩ := h3
      rw [e1, e2]
      exact h _ _ hw h2
    case skip =>
      obtain ⟨e1, e2⟩ := h3
      rw [e1, ← e2]
      exact h _ _ hw h2
    case enter f args =>
      obtain ⟨e1, hd, hc⟩ := h3
      rw [e1]
      exact ⟨hd, hc.mono fun e w'' ⟨he, hw''⟩ => by subst he; exact h _ _ hw'' h2⟩
  | halt x w' => simp only [Oper.quietUponIn] at h3
theorem quietR_at {i : Nat} {a : Act} {K : Act → Prop} {K' : Act → World → Prop} {Q' : Exit → Act → World → Prop} {w : World} (hn : noDefer ops = true) (hC : C w) (h : ∀ a w', C w' → K a → K' a w')
    (hh : qOpIn F n P ops C i K a) : wpOpIn F n P ops Q' i K' a w := by
  unfold qOpIn at hh
  unfold wpOpIn
  split
  · rename_i ho; simp only [ho] at hh; exact h _ _ hC hh
  · rename_i o ho
    simp only [ho] at hh
    obtain ⟨ha, hh⟩ := hh
    split
    · rename_i hw; simp only [hw, if_true] at hh; exact quietR_op (noDefer_spec hn ho) hC h ha hh
    · rename_i hw; simp only [hw] at hh; exact ⟨ha w hC, h _ _ hC hh⟩
theorem quietR_any {Q : Act → Prop} {Q' : Exit → Act → World → Prop} (hn : noDefer ops = true) (hQ : ∀ a w, C w → Q a → Q' .normal a w) : ∀ (fuel : Nat) (listed : Array Bool) (a : Act) (w : World), C w →
    wpAnyQIn F n P md ops C Q fuel listed a → wpAnyIn F n P md ops Q' fuel listed a w
  | 0, _, _, _, hw, h => ⟨h.1, hQ _ _ hw h.2⟩
  | fuel + 1, _, _, _, hw, h => ⟨fun h0 => hQ _ _ hw (h.1 h0), fun i hi => quietR_at hn hw (fun a' w' hw' => quietR_any hn hQ fuel _ a' w' hw') (h.2 i hi)⟩
theorem wpIn_region_quietR {id : Nat} {Q : Exit → Act → World → Prop} {a : Act} {w : World} {l : List Oper} (hn : noDefer l.toArray = true) (hm : P.follows .mixedOrders = true) (hB : Region.lexB .any l.toArray = true)
    (h : wpQuietIn F n P l.toArray (fun w' => ∃ n, w' = w.drewN n) (fun a' => ∀ w', (∃ n, w' = w.drewN n) → Q .normal a' w') l a) : (Code.region id l.toArray true).wpIn F n P Q a w := by
  simp only [Region.lexB, Bool.and_eq_true] at hB
  refine wpIn_region_any hm (quietR_any (C := fun w' => ∃ n, w' = w.drewN n) (Q := fun a' => ∀ w', (∃ n, w' = w.drewN n) → Q .normal a' w') hn (fun _ w' hw' h => h w' hw') _ _ _ _ ⟨1, rfl⟩ ?_)
  have := wpAnyQIn_lex (F := F) (n := n) (C := fun w' => ∃ n, w' = w.drewN n) (md := .any) hB.1 l 0 (Array.replicate l.toArray.size false) a (by simp) (by simpa using hB.2) h
  simpa using this
end Go.Proofs.Ytkcnakaneiocjaa
namespace Go.Proofs.Ytkcnakaneiocjaa.PTr
open Go.RowKit Go.Proofs.YtkcnakaneiocjaaW.PrintWords Go.Proofs.YtkcnakaneiocjaaW.PrintLast Go.Proofs.YtkcnakaneiocjaaW.PrintMore
attribute [local go_sem high] eqA41
set_option maxRecDepth 100000 in
set_option maxHeartbeats 2000000 in
theorem same_any (W : World) (A B : Option Addr) (l : List Rec) (c d : Nat) (h1 : RdAt A l W) (h2 : RdAt B l W) (hl : l.length ≤ 1000) :
    Calls Try.prog 19 #[.slice A l.length c, .slice B l.length d] W fun e w' => e = .returned (.bool true) ∧ Hd (Below W.heap.size W w') := by
  have H1 := Hd.mk h1
  have H2 := Hd.mk h2
  clear h1 h2
  go_enter Try.func19, Try.ntmps19
  go_wp2
  go_loopw [5] (fun r wr => ∃ i : Nat, i ≤ l.length ∧ r = .int .i64 (i : Int) ∧ Hd (Below W.heap.size W wr)) (fun r _ => l.length - (intOf r).toNat)
  case atStart => exact ⟨0, Nat.zero_le _, rfl, ⟨Below.refl _ _⟩⟩
  case round =>
    obtain ⟨i, hi, rfl, HB⟩ := hrel
    by_cases hlt : i < l.length
    · obtain ⟨g, o, rfl, hg, hc⟩ := H1.out.cell (by omega)
      obtain ⟨g', o', rfl, hg', hc'⟩ := H2.out.cell (by omega)
      obtain ⟨x0, x1, x2⟩ := hc i hlt
      obtain ⟨y0, y1, y2⟩ := hc' i hlt
      obtain ⟨s0, hs0⟩ : ∃ v, l[i].f0 = v := ⟨_, rfl⟩
      obtain ⟨s1, hs1⟩ : ∃ v, l[i].f1 = v := ⟨_, rfl⟩
      obtain ⟨s2, hs2⟩ : ∃ v, l[i].f2 = v := ⟨_, rfl⟩
      rw [hs0] at x0 y0
      rw [hs1] at x1 y1
      rw [hs2] at x2 y2
      replace x0 := (HB.out.cell (p := ⟨g, o + i * 3, none⟩) hg).trans x0
      replace x1 := (HB.out.cell (p := ⟨g, o + i * 3 + 1, none⟩) hg).trans x1
      replace x2 := (HB.out.cell (p := ⟨g, o + i * 3 + 2, none⟩) hg).trans x2
      replace y0 := (HB.out.cell (p := ⟨g', o' + i * 3, none⟩) hg').trans y0
      replace y1 := (HB.out.cell (p := ⟨g', o' + i * 3 + 1, none⟩) hg').trans y1
      replace y2 := (HB.out.cell (p := ⟨g', o' + i * 3 + 2, none⟩) hg').trans y2
      have HI := Hd.mk hlt
      have q3 : i ≤ 1000 := by omega
      have q0 : (0 : Int) ≤ (i : Int) := by omega
      have q1 : (i : Int) < (l.length : Int) := by omega
      clear hc hc' hs0 hs1 hs2 hi hl H1 H2 hg hg'
      go_wp2
      go_region
      go_wp2
      go_roundw
      case rel => exact ⟨i + 1, HI.out, by go_num, ⟨HB.out.drew⟩⟩
      case measure => simp only [intOf]; have := HI.out; omega
    · obtain rfl : i = l.length := by omega
      clear hlt hi
      go_wp2
      go_ret
      exact ⟨rfl, HB⟩
end Go.Proofs.Ytkcnakaneiocjaa.PTr
namespace Go.Proofs.Ytkcnakaneiocjaa.PTr
open Go.RowKit Go.Proofs.YtkcnakaneiocjaaW.PrintWords Go.Proofs.YtkcnakaneiocjaaW.PrintLast Go.Proofs.YtkcnakaneiocjaaW.PrintMore
theorem items_self (d : Nat) (n : Nd) (w : World) : ∀ (is : List Nat), (∀ i ∈ is, i < 16) → (Op.eqItems (d + 1) 3 1 (kArr n) (kArr n) is).run Try.prog w = .ok true w
  | [], _ => by simp [Op.eqItems]
  | i :: is, h => by
    have hi := h i List.mem_cons_self
    have hp : (Go.part 3 (kArr n) (i * 1)).run Try.prog w = .ok (.int .i64 (n.kid i)) w := by
      have hg := karr_get n i hi
      have : i = 0 ∨ i = 1 ∨ i = 2 ∨ i = 3 ∨ i = 4 ∨ i = 5 ∨ i = 6 ∨ i = 7 ∨ i = 8 ∨ i = 9 ∨ i = 10 ∨ i = 11 ∨ i = 12 ∨ i = 13 ∨ i = 14 ∨ i = 15 := by omega
      rcases this with rfl | rfl | rfl | rfl | rfl | rfl | rfl | rfl | rfl | rfl | rfl | rfl | rfl | rfl | rfl | rfl <;> rfl
    have he := run_equalIn_int (P := Try.prog) w d 3 .i64 .i64 (n.kid i) (n.kid i) Try.underlying3
    have ih := items_self d n w is fun j hj => h j (List.mem_cons_of_mem _ hj)
    simp only [Op.eqItems, Sem.run_bind, hp, he, Result.andThen_ok, beq_self_eq_true]
    simpa using ih
theorem eq55 (d : Nat) (n : Nd) (w : World) : (Op.equalIn (d + 2) 55 (.agg (kArr n)) (.agg (kArr n))).run Try.prog w = .ok true w := by
  obtain ⟨i, hi⟩ : ∃ i, Try.prog.info? 3 = some i := ⟨_, rfl⟩
  rw [run_equalIn_array w (d + 1) (kArr n) (kArr n) Try.underlying55 hi]
  have hs : i.size = 1 := by
    have h1 : (Try.prog.info? 3).map (·.size) = some 1 := by kernel_rfl
    rw [hi] at h1
    simpa using h1
  have e := items_self d n w (List.range 16) fun i hi => List.mem_range.1 hi
  first
    | exact e
    | (rw [hs]; exact e)
theorem eqB33 (d : Nat) (w : World) (x0 y0 : Int) (x1 y1 : Int) (x2 y2 : ByteArray) :
    (Op.equalIn (d + 2) 33 (.agg #[.int .u32 x0, .int .u8 x1, .string x2]) (.agg #[.int .u32 y0, .int .u8 y1, .string y2])).run Try.prog w = .ok (x0 == y0 && (x1 == y1 && (x2.toList == y2.toList))) w := by
  refine eqA_of Try.underlying33 (by kernel_rfl) ?_
  refine eqf_cons (by rfl) (by go_simp; rfl) (by go_simp; rfl) (by go_simp) ?_
  refine eqf_cons (by rfl) (by go_simp; rfl) (by go_simp; rfl) (by go_simp) ?_
  exact eqf_last (by rfl) (by go_simp; rfl) (by go_simp; rfl) (by go_simp)
theorem eq58 (d : Nat) (w : World) : (Op.equalIn (d + 2) 58 (.agg #[.int .i64 0, .int .i64 0, .int .u32 0, .int .u32 0, .int .u64 0]) (.agg #[.int .i64 0, .int .i64 0, .int .u32 0, .int .u32 0, .int .u64 0])).run Try.prog w = .ok true w := by
  refine eqA_of (r := true && (true && (true && (true && true)))) Try.underlying58 (by kernel_rfl) ?_
  refine eqf_cons (by rfl) (by rfl) (by rfl) (run_equalIn_int (P := Try.prog) w _ _ .i64 .i64 0 0 Try.underlying3) ?_
  refine eqf_cons (by rfl) (by rfl) (by rfl) (run_equalIn_int (P := Try.prog) w _ _ .i64 .i64 0 0 Try.underlying3) ?_
  refine eqf_cons (by rfl) (by rfl) (by rfl) (run_equalIn_int (P := Try.prog) w _ _ .u32 .u32 0 0 Try.underlying30) ?_
  refine eqf_cons (by rfl) (by rfl) (by rfl) (run_equalIn_int (P := Try.prog) w _ _ .u32 .u32 0 0 Try.underlying30) ?_
  exact eqf_last (by rfl) (by rfl) (by rfl) (run_equalIn_int (P := Try.prog) w _ _ .u64 .u64 0 0 Try.underlying56)
theorem eq60 (d : Nat) (n : Nd) (w : World) : (Op.equalIn (d + 4) 60 (.agg (nArr n)) (.agg (nArr n))).run Try.prog w = .ok true w := by
  have h : (Op.equalIn (d + 4) 60 (.agg (nArr n)) (.agg (nArr n))).run Try.prog w = .ok (n.kind == n.kind && (n.cnt == n.cnt && (true && ((n.rc.f0 == n.rc.f0 && (n.rc.f1 == n.rc.f1 && (n.rc.f2.toList == n.rc.f2.toList))) && true)))) w := by
    refine eqA_of Try.underlying60 (by kernel_rfl) ?_
    refine eqf_cons (by rfl) (by rfl) (by rfl) (run_equalIn_int (P := Try.prog) w _ _ .u8 .u8 n.kind n.kind Try.underlying5) ?_
    refine eqf_cons (by rfl) (by rfl) (by rfl) (run_equalIn_int (P := Try.prog) w _ _ .i64 .i64 n.cnt n.cnt Try.underlying3) ?_
    refine eqf_cons (a := .agg (kArr n)) (b := .agg (kArr n)) (by rfl) (by rfl) (by rfl) (eq55 (d + 1) n w) ?_
    refine eqf_cons (a := .agg #[.int .u32 n.rc.f0, .int .u8 n.rc.f1, .string n.rc.f2]) (b := .agg #[.int .u32 n.rc.f0, .int .u8 n.rc.f1, .string n.rc.f2]) (by rfl) (by rfl) (by rfl) (eqB33 (d + 1) w _ _ _ _ _ _) ?_
    exact eqf_last (a := .agg #[.int .i64 0, .int .i64 0, .int .u32 0, .int .u32 0, .int .u64 0]) (b := .agg #[.int .i64 0, .int .i64 0, .int .u32 0, .int .u32 0, .int .u64 0]) (by rfl) (by rfl) (by rfl) (eq58 (d + 1) w)
  rw [h]
  simp
theorem neq60 (n : Nd) (w : World) : (binOp .neq 60 (.agg (nArr n)) (.agg (nArr n))).run Try.prog w = .ok (.bool false) w := by
  have h : (Op.equal 60 (.agg (nArr n)) (.agg (nArr n))).run Try.prog w = .ok true w := eq60 9996 n w
  simp [binOp, go_sem, h]
/-- A load of a node, before which the walk stands still. -/
def load60 (a : Addr) : Sem Value := loadVar 60 a
theorem load60_fold (a : Addr) : loadVar 60 a = load60 a := rfl
end Go.Proofs.Ytkcnakaneiocjaa.PTr
namespace Go.Proofs.Ytkcnakaneiocjaa.PTr
open Go.RowKit Go.Shelf Go.Proofs.YtkcnakaneiocjaaW.PrintWords Go.Proofs.YtkcnakaneiocjaaW.PrintLast Go.Proofs.YtkcnakaneiocjaaW.PrintMore
theorem iter2_nil (g : Nat) (lb : Array Value) (W : World) : (binOp .eql 53 (.func (.func g) #[] lb) .nilFunc).run Try.prog W = .ok (.bool false) W := by
  have h : (Op.equal 53 (.func (.func g) #[] lb) .nilFunc).run Try.prog W = .ok false W := by
    have key : ∀ d, (Op.equalIn (d + 1) 53 (.func (.func g) #[] lb) .nilFunc).run Try.prog W = .ok false W := fun d => by
      unfold Op.equalIn
      simp [go_sem, Try.underlying53]
    exact key 9999
  simp [binOp, go_sem, h]
theorem all_rd {w : World} {A : Option Addr} {N : List Nd} (hN : N.length ≤ 1000000) (cap : Nat) {root hgt : Int} {h : Nat} {l : List Rec} (hD : Dep N h root) (hl : recsOf (vis N h root) = l) (hS : ShAt A N w) (hm : l.length ≤ 1000) :
    Calls Try.prog 18 #[.iface 25 (.slice A N.length cap), .agg #[.int .i64 root, .int .i64 hgt], .int .i64 (l.length : Int)] w fun e w' =>
      ∃ A2 c2, e = .returned (.tuple #[.slice A2 l.length c2, .bool true]) ∧ Hd (RdAt A2 l w' ∧ Below w.heap.size w w') := by
  have hx := all_any w A N hN cap root hgt h hD hS (l.length : Int) (by rw [hl]; omega) (by omega)
  rw [hl] at hx
  refine hx.mono ?_
  rintro e w' ⟨v, rfl, hd⟩
  by_cases h0 : 0 < l.length
  · obtain ⟨g, c, rfl, hr⟩ := own_rd hd.out.1 h0
    exact ⟨_, c, rfl, ⟨hr, hd.out.2⟩⟩
  · rcases hd.out.1.2 with ⟨rfl, e2⟩ | ⟨g, cp, cu, rfl, _⟩
    · exact ⟨none, 0, by rw [e2], ⟨⟨fun h => absurd h h0⟩, hd.out.2⟩⟩
    · exact ⟨_, cp, rfl, ⟨⟨fun h => absurd h h0⟩, hd.out.2⟩⟩
theorem seg_can {N : List Nd} {s k : Nat} {pre : List Vis} {x : Vis} (h : CanV (seg N s k) pre x) : pre.length < k ∧ x = (((s + pre.length : Nat) : Int), (atN N ((s + pre.length : Nat) : Int)).1) := by
  obtain ⟨post, hp⟩ := h
  have h1 : (seg N s k)[pre.length]? = some x := by rw [hp, List.getElem?_append_right (Nat.le_refl _), Nat.sub_self]; rfl
  have hk : pre.length < k := by
    have := (List.getElem?_eq_some_iff.1 h1).1
    unfold seg at this
    simpa using this
  refine ⟨hk, ?_⟩
  unfold seg at h1
  rw [List.getElem?_map, List.getElem?_range hk] at h1
  exact (Option.some.inj h1).symm
/-- What comes next in the walk through the slots. -/
theorem next_slot {l : List Rec} {N : List Nd} {root : Int} {hgt : Nat} (hW : IsWalk l N root hgt) {pre : List Vis} {x : Vis} (h : CanV (vis N hgt root) pre x) : ∃ (i : Nat) (hi : i < N.length), x = ((i : Int), N[i]) ∧ root + (pre.length : Int) = (i : Int) := by
  rcases hW.seg with ⟨_, _, _, e⟩ | ⟨_, gap, e1, e2, e3, e4⟩
  · rw [e] at h
    obtain ⟨post, hp⟩ := h
    cases pre <;> cases hp
  · rw [e3] at h
    obtain ⟨h1, h2⟩ := seg_can h
    refine ⟨gap + pre.length, by omega, ?_, by rw [e1]; omega⟩
    rw [h2, e4 (gap + pre.length) (by omega) (by omega)]
theorem last_slot {l : List Rec} {N : List Nd} {root : Int} {hgt : Nat} (hW : IsWalk l N root hgt) {xs : List Vis} (h : xs = vis N hgt root) : (l = [] ∧ root + (xs.length : Int) = -1) ∨ (l ≠ [] ∧ root + (xs.length : Int) = (N.length : Int)) := by
  subst h
  rcases hW.seg with ⟨e0, _, e1, e⟩ | ⟨e0, gap, e1, e2, e3, e4⟩
  · exact .inl ⟨e0, by rw [e, e1]; rfl⟩
  · refine .inr ⟨e0, ?_⟩
    rw [e3, e1]
    unfold seg
    rw [List.length_map, List.length_range]
    omega
theorem next_rec {l pre : List Rec} {x : Rec} (h : CanR l pre x) : ∃ hi : pre.length < l.length, l[pre.length] = x := by
  obtain ⟨post, rfl⟩ := h
  exact ⟨by simp, by simp⟩
theorem results_1 {P : Program} {fn : Func} {p : Tmp} {ty : TypeId} (h : fn.results = #[.cell p ty]) (tmps : Array Value) (w : World) (g : Nat) (v : Value) (hp : tmps.getD p undef = .pointer (some ⟨g, 0, none⟩)) (hl : (loadVar ty ⟨g, 0, none⟩).run P w = .ok v w) : (results fn tmps).run P w = .ok v w := by
  have hp' : tmps[p]?.getD undef = .pointer (some ⟨g, 0, none⟩) := by simpa using hp
  simp [results, h, hp', asAddr, hl]
theorem w_u8 {a : Int} (h : (Lit.int .u8 a).wf = true) : 0 ≤ a ∧ a < 256 := by
  have e : (Lit.int .u8 a).wf = (decide (IntKind.u8.min ≤ a) && decide (a ≤ IntKind.u8.max)) := rfl
  rw [e, Bool.and_eq_true, decide_eq_true_eq, decide_eq_true_eq] at h
  have h1 : IntKind.u8.min = 0 := rfl
  have h2 : IntKind.u8.max = 255 := rfl
  omega
end Go.Proofs.Ytkcnakaneiocjaa.PTr
