/- The walk of the law ActApart. No condition. -/
import Derived.Test.YthghndjfghdnnaaActBoth
import Derived.Test.YthghndjfghdnnaaActRunsLaw
import Derived.Test.YthghndjfghdnnaaActNil
import Derived.Deep.RegionLaw
import Derived.Deep.QuietTactic
import Derived.BigQuiet
namespace Go.Proofs.Ythghndjfghdnnaa
open Go.RowKit
/-- What a row of the call's own gives to read. -/
theorem own_view {w : World} {base n : Nat} {e : TypeId} {v : Value} {xs : List Value} (h : w.ownsRow base e 1 v n xs) :
    ∃ A c, v = .slice A n c ∧ n ≤ c ∧ (∀ b o, A = some ⟨b, o, none⟩ → base ≤ b ∧ b < w.heap.size ∧ v.ownBlock = some b) ∧ ∀ k u, xs[k]? = some u → ∃ b, A = some ⟨b, 0, none⟩ ∧ w.cell? ⟨b, k, none⟩ = some u := by
  have hx : xs.length = n := by simpa using h.1
  rcases h.2 with ⟨rfl, h0⟩ | ⟨g, cap, cur, rfl, hg, hh, hr⟩
  · exact ⟨none, 0, by rw [h0], by omega, fun b o e => (by cases e), fun k u hk => (by have := (List.getElem?_eq_some_iff.1 hk).1; omega)⟩
  · refine ⟨_, cap, rfl, ?_, fun b o e => (by cases e; exact ⟨hg, (Array.getElem?_eq_some_iff.1 hh).1, rfl⟩), fun k u hk => ⟨g, rfl, ?_⟩⟩
    · exact hr.1
    · have := h.cells (g := g) rfl k u hk
      rwa [add_off, Nat.zero_add] at this
theorem rested_all (ns : Nat → Nat) (n : Nat) : ∀ L did, (∀ i, i < n → did i ≤ ns i ∧ ns i ≤ did i + L) → ∀ i, i < n → (rested ns n L did).1 i = ns i := by
  intro L
  induction L with
  | zero => intro did h i hi; have := h i hi; simp only [rested]; omega
  | succ L ih =>
    intro did h i hi
    by_cases hg : going ns did n = []
    · rw [rested_stop hg]
      have := h i hi
      have hn : ¬ did i < ns i := fun hd => by have := going_mem (ns := ns) hi hd; rw [hg] at this; exact List.not_mem_nil this
      show did i = ns i
      omega
    · rw [rested_go hg]
      refine ih _ (fun j hj => ?_) i hi
      have := h j hj
      unfold round bumps
      by_cases hd : did j < ns j
      · rw [if_pos (going_mem hj hd)]; omega
      · rw [if_neg (fun hm => hd (going_lt hm).2)]; omega
def nsOf (l : List Int) (i : Nat) : Nat := (nth l i % 20).toNat
theorem nsOf_le (l : List Int) (i : Nat) : nsOf l i ≤ 19 := by unfold nsOf; have := Int.emod_lt_of_pos (nth l i) (show (0 : Int) < 20 by omega); omega
theorem nsOf_lens (l : List Int) (i : Nat) (h : i < l.length) : ((lens l).map (Value.int .i64))[i]? = some (.int .i64 (nsOf l i : Nat)) := by
  unfold lens nsOf nth
  have := Int.emod_nonneg (l.getD i 0) (show (20 : Int) ≠ 0 by omega)
  rw [Int.toNat_of_nonneg this]
  simp [h]
theorem nsOf_out (l : List Int) (i : Nat) (h : l.length ≤ i) : nsOf l i = 0 := by unfold nsOf nth; simp [h]
theorem info_slice : (Try.prog.info? 23).map (fun i => (i.zero, i.size, i.bytes)) = some (some (.slice none 0 0), 1, 24) := by kernel_rfl
theorem info_act : (Try.prog.info? 29).map (fun i => (i.zero, i.size, i.bytes)) = some (some (.pointer none), 1, 8) := by kernel_rfl
def ptrs (bs : Nat → Nat) (j : Nat) : List Value := (List.range j).map (fun i => .pointer (some ⟨bs i, 0, none⟩))
theorem ptrs_length (bs : Nat → Nat) (j : Nat) : (ptrs bs j).length = j := by simp [ptrs]
/-- While the acts are made. -/
structure BuildAt (w0 wx : World) (lb : Nat) (lo : Nat → Nat) (no : Nat) (bs ns : Nat → Nat) (j : Nat) (v : Value) (foot : Nat → Prop) : Prop where
  fleet : Fleet wx w0.heap.size lb lo no j bs ns (fun _ => 0) (fun _ => none) foot
  acts : wx.ownsRow w0.heap.size 29 1 v j (ptrs bs j)
  free : ∀ b, v.ownBlock = some b → ¬ foot b
  below : Below w0.heap.size w0 wx
theorem ptrs_snoc (bs : Nat → Nat) (j b : Nat) : ptrs (fun i => if i = j then b else bs i) (j + 1) = ptrs bs j ++ [.pointer (some ⟨b, 0, none⟩)] := by
  unfold ptrs
  rw [List.range_succ, List.map_append]
  congr 1
  · apply List.map_congr_left
    intro i hi
    have := List.mem_range.1 hi
    show Value.pointer (some ⟨if i = j then b else bs i, 0, none⟩) = _
    rw [if_neg (by omega)]
  · simp
theorem BuildAt.step {w0 wx w3 w4 : World} {lb : Nat} {lo : Nat → Nat} {no : Nat} {bs ns : Nat → Nat} {j : Nat} {v u : Value} {foot : Nat → Prop} {b gg cap : Nat} {o : Obj} (h : BuildAt w0 wx lb lo no bs ns j v foot) (hb3 : Below wx.heap.size wx w3) (hbw : wx.heap.size ≤ b) (ha : ActAt w3 b u 0)
    (hn : NextIs w3 lb (lo j) j (ns j) u (fun k => wx.heap.size ≤ k ∧ k ≠ b)) (hown : w4.ownsRow w0.heap.size 29 1 (.slice (some ⟨gg, 0, none⟩) (j + 1) cap) (j + 1) (ptrs bs j ++ [.pointer (some ⟨b, 0, none⟩)])) (hgrow : (w3.alloc o).grownBy w4 v.ownBlock)
    (hat : v.ownBlock = some gg ∨ gg = w3.heap.size + 1) (hj : j < 10) (hs : ns j ≤ 19) (hlo : lo j < no) :
    BuildAt w0 w4 lb lo no (fun i => if i = j then b else bs i) ns (j + 1) (.slice (some ⟨gg, 0, none⟩) (j + 1) cap) (fun k => foot k ∨ (wx.heap.size ≤ k ∧ k < w3.heap.size)) := by
  have hF := h.fleet.add hb3 ha hn hbw hj hs hlo
  have hz := hb3.size
  have hz4 := hgrow.size
  rw [World.size_alloc] at hz4
  have far : ∀ k, v.ownBlock = some k → ¬ (foot k ∨ (wx.heap.size ≤ k ∧ k < w3.heap.size)) := fun k e hk => by
    rcases hk with hk | hk
    · exact h.free k e hk
    · have := (h.acts.lt k e).2; omega
  have hb34 : Below w0.heap.size w3 w4 := ⟨hgrow.os, hgrow.tape, hgrow.output, by omega, fun k hk => by
    have h0 := h.below.size
    rw [hgrow.block k (by simp; omega) (fun e => by have := (h.acts.lt k e.symm).1; omega), Below.heap_alloc _ _ _ (by omega)]⟩
  refine ⟨hF.move (by omega) (fun k c t f hk _ => ?_), by rw [ptrs_snoc]; exact hown, fun k e => ?_, (h.below.trans (hb3.mono h.below.size)).trans hb34⟩
  · have hlt := hF.foot_lt k hk
    rw [hgrow.block k (by simp; omega) (fun e => far k e.symm hk), Below.heap_alloc _ _ _ hlt]
  · cases e
    rcases hat with e | e
    · exact far _ e
    · intro hk; have : gg < w3.heap.size := hF.foot_lt _ hk; omega
theorem cnt_id (did : Nat → Nat) (o : Nat) : ∀ n, cnt (fun i => i) did o n = if o < n then did o else 0 := by
  intro n
  induction n with
  | zero => rfl
  | succ n ih =>
    unfold cnt
    rw [ih]
    by_cases e : n = o
    · subst e; simp
    · by_cases h : o < n
      · rw [if_pos h, if_neg e, if_pos (by omega)]; rfl
      · rw [if_neg h, if_neg e, if_neg (by omega)]
theorem Fleet.logCell {w : World} {base lb : Nat} {lo : Nat → Nat} {no n : Nat} {bs ns did : Nat → Nat} {row : Nat → Option Nat} {foot : Nat → Prop} (h : Fleet w base lb lo no n bs ns did row foot) (o : Nat) (ho : o < no) : ∃ A c, w.cell? ⟨lb, o, none⟩ = some (.slice A (cnt lo did o n) c) := by
  obtain ⟨xs, hx, v, hv, _, hown, _⟩ := h.log o ho
  obtain ⟨A, c, rfl⟩ := own_slice_ hown
  exact ⟨A, c, by rw [← hx]; exact hv⟩
theorem Fleet.draw {w : World} {base lb : Nat} {lo : Nat → Nat} {no n : Nat} {bs ns did : Nat → Nat} {row : Nat → Option Nat} {foot : Nat → Prop} (h : Fleet w base lb lo no n bs ns did row foot) (m : Nat) : Fleet (w.drewN m) base lb lo no n bs ns did row foot := h.move (Nat.le_refl _) (fun _ _ _ _ _ _ => rfl)
theorem _root_.Go.RowKit.Below.drawN {n : Nat} {w w' : World} (h : Below n w w') (m : Nat) : Below n w (w'.drewN m) := ⟨h.os, h.tape, h.output, h.size, h.block⟩
theorem logs_start {w : World} {base b0 lb n : Nat} (h : w.ownsRow base 23 1 (.slice (some ⟨lb, 0, none⟩) n n) n (madeCells (Value.slice none 0 0).cells (n * 1)).toList) : ∀ o, o < n → LogAt w b0 lb o [] none := by
  intro o ho
  refine ⟨.slice none 0 0, ?_, ?_, own_nil_ _ _ _ _, rfl⟩
  · rw [h.cellAt o (by omega)]
    have : (Value.slice none 0 0).cells = #[Value.slice none 0 0] := by simp [Value.cells]
    rw [this, toList_madeCells_one]
    simp [ho]
  · exact h.frozenAt o
set_option maxHeartbeats 4000000 in
set_option maxRecDepth 100000 in
theorem actApart_long (w : World) (A : Option Addr) (cap : Nat) (l : List Int) (hA : Recs (RInt .u8) 1 w A l.length l) (hl : l.length ≤ 10) (P : Option Addr) (capp : Nat) (ps : List Int) (hP : PicksAt P ps w) (fP : 0 < ps.length → ∀ b o, P = some ⟨b, o, none⟩ → b < w.heap.size) (hp : ps.length ≤ 200)
    (Q : Option Addr) (capq : Nat) (qs : List Int) (hQ : PicksAt Q qs w) (fQ : 0 < qs.length → ∀ b o, Q = some ⟨b, o, none⟩ → b < w.heap.size) (hq : qs.length ≤ 200) :
    Calls Try.prog 8 #[.slice A l.length cap, .slice P ps.length capp, .slice Q qs.length capq] w fun e w' => e = .returned (.bool true) ∧ Below w.heap.size w w' := by
  have HL : Hd _ := ⟨lengths_std w A cap l hA hl⟩
  have HP : Hd _ := ⟨hP⟩
  have HQ : Hd _ := ⟨hQ⟩
  have FP : Hd _ := ⟨fP⟩
  have FQ : Hd _ := ⟨fQ⟩
  clear hA hP hQ fP fQ
  go_enter Try.func8, Try.ntmps8
  go_wp2_with fail
  refine HL.out.mono ?_
  rintro e w1 ⟨v, rfl, hv, hb1⟩
  obtain ⟨An, cn, rfl, hnc, hfn, hcn⟩ := own_view hv
  have HV : Hd _ := ⟨hv⟩
  have HFN : Hd _ := ⟨hfn⟩
  have HC : Hd _ := ⟨hcn⟩
  clear hv hfn hcn
  go_wp2_with fail
  go_loopw [8] (fun k wr => ∃ r : Nat, r ≤ 2 ∧ k = .int .i64 r ∧ Hd (Below w.heap.size w wr ∧ Touch (fun _ => False) w1 wr)) (fun k _ => 2 - (intOf k).toNat)
  case atStart => exact ⟨0, by omega, rfl, ⟨hb1, Touch.refl _ _⟩⟩
  case round =>
    obtain ⟨r, hr, rfl, HR⟩ := hrel
    by_cases hlt : r < 2
    · go_upto_if 36 with fail
      go_cut [9] (fun v wx => (∃ (B : Option Addr) (capb : Nat) (xs : List Int), v = .slice B xs.length capb ∧ xs.length ≤ 200 ∧ Hd (PicksAt B xs w ∧ (0 < xs.length → ∀ b o, B = some ⟨b, o, none⟩ → b < w.heap.size))) ∧ wx = wr)
      case first =>
        by_cases h1 : r = 1
        · have ht : ((r : Int) == 1) = true := beq_iff_eq.2 (by omega)
          go_wp2_with fail
          go_meet
          exact ⟨⟨Q, capq, qs, rfl, hq, ⟨HQ.out, FQ.out⟩⟩, rfl⟩
        · have ht : ((r : Int) == 1) = false := beq_eq_false_iff_ne.2 (by omega)
          go_wp2_with fail
          go_meet
          exact ⟨⟨P, capp, ps, rfl, hp, ⟨HP.out, FP.out⟩⟩, rfl⟩
      case rest =>
        obtain ⟨⟨B, capb, xs, rfl, hx, HB⟩, rfl⟩ := hcut
        obtain ⟨i0, hi0, hz0, hz1, hz2⟩ := info_parts info_slice
        obtain ⟨i1, hi1, hy0, hy1, hy2⟩ := info_parts info_act
        obtain ⟨hbr, htr⟩ := HR.out
        have HB2 : Hd _ := ⟨hbr⟩
        have HT2 : Hd _ := ⟨htr⟩
        clear hbr htr
        go_wp2_with (at_make; (refine wpList_make_full _ rfl _ _ 75 rfl wc.heap.size 23 i0 (.slice none 0 0) 1 Try.underlying75 hi0 hz0 hz1 .i64 .i64 _ _ l.length rfl rfl rfl rfl (by rw [hz2]; omega) (by unfold maxLen; omega) (Nat.le_refl _) ?_; intro w2 hown2 hgrow2))
        have hlogs := logs_start (b0 := wc.heap.size) hown2
        have hz2' := (hown2.lt wc.heap.size rfl).2
        have hbel2 : Below wc.heap.size wc w2 := ⟨hgrow2.os, hgrow2.tape, hgrow2.output, hgrow2.size, fun k hk => hgrow2.block k hk (by simp)⟩
        have HL2 : Hd _ := ⟨hlogs⟩
        have HG2 : Hd _ := ⟨hbel2⟩
        clear hlogs hown2 hgrow2 hbel2
        go_loopw [11, 12] (fun v i wx => ∃ (j : Nat) (bs : Nat → Nat) (foot : Nat → Prop), j ≤ l.length ∧ i = .int .i64 j ∧ Hd (BuildAt wc wx wc.heap.size (fun i => i) l.length bs (nsOf l) j v foot)) (fun _ i _ => l.length - (intOf i).toNat)
        case atStart =>
          refine ⟨0, fun _ => 0, fun k => k = wc.heap.size, Nat.zero_le _, rfl, ⟨Fleet.empty HL2.out hz2' HG2.out.size rfl (fun k hk => by rw [hk]; exact ⟨Nat.le_refl _, hz2'⟩), own_nil_ _ _ _ _, fun b e => (by cases e), HG2.out⟩⟩
        case round =>
          obtain ⟨j, bs, foot, hj, rfl, HBd⟩ := hrel
          by_cases hlt2 : j < l.length
          · have hlo : (0 : Int) ≤ (j : Int) := by omega
            have hhi : (j : Int) < (l.length : Int) := by omega
            obtain ⟨nr, rfl, hcn⟩ := HC.out j _ (nsOf_lens l j hlt2)
            have hnr := (HFN.out nr 0 rfl).2.1
            have hwr := HT2.out.size
            have hbw := HBd.out.below
            have hcell : wr.cell? ⟨nr, j, none⟩ = some (.int .i64 (nsOf l j : Nat)) := (hbw.cell (p := ⟨nr, j, none⟩) (by show nr < _; omega)).trans ((HT2.out.cell (p := ⟨nr, j, none⟩) hnr id).trans hcn)
            go_upto_block 3 with fail
            go_cut [11] (fun v wx => ∃ (bs' : Nat → Nat) (foot' : Nat → Prop), Hd (BuildAt wc wx wc.heap.size (fun i => i) l.length bs' (nsOf l) (j + 1) v foot'))
            case first =>
              go_wp2_with fail
              go_region_law (first
                | (refine step_append_lies _ (by rfl) _ _ _ (by rfl) wc.heap.size 29 i1 _ 1 8 Try.underlying65 hi1 hy0 hy1 hy2 rfl (by omega) u11 j (ptrs bs j) (by rfl) HO1.out ⟨w3.heap.size, 0, none⟩ 1 1 [.pointer (some ⟨b, 0, none⟩)] (by rfl) (by rfl) (World.news_of_block (cs := #[.pointer (some ⟨b, 0, none⟩)]) (t := 29) (fr := (0, 0)) (heap_alloc_new w3 _)) (by simp [Value.oneCell']) (by omega) (by unfold maxLen; omega) (by omega) (by simp; omega) (w3.heap.size + 1) (by simp) ?_; intro gg cap w4 hown4 hgrow4 hat4 hlt4)
                | (go_simp; go_at_call 12; refine (steps_any wc.heap.size j j (nsOf l j) _).mono ?_; rintro e w3 ⟨b, u, rfl, hbw3, ha3, hn3, hb3⟩;
                   have HO1 : Hd ((w3.alloc (.cells #[.pointer (some ⟨b, 0, none⟩)] 29)).ownsRow wc.heap.size 29 1 u11 j (ptrs bs j)) := ⟨(owns_below HBd.out.acts.drew hb3).alloc _⟩; have hz3 := hb3.size; have hzw := hbw.size; simp only [World.size_drew] at hz3; have HA3 : Hd _ := ⟨ha3⟩; have HN3 : Hd _ := ⟨hn3⟩; clear ha3 hn3))
              all_goals go_wp2_with fail
              all_goals go_meet
              all_goals exact ⟨_, _, ⟨HBd.out.step ((Below.refl _ wr).drew.trans hb3) hbw3 HA3.out HN3.out hown4 hgrow4 hat4 (by omega) (nsOf_le l j) hlt2⟩⟩
            case rest =>
              obtain ⟨bs', foot', HB'⟩ := hcut
              clear HBd hbw hcell
              go_wp2_with fail
              go_roundw
              case rel => exact ⟨j + 1, bs', foot', by omega, by go_num, HB'⟩
              case measure => simp [intOf]; omega
          · obtain rfl : j = l.length := by omega
            have HA2 : Hd (∃ Aa ca, u11 = .slice Aa l.length ca ∧ ActsAt Aa l.length bs wr ∧ ∀ b o, Aa = some ⟨b, o, none⟩ → b < wr.heap.size ∧ ¬ foot b ∧ wc.heap.size ≤ b) := by
              obtain ⟨Aa, ca, e, _, hv2, hc2⟩ := own_view HBd.out.acts
              refine ⟨Aa, ca, e, fun i hi => ?_, fun b o hb => ⟨(hv2 b o hb).2.1, HBd.out.free b (hv2 b o hb).2.2, (hv2 b o hb).1⟩⟩
              obtain ⟨b, e2, hc3⟩ := hc2 i (.pointer (some ⟨bs i, 0, none⟩)) (by unfold ptrs; simp [hi])
              exact ⟨b, 0, e2, by rw [Nat.zero_add]; exact hc3⟩
            obtain ⟨Aa, ca, rfl, hact, haf⟩ := HA2.out
            have hbw := HBd.out.below
            have hwc := HB2.out.size
            have fx : 0 < xs.length → ∀ b o, B = some ⟨b, o, none⟩ → b < wr.heap.size ∧ ¬ foot b := fun h0 b o e => by
              have h1 := HB.out.2 h0 b o e
              have h2 := hbw.size
              exact ⟨by omega, fun hf => by have := HBd.out.fleet.foot_ge b hf; omega⟩
            have hpk : PicksAt B xs wr := fun i hi => by
              obtain ⟨b, o, e, hc⟩ := HB.out.1 i hi
              have h1 := HB.out.2 (by omega) b o e
              exact ⟨b, o, e, (hbw.cell (p := ⟨b, o + i, none⟩) (by show b < _; omega)).trans ((HB2.out.cell (p := ⟨b, o + i, none⟩) h1).trans hc)⟩
            have HTn : Hd _ := ⟨turn_all HBd.out.fleet (fun e i => by rw [nsOf_out l i (by omega)]; omega) xs B capb Aa ca hpk hact fx (fun b o e => ⟨(haf b o e).1, (haf b o e).2.1⟩) hx⟩
            have HAc : Hd _ := ⟨hact⟩
            have HAf : Hd _ := ⟨haf⟩
            clear hact haf fx hpk hbw
            go_wp2_with fail
            refine HTn.out.mono ?_
            rintro e w5 ⟨rfl, hst⟩
            obtain ⟨row5, hF5, hT5, hK5⟩ := hst
            have hr5 := rest_any hF5 Aa ca (HAc.out.touch hT5 (fun b o e => ⟨(HAf.out b o e).1, (HAf.out b o e).2.1⟩)) (fun b o e => by
              have h1 := HAf.out b o e
              have h2 := hT5.size
              exact ⟨by omega, fun hf => by rcases hf with hf | hf; exact h1.2.1 hf; omega⟩) 20 (by omega)
            rw [show (20 : Int).toNat = 20 from rfl] at hr5
            have HR5 : Hd _ := ⟨hr5⟩
            clear hr5
            have HT5 : Hd _ := ⟨hT5⟩
            clear hF5 hT5 hK5
            go_wp2_with fail
            refine HR5.out.mono ?_
            rintro e w6 ⟨rfl, hst⟩
            obtain ⟨row6, hF6, hT6, hK6⟩ := hst
            have hdid : ∀ i, i < l.length → (rested (nsOf l) l.length 20 (turned (nsOf l) l.length xs (fun _ => 0) xs.length).1).1 i = nsOf l i :=
              rested_all _ _ 20 _ (fun i _ => ⟨turned_le (fun _ => Nat.zero_le _) _ i, by have := nsOf_le l i; omega⟩)
            have z5 := HT5.out.size
            have z6 := hT6.size
            have hbw := HBd.out.below
            have zr := hbw.size
            have hwr := HT2.out.size
            have hwc := HB2.out.size
            have hb6 : Below wc.heap.size wc w6 := (hbw.trans (HT5.out.below zr (fun k hk hf => by have := HBd.out.fleet.foot_ge k hf; omega))).trans (hT6.below (by omega) (fun k hk hf => by rcases hf with hf | hf; (have := HBd.out.fleet.foot_ge k hf; omega); omega))
            have hact6 : ActsAt Aa l.length bs w6 := (HAc.out.touch HT5.out (fun b o e => ⟨(HAf.out b o e).1, (HAf.out b o e).2.1⟩)).touch hT6 (fun b o e => by
              have h1 := HAf.out b o e
              exact ⟨by omega, fun hf => by rcases hf with hf | hf; exact h1.2.1 hf; omega⟩)
            have HA6 : Hd _ := ⟨hact6⟩
            have HF6 : Hd _ := ⟨hF6⟩
            have HD6 : Hd _ := ⟨hdid⟩
            have HB6 : Hd _ := ⟨hb6⟩
            clear hF6 hT6 hK6 hdid hact6 hb6 hbw HAc HAf HR5 HTn
            go_wp2_with fail
            go_loopw [13] (fun i wx => ∃ k : Nat, i = .int .i64 k ∧ k ≤ l.length ∧ Hd (∃ m, wx = w6.drewN m)) (fun i _ => l.length - (intOf i).toNat)
            case atStart => exact ⟨0, rfl, Nat.zero_le _, ⟨0, rfl⟩⟩
            case round =>
              obtain ⟨k, rfl, hk, HM⟩ := hrel
              obtain ⟨m, hm⟩ := HM.out
              by_cases hlt3 : k < l.length
              · obtain ⟨nr, rfl, hcn⟩ := HC.out k _ (nsOf_lens l k hlt3)
                have hnr := (HFN.out nr 0 rfl).2.1
                obtain ⟨ba, oa, rfl, hac⟩ := HA6.out k hlt3
                obtain ⟨Al, cl, hlog⟩ := HF6.out.logCell k hlt3
                rw [cnt_id, if_pos hlt3] at hlog
                have hd := HD6.out k hlt3
                rw [hd] at hlog
                have hcell : w6.cell? ⟨nr, k, none⟩ = some (.int .i64 (nsOf l k : Nat)) := (HB6.out.cell (p := ⟨nr, k, none⟩) (by show nr < _; omega)).trans ((HT2.out.cell (p := ⟨nr, k, none⟩) hnr id).trans hcn)
                have HO : Hd (∀ q, Calls Try.prog 15 #[.pointer (some ⟨bs k, 0, none⟩)] (wr.drewN q) fun e w' => e = .returned (.bool true) ∧ w' = wr.drewN q) := ⟨fun q => by rw [hm]; exact (fleet_over ((HF6.out.draw m).draw q) k hlt3).mono fun e w' ⟨h1, h2⟩ => ⟨by rw [h1, decide_eq_true hd], h2.symm⟩⟩
                have HS : Hd (∀ q, Calls Try.prog 16 #[.pointer (some ⟨bs k, 0, none⟩)] (wr.drewN q) fun e w' => e = .returned (.bool true) ∧ w' = wr.drewN q) := ⟨fun q => by rw [hm]; exact (fleet_idle ((HF6.out.draw m).draw q) k hlt3 hd).mono fun e w' ⟨h1, h2⟩ => ⟨h1, h2.symm⟩⟩
                have hlo : (0 : Int) ≤ (k : Int) := by omega
                have hhi : (k : Int) < (l.length : Int) := by omega
                have hac2 : wr.cell? ⟨ba, oa + k, none⟩ = some (.pointer (some ⟨bs k, 0, none⟩)) := by rw [hm]; exact hac
                have hlog2 : wr.cell? ⟨wc.heap.size, k, none⟩ = some (.slice Al (nsOf l k) cl) := by rw [hm]; exact hlog
                have hcell2 : wr.cell? ⟨nr, k, none⟩ = some (.int .i64 (nsOf l k : Nat)) := by rw [hm]; exact hcell
                clear hcn hd hm hac hlog hcell
                go_wp2_with fail
                go_quiet (first | (go_at_call 15; refine Calls.quiet_of_same (HO.out _)) | (go_at_call 16; refine Calls.quiet_of_same (HS.out _)))
                go_wp2_with fail
                go_roundw
                case rel => exact ⟨k + 1, by go_num, by omega, ⟨by obtain ⟨m, hm⟩ := HM.out; rw [hm]; exact ⟨m + nq, by simp⟩⟩⟩
                case measure => simp [intOf]; omega
              · obtain rfl : k = l.length := by omega
                subst hm
                go_wp2_with fail
                go_roundw
                case rel => exact ⟨r + 1, by omega, by go_num, ⟨HB2.out.trans (HB6.out.mono HB2.out.size) |>.drawN m, HT2.out.step (T := fun k => wc.heap.size ≤ k) (Touch.of_belowB (HB6.out.drawN m)) (fun k hk e => by omega)⟩⟩
                case measure => simp [intOf]; omega
    · obtain rfl : r = 2 := by omega
      have HB2 : Hd _ := ⟨HR.out.1⟩
      go_wp2_with (first
        | (go_at_call 15; refine (over_none _).mono ?_; rintro e w' ⟨rfl, rfl⟩)
        | (go_at_call 16; refine (step_none _).mono ?_; rintro e w' ⟨rfl, rfl⟩)
        | (go_at_call 17; refine (count_none _).mono ?_; rintro e w' ⟨rfl, rfl⟩)
        | (go_at_call 38; refine (rest_nil wr.heap.size _ (by simp [go_sem])).mono ?_; rintro e w7 ⟨rfl, hb7⟩)
        | (go_at_call 18; refine (actAwake _).mono ?_; rintro e w8 ⟨rfl, hb8⟩))
      go_ret
      exact ⟨rfl, ((HB2.out.alloc HB2.out.size _).trans (hb7.mono (by have := HB2.out.size; simp; omega))).trans (hb8.mono (by have := HB2.out.size; have := hb7.size; simp at this; omega))⟩
set_option maxHeartbeats 1000000 in
theorem actApart_short (w : World) (A P Q : Option Addr) (n cap np capp nq capq : Nat) (h : 10 < n ∨ 200 < np ∨ 200 < nq) :
    Calls Try.prog 8 #[.slice A n cap, .slice P np capp, .slice Q nq capq] w fun e w' => e = .returned (.bool true) ∧ Below w.heap.size w w' := by
  by_cases h1 : 10 < n
  · go_enter Try.func8, Try.ntmps8
    go_wp2
    go_ret
    exact ⟨rfl, Below.refl _ _⟩
  · by_cases h2 : 200 < np
    · go_enter Try.func8, Try.ntmps8
      go_wp2
      go_ret
      exact ⟨rfl, Below.refl _ _⟩
    · have h3 : 200 < nq := by omega
      go_enter Try.func8, Try.ntmps8
      go_wp2
      go_ret
      exact ⟨rfl, Below.refl _ _⟩
theorem picks_of {w : World} {A : Option Addr} {n : Nat} {ps : List Int} (h : Recs (RInt .i64) 1 w A n ps) : PicksAt A ps w ∧ (0 < ps.length → ∀ b o, A = some ⟨b, o, none⟩ → b < w.heap.size) := by
  have hl := h.1
  refine ⟨fun j hj => ?_, fun h0 b o e => ?_⟩
  · obtain ⟨bx, ox, rfl, hb, hc⟩ := recs_ints h (by omega)
    exact ⟨bx, ox, rfl, hc j hj⟩
  · obtain ⟨bx, ox, rfl, hb, hc⟩ := recs_ints h (by omega)
    cases e
    exact hb
theorem actApart_any (w : World) (A : Option Addr) (len cap : Nat) (l : List Int) (h : Recs (RInt .u8) 1 w A len l) (_hc : len ≤ cap) (_hz : len * 1 ≤ 140737488351232) (P : Option Addr) (np capp : Nat) (ps : List Int) (hp : Recs (RInt .i64) 1 w P np ps) (_hc2 : np ≤ capp) (_hz2 : np * 8 ≤ 140737488351232)
    (Q : Option Addr) (nq capq : Nat) (qs : List Int) (hq : Recs (RInt .i64) 1 w Q nq qs) (_hc3 : nq ≤ capq) (_hz3 : nq * 8 ≤ 140737488351232) :
    Calls Try.prog 8 #[.slice A len cap, .slice P np capp, .slice Q nq capq] w fun e w' => e = .returned (.bool true) ∧ Below w.heap.size w w' := by
  by_cases hs : 10 < len ∨ 200 < np ∨ 200 < nq
  · exact actApart_short w A P Q len cap np capp nq capq hs
  · obtain rfl := h.1
    obtain rfl := hp.1
    obtain rfl := hq.1
    exact actApart_long w A cap l h (by omega) P capp ps (picks_of hp).1 (picks_of hp).2 (by omega) Q capq qs (picks_of hq).1 (picks_of hq).2 (by omega)
end Go.Proofs.Ythghndjfghdnnaa
