/- The walk of the law ActRuns: it returns true for every slice of bytes. No condition. -/
import Derived.Test.YthghndjfghdnnaaActOuter
import Derived.OpenShut
import Derived.Deep.QuietTactic
import Derived.BigQuiet
namespace Go.Proofs.Ythghndjfghdnnaa
open Go.RowKit
def OuterStepPost (base : Nat) (V : Vars) (ns : List Nat) (i j : Nat) (xs : List Int) (row : Option Nat) (b : Nat) (c : Int) (ok : Nat → Prop) (w : World) (e : Ending) (w' : World) : Prop :=
  ∃ v i' j' row', e = .returned (.bool (decide (rem ns i j = 0))) ∧ ActAt w' b v (c + 1) ∧ EnvAt w' base V ns i' (xs ++ [(i : Int)]) row' ∧ At w' V ns i' j' v (fun k => (ok k ∨ w.heap.size ≤ k) ∧ some k ≠ row') ∧ i ≤ i' ∧ i' ≤ ns.length ∧ rem ns i' j' = rem ns i j ∧ (row' = row ∨ ∃ g, row' = some g ∧ w.heap.size ≤ g) ∧
    Touch (fun k => k = b ∨ ok k ∨ V.mine k ∨ some k = row) w w'
set_option maxHeartbeats 2000000 in
theorem outerStep_any (base : Nat) (V : Vars) (ns : List Nat) (i j : Nat) (xs : List Int) (row : Option Nat) (b : Nat) (c : Int) (v : Value) (ok : Nat → Prop) (w : World) (hb : ActAt w b v c) (hat : At w V ns i (j + 1) v ok) (he : EnvAt w base V ns i xs row) (hx : xs.length ≤ 1000)
    (hok : ∀ k, ok k → k ≠ b ∧ ¬ V.mine k ∧ some k ≠ row) (hbm : ¬ V.mine b) (hbr : some b ≠ row) (hc0 : 0 ≤ c) (hc1 : c ≤ 100000) :
    Calls Try.prog 16 #[.pointer (some ⟨b, 0, none⟩)] w (OuterStepPost base V ns i j xs row b c ok w) := by
  rcases hat with ⟨_, h, _⟩ | ⟨hi, _, hj, hp⟩
  · omega
  obtain ⟨s, t, A, ib, nx, c', rfl, ⟨o1, o2, o3, o4⟩, hne, c1, c2, c3, ha, hc', hn⟩ := hp.out
  have t1 := touch_set w b 1 (.int .i64 (c + 1))
  have l1 := lt_of_cell c1
  have l2 := lt_of_cell c2
  have l3 := lt_of_cell c3
  have l4 := ha.lt
  have lb := hb.lt
  have hc : w.cell? ⟨b, 1, none⟩ = some (.int .i64 c) := hb.count
  have hnx := (hb.counted (c + 1)).next
  have f1 := hb.free 1
  have f0 := hb.free 0
  have he1 : EnvAt (w.setCell ⟨b, 1, none⟩ (.int .i64 (c + 1))) base V ns i xs row := he.touch t1 (fun k _ e => by rw [e]; exact ⟨hbm, hbr⟩)
  have st := outer_any base V ns i j xs row ok s t A ib nx c' _ he1 hx hi hj (fun k hk => (hok k hk).2) ⟨o1, o2, o3, o4⟩ hne ((t1.cell (p := ⟨s, 0, none⟩) l1 (hok _ o1).1).trans c1) ((t1.cell (p := ⟨t, 0, none⟩) l2 (hok _ o2).1).trans c2) ((t1.cell (p := ⟨ib, 0, none⟩) l3 (hok _ o3).1).trans c3)
    (ha.touch t1 (hok _ o4).1) hc' (hn.move (fun k hk ho => t1.block k hk (hok k ho.1).1) (fun k _ ho => ho))
  have HS : Hd _ := ⟨st⟩
  have HB : Hd _ := ⟨hb⟩
  have MK : Hd _ := ⟨hok⟩
  clear st c1 c2 c3 hb ha hn hp he he1 hok
  go_enter Try.func16, Try.ntmps16
  go_wp2_with (go_at_call 15; refine (over_no b c _ _ _ HB.out).mono ?_; rintro e w' ⟨rfl, rfl⟩)
  refine HS.out.mono ?_
  rintro e w2 ⟨v', i', j', row', rfl, hE, hA, hii, hil, hrem, hr', ht⟩
  have nb : ¬ (ok b ∨ V.mine b ∨ some b = row) := by
    rintro (e | e | e)
    · exact (MK.out b e).1 rfl
    · exact hbm e
    · exact hbr e
  have ha2 := (HB.out.counted (c + 1)).touch ht nb
  have hnx2 := ha2.next
  have f2 := ha2.free 0
  have ha3 := ha2.nexted v'
  have t3 := touch_set w2 b 0 v'
  have hz2 := ht.size
  simp at hz2
  have hbr' : some b ≠ row' := by
    rcases hr' with h | ⟨g, h, hg⟩
    · rw [h]; exact hbr
    · rw [h]; intro e; cases e; simp at hg; omega
  have hEw : EnvAt (w2.setCell ⟨b, 0, none⟩ v') base V ns i' (xs ++ [(i : Int)]) row' := hE.touch t3 (fun k _ e => by rw [e]; exact ⟨hbm, hbr'⟩)
  have hAw : At (w2.setCell ⟨b, 0, none⟩ v') V ns i' j' v' (fun k => (ok k ∨ w.heap.size ≤ k) ∧ some k ≠ row') := hA.touch t3 (fun k _ hk => ⟨fun e => by
    rw [e] at hk
    rcases hk.1 with h | h
    · exact (MK.out b h).1 rfl
    · simp at h; omega, by simpa using hk⟩)
  have hT : Touch (fun k => k = b ∨ ok k ∨ V.mine k ∨ some k = row) w (w2.setCell ⟨b, 0, none⟩ v') := ((t1.mono (fun k _ h => .inl h)).step ht (fun k _ h => .inr h)).step t3 (fun k _ h => .inl h)
  have HR : Hd (row' = row ∨ ∃ g, row' = some g ∧ w.heap.size ≤ g) := ⟨by simpa using hr'⟩
  have H3 : Hd _ := ⟨ha3⟩
  have HE : Hd _ := ⟨hEw⟩
  have HA : Hd _ := ⟨hAw⟩
  have HM : Hd _ := ⟨hrem⟩
  have MK2 := MK
  clear hr' ha3 hEw hAw hE hrem HS HB ha2 nb MK
  rcases hA with ⟨h1, h2, rfl⟩ | ⟨h1, h2, h3, h4⟩
  · have hz : rem ns i j = 0 := by rw [← HM.out]; unfold rem; rw [h2, sumFrom_end ns (i' + 1) (by omega)]
    clear h1 h2
    have HZ : Hd _ := ⟨hz⟩
    clear hz
    go_wp2_with (go_at_call 15; refine (over_yes b (c + 1) _ H3.out).mono ?_; rintro e w' ⟨rfl, rfl⟩)
    go_ret
    exact ⟨_, i', j', row', by rw [decide_eq_true HZ.out]; rfl, H3.out, HE.out, HA.out, hii, hil, HM.out, HR.out, hT⟩
  · have hz : ¬ rem ns i j = 0 := by rw [← HM.out]; unfold rem; omega
    have HZ : Hd _ := ⟨hz⟩
    obtain ⟨_, _, _, _, _, _, rfl, _⟩ := h4.out
    clear h4 hz
    go_wp2_with (go_at_call 15; refine (over_no b (c + 1) _ _ _ H3.out).mono ?_; rintro e w' ⟨rfl, rfl⟩)
    go_ret
    exact ⟨_, i', j', row', by rw [decide_eq_false HZ.out]; rfl, H3.out, HE.out, HA.out, hii, hil, HM.out, HR.out, hT⟩
def lensN (l : List Int) : List Nat := l.map (fun x => (x % 20).toNat)
theorem lensN_length (l : List Int) : (lensN l).length = l.length := by simp [lensN]
theorem lensN_le (l : List Int) (k : Nat) : nthN (lensN l) k ≤ 19 := by
  unfold nthN lensN
  rw [List.getD_eq_getElem?_getD]
  by_cases h : k < l.length
  · rw [List.getElem?_eq_getElem (by simpa using h)]; simp; omega
  · rw [List.getElem?_eq_none (by simp; omega)]; simp
theorem lens_lensN (l : List Int) : (lens l).map (Value.int .i64) = (lensN l).map (fun n : Nat => Value.int .i64 (n : Int)) := by
  unfold lens lensN
  rw [List.map_map, List.map_map]
  refine List.map_congr_left fun x _ => ?_
  simp only [Function.comp]
  congr 1; omega
theorem lengths_std (w : World) (A : Option Addr) (cap : Nat) (l : List Int) (h : Recs (RInt .u8) 1 w A l.length l) (hl : l.length ≤ 10) : Calls Try.prog 9 #[.slice A l.length cap] w (LensPost l w) := by
  by_cases h0 : l.length = 0
  · rw [h0]
    obtain rfl : l = [] := List.eq_nil_of_length_eq_zero h0
    exact lengths_nil A cap w
  · obtain ⟨bx, ox, rfl, hb, hc⟩ := recs_ints h (by omega)
    refine lengths_any bx ox l cap w hl hb hc (fun i hi => ?_)
    obtain ⟨_, _, h⟩ := h
    obtain ⟨ad, _, hr⟩ := h (by omega)
    obtain ⟨c, _, ⟨_, hw⟩, _⟩ := hr i _ (List.getElem?_eq_getElem hi)
    have := bounds_u8 hw
    unfold nth; rw [List.getD_eq_getElem?_getD, List.getElem?_eq_getElem hi]
    exact this
theorem own_ns {w : World} {base : Nat} {v : Value} {ns : List Nat} (h : w.ownsRow base 3 1 v ns.length (ns.map (fun n : Nat => Value.int .i64 (n : Int)))) (nr0 : Nat) :
    ∃ A c nr, v = .slice A ns.length c ∧ (nr = nr0 ∨ (base ≤ nr ∧ nr < w.heap.size)) ∧ ∀ k, k < ns.length → A = some ⟨nr, 0, none⟩ ∧ w.cell? ⟨nr, k, none⟩ = some (.int .i64 (nthN ns k : Int)) := by
  rcases h.2 with ⟨hv, h0⟩ | ⟨g, cap, cur, hv, hg, hh, _⟩
  · exact ⟨none, 0, nr0, by rw [hv, h0], .inl rfl, fun k hk => by omega⟩
  · refine ⟨_, _, g, hv, .inr ⟨hg, (Array.getElem?_eq_some_iff.1 hh).1⟩, fun k hk => ⟨rfl, ?_⟩⟩
    have := h.cells (g := g) (by rw [hv]; rfl) k (.int .i64 (nthN ns k : Int)) (by
      rw [List.getElem?_map, List.getElem?_eq_getElem hk]; unfold nthN; rw [List.getD_eq_getElem?_getD, List.getElem?_eq_getElem hk]; rfl)
    rwa [add_off, Nat.zero_add] at this
theorem sum_take (ns : List Nat) (k : Nat) (h : k < ns.length) : (ns.take (k + 1)).sum = (ns.take k).sum + nthN ns k := by
  rw [List.take_succ_eq_append_getElem h, List.sum_append]
  unfold nthN; rw [List.getD_eq_getElem?_getD, List.getElem?_eq_getElem h]; simp
theorem sum_le (ns : List Nat) (hb : ∀ k, nthN ns k ≤ 19) : ∀ k, k ≤ ns.length → (ns.take k).sum ≤ 19 * k := by
  intro k
  induction k with
  | zero => intro _; simp
  | succ k ih => intro hk; rw [sum_take ns k (by omega)]; have := ih (by omega); have := hb k; omega
/-- A log that rises: what stands behind is not less; none is above i. -/
def Rises (xs : List Int) (i : Nat) : Prop := (∀ a, a + 1 < xs.length → nth xs a ≤ nth xs (a + 1)) ∧ ∀ a, a < xs.length → nth xs a ≤ i
theorem nth_snoc_lt (xs : List Int) (x : Int) (a : Nat) (h : a < xs.length) : nth (xs ++ [x]) a = nth xs a := by
  unfold nth; rw [List.getD_eq_getElem?_getD, List.getD_eq_getElem?_getD, List.getElem?_append_left h]
theorem nth_snoc_end (xs : List Int) (x : Int) : nth (xs ++ [x]) xs.length = x := by
  unfold nth; rw [List.getD_eq_getElem?_getD, List.getElem?_append_right (Nat.le_refl _)]; simp
theorem Rises.snoc {xs : List Int} {i i' : Nat} (h : Rises xs i) (hi : i ≤ i') : Rises (xs ++ [(i : Int)]) i' := by
  refine ⟨fun a ha => ?_, fun a ha => ?_⟩
  · rw [List.length_append, List.length_singleton] at ha
    rw [nth_snoc_lt xs _ a (by omega)]
    by_cases e : a + 1 < xs.length
    · rw [nth_snoc_lt xs _ (a + 1) e]; exact h.1 a e
    · rw [show a + 1 = xs.length by omega, nth_snoc_end]; exact h.2 a (by omega)
  · rw [List.length_append, List.length_singleton] at ha
    by_cases e : a < xs.length
    · rw [nth_snoc_lt xs _ a e]; have := h.2 a e; omega
    · rw [show a = xs.length by omega, nth_snoc_end]; omega
/-- The outer act, behind k steps. -/
def Outer (base : Nat) (V : Vars) (ns : List Nat) (b B : Nat) (k : Nat) (w : World) : Prop :=
  ∃ i j v xs row, ActAt w b v k ∧ EnvAt w base V ns i xs row ∧ At w V ns i j v (fun q => B ≤ q ∧ q ≠ b ∧ some q ≠ row) ∧ xs.length = k ∧ k + rem ns i j = ns.sum ∧ Rises xs i ∧ i ≤ ns.length ∧ some b ≠ row
theorem Outer.over {base : Nat} {V : Vars} {ns : List Nat} {b B k : Nat} {w : World} (h : Outer base V ns b B k w) (hk : k = ns.sum) : ∃ xs row, ActAt w b .nilFunc k ∧ EnvAt w base V ns ns.length xs row ∧ xs.length = k ∧ Rises xs ns.length := by
  obtain ⟨i, j, v, xs, row, ha, he, hat, hx, hr, hri, hi, _⟩ := h
  rcases hat with ⟨rfl, _, rfl⟩ | ⟨_, h2, _⟩
  · exact ⟨xs, row, ha, he, hx, hri⟩
  · unfold rem at hr; omega
theorem actRuns_great (w : World) (A : Option Addr) (len cap : Nat) (h : 10 < len) : Calls Try.prog 3 #[.slice A len cap] w fun e w' => e = .returned (.bool true) ∧ Below w.heap.size w w' := by
  go_enter Try.func3, Try.ntmps3
  go_wp2
  go_ret
  exact ⟨rfl, Below.refl _ _⟩
set_option maxHeartbeats 2000000 in
theorem actRuns_small (w : World) (A : Option Addr) (cap : Nat) (l : List Int) (h : Recs (RInt .u8) 1 w A l.length l) (hl : l.length ≤ 10) : Calls Try.prog 3 #[.slice A l.length cap] w fun e w' => e = .returned (.bool true) ∧ Below w.heap.size w w' := by
  have HL : Hd _ := ⟨lengths_std w A cap l h hl⟩
  clear h
  go_enter Try.func3, Try.ntmps3
  go_wp2_with fail
  refine HL.out.mono ?_
  rintro e w1 ⟨v, rfl, hown, hb1⟩
  rw [lens_lensN, ← lensN_length] at hown
  obtain ⟨A1, c1, nr, rfl, hnr, hns⟩ := own_ns hown w1.heap.size
  have hln := lensN_length l
  have hle := lensN_le l
  generalize lensN l = ns at *
  have HN : Hd _ := ⟨hns⟩
  have HLE : Hd _ := ⟨hle⟩
  have HLN : Hd _ := ⟨hln⟩
  have hl2 : ns.length ≤ 10 := by omega
  clear hns hle hln hown HL
  go_wp2_with fail
  go_loop [5, 6] (fun s i => ∃ k : Nat, k ≤ ns.length ∧ i = .int .i64 k ∧ s = .int .i64 ((ns.take k).sum : Nat)) (fun _ i => ns.length - (intOf i).toNat)
  case atStart => exact ⟨0, Nat.zero_le _, rfl, rfl⟩
  case round =>
    obtain ⟨k, hk, rfl, rfl⟩ := hrel
    by_cases hlt : k < ns.length
    · obtain ⟨rfl, hcell⟩ := HN.out k hlt
      have hs1 := sum_le ns HLE.out k (by omega)
      have hs2 := HLE.out k
      have hcell2 : ((w1.alloc (.cells #[.slice (some ⟨nr, 0, none⟩) ns.length c1] 23)).alloc (.cells #[.slice none 0 0] 23)).cell? ⟨nr, k, none⟩ = some (.int .i64 (nthN ns k : Int)) := by
        have := lt_of_cell hcell
        simp at this
        simp [go_sem, *]
      have hlo : (0 : Int) ≤ (k : Int) := by omega
      have hhi : (k : Int) < (ns.length : Int) := by omega
      go_wp2
      go_round
      case rel => exact ⟨k + 1, by omega, by go_num, by rw [sum_take ns k hlt]; go_num⟩
      case measure => simp [intOf]; omega
    · obtain rfl : k = ns.length := by omega
      rw [List.take_length]
      go_wp2_with fail
      obtain ⟨W0, hW0⟩ : ∃ W0 : World, W0 = ((((w1.alloc (.cells #[.slice A1 ns.length c1] 23)).alloc (.cells #[.slice none 0 0] 23)).alloc (.cells #[.int .i64 0] 3)).alloc
        (.cells #[.func (.func 10) #[] #[.pointer (some ⟨w1.heap.size, 0, none⟩), .pointer (some ⟨w1.heap.size + 1, 0, none⟩), .pointer (some ⟨w1.heap.size + 1 + 1, 0, none⟩), .pointer (some ⟨w1.heap.size + 1 + 1 + 1, 0, none⟩)]] 25)) := ⟨_, rfl⟩
      have hbz := hb1.size
      have hBW : Below w1.heap.size w1 W0 := by
        rw [hW0]; exact (((((Below.refl _ w1).alloc (Nat.le_refl _) _).alloc (by simp) _).alloc (by simp; omega) _).alloc (by simp; omega) _)
      have hV : EnvAt W0 w.heap.size ⟨w1.heap.size, nr, w1.heap.size + 1, w1.heap.size + 1 + 1, w1.heap.size + 1 + 1 + 1⟩ ns 0 [] none := by
        rw [hW0]
        refine ⟨⟨A1, c1, by simp [go_sem], fun k hk => ⟨(HN.out k hk).1, ?_⟩⟩, ⟨.slice none 0 0, by simp [go_sem], by simp [go_sem], own_nil_ _ _ _ _, rfl⟩, by simp [go_sem], by simp [go_sem], by simp [go_sem], ⟨hl2, HLE.out⟩, ?_, by simp; omega, fun k h => by (cases h), by simp; omega⟩
        · have h1 := (HN.out k hk).2
          rw [← hW0]
          exact (hBW.cell (p := ⟨nr, k, none⟩) (lt_of_cell h1)).trans h1
        · unfold Vars.apart; simp; omega
      have hB0 : Below w.heap.size w W0 := by
        exact hb1.trans (hBW.mono hbz)
      have hS0 : W0.heap.size = w1.heap.size + 4 := by rw [hW0]; simp
      rw [← hW0]
      generalize hVV : (⟨w1.heap.size, nr, w1.heap.size + 1, w1.heap.size + 1 + 1, w1.heap.size + 1 + 1 + 1⟩ : Vars) = V at hV
      have vnv : V.nv = w1.heap.size := by rw [← hVV]
      have vlg : V.lg = w1.heap.size + 1 := by rw [← hVV]
      have vca : V.ca = w1.heap.size + 1 + 1 := by rw [← hVV]
      have vch : V.ch = w1.heap.size + 1 + 1 + 1 := by rw [← hVV]
      have hmine : ∀ k, V.mine k → w.heap.size ≤ k ∧ k < W0.heap.size := by intro k hk; rw [← hVV] at hk; unfold Vars.mine at hk; simp only at hk; omega
      have hcall := chain_all w.heap.size V ns [] none ns.length 0 (by omega) (by omega) W0 hV
      have HCALL : Hd (Calls Try.prog 10 #[.int .i64 0, .pointer (some ⟨w1.heap.size, 0, none⟩), .pointer (some ⟨w1.heap.size + 1, 0, none⟩), .pointer (some ⟨w1.heap.size + 1 + 1, 0, none⟩), .pointer (some ⟨w1.heap.size + 1 + 1 + 1, 0, none⟩)] W0 (ChainPost w.heap.size V ns 0 [] none W0)) := ⟨by
        rw [vnv, vlg, vca, vch] at hcall; exact hcall⟩
      have HM : Hd _ := ⟨hmine⟩
      have HVV : Hd _ := ⟨hVV⟩
      have HV : Hd (V.nv = w1.heap.size ∧ V.lg = w1.heap.size + 1 ∧ V.ca = w1.heap.size + 1 + 1) := ⟨⟨vnv, vlg, vca⟩⟩
      clear hcall hV hW0 hmine hVV vnv vlg vca vch
      refine HCALL.out.mono ?_
      rintro e w2 ⟨v, i', rfl, _, hz, hE, hS, hT⟩
      have hil : i' ≤ ns.length := by rcases hS with h | h <;> omega
      obtain ⟨j', hat, hrem⟩ := At.of_stands hS
      have hvs := hat.isStep
      have hrem2 : rem ns i' j' = ns.sum := by
        rw [hrem, ← sumFrom_zeros ns 0 i' (by omega) hil (fun k _ h => hz k (by omega) h)]; unfold sumFrom; rw [List.drop_zero]
      have hz2 := hT.size
      have hB2 : Below w.heap.size w w2 := hB0.trans (hT.below (by omega) (fun k hk e => by have := (HM.out k (.inr (.inr (.inr (.inl e))))).1; omega))
      have H2 : Hd (EnvAt w2 w.heap.size V ns i' [] none ∧ At w2 V ns i' j' v (fun k => W0.heap.size ≤ k) ∧ rem ns i' j' = ns.sum ∧ i' ≤ ns.length) := ⟨⟨hE, hat, hrem2, hil⟩⟩
      have HVS : Hd _ := ⟨hvs⟩
      clear hE hS hat hrem hrem2 hz hvs hil HCALL hT hB0
      go_wp2_with fail
      refine (actNew_any v HVS.out w2).mono ?_
      rintro e w3 ⟨b, rfl, hb, ha3, hb3, hs3⟩
      have HO : Hd (Outer w.heap.size V ns b W0.heap.size 0 w3) := ⟨by
        obtain ⟨hE, hat, hrem, hil⟩ := H2.out
        exact ⟨i', j', v, [], none, ha3, hE.below hb3, hat.touch (Touch.of_below hb3 (fun _ => False)) (fun k hk h => ⟨id, h, by omega, by simp⟩), rfl, by omega, ⟨fun a h => by simp at h, fun a h => by simp at h⟩, hil, by simp⟩⟩
      have hB3 : Below w.heap.size w w3 := hB2.trans (hb3.mono hB2.size)
      have hbW : W0.heap.size ≤ b := by omega
      have hss := sum_le ns HLE.out ns.length (Nat.le_refl _)
      rw [List.take_length] at hss
      clear hb ha3 hb3 hs3 H2 HVS hB2
      go_wp2_with fail
      go_loopw [10] (fun i wr => ∃ k : Nat, k ≤ ns.sum ∧ i = .int .i64 k ∧ Hd (Outer w.heap.size V ns b W0.heap.size k wr) ∧ Below w.heap.size w wr) (fun i _ => ns.sum - (intOf i).toNat)
      case atStart => exact ⟨0, Nat.zero_le _, rfl, HO, hB3⟩
      case round =>
        clear HO hB3
        obtain ⟨k, hk, rfl, HO, hB⟩ := hrel
        by_cases hlt : k < ns.sum
        · obtain ⟨i, j, v, xs, row, ha, he, hat, hx, hr, hri, hi, hbr⟩ := HO.out
          rcases hat with ⟨h1, h2, _⟩ | ⟨h1, h2, h3, h4⟩
          · exfalso; unfold rem at hr; rw [sumFrom_end ns (i + 1) (by omega)] at hr; omega
          · obtain ⟨j, rfl⟩ : ∃ q, j = q + 1 := ⟨j - 1, by omega⟩
            obtain ⟨vl, hvl, hfl, hol, hrowl⟩ := he.log
            obtain ⟨Al, cl, rfl⟩ := own_slice_ hol
            rw [hx, HV.out.2.1] at hvl
            have hrm : rem ns i (j + 1) = rem ns i j + 1 := by unfold rem; omega
            have st := outerStep_any w.heap.size V ns i j xs row b k v _ wr ha (.inr ⟨h1, h2, h3, h4⟩) he (by omega) (fun q hq => ⟨hq.2.1, fun e => by have := (HM.out q e).2; omega, hq.2.2⟩) (fun e => by have := (HM.out b e).2; omega) hbr (by omega) (by omega)
            have hq : ((decide (rem ns i j = 0)) != ((k : Int) == ((ns.sum : Nat) : Int) - 1)) = false := by
              by_cases e : rem ns i j = 0
              · rw [decide_eq_true e, beq_iff_eq.2 (by omega)]; rfl
              · rw [decide_eq_false e, beq_eq_false_iff_ne.2 (by omega)]; rfl
            have hq2 : (decide (rem ns i j = 0) == ((k : Int) == ((ns.sum : Nat) : Int) - 1)) = true := by simpa using hq
            have hrb : ∀ q, row = some q → w.heap.size ≤ q := fun q h => (hol.lt q (by rw [hrowl, h])).1
            have HRB : Hd _ := ⟨hrb⟩
            obtain ⟨_, _, _, _, _, _, rfl, _⟩ := h4.out
            clear hq hrb
            have HS : Hd _ := ⟨st⟩
            have HA : Hd _ := ⟨ha⟩
            have HX : Hd (xs.length = k ∧ k + rem ns i (j + 1) = ns.sum ∧ rem ns i (j + 1) = rem ns i j + 1 ∧ Rises xs i ∧ some b ≠ row ∧ ∀ q, row = some q → q < wr.heap.size) := ⟨⟨hx, hr, hrm, hri, hbr, fun q h => (he.row q h).2⟩⟩
            have hlo : (0 : Int) ≤ (k : Int) := by omega
            have hhi : (k : Int) < ((ns.sum : Nat) : Int) := by omega
            clear st ha he hol hrowl hx hr hrm hri hbr h4 HO
            go_wp2_with (first | (go_at_call 15; refine (over_no b k _ _ _ HA.out).mono ?_; rintro e w' ⟨rfl, rfl⟩))
            refine HS.out.mono ?_
            rintro e w4 ⟨v', i', j', row', rfl, ha4, he4, hat4, hii, hil, hrem4, hr4, ht4⟩
            have hB4 : Below w.heap.size w w4 := hB.trans (ht4.below hB.size (fun q hq e => by
              rcases e with e | e | e | e
              · omega
              · omega
              · have := (HM.out q e).1; omega
              · have := HRB.out q e.symm; omega))
            have HO4 : Hd (Outer w.heap.size V ns b W0.heap.size (k + 1) w4) := ⟨by
              obtain ⟨x1, x2, x3, x4, x5, x6⟩ := HX.out
              have lb := HA.out.lt
              refine ⟨i', j', v', _, row', by simpa using ha4, he4, hat4.touch (Touch.refl (fun _ => False) _) (fun q _ hq => ⟨id, ?_⟩), by simp [x1], by omega, x4.snoc hii, hil, ?_⟩
              · refine ⟨?_, ?_, hq.2⟩
                · rcases hq.1 with h | h <;> omega
                · rcases hq.1 with h | h
                  · exact h.2.1
                  · omega
              · rcases hr4 with h | ⟨g, h, hg⟩
                · rw [h]; exact x5
                · rw [h]; intro e; cases e; omega⟩
            clear ha4 he4 hat4 hrem4 hr4 ht4 HS
            go_wp2_with fail
            go_roundw
            case rel => exact ⟨k + 1, by omega, by go_num, HO4, hB4⟩
            case measure => simp [intOf]; omega
        · obtain rfl : k = ns.sum := by omega
          obtain ⟨xs, row, ha, he, hx, hri⟩ := HO.out.over rfl
          obtain ⟨vl, hvl, hfl, hol, hrowl⟩ := he.log
          have hcl := he.called
          have hnv := he.n
          obtain ⟨An, cn, hnv, _⟩ := hnv
          rw [HV.out.1] at hnv
          rw [HV.out.2.2] at hcl
          rw [HV.out.2.1] at hvl
          obtain ⟨Al, cl, rfl⟩ := own_slice_ hol
          have hcells : ∀ q, q < xs.length → ∃ g, Al = some ⟨g, 0, none⟩ ∧ wr.cell? ⟨g, q, none⟩ = some (.int .i64 (nth xs q)) := by
            intro q hq
            rcases hol.2 with ⟨_, h0⟩ | ⟨g, cap, cur, hv, _, _, _⟩
            · omega
            · obtain ⟨rfl, _⟩ := (by simpa using hv : Al = some ⟨g, 0, none⟩ ∧ _)
              have := hol.cells (g := g) rfl q (.int .i64 (nth xs q)) (by rw [List.getElem?_map, List.getElem?_eq_getElem hq]; unfold nth; rw [List.getD_eq_getElem?_getD, List.getElem?_eq_getElem hq]; rfl)
              rw [add_off, Nat.zero_add] at this
              exact ⟨g, rfl, this⟩
          have HCL : Hd _ := ⟨hcells⟩
          have HA : Hd _ := ⟨ha⟩
          have HRI : Hd _ := ⟨hri⟩
          have hxs : xs.length ≤ 1000 := by omega
          clear hcells ha hri he hol HO hrowl hfl
          go_wp2_with fail
          go_loopw [11] (fun i wq => ∃ (k : Nat) (q : Nat), i = .int .i64 k ∧ 1 ≤ k ∧ k ≤ xs.length + 1 ∧ wq = wr.drewN q) (fun i _ => xs.length + 1 - (intOf i).toNat)
          case atStart => exact ⟨1, 0, rfl, by omega, by omega, rfl⟩
          case round =>
            obtain ⟨k, q, rfl, hk1, hk2, rfl⟩ := hrel
            by_cases hlt : k < xs.length
            · obtain ⟨g, rfl, d1⟩ := HCL.out k hlt
              obtain ⟨g', hg', d2⟩ := HCL.out (k - 1) (by omega)
              obtain rfl : g = g' := by simpa using hg'
              have hle2 : nth xs (k - 1) ≤ nth xs k := by have := HRI.out.1 (k - 1) (by omega); rwa [show k - 1 + 1 = k by omega] at this
              have hlo : (0 : Int) ≤ (k : Int) := by omega
              have hhi : (k : Int) < (xs.length : Int) := by omega
              have hlo1 : (1 : Int) ≤ (k : Int) := by omega
              clear hg'
              go_wp2_with fail
              go_quiet (fail)
              go_wp2_with fail
              go_roundw
              case rel => exact ⟨k + 1, _, by go_num, by omega, by omega, rfl⟩
              case measure => simp [intOf]; omega
            · have hke : xs.length ≤ k := by omega
              have HA2 : Hd (ActAt (wr.drewN q) b .nilFunc ns.sum) := ⟨HA.out.of_block rfl⟩
              have hB2 : Below w.heap.size w (wr.drewN q) := ⟨hB.os, hB.tape, hB.output, hB.size, hB.block⟩
              have hqq : ((xs.length : Int) == ((ns.sum : Nat) : Int)) = true := beq_iff_eq.2 (by omega)
              clear HA hx
              go_wp2_with (first | (go_at_call 15; refine (over_yes b _ _ HA2.out).mono ?_; rintro e w' ⟨rfl, rfl⟩) | (go_at_call 16; refine (step_over b _ _ HA2.out).mono ?_; rintro e w' ⟨rfl, rfl⟩) | (go_at_call 17; refine (count_any b _ _ _ HA2.out).mono ?_; rintro e w' ⟨rfl, rfl⟩) | (go_at_call 18; refine (actAwake _).mono ?_; rintro e w5 ⟨rfl, hb5⟩))
              go_ret
              exact ⟨rfl, hB2.trans (hb5.mono hB2.size)⟩
theorem actRuns_any (w : World) (A : Option Addr) (len cap : Nat) (l : List Int) (h : Recs (RInt .u8) 1 w A len l) (_hc : len ≤ cap) (_hz : len * 1 ≤ 140737488351232) :
    Calls Try.prog 3 #[.slice A len cap] w fun e w' => e = .returned (.bool true) ∧ Below w.heap.size w w' := by
  obtain rfl := h.1
  by_cases hl : 10 < l.length
  · exact actRuns_great w A _ cap hl
  · exact actRuns_small w A cap l h (by omega)
end Go.Proofs.Ythghndjfghdnnaa
