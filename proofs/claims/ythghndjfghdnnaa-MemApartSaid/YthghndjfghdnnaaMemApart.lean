/- The walk of the law MemApart: it returns true for every slice that reads as numbers, every index and every number. No condition. -/
import Derived.Test.YthghndjfghdnnaaMemLaw
import Derived.Test.YthghndjfghdnnaaOpen
import Derived.OpenShut
namespace Go.Proofs.Ythghndjfghdnnaa
open Go.RowKit
/-- Behind k stores. -/
structure ApartAt (zs : List Int) (k : Nat) (M : MemS) : Prop where
  n : M.n = zs.length
  time : M.time = k
  words : ∀ j, j < k → M.words j = nth zs j
  changed : ∀ j, M.changed j = if j < k then (j : Int) + 1 else 0
theorem apart_start (zs : List Int) : ApartAt zs 0 (memNew zs.length) := ⟨rfl, rfl, fun j h => absurd h (Nat.not_lt_zero _), fun j => by simp [memNew]⟩
theorem wrap_u64_small {n : Int} (h0 : 0 ≤ n) (h1 : n < 18446744073709551616) : IntKind.u64.wrap n = n := by rw [IntKind.wrap_u64]; omega
theorem apart_step {zs : List Int} {k : Nat} {M : MemS} (h : ApartAt zs k M) (hk : k < zs.length) (hl : zs.length ≤ 100) : ApartAt zs (k + 1) (M.store k (nth zs k)) := by
  have e : M.store k (nth zs k) = M.tick.put k (nth zs k) := by unfold MemS.store; rw [if_pos ⟨by omega, by rw [h.n]; omega⟩, Int.toNat_natCast]
  have et : M.tick.time = (k : Int) + 1 := by show IntKind.u64.wrap (M.time + 1) = _; rw [h.time]; exact wrap_u64_small (by omega) (by omega)
  rw [e]
  refine ⟨h.n, by show M.tick.time = _; rw [et]; omega, fun j hj => ?_, fun j => ?_⟩
  · show (if j = k then nth zs k else M.words j) = _
    by_cases e : j = k
    · rw [if_pos e, e]
    · rw [if_neg e]; exact h.words j (by omega)
  · show (if j = k then M.tick.time else M.changed j) = _
    by_cases e : j = k
    · subst e; rw [if_pos rfl, if_pos (by omega), et]
    · rw [if_neg e, h.changed j]; by_cases hj : j < k
      · rw [if_pos hj, if_pos (by omega)]
      · rw [if_neg hj, if_neg (by omega)]
/-- Behind the store at c and j loads. -/
structure ApartEnd (zs : List Int) (c : Nat) (v : Int) (j : Nat) (M : MemS) : Prop where
  n : M.n = zs.length
  time : M.time = zs.length + 1 + j
  words : ∀ i, i < zs.length → M.words i = if i = c then v else nth zs i
  changed : ∀ i, i < zs.length → M.changed i = if i = c then (zs.length : Int) + 1 else (i : Int) + 1
theorem apart_end {zs : List Int} {M : MemS} (h : ApartAt zs zs.length M) (c : Nat) (hc : c < zs.length) (v : Int) (hl : zs.length ≤ 100) : ApartEnd zs c v 0 (M.store c v) := by
  have e : M.store c v = M.tick.put c v := by unfold MemS.store; rw [if_pos ⟨by omega, by rw [h.n]; omega⟩, Int.toNat_natCast]
  have et : M.tick.time = (zs.length : Int) + 1 := by show IntKind.u64.wrap (M.time + 1) = _; rw [h.time]; exact wrap_u64_small (by omega) (by omega)
  rw [e]
  refine ⟨h.n, by show M.tick.time = _; rw [et]; omega, fun i hi => ?_, fun i hi => ?_⟩
  · show (if i = c then v else M.words i) = _
    by_cases e : i = c
    · rw [if_pos e, if_pos e]
    · rw [if_neg e, if_neg e]; exact h.words i hi
  · show (if i = c then M.tick.time else M.changed i) = _
    by_cases e : i = c
    · rw [if_pos e, if_pos e, et]
    · rw [if_neg e, if_neg e, h.changed i, if_pos hi]
theorem apart_load {zs : List Int} {c j : Nat} {v : Int} {M : MemS} (h : ApartEnd zs c v j M) (hj : j < zs.length) (hl : zs.length ≤ 100) : ApartEnd zs c v (j + 1) (M.load j) := by
  have e : M.load j = M.tick := by unfold MemS.load; rw [if_pos ⟨by omega, by rw [h.n]; omega⟩]
  have et : M.tick.time = (zs.length : Int) + 1 + j + 1 := by show IntKind.u64.wrap (M.time + 1) = _; rw [h.time]; exact wrap_u64_small (by omega) (by omega)
  rw [e]
  exact ⟨h.n, by rw [et]; omega, h.words, h.changed⟩
theorem apart_get {zs : List Int} {c j : Nat} {v : Int} {M : MemS} (h : ApartEnd zs c v j M) (i : Nat) (hi : i < zs.length) : M.get i = (if i = c then v else nth zs i) ∧ M.chg i = (if i = c then (zs.length : Int) + 1 else (i : Int) + 1) := by
  refine ⟨?_, ?_⟩
  · unfold MemS.get; rw [if_pos ⟨by omega, by rw [h.n]; omega⟩, Int.toNat_natCast, h.words i hi]
  · unfold MemS.chg; rw [if_pos ⟨by omega, by rw [h.n]; omega⟩, Int.toNat_natCast, h.changed i hi]
set_option maxHeartbeats 1000000 in
theorem memApart_short (A : Option Addr) (len cap : Nat) (t v : Int) (w : World) (h : 100 < len ∨ len = 0) :
    Calls Try.prog 5 #[.slice A len cap, .int .u8 t, .int .u64 v] w fun e w' => e = .returned (.bool true) ∧ Below w.heap.size w w' := by
  rcases h with h | rfl
  · go_enter Try.func5, Try.ntmps5
    go_wp2
    go_ret
    exact ⟨rfl, Below.refl _ _⟩
  · go_enter Try.func5, Try.ntmps5
    go_wp2
    go_ret
    exact ⟨rfl, Below.refl _ _⟩
set_option maxHeartbeats 2000000 in
theorem memApart_long (bx ox : Nat) (zs : List Int) (cap : Nat) (t v : Int) (w : World) (h0 : 0 < zs.length) (h1 : zs.length ≤ 100) (hx : bx < w.heap.size) (hc : ∀ i, i < zs.length → w.cell? ⟨bx, ox + i, none⟩ = some (.int .u64 (nth zs i)))
    (ht0 : 0 ≤ t) (ht1 : t ≤ 255) :
    Calls Try.prog 5 #[.slice (some ⟨bx, ox, none⟩) zs.length cap, .int .u8 t, .int .u64 v] w fun e w' => e = .returned (.bool true) ∧ Below w.heap.size w w' := by
  have hne : ((zs.length : Int) == 0) = false := beq_eq_false_iff_ne.2 (by omega)
  have HC : Hd _ := ⟨hc⟩
  clear hc
  go_enter Try.func5, Try.ntmps5
  go_wp2_with (go_at_call 24; refine (new_yes zs.length w (by omega) (by omega)).mono ?_; rintro e w1 ⟨b, rfl, hge, hm, htc, hs⟩)
  have hB : Below w.heap.size w w1 := htc.below (Nat.le_refl _) (fun _ _ h => h)
  clear htc hs
  go_loopw [8] (fun i wr => ∃ (k : Nat) (M : MemS), k ≤ zs.length ∧ i = .int .i64 k ∧ MemAt wr b M ∧ Hd (ApartAt zs k M) ∧ Below w.heap.size w wr) (fun i _ => zs.length - (intOf i).toNat)
  case atStart => exact ⟨0, _, Nat.zero_le _, rfl, hm, ⟨apart_start zs⟩, hB⟩
  case round =>
    clear hm hB
    obtain ⟨k, M, hk, rfl, hm, hA, hB⟩ := hrel
    by_cases hlt : k < zs.length
    · have hcell : wr.cell? ⟨bx, ox + k, none⟩ = some (.int .u64 (nth zs k)) := (hB.cell (p := ⟨bx, ox + k, none⟩) hx).trans (HC.out k hlt)
      have hlo : (0 : Int) ≤ (k : Int) := by omega
      have hhi : (k : Int) < (zs.length : Int) := by omega
      go_wp2_with (go_at_call 25; refine (store_any M b k _ _ hm).mono ?_; rintro e w2 ⟨rfl, hm2, ht2, hs2⟩)
      go_roundw
      case rel => exact ⟨k + 1, _, by omega, by go_num, hm2, ⟨apart_step hA.out hlt h1⟩, hB.trans (ht2.below hB.size (fun i hi e => by omega))⟩
      case measure => simp [intOf]; omega
    · obtain rfl : k = zs.length := by omega
      have hr0 : 0 ≤ t % (zs.length : Int) := Int.emod_nonneg _ (by omega)
      have hr1 : t % (zs.length : Int) < zs.length := Int.emod_lt_of_pos _ (by omega)
      obtain ⟨c, hcc, HC2⟩ : ∃ c : Nat, c < zs.length ∧ Hd ((c : Int) = t % (zs.length : Int)) := ⟨(t % (zs.length : Int)).toNat, by omega, ⟨Int.toNat_of_nonneg hr0⟩⟩
      have hE := apart_end hA.out c hcc v h1
      rw [HC2.out] at hE
      have HE : Hd _ := ⟨hE⟩
      clear hE hA
      go_wp2_with fail
      refine (store_any M b (t % (zs.length : Int)) v wr hm).mono ?_
      rintro e w2 ⟨rfl, hm2, ht2, hs2⟩
      have hB2 : Below w.heap.size w w2 := hB.trans (ht2.below hB.size (fun i hi e => by omega))
      clear hB ht2 hs2 hm
      go_wp2_with fail
      go_loopw [10] (fun i wr => ∃ (k : Nat) (M : MemS), k ≤ zs.length ∧ i = .int .i64 k ∧ MemAt wr b M ∧ Hd (ApartEnd zs c v k M) ∧ Below w.heap.size w wr) (fun i _ => zs.length - (intOf i).toNat)
      case atStart => exact ⟨0, _, Nat.zero_le _, rfl, hm2, HE, hB2⟩
      case round =>
        clear hm2 HE hB2
        obtain ⟨j, M, hj, rfl, hm, hE, hB⟩ := hrel
        by_cases hlt : j < zs.length
        · have hcell : wr.cell? ⟨bx, ox + j, none⟩ = some (.int .u64 (nth zs j)) := (hB.cell (p := ⟨bx, ox + j, none⟩) hx).trans (HC.out j hlt)
          have hlo : (0 : Int) ≤ (j : Int) := by omega
          have hhi : (j : Int) < (zs.length : Int) := by omega
          have ld := load_any M b j wr hm
          have hE1 := apart_load hE.out hlt h1
          have hg1 := (apart_get hE.out j hlt).1
          have hg2 := (apart_get hE1 j hlt).2
          have chA := fun (w2 : World) (hm2 : MemAt w2 b (M.load j)) => changed_any (M.load j) b j w2 hm2
          have HE : Hd _ := ⟨hE1⟩
          clear hE1 hE
          by_cases hjc : j = c
          · rw [hg1, if_pos hjc] at ld
            rw [hg2, if_pos hjc] at chA
            have HL : Hd _ := ⟨ld⟩
            have HA : Hd _ := ⟨chA⟩
            have hq : ((j : Int) == t % (zs.length : Int)) = true := beq_iff_eq.2 (by rw [hjc]; exact HC2.out)
            clear ld chA hg1 hg2 hjc
            go_wp2_with fail
            refine HL.out.mono ?_
            rintro e w2 ⟨rfl, hm2, ht2, hs2⟩
            go_wp2_with fail
            refine (HA.out _ hm2).mono ?_
            rintro e w3 ⟨rfl, rfl⟩
            go_wp2_with fail
            go_roundw
            case rel => exact ⟨j + 1, _, by omega, by go_num, hm2, HE, hB.trans (ht2.below hB.size (fun i hi e => by omega))⟩
            case measure => simp [intOf]; omega
          · rw [hg1, if_neg hjc] at ld
            rw [hg2, if_neg hjc] at chA
            have HL : Hd _ := ⟨ld⟩
            have HA : Hd _ := ⟨chA⟩
            have hq : ((j : Int) == t % (zs.length : Int)) = false := beq_eq_false_iff_ne.2 (fun e => hjc (by have := HC2.out; omega))
            have hq2 : ((j : Int) + 1 == (zs.length : Int) + 1) = false := beq_eq_false_iff_ne.2 (by omega)
            clear ld chA hg1 hg2 hjc
            go_wp2_with fail
            refine HL.out.mono ?_
            rintro e w2 ⟨rfl, hm2, ht2, hs2⟩
            go_wp2_with fail
            refine (HA.out _ hm2).mono ?_
            rintro e w3 ⟨rfl, rfl⟩
            go_wp2_with fail
            go_roundw
            case rel => exact ⟨j + 1, _, by omega, by go_num, hm2, HE, hB.trans (ht2.below hB.size (fun i hi e => by omega))⟩
            case measure => simp [intOf]; omega
        · obtain rfl : j = zs.length := by omega
          have tm := time_any M b wr hm
          rw [hE.out.time] at tm
          have HT : Hd _ := ⟨tm⟩
          have hq : ((zs.length : Int) + 1 + zs.length == 2 * (zs.length : Int) + 1) = true := beq_iff_eq.2 (by omega)
          clear tm
          go_wp2_with fail
          refine HT.out.mono ?_
          rintro e w3 ⟨rfl, rfl⟩
          go_wp2_with fail
          refine (memAwake _).mono ?_
          rintro e w4 ⟨rfl, hb4⟩
          go_wp2_with fail
          go_ret
          exact ⟨rfl, hB.trans (hb4.mono hB.size)⟩
theorem recs_ints {w : World} {k : IntKind} {A : Option Addr} {n : Nat} {zs : List Int} (h : Recs (RInt k) 1 w A n zs) (hn : 0 < n) :
    ∃ bx ox, A = some ⟨bx, ox, none⟩ ∧ bx < w.heap.size ∧ ∀ i, i < zs.length → w.cell? ⟨bx, ox + i, none⟩ = some (.int k (nth zs i)) := by
  obtain ⟨hl, _, h⟩ := h
  obtain ⟨ad, rfl, hc⟩ := h hn
  have each : ∀ i, i < zs.length → w.cell? (ad.add i) = some (.int k (nth zs i)) := by
    intro i hi
    obtain ⟨c, _, ⟨rfl, _⟩, hcell⟩ := hc i _ (List.getElem?_eq_getElem hi)
    have := hcell 0 _ rfl
    rw [Nat.mul_one, Nat.add_zero] at this
    rw [this]; unfold nth; rw [List.getD_eq_getElem?_getD, List.getElem?_eq_getElem hi]; rfl
  have h0 := each 0 (by omega)
  have hp := plain_of_cell (a := ad) (by simpa [Addr.add] using h0)
  have hb : ad.block < w.heap.size := lt_of_cell (a := ad) (by simpa [Addr.add] using h0)
  refine ⟨ad.block, ad.off, congrArg some hp, hb, fun i hi => ?_⟩
  rw [← add_off, ← hp]
  exact each i hi
theorem memApart_any (w : World) (A : Option Addr) (len cap : Nat) (l : List Int) (h : Recs (RInt .u64) 1 w A len l) (_hc : len ≤ cap) (_hz : len * 8 ≤ 140737488351232) (t : Int) (ht : (Lit.int .u8 t).wf = true) (v : Int) (_hv : (Lit.int .u64 v).wf = true) :
    Calls Try.prog 5 #[.slice A len cap, .int .u8 t, .int .u64 v] w fun e w' => e = .returned (.bool true) ∧ Below w.heap.size w w' := by
  by_cases hs : 100 < len ∨ len = 0
  · exact memApart_short A len cap t v w hs
  · obtain ⟨bx, ox, rfl, hb, hcell⟩ := recs_ints h (by omega)
    obtain rfl := h.1
    have := bounds_u8 ht
    exact memApart_long bx ox l cap t v w (by omega) (by omega) hb hcell (by omega) (by omega)
end Go.Proofs.Ythghndjfghdnnaa
