/- The law EpochAlone, walked: true for every input. No condition. -/
import Derived.Test.YtkjppffkjofamaaAwake
import Derived.Test.YtkjppffkjofamaaOpen
import Derived.Deep.DeepCutAuto
import Derived.Deep.CutBlock
set_option linter.unusedVariables false
set_option linter.unusedSimpArgs false
namespace Go.Proofs.Ytkjppffkjofamaa
open Go.RowKit Go.Shelf
theorem bounds_u8 {n : Int} (h : (Lit.int .u8 n).wf = true) : 0 ≤ n ∧ n ≤ 255 := by
  simp [Lit.wf, IntKind.min, IntKind.max, IntKind.signed, IntKind.bits] at h
  omega
theorem info_int7 : (Try.prog.info? 3).map (fun i => (i.zero, i.size, i.bytes)) = some (some (.int .i64 0), 1, 8) := by kernel_rfl
/-- An epoch of the law's own, and the numbers that the law keeps. -/
structure AS (W0 w : World) (b bm bp ab n now : Nat) (pins : Nat → Nat) (at_ : Nat → Int) : Prop where
  ep : EpAt w b bm bp n 1 now pins
  num : ∀ i, i < n → w.cell? ⟨ab, i, none⟩ = some (.int .i64 (at_ i))
  free : ∀ i, w.frozen? ⟨ab, i, none⟩ = false
  ge : W0.heap.size ≤ b ∧ W0.heap.size ≤ bm ∧ W0.heap.size ≤ bp ∧ W0.heap.size ≤ ab
  ne : ab ≠ b ∧ ab ≠ bm ∧ ab ≠ bp
  lt : ab < w.heap.size
  below : Below W0.heap.size W0 w
theorem AS.touch {W0 w w' : World} {b bm bp ab n now now' : Nat} {pins pins' : Nat → Nat} {at_ : Nat → Int} (h : AS W0 w b bm bp ab n now pins at_) (hE : EpAt w' b bm bp n 1 now' pins') (ht : Touch (isE b bm bp) w w') : AS W0 w' b bm bp ab n now' pins' at_ := by
  have ne : ¬ isE b bm bp ab := fun e => e.elim h.ne.1 (fun e => e.elim h.ne.2.1 h.ne.2.2)
  refine ⟨hE, fun i hi => (ht.cell (p := ⟨ab, i, none⟩) h.lt ne).trans (h.num i hi), fun i => (ht.frozen (p := ⟨ab, i, none⟩) h.lt ne).trans (h.free i), h.ge, h.ne, Nat.lt_of_lt_of_le h.lt ht.size, h.below.trans (ht.below h.below.size (fun k hk e => ?_))⟩
  have := h.ge
  unfold isE at e; omega
def upd (f : Nat → Int) (i : Nat) (x : Int) : Nat → Int := fun j => if j = i then x else f j
theorem AS.put {W0 w : World} {b bm bp ab n now : Nat} {pins : Nat → Nat} {at_ : Nat → Int} (h : AS W0 w b bm bp ab n now pins at_) (i : Nat) (hi : i < n) (x : Int) : AS W0 (w.setCell ⟨ab, i, none⟩ (.int .i64 x)) b bm bp ab n now pins (upd at_ i x) := by
  have hb : ∀ k, k ≠ ab → (w.setCell ⟨ab, i, none⟩ (.int .i64 x)).heap[k]? = w.heap[k]? := fun k hk => Below.heap_setCell _ _ _ _ hk
  refine ⟨h.ep.of_blocks (hb b (Ne.symm h.ne.1)) (hb bm (Ne.symm h.ne.2.1)) (hb bp (Ne.symm h.ne.2.2)), fun j hj => ?_, fun j => by rw [World.frozen?_setCell]; exact h.free j, h.ge, h.ne, by have := h.lt; simpa [World.setCell] using this, h.below.setCell h.ge.2.2.2 _⟩
  rw [setCell_get _ _ _ _ _ _ (h.num i hi)]
  unfold upd
  by_cases e : j = i
  · subst e; rw [if_pos rfl, if_pos rfl]
  · rw [if_neg (fun x => e x.symm), if_neg e]; exact h.num j hj
theorem as_pin {W0 w : World} {b bm bp ab n now : Nat} {pins : Nat → Nat} {at_ : Nat → Int} (h : AS W0 w b bm bp ab n now pins at_) (who : Nat) (hw : who < n) (hn : now ≤ 100) : Calls Try.prog 22 #[.pointer (some ⟨b, 0, none⟩), .int .i64 (who : Nat)] w fun e w1 => ∃ ba, e = .returned (.pointer (some ⟨ba, 0, none⟩)) ∧ Hd (Calls Try.prog 24 #[.pointer (some ⟨ba, 0, none⟩)] w1 fun e w2 => e = .returned (.bool true) ∧ Hd (AS W0 w2 b bm bp ab n now (putPin pins who (now + 1)) at_)) := by
  refine (pin_make h.ep who hw).mono ?_
  intro e w1 hm
  obtain ⟨ba, rfl, hB, hC⟩ := pin_alone h.ep hw (by omega) hm
  refine ⟨ba, rfl, ⟨hC.mono ?_⟩⟩
  rintro e w2 ⟨rfl, hE2, hT⟩
  exact ⟨rfl, ⟨h.touch hE2 hT⟩⟩
theorem as_un {W0 w : World} {b bm bp ab n now : Nat} {pins : Nat → Nat} {at_ : Nat → Int} (h : AS W0 w b bm bp ab n now pins at_) (who : Nat) (hw : who < n) (hn : now ≤ 100) : Calls Try.prog 23 #[.pointer (some ⟨b, 0, none⟩), .int .i64 (who : Nat)] w fun e w1 => ∃ ba, e = .returned (.pointer (some ⟨ba, 0, none⟩)) ∧ Hd (Calls Try.prog 24 #[.pointer (some ⟨ba, 0, none⟩)] w1 fun e w2 => e = .returned (.bool true) ∧ Hd (AS W0 w2 b bm bp ab n now (putPin pins who 0) at_)) := by
  refine (unpin_make h.ep who hw).mono ?_
  intro e w1 hm
  obtain ⟨ba, rfl, hB, hC⟩ := un_alone h.ep hw (by omega) hm
  refine ⟨ba, rfl, ⟨hC.mono ?_⟩⟩
  rintro e w2 ⟨rfl, hE2, hT⟩
  exact ⟨rfl, ⟨h.touch hE2 hT⟩⟩
theorem as_moved {W0 w : World} {b bm bp ab n now : Nat} {pins : Nat → Nat} {at_ : Nat → Int} (h : AS W0 w b bm bp ab n now pins at_) (hn : now ≤ 100) : Calls Try.prog 25 #[.pointer (some ⟨b, 0, none⟩)] w fun e w2 => e = .returned (.bool (mayMove n now pins)) ∧ Hd (AS W0 w2 b bm bp ab n (if mayMove n now pins = true then now + 1 else now) pins at_) := by
  refine (moved_any h.ep (by omega)).mono ?_
  rintro e w2 ⟨rfl, hE2, hT⟩
  exact ⟨rfl, ⟨h.touch hE2 hT⟩⟩
theorem as_now {W0 w : World} {b bm bp ab n now : Nat} {pins : Nat → Nat} {at_ : Nat → Int} (h : AS W0 w b bm bp ab n now pins at_) : Calls Try.prog 20 #[.pointer (some ⟨b, 0, none⟩)] w fun e w2 => e = .returned (.int .u64 (now : Nat)) ∧ w = w2 := now_ep h.ep
theorem alone_many (W : World) (r : Int) (wr : (Lit.int .u8 r).wf = true) (A : Option Addr) (len cap : Nat) (h : (60 : Int) < (len : Int)) :
    Calls Try.prog 6 #[.int .u8 r, .slice A len cap] W fun e w' => e = .returned (.bool true) ∧ Below W.heap.size W w' := by
  clear wr
  go_enter Try.func6, Try.ntmps6
  go_wp2
  go_ret
  exact ⟨rfl, Below.refl _ _⟩
theorem AS.congr {W0 w : World} {b bm bp ab n now : Nat} {pins : Nat → Nat} {f g : Nat → Int} (h : AS W0 w b bm bp ab n now pins f) (e : ∀ i, i < n → g i = f i) : AS W0 w b bm bp ab n now pins g :=
  ⟨h.ep, fun i hi => by rw [e i hi]; exact h.num i hi, h.free, h.ge, h.ne, h.lt, h.below⟩
theorem as_start {W w1 w2 : World} {b bm bp n : Nat} (hge : W.heap.size ≤ b ∧ W.heap.size ≤ bm ∧ W.heap.size ≤ bp) (hE : EpAt w1 b bm bp n 1 0 fun _ => 0) (hB : Below W.heap.size W w1) (hown : w2.ownsRow w1.heap.size 3 1 (.slice (some ⟨w1.heap.size, 0, none⟩) n n) n (madeCells (Value.int .i64 0).cells (n * 1)).toList) (hgrow : w1.grownBy w2 none) :
    AS W w2 b bm bp w1.heap.size n 0 (fun _ => 0) (fun _ => 0) := by
  have l := hE.lt
  have hlt := owns_lt hown w1.heap.size rfl
  have hg : Below w1.heap.size w1 w2 := ⟨hgrow.os, hgrow.tape, hgrow.output, hgrow.size, fun k hk => hgrow.block k hk (by simp)⟩
  rcases hown.2 with ⟨hv, _⟩ | ⟨g, cap, cur, hv, _, hgb, _, _, hcz, htk⟩
  · cases hv
  cases hv
  refine ⟨hE.of_blocks (hg.block b l.1) (hg.block bm l.2.1) (hg.block bp l.2.2), fun i hi => blk_cell hgb ?_, fun i => blk_free hgb i, ⟨hge.1, hge.2.1, hge.2.2, hB.size⟩, ⟨by omega, by omega, by omega⟩, hlt.2, hB.trans (hg.mono hB.size)⟩
  have h3 : (cur.toList.take (n * 1))[i]? = (madeCells (Value.int .i64 0).cells (n * 1)).toList[i]? := by rw [htk]
  rw [List.getElem?_take, if_pos (by omega)] at h3
  rw [Array.getElem?_toList] at h3
  rw [h3]
  simp [madeCells, Value.cells, hi, Nat.mod_one]
theorem recs_bytes {w : World} {A : Option Addr} {n : Nat} {zs : List Int} (h : Recs (RInt .u8) 1 w A n zs) (k : Nat) (hk : k < n) :
    ∃ bx ox, A = some ⟨bx, ox, none⟩ ∧ bx < w.heap.size ∧ w.cell? ⟨bx, ox + k, none⟩ = some (.int .u8 (nth zs k)) ∧ 0 ≤ nth zs k ∧ nth zs k ≤ 255 := by
  obtain ⟨bx, ox, e, hb, hc⟩ := recs_ints h (by omega)
  obtain ⟨hl, _, h2⟩ := h
  obtain ⟨ad, e2, h3⟩ := h2 (by omega)
  obtain ⟨c, _, ⟨_, wf⟩, _⟩ := h3 k _ (List.getElem?_eq_getElem (by omega))
  have hn : nth zs k = zs[k] := by unfold nth; rw [List.getD_eq_getElem?_getD, List.getElem?_eq_getElem (by omega)]; rfl
  refine ⟨bx, ox, e, hb, hc k (by omega), ?_⟩
  rw [hn]
  exact bounds_u8 wf
theorem AS.minus {W0 w : World} {b bm bp ab n now k : Nat} {pins : Nat → Nat} (h : AS W0 w b bm bp ab n now pins (fun j => if j < k then -1 else 0)) (hk : k < n) : AS W0 (w.setCell ⟨ab, k, none⟩ (.int .i64 (-1))) b bm bp ab n now pins (fun j => if j < k + 1 then -1 else 0) := by
  refine (h.put k hk (-1)).congr (fun i hi => ?_)
  unfold upd
  by_cases e : i = k
  · rw [if_pos e, if_pos (by omega)]
  · rw [if_neg e]
    show _ = if i < k then (-1 : Int) else 0
    by_cases e2 : i < k
    · rw [if_pos e2, if_pos (by omega)]
    · rw [if_neg e2, if_neg (by omega)]
/-- What the law keeps of a reader: -1, or the epoch at which it is pinned. -/
def keptOf (pins : Nat → Nat) : Nat → Int := fun i => (pins i : Int) - 1
theorem may_succ (i now : Nat) (pins : Nat → Nat) : mayMove (i + 1) now pins = (mayMove i now pins && decide (pins i = 0 ∨ pins i = now + 1)) := by
  unfold mayMove
  rw [Bool.eq_iff_iff]
  simp only [Bool.and_eq_true, decide_eq_true_iff]
  exact ⟨fun h => ⟨fun k hk => h k (by omega), h i (by omega)⟩, fun h k hk => by by_cases e : k = i; exact e ▸ h.2; exact h.1 k (by omega)⟩
theorem AS.kept {W0 w : World} {b bm bp ab n now who v : Nat} {pins : Nat → Nat} {x : Int} (h : AS W0 w b bm bp ab n now (putPin pins who v) (keptOf pins)) (hw : who < n) (hx : x = (v : Int) - 1) : AS W0 (w.setCell ⟨ab, who, none⟩ (.int .i64 x)) b bm bp ab n now (putPin pins who v) (keptOf (putPin pins who v)) := by
  refine (h.put who hw x).congr (fun i hi => ?_)
  unfold upd keptOf putPin
  by_cases e : i = who
  · rw [if_pos e, if_pos e, hx]
  · rw [if_neg e, if_neg e]
set_option maxRecDepth 100000 in
set_option maxHeartbeats 4000000 in
theorem alone_law (W : World) (r : Int) (wr : (Lit.int .u8 r).wf = true) (A : Option Addr) (len cap : Nat) (l : List Int) (h : Recs (RInt .u8) 1 W A len l) (_ : len ≤ cap) (_ : len * 1 ≤ 140737488351232) :
    Calls Try.prog 6 #[.int .u8 r, .slice A len cap] W fun e w' => e = .returned (.bool true) ∧ Below W.heap.size W w' := by
  by_cases hlen : (60 : Int) < (len : Int)
  · exact alone_many W r wr A len cap hlen
  obtain ⟨i0, hi0, hz0, hz1, hz2⟩ := info_parts info_int7
  have HA : Hd _ := ⟨h⟩
  clear h
  have hb := bounds_u8 wr
  obtain ⟨n, hn⟩ : ∃ n : Nat, 1 + r % 8 = (n : Int) := ⟨(1 + r % 8).toNat, by omega⟩
  have h1 : 1 ≤ n := by omega
  have h8 : n ≤ 8 := by omega
  have HM : Hd _ := ⟨made_any n W h1 h8⟩
  clear wr
  go_enter Try.func6, Try.ntmps6
  go_wp2_with (first
    | (go_at_call 14; refine HM.out.mono ?_; rintro e w1 ⟨b, bm, bp, rfl, hge, hE, hB⟩)
    | (at_make; (refine wpList_make_full _ rfl _ _ 28 rfl w1.heap.size 3 i0 (.int .i64 0) 1 Try.underlying28 hi0 hz0 hz1 .i64 .i64 _ _ n rfl rfl rfl rfl (by rw [hz2]; omega) (by unfold maxLen; omega) (Nat.le_refl _) ?_; intro w2 hown2 hgrow2)))
  have hS := as_start hge hE hB hown2 hgrow2
  have HS : Hd _ := ⟨hS⟩
  obtain ⟨ab, hab⟩ : ∃ ab, w1.heap.size = ab := ⟨_, rfl⟩
  rw [hab] at HS
  simp only [hab]
  clear hge hE hB hown2 hgrow2 hS hab HM hn hb hi0 hz0 hz1 hz2
  go_loopw [9] (fun i wr => ∃ k : Nat, k ≤ n ∧ i = .int .i64 k ∧ Hd (AS W wr b bm bp ab n 0 (fun _ => 0) (fun j => if j < k then -1 else 0))) (fun i _ => n - (intOf i).toNat)
  case atStart => exact ⟨0, Nat.zero_le _, rfl, ⟨HS.out.congr (fun i _ => if_neg (by omega))⟩⟩
  case round =>
    obtain ⟨k, hk, rfl, HR⟩ := hrel
    clear HS
    by_cases hlt : k < n
    · have c0 := HR.out.num k hlt
      have f0 := HR.out.free k
      have hlo : (0 : Int) ≤ (k : Int) := by omega
      have hhi : (k : Int) < (n : Int) := by omega
      go_wp2
      go_roundw
      case rel => exact ⟨k + 1, by omega, by go_num, ⟨HR.out.minus hlt⟩⟩
      case measure => simp [intOf]; omega
    · obtain rfl : k = n := by omega
      have HS : Hd (AS W wr b bm bp ab k 0 (fun _ => 0) (keptOf (fun _ => 0))) := ⟨HR.out.congr (fun i hi => by rw [if_pos hi]; rfl)⟩
      clear HR
      go_wp2_with fail
      go_loopw [8, 10] (fun nv i wq => ∃ j now : Nat, ∃ pins, j ≤ len ∧ now ≤ j ∧ nv = .int .i64 (now : Nat) ∧ i = .int .i64 j ∧ Hd (AS W wq b bm bp ab k now pins (keptOf pins))) (fun _ i _ => len - (intOf i).toNat)
      case atStart => exact ⟨0, 0, _, Nat.zero_le _, Nat.le_refl _, rfl, rfl, HS⟩
      case round =>
        obtain ⟨j, now, pins, hj, hnow, rfl, rfl, HR⟩ := hrel
        clear HS
        by_cases hjl : j < len
        · obtain ⟨bx, ox, rfl, hbx, hx, x0, x1⟩ := recs_bytes HA.out j hjl
          replace hx := (HR.out.below.cell (p := ⟨bx, ox + j, none⟩) hbx).trans hx
          obtain ⟨x, hxx⟩ : ∃ x, nth l j = x := ⟨_, rfl⟩
          rw [hxx] at hx x0 x1
          clear hxx
          obtain ⟨who, hwho⟩ : ∃ who : Nat, x / 4 % (k : Int) = (who : Int) := ⟨(x / 4 % (k : Int)).toNat, by have := Int.emod_nonneg (x / 4) (b := (k : Int)) (by omega); omega⟩
          have hwk : who < k := by have := Int.emod_lt_of_pos (x / 4) (b := (k : Int)) (by omega); omega
          have hlo : (0 : Int) ≤ (j : Int) := by omega
          have hhi : (j : Int) < (len : Int) := by omega
          have hk1 : (1 : Int) ≤ (k : Int) := by omega
          have hd0 : 0 ≤ x / 4 := by omega
          go_upto_block 4 with fail
          simp only [hwho]
          obtain ⟨y, hy⟩ : ∃ y, x % 4 = y := ⟨_, rfl⟩
          simp only [hy]
          have hcase : y = 0 ∨ y = 1 ∨ y = 2 ∨ y = 3 := by omega
          clear hy
          have hw0 : (0 : Int) ≤ (who : Int) := by omega
          have hw1 : (who : Int) < (k : Int) := by omega
          clear hwho hx hd0
          go_cut [8] (fun nv wx => ∃ now' : Nat, ∃ pins', nv = .int .i64 (now' : Nat) ∧ now' ≤ now + 1 ∧ Hd (AS W wx b bm bp ab k now' pins' (keptOf pins')))
          case first =>
            have c0 := HR.out.num who hwk
            have f0 := HR.out.free who
            rcases hcase with rfl | rfl | rfl | rfl
            · go_wp2_with (first
                | (go_at_call 22; have hx := as_pin HR.out who hwk (by omega); (with_reducible refine hx.mono ?_); clear hx; rintro e wa ⟨ba, rfl, HC⟩)
                | (go_at_call 24; refine HC.out.mono ?_; clear HC; rintro e wb ⟨rfl, HD⟩; have g0 := HD.out.num who hwk; have g1 := HD.out.free who))
              go_meet
              exact ⟨now, _, rfl, by omega, ⟨HD.out.kept hwk (by omega)⟩⟩
            · go_wp2_with (first
                | (go_at_call 22; have hx := as_pin HR.out who hwk (by omega); (with_reducible refine hx.mono ?_); clear hx; rintro e wa ⟨ba, rfl, HC⟩)
                | (go_at_call 24; refine HC.out.mono ?_; clear HC; rintro e wb ⟨rfl, HD⟩; have g0 := HD.out.num who hwk; have g1 := HD.out.free who))
              go_meet
              exact ⟨now, _, rfl, by omega, ⟨HD.out.kept hwk (by omega)⟩⟩
            · go_wp2_with (first
                | (go_at_call 23; have hx := as_un HR.out who hwk (by omega); (with_reducible refine hx.mono ?_); clear hx; rintro e wa ⟨ba, rfl, HC⟩)
                | (go_at_call 24; refine HC.out.mono ?_; clear HC; rintro e wb ⟨rfl, HD⟩; have g0 := HD.out.num who hwk; have g1 := HD.out.free who))
              go_meet
              exact ⟨now, _, rfl, by omega, ⟨HD.out.kept hwk (by omega)⟩⟩
            · go_wp2_with fail
              go_loop [12, 13] (fun m i => ∃ q : Nat, q ≤ k ∧ i = .int .i64 q ∧ m = .bool (mayMove q now pins)) (fun _ i => k - (intOf i).toNat)
              case atStart => exact ⟨0, Nat.zero_le _, rfl, rfl⟩
              case round =>
                obtain ⟨q, hq, rfl, rfl⟩ := hrel
                by_cases hql : q < k
                · have cq := HR.out.num q hql
                  have hq0 : (0 : Int) ≤ (q : Int) := by omega
                  have hq1 : (q : Int) < (k : Int) := by omega
                  have hms := may_succ q now pins
                  obtain ⟨mb, hmb⟩ : ∃ mb, mayMove q now pins = mb := ⟨_, rfl⟩
                  obtain ⟨z, hz⟩ : ∃ z, keptOf pins q = z := ⟨_, rfl⟩
                  have hzz : (pins q : Int) = z + 1 := by rw [← hz]; unfold keptOf; omega
                  rw [hz] at cq
                  have HM : Hd _ := ⟨hms⟩
                  have HB : Hd _ := ⟨hmb⟩
                  have HZ : Hd _ := ⟨hzz⟩
                  rw [hmb]
                  clear hms hmb hz hzz c0 f0
                  cases mb
                  · go_wp2_with fail
                    go_round
                    case rel => exact ⟨q + 1, by omega, by go_num, by rw [HM.out, HB.out]; rfl⟩
                    case measure => simp [intOf]; omega
                  · by_cases hz0 : z < 0
                    · go_wp2_with fail
                      go_round
                      case rel => exact ⟨q + 1, by omega, by go_num, by rw [HM.out, HB.out, decide_eq_true (.inl (by have := HZ.out; omega))]; rfl⟩
                      case measure => simp [intOf]; omega
                    · by_cases hz1 : z = (now : Int)
                      · subst hz1
                        go_wp2_with fail
                        go_round
                        case rel => exact ⟨q + 1, by omega, by go_num, by rw [HM.out, HB.out, decide_eq_true (.inr (by have := HZ.out; omega))]; rfl⟩
                        case measure => simp [intOf]; omega
                      · have hb : (z == (now : Int)) = false := beq_eq_false_iff_ne.2 hz1
                        have HN : Hd _ := ⟨hz1⟩
                        clear hz1
                        go_wp2_with fail
                        go_round
                        case rel => exact ⟨q + 1, by omega, by go_num, by rw [HM.out, HB.out, decide_eq_false (fun e => by have := HZ.out; have := HN.out; omega)]; rfl⟩
                        case measure => simp [intOf]; omega
                · obtain rfl : q = k := by omega
                  have HMo : Hd _ := ⟨as_moved HR.out (by omega)⟩
                  obtain ⟨mb, hmb⟩ : ∃ mb, mayMove q now pins = mb := ⟨_, rfl⟩
                  rw [hmb] at HMo
                  rw [hmb]
                  clear hmb c0 f0
                  cases mb
                  · go_wp2_with (first | (go_at_call 25; refine HMo.out.mono ?_; rintro e wb ⟨rfl, HD⟩))
                    go_meet
                    exact ⟨now, _, rfl, by omega, HD⟩
                  · go_wp2_with (first | (go_at_call 25; refine HMo.out.mono ?_; rintro e wb ⟨rfl, HD⟩))
                    go_meet
                    exact ⟨now + 1, _, by go_num, by omega, HD⟩
          case rest =>
            obtain ⟨now2, pins2, rfl, hn2, HS⟩ := hcut
            clear HR
            have c0 := HS.out.num who hwk
            obtain ⟨pw, hpw⟩ : ∃ pw, pins2 who = pw := ⟨_, rfl⟩
            have HPin : Hd _ := ⟨pinned_ep HS.out.ep who hwk⟩
            have HNow : Hd _ := ⟨as_now HS.out⟩
            rw [show keptOf pins2 who = (pw : Int) - 1 by unfold keptOf; rw [hpw]] at c0
            rw [hpw] at HPin
            have hpb := HS.out.ep.pinb who hwk
            rw [hpw] at hpb
            clear hpw
            by_cases hp0 : pw = 0
            · subst hp0
              go_wp2_with (first
                | (go_at_call 21; refine HPin.out.mono ?_; clear HPin; rintro e wb ⟨rfl, rfl⟩)
                | (go_at_call 20; refine HNow.out.mono ?_; clear HNow; rintro e wb ⟨rfl, rfl⟩))
              go_roundw
              case rel => exact ⟨j + 1, now2, pins2, by omega, by omega, rfl, by go_num, HS⟩
              case measure => simp [intOf]; omega
            · obtain ⟨q, rfl⟩ : ∃ q, pw = q + 1 := ⟨pw - 1, by omega⟩
              have HPin2 : Hd (Calls Try.prog 21 #[.pointer (some ⟨b, 0, none⟩), .int .i64 (who : Nat)] wc fun e w' => e = .returned (.tuple #[.int .u64 (q : Nat), .bool true]) ∧ wc = w') := ⟨by
                have := HPin.out
                rw [decide_eq_true hp0] at this
                exact this⟩
              have cq : wc.cell? ⟨ab, who, none⟩ = some (.int .i64 (q : Nat)) := by rw [c0]; congr 2; omega
              have hq0 : (0 : Int) ≤ (q : Int) := by omega
              have hwq : IntKind.u64.wrap (q : Int) = (q : Int) := by rw [IntKind.wrap_u64]; omega
              clear HPin c0
              go_wp2_with (first
                | (go_at_call 21; refine HPin2.out.mono ?_; clear HPin2; rintro e wb ⟨rfl, rfl⟩)
                | (go_at_call 20; refine HNow.out.mono ?_; clear HNow; rintro e wb ⟨rfl, rfl⟩))
              go_roundw
              case rel => exact ⟨j + 1, now2, pins2, by omega, by omega, rfl, by go_num, HS⟩
              case measure => simp [intOf]; omega
        · go_wp2_with (first
            | (go_at_call 13; refine (awake_any _).mono ?_; rintro e wc ⟨rfl, hA⟩; have HA2 : Hd _ := ⟨hA⟩; clear hA))
          go_ret
          exact ⟨rfl, HR.out.below.trans (HA2.out.mono HR.out.below.size)⟩
end Go.Proofs.Ytkjppffkjofamaa
