/- The law EpochQuick, walked: true for every input. No condition. -/
import Derived.Test.YtkjppffkjofamaaQuick
import Derived.Deep.DeepCutAuto
import Derived.Deep.CutBlock
set_option linter.unusedVariables false
set_option linter.unusedSimpArgs false
namespace Go.Proofs.Ytkjppffkjofamaa
open Go.RowKit Go.Shelf
theorem quick_many (W : World) (r : Int) (wr : (Lit.int .u8 r).wf = true) (A : Option Addr) (len cap : Nat) (h : (200 : Int) < (len : Int)) :
    Calls Try.prog 7 #[.int .u8 r, .slice A len cap] W fun e w' => e = .returned (.bool true) ∧ Below W.heap.size W w' := by
  clear wr
  go_enter Try.func7, Try.ntmps7
  go_wp2
  go_ret
  exact ⟨rfl, Below.refl _ _⟩
set_option maxRecDepth 100000 in
set_option maxHeartbeats 4000000 in
theorem quick_law (W : World) (r : Int) (wr : (Lit.int .u8 r).wf = true) (A : Option Addr) (len cap : Nat) (l : List Int) (h : Recs (RInt .i64) 1 W A len l) (_ : len ≤ cap) (_ : len * 8 ≤ 140737488351232) :
    Calls Try.prog 7 #[.int .u8 r, .slice A len cap] W fun e w' => e = .returned (.bool true) ∧ Below W.heap.size W w' := by
  by_cases hlen : (200 : Int) < (len : Int)
  · exact quick_many W r wr A len cap hlen
  have HLen : Hd (len ≤ 200) := ⟨by omega⟩
  obtain ⟨i0, hi0, hz0, hz1, hz2⟩ := info_parts info_pact
  have HA : Hd _ := ⟨h⟩
  clear h
  have hb := bounds_u8 wr
  obtain ⟨n, hn⟩ : ∃ n : Nat, 1 + r % 8 = (n : Int) := ⟨(1 + r % 8).toNat, by omega⟩
  have h1 : 1 ≤ n := by omega
  have h8 : n ≤ 8 := by omega
  have HM : Hd _ := ⟨made_any n W h1 h8⟩
  clear wr
  go_enter Try.func7, Try.ntmps7
  go_wp2_with (first
    | (go_at_call 14; refine HM.out.mono ?_; rintro e w1 ⟨b, bm, bp, rfl, hge, hE, hB⟩))
  have HS : Hd _ := ⟨q_start hge hE hB⟩
  clear hge hE hB HM hn hb
  go_loopw [7, 9] (fun v i wq => ∃ m : Nat, ∃ bs, m ≤ n ∧ i = .int .i64 m ∧ Hd (QPin m m W wq b bm bp n bs v)) (fun _ i _ => n - (intOf i).toNat)
  case atStart => exact ⟨0, _, Nat.zero_le _, rfl, HS⟩
  case round =>
    obtain ⟨m, bs, hm, rfl, HR⟩ := hrel
    clear HS
    by_cases hlt : m < n
    · have hlo : (0 : Int) ≤ (m : Int) := by omega
      have hhi : (m : Int) < (n : Int) := by omega
      go_wp2_with (first
        | (go_at_call 22; have hx := q_pin HR.out hlt; (with_reducible refine hx.mono ?_); clear hx; rintro e wa ⟨ba, rfl, HQ⟩; have zq : W.heap.size ≤ wa.heap.size := HQ.out.below.size)
        | (at_builtin; refine wpList_append_lies _ rfl _ _ 70 rfl W.heap.size 63 i0 (.pointer none) 1 8 Try.underlying70 hi0 hz0 hz1 hz2 rfl (by decide) u7 m (ptrs (bsAt bs m ba) m) rfl (owns_alloc HQ.out.row _) ⟨wa.heap.size, 0, none⟩ 1 1 [.pointer (some ⟨ba, 0, none⟩)] rfl rfl (World.news_of_block (cs := #[.pointer (some ⟨ba, 0, none⟩)]) (t := 63) (fr := (0, 0)) (heap_alloc_new wa _)) (by simp [Value.oneCell']) (by omega) (by unfold maxLen; omega) (by omega) (by simp; omega) (wa.heap.size + 1) (by simp) ?_; intro g1 cap1 wn hown hgrow hat hlt1; have HW : Hd _ := ⟨hown⟩; have HG : Hd _ := ⟨hgrow⟩; clear hown hgrow))
      go_roundw
      case rel => exact ⟨m + 1, _, by omega, by go_num, ⟨QA.push HQ.out (by rw [bsAt_new]; exact HW.out) HG.out hat⟩⟩
      case measure => simp [intOf]; omega
    · obtain rfl : m = n := by omega
      have HTu : Hd _ := ⟨q_turn (cap := cap) HR.out h1 h8 HA.out HLen.out⟩
      go_wp2_with (first
        | (go_at_call 26; (with_reducible refine HTu.out.mono ?_); clear HTu HR; rintro e wa ⟨⟨r1, rfl⟩, HT⟩; obtain ⟨did, hdid⟩ := HT.out; have HD : Hd _ := ⟨hdid⟩; clear hdid HT)
        | (go_at_call 27; have hx := q_rest HD.out h1 h8; (with_reducible refine hx.mono ?_); clear hx HD; rintro e wb ⟨⟨r2, rfl⟩, HT⟩; have HL : Hd _ := ⟨by obtain ⟨did, hd, h⟩ := HT.out; exact q_done h hd⟩; clear HT))
      go_loopw [8, 10] (fun u i wq => ∃ j : Nat, ∃ us, j ≤ m ∧ i = .int .i64 j ∧ Hd (QL j j W wq b bm bp m bs us u7 u)) (fun _ i _ => m - (intOf i).toNat)
      case atStart => exact ⟨0, _, Nat.zero_le _, rfl, HL⟩
      case round =>
        obtain ⟨j, us, hj, rfl, HJ⟩ := hrel
        clear HL
        by_cases hjl : j < m
        · obtain ⟨g, capv, rfl, hc⟩ := ptr_row HJ.out.qd.row j hjl
          have HPin : Hd _ := ⟨ql_pinned HJ.out j hjl⟩
          have HOv : Hd _ := ⟨over_yes _ _ _ (HJ.out.qd.done j hjl)⟩
          have HCo : Hd _ := ⟨count_any _ _ _ _ (HJ.out.qd.done j hjl)⟩
          have hlo : (0 : Int) ≤ (j : Int) := by omega
          have hhi : (j : Int) < (m : Int) := by omega
          go_wp2_with (first
            | (go_at_call 21; refine HPin.out.mono ?_; clear HPin; rintro e wa ⟨rfl, rfl⟩)
            | (go_at_call 28; refine HOv.out.mono ?_; clear HOv; rintro e wa ⟨rfl, rfl⟩)
            | (go_at_call 29; refine HCo.out.mono ?_; clear HCo; rintro e wa ⟨rfl, rfl⟩)
            | (go_at_call 23; have hx := ql_un HJ.out hjl; (with_reducible refine hx.mono ?_); clear hx; rintro e wa ⟨ba, rfl, HQ⟩; have HRow : Hd _ := ⟨HQ.out.qu.choose_spec.2.row⟩; have zq : W.heap.size ≤ wa.heap.size := HQ.out.qu.choose_spec.2.below.size)
            | (at_builtin; refine wpList_append_lies _ rfl _ _ 70 rfl W.heap.size 63 i0 (.pointer none) 1 8 Try.underlying70 hi0 hz0 hz1 hz2 rfl (by decide) u8 j (ptrs (bsAt us j ba) j) rfl (owns_alloc HRow.out _) ⟨wa.heap.size, 0, none⟩ 1 1 [.pointer (some ⟨ba, 0, none⟩)] rfl rfl (World.news_of_block (cs := #[.pointer (some ⟨ba, 0, none⟩)]) (t := 63) (fr := (0, 0)) (heap_alloc_new wa _)) (by simp [Value.oneCell']) (by omega) (by unfold maxLen; omega) (by omega) (by simp; omega) (wa.heap.size + 1) (by simp) ?_; intro g1 cap1 wn hown hgrow hat hlt1; have HW : Hd _ := ⟨hown⟩; have HG : Hd _ := ⟨hgrow⟩; clear hown hgrow))
          go_roundw
          case rel => exact ⟨j + 1, _, by omega, by go_num, ⟨QL.push HQ.out HW.out HG.out hat⟩⟩
          case measure => simp [intOf]; omega
        · obtain rfl : j = m := by omega
          go_wp2_with (first
            | (go_at_call 27; have hx := q_rest1 HJ.out h1 h8; (with_reducible refine hx.mono ?_); clear hx HJ; rintro e wb ⟨⟨r2, rfl⟩, HE⟩))
          go_loopw [13] (fun i wq => ∃ q : Nat, q ≤ j ∧ i = .int .i64 q ∧ Hd (QE W wq b j 0)) (fun i _ => j - (intOf i).toNat)
          case atStart => exact ⟨0, Nat.zero_le _, rfl, HE⟩
          case round =>
            obtain ⟨q, hq, rfl, HF⟩ := hrel
            clear HE
            by_cases hql : q < j
            · have HPin : Hd _ := ⟨qe_pinned HF.out q hql⟩
              have hlo : (0 : Int) ≤ (q : Int) := by omega
              have hhi : (q : Int) < (j : Int) := by omega
              go_wp2_with (first
                | (go_at_call 21; refine HPin.out.mono ?_; clear HPin; rintro e wa ⟨rfl, rfl⟩))
              go_roundw
              case rel => exact ⟨q + 1, by omega, by go_num, HF⟩
              case measure => simp [intOf]; omega
            · obtain rfl : q = j := by omega
              have HM1 : Hd _ := ⟨qe_moved HF.out (by omega)⟩
              clear HF
              go_wp2_with (first
                | (go_at_call 25; (with_reducible refine HM1.out.mono ?_); clear HM1; rintro e wa ⟨rfl, HG1⟩; have HM2 : Hd _ := ⟨qe_moved HG1.out (by omega)⟩)
                | (go_at_call 25; (with_reducible refine HM2.out.mono ?_); clear HM2; rintro e wd ⟨rfl, HG2⟩; have HN : Hd _ := ⟨qe_now HG2.out⟩)
                | (go_at_call 20; (with_reducible refine HN.out.mono ?_); clear HN; rintro e we ⟨rfl, rfl⟩)
                | (go_at_call 13; refine (awake_any _).mono ?_; rintro e wf ⟨rfl, hA⟩; have HA2 : Hd _ := ⟨hA⟩; clear hA))
              go_ret
              have hB : Below W.heap.size W wd := by obtain ⟨_, _, _, _, _, _, hB⟩ := HG2.out; exact hB
              exact ⟨rfl, hB.trans (HA2.out.mono hB.size)⟩
end Go.Proofs.Ytkjppffkjofamaa
