/- The law EpochRuns: the law's step, walked. No condition but those that each contract bears. -/
import Derived.Test.YtkjppffkjofamaaRunsLem
import Derived.Deep.DeepCutAuto
import Derived.Deep.CutBlock
import Derived.Deep.RegionHeld3
import Derived.Deep.RegionLaw
import Derived.Deep.AppendLies
set_option linter.unusedVariables false
set_option linter.unusedSimpArgs false
namespace Go.Proofs.Ytkjppffkjofamaa
open Go.RowKit Go.Shelf
set_option maxRecDepth 100000 in
set_option maxHeartbeats 8000000 in
theorem step_law {W0 w : World} {I : Ids} {B who : Nat} (h : RS W0 w I B) (hw : who < I.n) (hB : B + 3 ≤ 3000) (A : Option Addr) (len cap : Nat) (zs : List Int) (hA : Recs (RInt .u8) 1 W0 A len zs) (hlen : len ≤ 40) :
    Calls Try.prog 15 #[.pointer (some ⟨I.bw, 0, none⟩), .int .i64 (who : Nat), .slice A len cap] w (StepPost W0 I B) := by
  obtain ⟨X, col, now, pins, cur, vg, G, mv, hW, hI⟩ := h
  obtain ⟨i0, hi0, hz00, hz01, hz02⟩ := info_parts info_away
  obtain ⟨i1, hi1, hz10, hz11, hz12⟩ := info_parts info_int7
  have n8 := hW.ep.n8
  have hwn : (who : Int) < (I.n : Int) := by omega
  have hw0 : (0 : Int) ≤ (who : Int) := by omega
  have k1 : w.cell? ⟨I.bw, 1, none⟩ = some (.slice (some ⟨I.ball, 0, none⟩) I.n I.n) := blk_cell hW.blk (i := 1) rfl
  have k0 : w.cell? ⟨I.bw, 0, none⟩ = some (.pointer (some ⟨I.b, 0, none⟩)) := blk_cell hW.blk (i := 0) rfl
  have hne : I.bw ≠ I.ball := fun e => by have := hW.cw.1; rw [e, hW.cw.2] at this; omega
  have hne2 : I.ball ≠ I.bw := Ne.symm hne
  have d0 : w.cell? ⟨I.ball, who * 7, none⟩ = some (.int .i64 (X.next who : Nat)) := hW.num who 0 hw (by omega)
  have d3 : w.cell? ⟨I.ball, who * 7 + 3, none⟩ = some (.int .u8 (X.kind who : Nat)) := hW.num who 3 hw (by omega)
  have fr := fun o => hW.free o
  have hlink := hI.link who hw
  obtain ⟨ao, hao⟩ : ∃ ao, (X.act who).map (fun b => (⟨b, 0, none⟩ : Addr)) = ao := ⟨_, rfl⟩
  have d1 : w.cell? ⟨I.ball, who * 7 + 1, none⟩ = some (.pointer ao) := by
    rw [hW.num who 1 hw (by omega)]
    show some (ptrV (X.act who)) = _
    unfold ptrV
    rw [hao]
  have HW : Hd _ := ⟨hW⟩
  have HI : Hd _ := ⟨hI⟩
  have HO : Hd _ := ⟨hao⟩
  have HL : Hd _ := ⟨hlink⟩
  have HA : Hd _ := ⟨hA⟩
  clear hW hI hlink hA hao
  go_enter Try.func15, Try.ntmps15
  go_upto_if 24 with (fail)
  go_cut [] (fun wx => Hd (Run W0 wx I (B + 1) who))
  case first =>
    cases hcur : cur who with
    | some c =>
      have hl := HL.out
      rw [hcur] at hl
      have ho := HO.out
      rw [hl] at ho
      have ho : some (⟨c.ba, 0, none⟩ : Addr) = ao := ho
      subst ho
      go_wp2_with fail
      go_meet
      exact ⟨X, col, now, pins, cur, vg, G, mv, c, HW.out, HI.out.mono (by omega), hcur⟩
    | none =>
      have hl := HL.out
      rw [hcur] at hl
      have ho := HO.out
      rw [hl] at ho
      have ho : (none : Option Addr) = ao := ho
      subst ho
      have d2 := HW.out.num who 2 hw (by omega)
      have d4 : w.cell? ⟨I.ball, who * 7 + 4, none⟩ = some (.bool (X.pinned who)) := HW.out.num who 4 hw (by omega)
      have d6 : w.cell? ⟨I.ball, who * 7 + 6, none⟩ = some (.int .i64 (X.turn who : Nat)) := HW.out.num who 6 hw (by omega)
      clear d2 hl
      by_cases hnx : X.next who < len
      · obtain ⟨bx, ox, rfl, hbx, hx, x0, x1⟩ := recs_bytes HA.out (X.next who) hnx
        replace hx := (HW.out.below.cell (p := ⟨bx, ox + X.next who, none⟩) hbx).trans hx
        obtain ⟨x, hxx⟩ : ∃ x, nth zs (X.next who) = x := ⟨_, rfl⟩
        rw [hxx] at hx x0 x1
        clear hxx
        obtain ⟨y, hy⟩ : ∃ y, x % 4 = y := ⟨_, rfl⟩
        have hcase : y = 0 ∨ y = 1 ∨ y = 2 ∨ y = 3 := by omega
        have HW1 : Hd (WS W0 ((w.setCell ⟨I.ball, who * 7 + 3, none⟩ (.int .u8 y)).setCell ⟨I.ball, who * 7, none⟩ (.int .i64 ((X.next who : Nat) + 1))) col I now pins cur (dcB X who y) vg G mv) := ⟨(HW.out.put who 3 hw (by omega) _).put who 0 hw (by omega) _⟩
        have hact : Hd (X.act who = none) := ⟨by rw [HL.out, hcur]; rfl⟩
        have hnlo : (0 : Int) ≤ (X.next who : Nat) := by omega
        have hnhi : ((X.next who : Nat) : Int) < (len : Int) := by omega
        have hnb : ((X.next who : Nat) : Int) ≤ 3000 := by have := HI.out.nx who hw; omega
        have htb : ((X.turn who : Nat) : Int) ≤ 3000 := by have := HI.out.tn who hw; omega
        have HC : Hd _ := ⟨hcur⟩
        obtain ⟨pw, hpw⟩ : ∃ pw, X.pinned who = pw := ⟨_, rfl⟩
        rw [hpw] at d4
        have HPw : Hd _ := ⟨hpw⟩
        clear hcur hnx hpw
        rcases hcase with rfl | rfl | rfl | rfl
        · cases pw
          all_goals
            go_wp2_with (first
              | (go_at_call 22; have hx := ws_pin HW1.out who hw; (with_reducible refine hx.mono ?_); clear hx; rintro e w2 ⟨ba, rfl, HN⟩; obtain ⟨col2, hW2⟩ := HN.out; obtain ⟨g1, g2, g3, g4, g6⟩ := cells_begun hW2 hw hact.out; rw [HPw.out] at g4; have fr2 := fun o => hW2.free o; have HW2 : Hd _ := ⟨hW2⟩; clear hW2 HN g2)
              | (go_at_call 28; have hx := ws_live (HW2.out.put who 1 hw (by omega) (.pointer (some ⟨ba, 0, none⟩))) hw (c := ⟨ba, none, false, .pin0 who, 0⟩) rfl; (with_reducible refine hx.mono ?_); clear hx; rintro e w3 ⟨rfl, rfl⟩))
          · go_meet
            exact ⟨run_of (k := 0) (c := ⟨ba, none, false, .pin0 who, 0⟩) false (X.turn who) (X.mov who) (HW2.out.put who 1 hw (by omega) (.pointer (some ⟨ba, 0, none⟩))) hw HI.out HC.out (by omega) rfl (.inl ⟨rfl, rfl⟩) (.inl ⟨HPw.out.symm, rfl, .inr HPw.out⟩) (fun i hi => by by_cases e : i = who <;> simp [e, upd2, dcB, dcOf, fset, ptrV, HPw.out])⟩
          · go_meet
            exact ⟨run_of (k := 0) (c := ⟨ba, none, false, .pin0 who, 0⟩) false (X.turn who + 1) (X.mov who) (((HW2.out.put who 1 hw (by omega) (.pointer (some ⟨ba, 0, none⟩))).put who 4 hw (by omega) (.bool false)).put who 6 hw (by omega) (.int .i64 ((X.turn who : Nat) + 1))) hw HI.out HC.out (by omega) rfl (.inl ⟨rfl, rfl⟩) (.inr ⟨rfl, rfl⟩) (fun i hi => by by_cases e : i = who <;> simp [e, upd2, dcB, dcOf, fset, ptrV])⟩
        · go_wp2_with (first
            | (go_at_call 23; have hx := ws_un HW1.out who hw; (with_reducible refine hx.mono ?_); clear hx; rintro e w2 ⟨ba, rfl, HN⟩; obtain ⟨col2, hW2⟩ := HN.out; obtain ⟨g1, g2, g3, g4, g6⟩ := cells_begun hW2 hw hact.out; rw [HPw.out] at g4; have fr2 := fun o => hW2.free o; have HW2 : Hd _ := ⟨hW2⟩; clear hW2 HN g2)
            | (go_at_call 28; have hx := ws_live (HW2.out.put who 1 hw (by omega) (.pointer (some ⟨ba, 0, none⟩))) hw (c := ⟨ba, none, false, .un who, 0⟩) rfl; (with_reducible refine hx.mono ?_); clear hx; rintro e w3 ⟨rfl, rfl⟩))
          go_meet
          exact ⟨run_of (k := 1) (c := ⟨ba, none, false, .un who, 0⟩) false (X.turn who + 1) (X.mov who) (((HW2.out.put who 1 hw (by omega) (.pointer (some ⟨ba, 0, none⟩))).put who 4 hw (by omega) (.bool false)).put who 6 hw (by omega) (.int .i64 ((X.turn who : Nat) + 1))) hw HI.out HC.out (by omega) rfl (.inr (.inl ⟨rfl, rfl⟩)) (.inr ⟨rfl, rfl⟩) (fun i hi => by by_cases e : i = who <;> simp [e, upd2, dcB, dcOf, fset, ptrV])⟩
        · go_wp2_with (first
            | (go_at_call 30; have hx := ws_adv HW1.out who hw; (with_reducible refine hx.mono ?_); clear hx; rintro e w2 ⟨m, ba, rfl, HN, hmc, hmb⟩; obtain ⟨col2, hW2⟩ := HN.out; obtain ⟨g1, g2, g3, g4, g6⟩ := cells_begun hW2 hw hact.out; rw [HPw.out] at g4; have hmb2 := Ne.symm hmb; have fr2 := fun o => hW2.free o; have HW2 : Hd _ := ⟨hW2⟩; clear hW2 HN)
            | (go_at_call 28; have hx := ws_live ((HW2.out.put who 2 hw (by omega) (.pointer (some ⟨m, 0, none⟩))).put who 1 hw (by omega) (.pointer (some ⟨ba, 0, none⟩))) hw (c := ⟨ba, some m, false, .adv, 0⟩) rfl; (with_reducible refine hx.mono ?_); clear hx; rintro e w3 ⟨rfl, rfl⟩))
          go_meet
          exact ⟨run_of (k := 2) (c := ⟨ba, some m, false, .adv, 0⟩) pw (X.turn who) (some m) ((HW2.out.put who 2 hw (by omega) (.pointer (some ⟨m, 0, none⟩))).put who 1 hw (by omega) (.pointer (some ⟨ba, 0, none⟩))) hw HI.out HC.out (by omega) rfl (.inr (.inr ⟨rfl, rfl, rfl, m, rfl, rfl⟩)) (.inl ⟨HPw.out.symm, rfl, .inl rfl⟩) (fun i hi => by by_cases e : i = who <;> simp [e, upd2, dcB, dcOf, fset, ptrV, HPw.out])⟩
        · obtain ⟨W1, hW1e⟩ : ∃ W1, (w.setCell ⟨I.ball, who * 7 + 3, none⟩ (.int .u8 3)).setCell ⟨I.ball, who * 7, none⟩ (.int .i64 ((X.next who : Nat) + 1)) = W1 := ⟨_, rfl⟩
          have HE : Hd _ := ⟨hW1e⟩
          rw [hW1e] at HW1
          have HCol : Hd (∀ k, col k ≠ 0 → k < W1.heap.size) := ⟨fun k hk => (HW1.out.ge k hk).2⟩
          have HSz : Hd (W0.heap.size ≤ W1.heap.size) := ⟨HW1.out.below.size⟩
          clear hW1e
          go_wp2_with fail
          have hb31 : decide (len ≤ X.next who) = false := decide_eq_false (by omega)
          simp only [HE.out, Option.isNone_none, hb31]
          clear hb31
          try simp only [hy]
          clear hy hx
          go_loopw [8, 9] (fun tv i wq => ∃ j : Nat, j ≤ I.n ∧ i = .int .i64 j ∧ Hd (TB W0 W1 wq col I now pins cur X who vg G mv j tv)) (fun _ i _ => I.n - (intOf i).toNat)
          case atStart => exact ⟨0, Nat.zero_le _, rfl, ⟨HW1.out, World.ownsRow_nil _ _ _ _, Nat.le_refl _⟩⟩
          case round =>
            obtain ⟨j, hj, rfl, HT⟩ := hrel
            have r1 : wr.cell? ⟨I.bw, 1, none⟩ = some (.slice (some ⟨I.ball, 0, none⟩) I.n I.n) := blk_cell HT.out.ws.blk (i := 1) rfl
            by_cases hjl : j < I.n
            · have e4 : wr.cell? ⟨I.ball, j * 7 + 4, none⟩ = some (.bool (X.pinned j)) := (HT.out.ws.num j 4 hjl (by omega)).trans (by simp [dcB, upd2, dcOf])
              have e6 : wr.cell? ⟨I.ball, j * 7 + 6, none⟩ = some (.int .i64 (X.turn j : Nat)) := (HT.out.ws.num j 6 hjl (by omega)).trans (by simp [dcB, upd2, dcOf])
              have hjo : (0 : Int) ≤ (j : Int) := by omega
              have hjh : (j : Int) < (I.n : Int) := by omega
              have hown := HT.out.row
              have zr : W1.heap.size ≤ wr.heap.size := HT.out.le
              obtain ⟨pj, hpj⟩ : ∃ pj, X.pinned j = pj := ⟨_, rfl⟩
              rw [hpj] at e4
              have HPj : Hd _ := ⟨hpj⟩
              have HRow : Hd _ := ⟨hown⟩
              clear hpj hown
              cases pj
              · go_wp2_with ((at_builtin; refine wpList_append_lies _ rfl _ _ 28 rfl W1.heap.size 3 i1 (.int .i64 0) 1 8 Try.underlying28 hi1 hz10 hz11 hz12 rfl (by decide) u8 j (((List.range j).map fun i => if X.pinned i then (X.turn i : Int) else -1).map (Value.int .i64)) rfl (owns_alloc HRow.out _) ⟨wr.heap.size, 0, none⟩ 1 1 [.int .i64 (-1)] rfl rfl (World.news_of_block (cs := #[.int .i64 (-1)]) (t := 3) (fr := (0, 0)) (heap_alloc_new wr _)) (by simp [Value.oneCell']) (by omega) (by unfold maxLen; omega) (by omega) (by simp; omega) (wr.heap.size + 1) (by simp) ?_; intro g1 cap1 wn hown hgrow hat hlt1; have HWn : Hd _ := ⟨hown⟩; have HG : Hd _ := ⟨hgrow⟩; clear hown hgrow))
                go_roundw
                case rel => exact ⟨j + 1, by omega, by go_num, ⟨HT.out.push HCol.out HSz.out (by rw [HPj.out]; rfl) HWn.out HG.out⟩⟩
                case measure => simp [intOf]; omega
              · go_wp2_with ((at_builtin; refine wpList_append_lies _ rfl _ _ 28 rfl W1.heap.size 3 i1 (.int .i64 0) 1 8 Try.underlying28 hi1 hz10 hz11 hz12 rfl (by decide) u8 j (((List.range j).map fun i => if X.pinned i then (X.turn i : Int) else -1).map (Value.int .i64)) rfl (owns_alloc HRow.out _) ⟨wr.heap.size, 0, none⟩ 1 1 [.int .i64 ((X.turn j : Nat))] rfl rfl (World.news_of_block (cs := #[.int .i64 ((X.turn j : Nat))]) (t := 3) (fr := (0, 0)) (heap_alloc_new wr _)) (by simp [Value.oneCell']) (by omega) (by unfold maxLen; omega) (by omega) (by simp; omega) (wr.heap.size + 1) (by simp) ?_; intro g1 cap1 wn hown hgrow hat hlt1; have HWn : Hd _ := ⟨hown⟩; have HG : Hd _ := ⟨hgrow⟩; clear hown hgrow))
                go_roundw
                case rel => exact ⟨j + 1, by omega, by go_num, ⟨HT.out.push HCol.out HSz.out (by rw [HPj.out]; rfl) HWn.out HG.out⟩⟩
                case measure => simp [intOf]; omega
            · obtain rfl : j = I.n := by omega
              obtain ⟨zs', hzs'⟩ : ∃ zs', ((List.range I.n).map fun i => if X.pinned i then (X.turn i : Int) else -1) = zs' := ⟨_, rfl⟩
              have hrow := HT.out.row
              rw [hzs'] at hrow
              have hzl : zs'.length = I.n := by rw [← hzs']; simp
              have hzz : ∀ i, i < I.n → nth zs' i = if X.pinned i then (X.turn i : Int) else -1 := fun i hi => by rw [← hzs']; unfold nth; rw [List.getD_eq_getElem?_getD, List.getElem?_map, List.getElem?_range hi]; rfl
              have hn1 := HW.out.ep.n1
              have hrow2 := hrow
              rw [← hzl] at hrow2
              obtain ⟨tb, tc, htv, _⟩ := ints_row hrow2 0 (by omega)
              rw [hzl] at htv
              subst htv
              have r0 : wr.cell? ⟨I.bw, 0, none⟩ = some (.pointer (some ⟨I.b, 0, none⟩)) := blk_cell HT.out.ws.blk (i := 0) rfl
              have r2 : wr.cell? ⟨I.bw, 2, none⟩ = some vg := blk_cell HT.out.ws.blk (i := 2) rfl
              have r3 : wr.frozen? ⟨I.bw, 2, none⟩ = false := blk_free HT.out.ws.blk 2
              have hown := HT.out.ws.gone
              have lbw : I.bw < wr.heap.size := (HT.out.ws.ge I.bw (by rw [HT.out.ws.cw.1]; omega)).2
              have nf : vg.ownBlock ≠ some I.bw := fun e => by have := HT.out.ws.cg _ e; rw [HT.out.ws.cw.1] at this; omega
              have zr : W0.heap.size ≤ wr.heap.size := HT.out.ws.below.size
              have hgl : G.length ≤ 3000 := by have := HI.out.gl; omega
              have HNow : Hd (∀ Y : World, Y.heap = wr.heap → Calls Try.prog 20 #[.pointer (some ⟨I.b, 0, none⟩)] Y fun e w' => e = .returned (.int .u64 (now : Nat)) ∧ Y = w') := ⟨fun Y hY => now_ep (HT.out.ws.ep.of_blocks (by rw [hY]) (by rw [hY]) (by rw [hY]))⟩
              have HRow : Hd _ := ⟨hrow⟩
              have HZL : Hd _ := ⟨hzl⟩
              have HZZ : Hd _ := ⟨hzz⟩
              clear hzs' hrow hrow2 hzl hzz
              go_upto_region 24 with fail
              go_region_law
                (first
                  | (go_simp; go_at_call 20; refine (HNow.out wr.drew rfl).mono ?_; rintro e w2 ⟨rfl, rfl⟩)
                  | (refine step_append_lies _ (by rfl) _ _ _ (by rfl) W0.heap.size 87 i0 _ 2 32 Try.underlying49 hi0 hz00 hz01 hz02 rfl (by omega) vg _ _ (by rfl) ((owns_alloc hown _).drew)
                      ⟨wr.heap.size, 0, none⟩ 1 1 [.int .u64 (now : Nat), .slice (some ⟨tb, 0, none⟩) I.n tc] (by rfl) (by rfl) (World.news_of_block (cs := #[.int .u64 (now : Nat), .slice (some ⟨tb, 0, none⟩) I.n tc]) (t := 87) (fr := (0, 0)) (heap_alloc_new wr _)) (by simp [Value.oneCell'])
                      (by omega) (by unfold maxLen; omega) (by omega) (by simp; omega) (wr.heap.size + 1) (by simp) ?_; intro gg cap1 wn hown1 hgrow hat hlt1; have hfz := (frozen_grown (i := 2) hgrow lbw nf).trans r3; have hcz := (cell_grown (i := 2) hgrow lbw nf).trans r2))
              all_goals go_wp2_with fail
              all_goals go_ret
              all_goals
                obtain ⟨col', hP⟩ := HT.out.ws.pushed (turn := fun i => if X.pinned i then (X.turn i : Int) else -1) HCol.out HSz.out HRow.out HZL.out HZZ.out hown1 hgrow hat
                exact ⟨rfl, _, col', now, pins, cur, _, _, mv, hP.redc _ (dc_eq (X := { X with next := fset X.next who (X.next who + 1), kind := fset X.kind who 3 }) (fun i hi => by by_cases e : i = who <;> simp [e, upd2, dcB, dcOf, fset, ptrV])), (HI.out.away who hw HC.out ⟨now, tb, tc, fun i => if X.pinned i then (X.turn i : Int) else -1⟩ rfl (fun j hj => rfl)).mono (by omega)⟩
      · go_wp2_with fail
        go_ret
        exact ⟨rfl, X, col, now, pins, cur, vg, G, mv, HW.out, HI.out.mono (by omega)⟩
  case rest =>
    obtain ⟨X2, col2, now2, pins2, cur2, vg2, G2, mv2, c, hW2, hI2, hc2⟩ := hcut.out
    have q0 : wc.cell? ⟨I.bw, 0, none⟩ = some (.pointer (some ⟨I.b, 0, none⟩)) := blk_cell hW2.blk (i := 0) rfl
    have q1 : wc.cell? ⟨I.ball, who * 7 + 1, none⟩ = some (.pointer (some ⟨c.ba, 0, none⟩)) := by
      rw [hW2.num who 1 hw (by omega)]
      show some (ptrV (X2.act who)) = _
      rw [hI2.link who hw, hc2]; rfl
    obtain ⟨p1, p2, p3⟩ := hI2.cu who hw c hc2
    have hnoc : c.ph ≠ .over := Cur.ok_of p3
    have hnb := hI2.nt
    have HSt : Hd _ := ⟨ws_step hW2 who hw c hc2 p1 hnoc (by omega) (by omega)⟩
    have HI2 : Hd _ := ⟨hI2⟩
    have HC2 : Hd _ := ⟨hc2⟩
    have hkd := hI2.kd who hw
    have hb2 := hI2.tn who hw
    have hmvb := hI2.mv
    clear hcut hW2 hI2 hc2 p1 p2 p3 hnoc k0 k1 d0 d3 fr d1
    by_cases hov : (c.next I.n now2 pins2).ph.isOver = false
    · have HG : Hd _ := ⟨HI2.out.go who hw c HC2.out (over_iff.1 hov)⟩
      have HOv : Hd _ := ⟨hov⟩
      clear hov
      by_cases hk2 : X2.kind who = 2
      · obtain ⟨hm, m, hm1, hm2⟩ := HI2.out.live hw HC2.out hk2
        have HM : Hd _ := ⟨hm⟩
        have HM1 : Hd _ := ⟨hm1⟩
        have HM2 : Hd _ := ⟨hm2⟩
        have HK2 : Hd _ := ⟨hk2⟩
        clear hm hm1 hm2 hk2
        go_wp2_with (first
          | (go_at_call 31; (with_reducible refine HSt.out.mono ?_); clear HSt q0 q1; rintro e w3 ⟨rfl, HN⟩; obtain ⟨col3, hW3⟩ := HN.out; have q1 : w3.cell? ⟨I.ball, who * 7 + 1, none⟩ = some (.pointer (some ⟨c.ba, 0, none⟩)) := (hW3.num who 1 hw (by omega)).trans (by show some (ptrV (X2.act who)) = _; rw [HI2.out.link who hw, HC2.out]; rfl); have q2 : w3.cell? ⟨I.ball, who * 7 + 2, none⟩ = some (.pointer (some ⟨m, 0, none⟩)) := (hW3.num who 2 hw (by omega)).trans (by show some (ptrV (X2.mov who)) = _; rw [HM2.out]; rfl); have q3 : w3.cell? ⟨I.ball, who * 7 + 3, none⟩ = some (.int .u8 2) := (hW3.num who 3 hw (by omega)).trans (by show some (Value.int .u8 (X2.kind who : Nat)) = _; rw [HK2.out]; rfl); have HW3 : Hd _ := ⟨hW3⟩; clear hW3 HN)
          | (go_at_call 28; have hx : Calls Try.prog 28 #[.pointer (some ⟨c.ba, 0, none⟩)] w3 (fun e w' => e = .returned (.bool false) ∧ w3 = w') := ws_live (c := c.next I.n now2 pins2) HW3.out hw HOv.out; (with_reducible refine hx.mono ?_); clear hx; rintro e w4 ⟨rfl, rfl⟩)
          | (go_at_call 32; have hx := ws_moved HW3.out who hw (c.next I.n now2 pins2) (if_pos rfl) m HM1.out; rw [HG.out.2.1, HM.out] at hx; (with_reducible refine hx.mono ?_); clear hx; rintro e w4 ⟨rfl, rfl⟩))
        go_ret
        exact ⟨rfl, X2, col3, _, _, _, vg2, G2, mv2, HW3.out, HG.out.2.2.mono (by omega)⟩
      · have hk3 : (((X2.kind who : Nat) : Int) != 2) = true := by simp; omega
        clear hk2
        go_wp2_with (first
          | (go_at_call 31; (with_reducible refine HSt.out.mono ?_); clear HSt q0 q1; rintro e w3 ⟨rfl, HN⟩; obtain ⟨col3, hW3⟩ := HN.out; have q1 : w3.cell? ⟨I.ball, who * 7 + 1, none⟩ = some (.pointer (some ⟨c.ba, 0, none⟩)) := (hW3.num who 1 hw (by omega)).trans (by show some (ptrV (X2.act who)) = _; rw [HI2.out.link who hw, HC2.out]; rfl); have q3 : w3.cell? ⟨I.ball, who * 7 + 3, none⟩ = some (.int .u8 (X2.kind who : Nat)) := hW3.num who 3 hw (by omega); have HW3 : Hd _ := ⟨hW3⟩; clear hW3 HN)
          | (go_at_call 28; have hx : Calls Try.prog 28 #[.pointer (some ⟨c.ba, 0, none⟩)] w3 (fun e w' => e = .returned (.bool false) ∧ w3 = w') := ws_live (c := c.next I.n now2 pins2) HW3.out hw HOv.out; (with_reducible refine hx.mono ?_); clear hx; rintro e w4 ⟨rfl, rfl⟩))
        go_ret
        exact ⟨rfl, X2, col3, _, _, _, vg2, G2, mv2, HW3.out, HG.out.2.2.mono (by omega)⟩
    · have hov2 : (c.next I.n now2 pins2).ph = .over := by
        cases e : (c.next I.n now2 pins2).ph with
        | over => rfl
        | _ => rw [e] at hov; exact absurd rfl hov
      have hcas := HI2.out.over who hw c HC2.out hov2
      have HOv : Hd ((c.next I.n now2 pins2).ph.isOver = true) := ⟨by rw [hov2]; rfl⟩
      have hne3 := hne
      clear hov hov2
      rcases hcas with ⟨hk, hn, hp, hpw, hI3⟩ | ⟨hk, hn, hp, hI3⟩ | ⟨hk, hp, m, hm1, hm2, ⟨hm, hn, hI3⟩ | ⟨hm, hn, hI3⟩⟩
      · rw [hn, hp] at HSt
        have HK : Hd _ := ⟨hk⟩
        have HPw : Hd _ := ⟨hpw⟩
        have HI3 : Hd _ := ⟨hI3⟩
        have HNP : Hd _ := ⟨And.intro hn hp⟩
        clear hk hn hp hpw hI3
        go_wp2_with (first
          | (go_at_call 31; (with_reducible refine HSt.out.mono ?_); clear HSt q0 q1; rintro e w3 ⟨rfl, HN⟩; obtain ⟨col3, hW3⟩ := HN.out; have q0 : w3.cell? ⟨I.bw, 0, none⟩ = some (.pointer (some ⟨I.b, 0, none⟩)) := blk_cell hW3.blk (i := 0) rfl; have q1 : w3.cell? ⟨I.ball, who * 7 + 1, none⟩ = some (.pointer (some ⟨c.ba, 0, none⟩)) := (hW3.num who 1 hw (by omega)).trans (by show some (ptrV (X2.act who)) = _; rw [HI2.out.link who hw, HC2.out]; rfl); have q3 : w3.cell? ⟨I.ball, who * 7 + 3, none⟩ = some (.int .u8 0) := (hW3.num who 3 hw (by omega)).trans (by show some (Value.int .u8 (X2.kind who : Nat)) = _; rw [HK.out]; rfl); have q4 : w3.cell? ⟨I.ball, who * 7 + 4, none⟩ = some (.bool (X2.pinned who)) := hW3.num who 4 hw (by omega); have q5 : w3.cell? ⟨I.ball, who * 7 + 5, none⟩ = some (.int .u64 (X2.since who : Nat)) := hW3.num who 5 hw (by omega); have q6 : w3.cell? ⟨I.ball, who * 7 + 6, none⟩ = some (.int .i64 (X2.turn who : Nat)) := hW3.num who 6 hw (by omega); have fr3 := fun o => hW3.free o; have HW3 : Hd _ := ⟨hW3⟩; clear hW3 HN)
          | (go_at_call 28; have hx : Calls Try.prog 28 #[.pointer (some ⟨c.ba, 0, none⟩)] w3 (fun e w' => e = .returned (.bool true) ∧ w3 = w') := by { have := ws_over HW3.out who hw (c.next I.n now2 pins2) (if_pos rfl); rw [HOv.out] at this; exact this }; (with_reducible refine hx.mono ?_); clear hx; rintro e w4 ⟨rfl, rfl⟩)
          | (go_at_call 20; have hx := now_ep (HW3.out.drop.put who 1 hw (by omega) (.pointer none)).ep; (with_reducible refine hx.mono ?_); clear hx; rintro e w4 ⟨rfl, rfl⟩)
          | (go_at_call 21; have hx := pinned_ep (((((HW3.out.drop.put who 1 hw (by omega) (.pointer none)).put who 4 hw (by omega) (.bool true)).put who 5 hw (by omega) (.int .u64 (now2 : Nat))).put who 6 hw (by omega) (.int .i64 ((X2.turn who : Nat) + 1))).ep) who hw; rw [HPw.out] at hx; (with_reducible refine hx.mono ?_); clear hx; rintro e w4 ⟨rfl, rfl⟩))
        go_ret
        exact ⟨rfl, _, col3, now2, pins2, _, vg2, G2, mv2, ((((HW3.out.drop.put who 1 hw (by omega) (.pointer none)).put who 4 hw (by omega) (.bool true)).put who 5 hw (by omega) (.int .u64 (now2 : Nat))).put who 6 hw (by omega) (.int .i64 ((X2.turn who : Nat) + 1))).redc _ (dc_eq (X := { X2 with act := fset X2.act who none, pinned := fset X2.pinned who true, since := fset X2.since who now2, turn := fset X2.turn who (X2.turn who + 1) }) (fun i hi => by by_cases e : i = who <;> simp [e, upd2, dcOf, fset, ptrV])), HI3.out.pinned who hw (if_pos rfl) HPw.out⟩
      · rw [hn] at HSt
        have HK : Hd _ := ⟨hk⟩
        have HPw : Hd _ := ⟨hp⟩
        have HI3 : Hd _ := ⟨hI3⟩
        clear hk hn hp hI3
        go_wp2_with (first
          | (go_at_call 31; (with_reducible refine HSt.out.mono ?_); clear HSt q0 q1; rintro e w3 ⟨rfl, HN⟩; obtain ⟨col3, hW3⟩ := HN.out; have q0 : w3.cell? ⟨I.bw, 0, none⟩ = some (.pointer (some ⟨I.b, 0, none⟩)) := blk_cell hW3.blk (i := 0) rfl; have q1 : w3.cell? ⟨I.ball, who * 7 + 1, none⟩ = some (.pointer (some ⟨c.ba, 0, none⟩)) := (hW3.num who 1 hw (by omega)).trans (by show some (ptrV (X2.act who)) = _; rw [HI2.out.link who hw, HC2.out]; rfl); have q3 : w3.cell? ⟨I.ball, who * 7 + 3, none⟩ = some (.int .u8 1) := (hW3.num who 3 hw (by omega)).trans (by show some (Value.int .u8 (X2.kind who : Nat)) = _; rw [HK.out]; rfl); have q4 : w3.cell? ⟨I.ball, who * 7 + 4, none⟩ = some (.bool (X2.pinned who)) := hW3.num who 4 hw (by omega); have q5 : w3.cell? ⟨I.ball, who * 7 + 5, none⟩ = some (.int .u64 (X2.since who : Nat)) := hW3.num who 5 hw (by omega); have q6 : w3.cell? ⟨I.ball, who * 7 + 6, none⟩ = some (.int .i64 (X2.turn who : Nat)) := hW3.num who 6 hw (by omega); have fr3 := fun o => hW3.free o; have HW3 : Hd _ := ⟨hW3⟩; clear hW3 HN)
          | (go_at_call 28; have hx : Calls Try.prog 28 #[.pointer (some ⟨c.ba, 0, none⟩)] w3 (fun e w' => e = .returned (.bool true) ∧ w3 = w') := by { have := ws_over HW3.out who hw (c.next I.n now2 pins2) (if_pos rfl); rw [HOv.out] at this; exact this }; (with_reducible refine hx.mono ?_); clear hx; rintro e w4 ⟨rfl, rfl⟩)
          | (go_at_call 21; have hx := pinned_ep ((HW3.out.drop.put who 1 hw (by omega) (.pointer none)).ep) who hw; rw [HPw.out] at hx; (with_reducible refine hx.mono ?_); clear hx; rintro e w4 ⟨rfl, rfl⟩))
        go_ret
        exact ⟨rfl, _, col3, now2, _, _, vg2, G2, mv2, (HW3.out.drop.put who 1 hw (by omega) (.pointer none)).redc _ (dc_eq (X := { X2 with act := fset X2.act who none }) (fun i hi => by by_cases e : i = who <;> simp [e, upd2, dcOf, fset, ptrV])), HI3.out.mono (by omega)⟩
      · rw [hn, hp] at HSt
        have HK : Hd _ := ⟨hk⟩
        have HM : Hd _ := ⟨hm⟩
        have HM1 : Hd _ := ⟨hm1⟩
        have HM2 : Hd _ := ⟨hm2⟩
        have HI3 : Hd _ := ⟨hI3⟩
        have hmvn : mv2 ≤ 3000 := by rw [hmvb]; omega
        clear hk hn hp hm hm1 hm2 hI3 hmvb
        go_wp2_with (first
          | (go_at_call 31; (with_reducible refine HSt.out.mono ?_); clear HSt q0 q1; rintro e w3 ⟨rfl, HN⟩; obtain ⟨col3, hW3⟩ := HN.out; have q0 : w3.cell? ⟨I.bw, 0, none⟩ = some (.pointer (some ⟨I.b, 0, none⟩)) := blk_cell hW3.blk (i := 0) rfl; have q1 : w3.cell? ⟨I.ball, who * 7 + 1, none⟩ = some (.pointer (some ⟨c.ba, 0, none⟩)) := (hW3.num who 1 hw (by omega)).trans (by show some (ptrV (X2.act who)) = _; rw [HI2.out.link who hw, HC2.out]; rfl); have q3 : w3.cell? ⟨I.ball, who * 7 + 3, none⟩ = some (.int .u8 2) := (hW3.num who 3 hw (by omega)).trans (by show some (Value.int .u8 (X2.kind who : Nat)) = _; rw [HK.out]; rfl); have q4 : w3.cell? ⟨I.ball, who * 7 + 4, none⟩ = some (.bool (X2.pinned who)) := hW3.num who 4 hw (by omega); have q5 : w3.cell? ⟨I.ball, who * 7 + 5, none⟩ = some (.int .u64 (X2.since who : Nat)) := hW3.num who 5 hw (by omega); have q6 : w3.cell? ⟨I.ball, who * 7 + 6, none⟩ = some (.int .i64 (X2.turn who : Nat)) := hW3.num who 6 hw (by omega); have q2 : w3.cell? ⟨I.ball, who * 7 + 2, none⟩ = some (.pointer (some ⟨m, 0, none⟩)) := (hW3.num who 2 hw (by omega)).trans (by show some (ptrV (X2.mov who)) = _; rw [HM2.out]; rfl); have q7 : w3.cell? ⟨I.bw, 3, none⟩ = some (.int .u64 (mv2 : Nat)) := blk_cell hW3.blk (i := 3) rfl; have q8 : w3.frozen? ⟨I.bw, 3, none⟩ = false := blk_free hW3.blk 3; have fr3 := fun o => hW3.free o; have HW3 : Hd _ := ⟨hW3⟩; clear hW3 HN)
          | (go_at_call 28; have hx : Calls Try.prog 28 #[.pointer (some ⟨c.ba, 0, none⟩)] w3 (fun e w' => e = .returned (.bool true) ∧ w3 = w') := by { have := ws_over HW3.out who hw (c.next I.n now2 pins2) (if_pos rfl); rw [HOv.out] at this; exact this }; (with_reducible refine hx.mono ?_); clear hx; rintro e w4 ⟨rfl, rfl⟩)
          | (go_at_call 32; have hx : Calls Try.prog 32 #[.pointer (some ⟨m, 0, none⟩)] (w3.setCell ⟨I.ball, who * 7 + 1, none⟩ (.pointer none)) (fun e w' => e = .returned (.bool true) ∧ (w3.setCell ⟨I.ball, who * 7 + 1, none⟩ (.pointer none)) = w') := by { have := ws_moved (HW3.out.put who 1 hw (by omega) (.pointer none)) who hw (c.next I.n now2 pins2) (if_pos rfl) m HM1.out; rw [HM.out] at this; exact this }; (with_reducible refine hx.mono ?_); clear hx; rintro e w4 ⟨rfl, rfl⟩))
        go_ret
        have hP := (HW3.out.drop.put who 1 hw (by omega) (.pointer none))
        exact ⟨rfl, _, col3, _, _, _, vg2, G2, mv2 + 1, (hP.own 3 _ vg2 (mv2 + 1) G2 (by rw [show ((mv2 + 1 : Nat) : Int) = (mv2 : Int) + 1 by omega]; exact blk4_set3 hP.blk _) hP.gone hP.cg hP.turns).redc _ (dc_eq (X := { X2 with act := fset X2.act who none }) (fun i hi => by by_cases e : i = who <;> simp [e, upd2, dcOf, fset, ptrV])), HI3.out.mono (by omega)⟩
      · rw [hn, hp] at HSt
        have HK : Hd _ := ⟨hk⟩
        have HM : Hd _ := ⟨hm⟩
        have HM1 : Hd _ := ⟨hm1⟩
        have HM2 : Hd _ := ⟨hm2⟩
        have HI3 : Hd _ := ⟨hI3⟩
        have hmvn : mv2 ≤ 3000 := by rw [hmvb]; omega
        clear hk hn hp hm hm1 hm2 hI3 hmvb
        go_wp2_with (first
          | (go_at_call 31; (with_reducible refine HSt.out.mono ?_); clear HSt q0 q1; rintro e w3 ⟨rfl, HN⟩; obtain ⟨col3, hW3⟩ := HN.out; have q0 : w3.cell? ⟨I.bw, 0, none⟩ = some (.pointer (some ⟨I.b, 0, none⟩)) := blk_cell hW3.blk (i := 0) rfl; have q1 : w3.cell? ⟨I.ball, who * 7 + 1, none⟩ = some (.pointer (some ⟨c.ba, 0, none⟩)) := (hW3.num who 1 hw (by omega)).trans (by show some (ptrV (X2.act who)) = _; rw [HI2.out.link who hw, HC2.out]; rfl); have q3 : w3.cell? ⟨I.ball, who * 7 + 3, none⟩ = some (.int .u8 2) := (hW3.num who 3 hw (by omega)).trans (by show some (Value.int .u8 (X2.kind who : Nat)) = _; rw [HK.out]; rfl); have q4 : w3.cell? ⟨I.ball, who * 7 + 4, none⟩ = some (.bool (X2.pinned who)) := hW3.num who 4 hw (by omega); have q5 : w3.cell? ⟨I.ball, who * 7 + 5, none⟩ = some (.int .u64 (X2.since who : Nat)) := hW3.num who 5 hw (by omega); have q6 : w3.cell? ⟨I.ball, who * 7 + 6, none⟩ = some (.int .i64 (X2.turn who : Nat)) := hW3.num who 6 hw (by omega); have q2 : w3.cell? ⟨I.ball, who * 7 + 2, none⟩ = some (.pointer (some ⟨m, 0, none⟩)) := (hW3.num who 2 hw (by omega)).trans (by show some (ptrV (X2.mov who)) = _; rw [HM2.out]; rfl); have q7 : w3.cell? ⟨I.bw, 3, none⟩ = some (.int .u64 (mv2 : Nat)) := blk_cell hW3.blk (i := 3) rfl; have q8 : w3.frozen? ⟨I.bw, 3, none⟩ = false := blk_free hW3.blk 3; have fr3 := fun o => hW3.free o; have HW3 : Hd _ := ⟨hW3⟩; clear hW3 HN)
          | (go_at_call 28; have hx : Calls Try.prog 28 #[.pointer (some ⟨c.ba, 0, none⟩)] w3 (fun e w' => e = .returned (.bool true) ∧ w3 = w') := by { have := ws_over HW3.out who hw (c.next I.n now2 pins2) (if_pos rfl); rw [HOv.out] at this; exact this }; (with_reducible refine hx.mono ?_); clear hx; rintro e w4 ⟨rfl, rfl⟩)
          | (go_at_call 32; have hx : Calls Try.prog 32 #[.pointer (some ⟨m, 0, none⟩)] (w3.setCell ⟨I.ball, who * 7 + 1, none⟩ (.pointer none)) (fun e w' => e = .returned (.bool false) ∧ (w3.setCell ⟨I.ball, who * 7 + 1, none⟩ (.pointer none)) = w') := by { have := ws_moved (HW3.out.put who 1 hw (by omega) (.pointer none)) who hw (c.next I.n now2 pins2) (if_pos rfl) m HM1.out; rw [HM.out] at this; exact this }; (with_reducible refine hx.mono ?_); clear hx; rintro e w4 ⟨rfl, rfl⟩))
        go_ret
        exact ⟨rfl, _, col3, now2, _, _, vg2, G2, mv2, (HW3.out.drop.put who 1 hw (by omega) (.pointer none)).redc _ (dc_eq (X := { X2 with act := fset X2.act who none }) (fun i hi => by by_cases e : i = who <;> simp [e, upd2, dcOf, fset, ptrV])), HI3.out.mono (by omega)⟩
end Go.Proofs.Ytkjppffkjofamaa
