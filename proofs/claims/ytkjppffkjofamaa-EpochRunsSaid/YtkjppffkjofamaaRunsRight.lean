/- The law EpochRuns: the law's right, walked. No condition but those that each contract bears. -/
import Derived.Test.YtkjppffkjofamaaRunsLem
import Derived.Deep.QuietTactic
import Derived.BigQuiet
set_option linter.unusedVariables false
set_option linter.unusedSimpArgs false
namespace Go.Proofs.Ytkjppffkjofamaa
open Go.RowKit Go.Shelf
theorem gcs_get (n : Nat) : ∀ (G : List Away) (k : Nat) (h : k < G.length), (gcs n G)[k * 2]? = some (.int .u64 (G[k].ep : Nat)) ∧ (gcs n G)[k * 2 + 1]? = some (.slice (some ⟨G[k].blk, 0, none⟩) n G[k].cap)
  | [], k, h => absurd h (Nat.not_lt_zero k)
  | p :: ks, 0, _ => ⟨rfl, rfl⟩
  | p :: ks, k + 1, h => by
    have ih := gcs_get n ks k (by simpa using h)
    rw [show (k + 1) * 2 = k * 2 + 1 + 1 by omega]
    exact ih
theorem away_row {w : World} {base n : Nat} {v : Value} {G : List Away} (h : w.ownsRow base 87 2 v G.length (gcs n G)) (k : Nat) (hk : k < G.length) : ∃ g cap, v = .slice (some ⟨g, 0, none⟩) G.length cap ∧ w.cell? ⟨g, k * 2, none⟩ = some (.int .u64 (G[k].ep : Nat)) ∧ w.cell? ⟨g, k * 2 + 1, none⟩ = some (.slice (some ⟨G[k].blk, 0, none⟩) n G[k].cap) := by
  rcases h.2 with ⟨_, h0⟩ | ⟨g, cap, cur, hv, hb, hg, _, _, hc, ht⟩
  · omega
  · refine ⟨g, cap, hv, ?_, ?_⟩
    · obtain ⟨h1, _⟩ := gcs_get n G k hk
      rw [← ht, List.getElem?_take, if_pos (by omega), Array.getElem?_toList] at h1
      exact blk_cell hg h1
    · obtain ⟨_, h1⟩ := gcs_get n G k hk
      rw [← ht, List.getElem?_take, if_pos (by omega), Array.getElem?_toList] at h1
      exact blk_cell hg h1
set_option maxRecDepth 100000 in
set_option maxHeartbeats 8000000 in
theorem right_law {W0 w : World} {I : Ids} {B : Nat} (h : RS W0 w I B) (hB : B ≤ 3000) :
    Calls Try.prog 16 #[.pointer (some ⟨I.bw, 0, none⟩)] w fun e w' => e = .returned (.bool true) ∧ ∃ m, w' = w.drewN m := by
  obtain ⟨X, col, now, pins, cur, vg, G, mv, hW, hI⟩ := h
  have n8 := hW.ep.n8
  have k0 : w.cell? ⟨I.bw, 0, none⟩ = some (.pointer (some ⟨I.b, 0, none⟩)) := blk_cell hW.blk (i := 0) rfl
  have k1 : w.cell? ⟨I.bw, 1, none⟩ = some (.slice (some ⟨I.ball, 0, none⟩) I.n I.n) := blk_cell hW.blk (i := 1) rfl
  have k2 : w.cell? ⟨I.bw, 2, none⟩ = some vg := blk_cell hW.blk (i := 2) rfl
  have k3 : w.cell? ⟨I.bw, 3, none⟩ = some (.int .u64 (now : Nat)) := by have := blk_cell hW.blk (i := 3) rfl; rw [← hI.mv]; exact this
  have hnow := hI.nt
  have hgl : G.length ≤ 3000 := Nat.le_trans hI.gl hB
  obtain ⟨Ag, cg, hvg⟩ := ownsRow_slice hW.gone
  subst hvg
  have HNow : Hd _ := ⟨now_ep hW.ep⟩
  have HW : Hd _ := ⟨hW⟩
  have HI : Hd _ := ⟨hI⟩
  clear hW hI
  go_enter Try.func16, Try.ntmps16
  go_wp2_with (first | (go_at_call 20; (with_reducible refine HNow.out.mono ?_); rintro e w2 ⟨rfl, rfl⟩))
  go_loop [4] (fun i => ∃ j : Nat, j ≤ I.n ∧ i = .int .i64 j) (fun i => I.n - (intOf i).toNat)
  case atStart => exact ⟨0, Nat.zero_le _, rfl⟩
  case round =>
    obtain ⟨j, hj, rfl⟩ := hrel
    by_cases hjl : j < I.n
    · have e4 : w.cell? ⟨I.ball, j * 7 + 4, none⟩ = some (.bool (X.pinned j)) := HW.out.num j 4 hjl (by omega)
      have e5 : w.cell? ⟨I.ball, j * 7 + 5, none⟩ = some (.int .u64 (X.since j : Nat)) := HW.out.num j 5 hjl (by omega)
      have hjo : (0 : Int) ≤ (j : Int) := by omega
      have hjh : (j : Int) < (I.n : Int) := by omega
      have hp := HI.out.pin j hjl
      obtain ⟨pj, hpj⟩ : ∃ pj, X.pinned j = pj := ⟨_, rfl⟩
      rw [hpj] at e4 hp
      clear hpj
      cases pj
      · clear hp
        go_wp2_with fail
        go_round
        case rel => exact ⟨j + 1, by omega, by go_num⟩
        case measure => simp [intOf]; omega
      · obtain ⟨h1, h2, _, _⟩ := hp rfl
        clear hp
        have hg1 : ((X.since j : Nat) : Int) ≤ (now : Int) := by omega
        have hg2 : (now : Int) ≤ ((X.since j : Nat) : Int) + 1 := by omega
        have hg3 : (now : Int) ≤ 3000 := by omega
        go_wp2_with fail
        go_round
        case rel => exact ⟨j + 1, by omega, by go_num⟩
        case measure => simp [intOf]; omega
    · obtain rfl : j = I.n := by omega
      clear HNow
      go_wp2_with fail
      go_loopw [5] (fun i wq => ∃ k : Nat, k ≤ G.length ∧ i = .int .i64 k ∧ Hd (∃ m, wq = w.drewN m)) (fun i _ => G.length - (intOf i).toNat)
      case atStart => exact ⟨0, Nat.zero_le _, rfl, ⟨0, rfl⟩⟩
      case round =>
        obtain ⟨k, hk, rfl, HD⟩ := hrel
        have r1 : wr.cell? ⟨I.bw, 1, none⟩ = some (.slice (some ⟨I.ball, 0, none⟩) I.n I.n) := by obtain ⟨m, rfl⟩ := HD.out; exact k1
        have r2 : wr.cell? ⟨I.bw, 2, none⟩ = some (.slice Ag G.length cg) := by obtain ⟨m, rfl⟩ := HD.out; exact k2
        by_cases hkl : k < G.length
        · obtain ⟨g, cg', hv, c0, c1⟩ := away_row HW.out.gone k hkl
          cases hv
          have hgep := (HI.out.gg G[k] (List.getElem_mem hkl))
          have htu := (HW.out.turns G[k] (List.getElem_mem hkl)).2
          obtain ⟨gk, hgk⟩ : ∃ gk, G[k] = gk := ⟨_, rfl⟩
          rw [hgk] at c0 c1 hgep htu
          have HT : Hd _ := ⟨htu⟩
          have HG : Hd _ := ⟨hgep.2⟩
          have hge := hgep.1
          have hgb : ((gk.ep : Nat) : Int) ≤ 3000 := by omega
          clear hgk hgep htu
          have r3 : wr.cell? ⟨g, k * 2, none⟩ = some (.int .u64 (gk.ep : Nat)) := by obtain ⟨m, rfl⟩ := HD.out; exact c0
          have r4 : wr.cell? ⟨g, k * 2 + 1, none⟩ = some (.slice (some ⟨gk.blk, 0, none⟩) I.n gk.cap) := by obtain ⟨m, rfl⟩ := HD.out; exact c1
          have hko : (0 : Int) ≤ (k : Int) := by omega
          have hkh : (k : Int) < (G.length : Int) := by omega
          have HC1 : Hd _ := ⟨c1⟩
          clear k0 k1 k2 k3 c0 c1
          by_cases hready : (now : Int) < ((gk.ep : Nat) : Int) + 2
          · go_wp2_with fail
            go_roundw
            case rel => exact ⟨k + 1, by omega, by go_num, HD⟩
            case measure => simp [intOf]; omega
          · go_wp2_with fail
            go_loopw [6] (fun i wq => ∃ j : Nat, j ≤ I.n ∧ i = .int .i64 j ∧ Hd (∃ m, wq = w.drewN m)) (fun i _ => I.n - (intOf i).toNat)
            case atStart => exact ⟨0, Nat.zero_le _, rfl, HD⟩
            case round =>
              obtain ⟨j, hj, rfl, HD2⟩ := hrel
              clear r1 r2 r3 r4
              have s1 : wr.cell? ⟨I.bw, 1, none⟩ = some (.slice (some ⟨I.ball, 0, none⟩) I.n I.n) := by obtain ⟨m, rfl⟩ := HD2.out; exact blk_cell HW.out.blk (i := 1) rfl
              by_cases hjl : j < I.n
              · have e4 : wr.cell? ⟨I.ball, j * 7 + 4, none⟩ = some (.bool (X.pinned j)) := by obtain ⟨m, rfl⟩ := HD2.out; exact HW.out.num j 4 hjl (by omega)
                have hjo : (0 : Int) ≤ (j : Int) := by omega
                have hjh : (j : Int) < (I.n : Int) := by omega
                obtain ⟨pj, hpj⟩ : ∃ pj, X.pinned j = pj := ⟨_, rfl⟩
                rw [hpj] at e4
                have HPj : Hd _ := ⟨hpj⟩
                clear hpj
                cases pj
                · go_wp2_with fail
                  go_quiet (fail)
                  go_wp2_with fail
                  go_roundw
                  case rel => exact ⟨j + 1, by omega, by go_num, ⟨by obtain ⟨m, rfl⟩ := HD2.out; exact ⟨_, by rw [World.drewN_drewN]⟩⟩⟩
                  case measure => simp [intOf]; omega
                · have s2 : wr.cell? ⟨I.bw, 2, none⟩ = some (.slice (some ⟨g, 0, none⟩) G.length cg) := by obtain ⟨m, rfl⟩ := HD2.out; exact blk_cell HW.out.blk (i := 2) rfl
                  have s4 : wr.cell? ⟨g, k * 2 + 1, none⟩ = some (.slice (some ⟨gk.blk, 0, none⟩) I.n gk.cap) := by obtain ⟨m, rfl⟩ := HD2.out; exact HC1.out
                  have e6 : wr.cell? ⟨I.ball, j * 7 + 6, none⟩ = some (.int .i64 (X.turn j : Nat)) := by obtain ⟨m, rfl⟩ := HD2.out; exact HW.out.num j 6 hjl (by omega)
                  have et : wr.cell? ⟨gk.blk, j, none⟩ = some (.int .i64 (gk.turn j)) := by obtain ⟨m, rfl⟩ := HD2.out; exact HT.out j hjl
                  have hne : (gk.turn j == ((X.turn j : Nat) : Int)) = false := beq_eq_false_iff_ne.2 (fun e => by
                    have h1 := (HG.out j hjl).2 HPj.out e
                    have h2 := (HI.out.pin j hjl HPj.out).2.1
                    omega)
                  go_wp2_with fail
                  go_quiet (fail)
                  go_wp2_with fail
                  go_roundw
                  case rel => exact ⟨j + 1, by omega, by go_num, ⟨by obtain ⟨m, rfl⟩ := HD2.out; exact ⟨_, by rw [World.drewN_drewN]⟩⟩⟩
                  case measure => simp [intOf]; omega
              · obtain rfl : j = I.n := by omega
                go_wp2_with fail
                go_roundw
                case rel => exact ⟨k + 1, by omega, by go_num, HD2⟩
                case measure => simp [intOf]; omega
        · obtain rfl : k = G.length := by omega
          go_wp2_with fail
          go_ret
          exact ⟨rfl, HD.out⟩
end Go.Proofs.Ytkjppffkjofamaa
