/- Turn over acts of any kind. No condition but those that it bears. -/
import Derived.Test.YtkjppffkjofamaaDrive
set_option linter.unusedVariables false
set_option linter.unusedSimpArgs false
namespace Go.Proofs.Ytkjppffkjofamaa
open Go.RowKit
variable {Q : (Nat → Nat) → (Nat → Prop) → World → Prop} {n : Nat} {bs ns : Nat → Nat}
def pick (p : Int) (n : Nat) : Nat := (p % n).toNat
def turned (ns : Nat → Nat) (n : Nat) (ps : List Int) (did : Nat → Nat) : Nat → (Nat → Nat) × Nat
  | 0 => (did, 0)
  | k + 1 => if (turned ns n ps did k).1 (pick (nth ps k) n) < ns (pick (nth ps k) n) then (bump (turned ns n ps did k).1 (pick (nth ps k) n), (turned ns n ps did k).2 + 1) else turned ns n ps did k
theorem turned_yes {ns did : Nat → Nat} {n k : Nat} {ps : List Int} (h : (turned ns n ps did k).1 (pick (nth ps k) n) < ns (pick (nth ps k) n)) : turned ns n ps did (k + 1) = (bump (turned ns n ps did k).1 (pick (nth ps k) n), (turned ns n ps did k).2 + 1) := if_pos h
theorem turned_no {ns did : Nat → Nat} {n k : Nat} {ps : List Int} (h : ¬ (turned ns n ps did k).1 (pick (nth ps k) n) < ns (pick (nth ps k) n)) : turned ns n ps did (k + 1) = turned ns n ps did k := if_neg h
theorem pick_lt (p : Int) (n : Nat) (h : 0 < n) : pick p n < n ∧ ((pick p n : Nat) : Int) = p % n := by
  have h0 : 0 ≤ p % (n : Int) := Int.emod_nonneg _ (by omega)
  have h1 : p % (n : Int) < n := Int.emod_lt_of_pos _ (by omega)
  unfold pick
  omega
theorem pick_tmod (p : Int) (n : Nat) (h : 0 < n) (h2 : n ≤ 10) : (wrap64 (p.tmod n + n)).tmod n = (pick p n : Nat) := by
  rw [(pick_lt p n h).2]
  have h3 : p.tmod n < n := Int.tmod_lt_of_pos p (by omega)
  have h1 : -(n : Int) < p.tmod n := by have := Int.lt_tmod_of_pos p (show (0 : Int) < n by omega); omega
  rw [show wrap64 (p.tmod n + n) = p.tmod n + n by unfold wrap64; omega, Int.tmod_eq_emod_of_nonneg (by omega), Int.add_emod_right, Int.tmod_def]
  exact Int.sub_mul_emod_self_left _ _ _
set_option maxHeartbeats 2000000 in
theorem turn_any {w : World} {did : Nat → Nat} {foot : Nat → Prop} (D : Drive Q n bs ns) (h : Q did foot w) (hn : 0 < n)
    (ps : List Int) (bp op capp ba oa capa : Nat) (hp : ∀ i, i < ps.length → w.cell? ⟨bp, op + i, none⟩ = some (.int .i64 (nth ps i))) (ha : ∀ i, i < n → w.cell? ⟨ba, oa + i, none⟩ = some (.pointer (some ⟨bs i, 0, none⟩)))
    (hbp : bp < w.heap.size) (hba : ba < w.heap.size) (fp : ¬ foot bp) (fa : ¬ foot ba) (hl : ps.length ≤ 200) :
    Calls Try.prog 26 #[.slice (some ⟨bp, op, none⟩) ps.length capp, .slice (some ⟨ba, oa, none⟩) n capa] w fun e w' => e = .returned (.int .i64 ((turned ns n ps did ps.length).2 : Nat)) ∧ Driven Q (turned ns n ps did ps.length).1 foot w w' := by
  have HP : Hd _ := ⟨hp⟩
  have HA : Hd _ := ⟨ha⟩
  have HF : Hd _ := ⟨h⟩
  have hn10 := D.n10
  have hne : ((n : Int) == 0) = false := beq_eq_false_iff_ne.2 (by omega)
  clear hp ha h
  go_enter Try.func26, Try.ntmps26
  go_wp2_with fail
  go_loopw [5, 11] (fun m i wr => ∃ k : Nat, k ≤ ps.length ∧ i = .int .i64 k ∧ m = .int .i64 ((turned ns n ps did k).2 : Nat) ∧ (turned ns n ps did k).2 ≤ k ∧ Hd (Driven Q (turned ns n ps did k).1 foot w wr)) (fun _ i _ => ps.length - (intOf i).toNat)
  case atStart => exact ⟨0, Nat.zero_le _, rfl, rfl, Nat.le_refl _, ⟨Driven.same D HF.out⟩⟩
  case round =>
    obtain ⟨k, hk, rfl, rfl, hmk, HR⟩ := hrel
    by_cases hlt : k < ps.length
    · obtain ⟨hF, hT, hKO⟩ := HR.out
      have hcell : wr.cell? ⟨bp, op + k, none⟩ = some (.int .i64 (nth ps k)) := (hT.cell (p := ⟨bp, op + k, none⟩) hbp fp).trans (HP.out k hlt)
      have hlo : (0 : Int) ≤ (k : Int) := by omega
      have hhi : (k : Int) < (ps.length : Int) := by omega
      have HF2 : Hd _ := ⟨hF⟩
      have HT2 : Hd _ := ⟨hT⟩
      have HK2 : Hd _ := ⟨hKO⟩
      clear hF hT hKO HR
      obtain ⟨hpl, hpe⟩ := pick_lt (nth ps k) n hn
      have htm := pick_tmod (nth ps k) n hn hn10
      obtain ⟨i, hi⟩ : ∃ i, pick (nth ps k) n = i := ⟨_, rfl⟩
      rw [hi] at htm hpl
      have hq0 : (0 : Int) ≤ (i : Int) := by omega
      have hq1 : (i : Int) < (n : Int) := by omega
      have hcell2 : wr.cell? ⟨ba, oa + i, none⟩ = some (.pointer (some ⟨bs i, 0, none⟩)) := (HT2.out.cell (p := ⟨ba, oa + i, none⟩) hba fa).trans (HA.out i hpl)
      have hle := D.le HF2.out i hpl
      by_cases hd : (turned ns n ps did k).1 i < ns i
      · have hst : turned ns n ps did (k + 1) = (bump (turned ns n ps did k).1 i, (turned ns n ps did k).2 + 1) := by rw [← hi]; rw [← hi] at hd; exact turned_yes hd
        have hov := D.over HF2.out i hpl
        rw [decide_eq_false (by omega)] at hov
        have HO : Hd _ := ⟨hov⟩
        have HS : Hd _ := ⟨D.step HF2.out i hpl hd⟩
        clear hov hpe
        go_wp2_with (go_at_call 28; refine HO.out.mono ?_; rintro e w' ⟨rfl, rfl⟩)
        refine HS.out.mono ?_
        rintro e w2 ⟨rfl, hF2⟩
        have HF3 : Hd _ := ⟨hF2⟩
        clear hF2
        go_wp2_with fail
        go_roundw
        case rel => exact ⟨k + 1, by omega, by go_num, by rw [hst]; go_num, by rw [hst]; exact Nat.succ_le_succ hmk, ⟨by rw [hst]; exact Driven.step D HT2.out HK2.out (fun k hk => D.foot_lt HF2.out k (.inl hk)) HF3.out⟩⟩
        case measure => simp [intOf]; omega
      · have hst : turned ns n ps did (k + 1) = turned ns n ps did k := by rw [← hi] at hd; exact turned_no hd
        have hov := D.over HF2.out i hpl
        rw [decide_eq_true (by omega)] at hov
        have HO : Hd _ := ⟨hov⟩
        clear hov hpe
        go_wp2_with (go_at_call 28; refine HO.out.mono ?_; rintro e w' ⟨rfl, rfl⟩)
        go_roundw
        case rel => exact ⟨k + 1, by omega, by go_num, by rw [hst], by rw [hst]; omega, ⟨by rw [hst]; exact ⟨HF2.out, HT2.out, HK2.out⟩⟩⟩
        case measure => simp [intOf]; omega
    · obtain rfl : k = ps.length := by omega
      go_wp2_with fail
      go_ret
      exact ⟨rfl, HR.out⟩
theorem turn_idle (A : Option Addr) (capp : Nat) (B : Option Addr) (lb capb : Nat) (w : World) :
    Calls Try.prog 26 #[.slice A 0 capp, .slice B lb capb] w fun e w' => e = .returned (.int .i64 0) ∧ w = w' := by
  go_enter Try.func26, Try.ntmps26
  go_wp2_with fail
  go_loopw [5, 11] (fun m i wr => i = .int .i64 0 ∧ m = .int .i64 0 ∧ wr = w) (fun _ _ _ => 0)
  case atStart => exact ⟨rfl, rfl, rfl⟩
  case round =>
    obtain ⟨rfl, rfl, rfl⟩ := hrel
    go_wp2
    go_ret
    exact ⟨rfl, rfl⟩
theorem turn_none (bp op : Nat) (ps : List Int) (capp : Nat) (B : Option Addr) (capb : Nat) (w : World) (hp : w.cell? ⟨bp, op, none⟩ = some (.int .i64 (nth ps 0))) (hl : 0 < ps.length) :
    Calls Try.prog 26 #[.slice (some ⟨bp, op, none⟩) ps.length capp, .slice B 0 capb] w fun e w' => e = .returned (.int .i64 0) ∧ w = w' := by
  have hlo : (0 : Int) < (ps.length : Int) := by omega
  go_enter Try.func26, Try.ntmps26
  go_wp2_with fail
  go_loopw [5, 11] (fun m i wr => i = .int .i64 0 ∧ m = .int .i64 0 ∧ wr = w) (fun _ _ _ => 0)
  case atStart => exact ⟨rfl, rfl, rfl⟩
  case round =>
    obtain ⟨rfl, rfl, rfl⟩ := hrel
    go_wp2
    go_ret
    exact ⟨rfl, rfl⟩
end Go.Proofs.Ytkjppffkjofamaa
