/- Going at a fleet. No condition but those that it bears. -/
import Derived.Test.YthghndjfghdnnaaActTurn
import Derived.Test.YthghndjfghdnnaaRange
import Derived.RangeFuncBound
import Derived.RangeFuncCalls
import Derived.Shelf.Abstract
import Derived.Shelf.RegionOpen
import Derived.OwnWalkIn
import Derived.TacticsInMore
import Derived.LoopNIn
import Derived.LoopIn
import Derived.WalkMore
namespace Go.Proofs.Ythghndjfghdnnaa
open Go.RowKit Go.Shelf
attribute [local go_sem] Oper.semAt_some
/-- The acts below k that go on. -/
def going (ns did : Nat → Nat) : Nat → List Nat
  | 0 => []
  | k + 1 => if did k < ns k then going ns did k ++ [k] else going ns did k
theorem going_lt {ns did : Nat → Nat} {k i : Nat} (h : i ∈ going ns did k) : i < k ∧ did i < ns i := by
  induction k with
  | zero => exact absurd h (List.not_mem_nil)
  | succ k ih =>
    unfold going at h
    split at h
    · rcases List.mem_append.1 h with h | h
      · exact ⟨by have := ih h; omega, (ih h).2⟩
      · rw [List.mem_singleton.1 h]; exact ⟨by omega, by assumption⟩
    · exact ⟨by have := ih h; omega, (ih h).2⟩
theorem going_mem {ns did : Nat → Nat} {k i : Nat} (h : i < k) (hd : did i < ns i) : i ∈ going ns did k := by
  induction k with
  | zero => omega
  | succ k ih =>
    unfold going
    by_cases e : i = k
    · subst e; rw [if_pos hd]; simp
    · split
      · exact List.mem_append_left _ (ih (by omega))
      · exact ih (by omega)
theorem going_any (A : Option Addr) (n c : Nat) (w : World) : Calls Try.prog 37 #[.slice A n c] w fun e w' => e = .returned (.func (.func 44) #[] #[.pointer (some ⟨w.heap.size, 0, none⟩)]) ∧ w' = w.alloc (.cells #[.slice A n c] 65) := by
  go_enter Try.func37, Try.ntmps37
  go_wp2
  go_ret
  exact ⟨rfl, rfl⟩
def encAct (bs : Nat → Nat) (i : Nat) : Array Value := #[.int .i64 i, .pointer (some ⟨bs i, 0, none⟩)]
/-- What the walk through the acts hears of its caller. -/
def ActsAt (A : Option Addr) (n : Nat) (bs : Nat → Nat) (W : World) : Prop := ∀ j, j < n → ∃ ba oa, A = some ⟨ba, oa, none⟩ ∧ W.cell? ⟨ba, oa + j, none⟩ = some (.pointer (some ⟨bs j, 0, none⟩))
theorem ActsAt.touch {S : Nat → Prop} {A : Option Addr} {n : Nat} {bs : Nat → Nat} {w W : World} (h : ActsAt A n bs w) (ht : Touch S w W) (hf : ∀ ba oa, A = some ⟨ba, oa, none⟩ → ba < w.heap.size ∧ ¬ S ba) : ActsAt A n bs W := fun j hj => by
  obtain ⟨ba, oa, e, hc⟩ := h j hj
  exact ⟨ba, oa, e, (ht.cell (p := ⟨ba, oa + j, none⟩) (hf ba oa e).1 (hf ba oa e).2).trans hc⟩
def GoNeed (base lb : Nat) (lo : Nat → Nat) (no n : Nat) (bs ns did0 : Nat → Nat) (gb : Nat) (A : Option Addr) (capa : Nat) (pre : List Nat) (W : World) : Prop :=
  W.cell? ⟨gb, 0, none⟩ = some (.slice A n capa) ∧ ActsAt A n bs W ∧
  ∃ did row foot, Fleet W base lb lo no n bs ns did row foot ∧ ∀ k, pre = going ns did0 k → ∀ j, k ≤ j → did j = did0 j
def GoCan (n : Nat) (ns did0 : Nat → Nat) (pre : List Nat) (i : Nat) : Prop := i < n ∧ did0 i < ns i ∧ pre = going ns did0 i
theorem going_hears {base lb : Nat} {lo : Nat → Nat} {no n : Nat} {bs ns did0 : Nat → Nat} {gb capa : Nat} {A : Option Addr} (I : List Nat → World → Prop) (hI : ∀ pre W, I pre W → GoNeed base lb lo no n bs ns did0 gb A capa pre W) (m : Nat) :
    SeqHears Fence.wide m Try.prog 44 #[.pointer (some ⟨gb, 0, none⟩)] (encAct bs) I (GoCan n ns did0) (fun xs => xs = going ns did0 n) := by
  intro l J W hJ h0 hY
  obtain ⟨hg, ha, _, _, _, hF, _⟩ := hI _ _ (hJ _ _ h0)
  have hn10 := hF.n10
  have HY : Hd _ := ⟨hY⟩
  have HJ : Hd _ := ⟨hJ⟩
  have HI : Hd _ := ⟨hI⟩
  have H0 : Hd _ := ⟨h0⟩
  clear ha hF hY hJ hI h0
  refine callsIn_of_wp Try.func44 rfl trivial ?_ rfl
  simp only [Try.ntmps44, List.size_toArray, List.length_cons, List.length_nil, Nat.reduceAdd, Nat.reduceSub, Array.replicate_succ, Array.replicate_zero, List.push_toArray, List.append_toArray, List.nil_append, List.cons_append]
  refine wpIn_wide.2 ?_
  go_step3
  refine wp_seq (wp_label ?_)
  show Code.wp _ _ _ _ _
  refine (wpIn_wide (n := m)).1 ?_
  gi_wp2
  gi_loopw [7] (fun i wr => ∃ k : Nat, k ≤ n ∧ i = .int .i64 k ∧ Hd (J (going ns did0 k) wr)) (fun i _ => n - (intOf i).toNat)
  case atStart => exact ⟨0, Nat.zero_le _, rfl, H0⟩
  case round =>
    obtain ⟨k, hk, rfl, HK⟩ := hrel
    by_cases hlt : k < n
    · obtain ⟨_, ha, did, row, foot, hF, hd⟩ := HI.out _ _ (HJ.out _ _ HK.out)
      have hdk := hd k rfl k (Nat.le_refl _)
      obtain ⟨ba, oa, rfl, hcell⟩ := ha k hlt
      have hlo : (0 : Int) ≤ (k : Int) := by omega
      have hhi : (k : Int) < (n : Int) := by omega
      have hov := fleet_over hF k hlt
      rw [hdk] at hov
      have hle := hF.le k hlt
      rw [hdk] at hle
      clear ha hd hF
      by_cases hgo : did0 k < ns k
      · rw [decide_eq_false (by omega)] at hov
        have HO : Hd _ := ⟨hov⟩
        clear hov
        obtain ⟨fn, tmps, assign, body, hy, hR⟩ := HY.out (going ns did0 k) k wr HK.out ⟨hlt, hgo, rfl⟩
        have HR : Hd _ := ⟨hR⟩
        clear hR
        dsimp only [encAct] at hy
        gi_wp2
        refine And.intro trivial (And.intro (fun h => absurd h (by simp [Fence.wide])) ((callsIn_wide.2 HO.out).mono ?_))
        rintro e w' ⟨rfl, rfl⟩
        gi_wp2
        refine And.intro (fun h => absurd h (by simp [Fence.wide])) (HR.out.mono ?_)
        rintro e W2 ⟨rfl, hJ2⟩
        have HJ2 : Hd (J (going ns did0 (k + 1)) W2) := ⟨by unfold going; rw [if_pos hgo]; exact hJ2⟩
        clear hJ2
        gi_wp2
        go_roundw
        case rel => exact ⟨k + 1, by omega, by go_num, HJ2⟩
        case measure => simp [intOf]; omega
      · rw [decide_eq_true (by omega)] at hov
        have HO : Hd _ := ⟨hov⟩
        clear hov
        gi_wp2
        refine And.intro trivial (And.intro (fun h => absurd h (by simp [Fence.wide])) ((callsIn_wide.2 HO.out).mono ?_))
        rintro e w' ⟨rfl, rfl⟩
        gi_wp2
        go_roundw
        case rel => exact ⟨k + 1, by omega, by go_num, by unfold going; rw [if_neg hgo]; exact HK⟩
        case measure => simp [intOf]; omega
    · obtain rfl : k = n := by omega
      gi_wp2
      simp only [Exit.noGoto]
      go_end0
      exact ⟨⟨_, rfl⟩, _, rfl, HK.out⟩
end Go.Proofs.Ythghndjfghdnnaa
