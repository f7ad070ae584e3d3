/- Trees: the law's Stand at any good messages: a tree that tells of them. No condition but those that each contract bears. -/
import Derived.Test.YtkcnakaneiocjaaTrGood
set_option linter.unusedVariables false
set_option linter.unusedSimpArgs false
namespace Go.Proofs.Ytkcnakaneiocjaa.PTr
open Go.RowKit Go.Proofs.YtkcnakaneiocjaaW.PrintWords Go.Proofs.YtkcnakaneiocjaaW.PrintLast Go.Proofs.YtkcnakaneiocjaaW.PrintMore
set_option maxRecDepth 100000 in
theorem stand_nil (W : World) (A : Option Addr) (cap : Nat) (gap more : Int) :
    Calls Try.prog 7 #[.slice A 0 cap, .int .i64 gap, .int .i64 more] W fun e w' => e = .returned (.tuple #[.slice none 0 0, .agg #[.int .i64 (-1), .int .i64 0]]) ∧ Hd (Below W.heap.size W w') := by
  have HB0 := Hd.mk (Below.refl W.heap.size W)
  go_enter Try.func7, Try.ntmps7
  go_wp2
  refine bodyPost_ret (res_stand rfl _ _ W.heap.size (-1) 0 (.slice none 0 0) rfl rfl (heap_alloc_new W _)) rfl ?_
  exact ⟨rfl, ⟨below_alloc HB0.out _⟩⟩
/-- The tree of messages: its height, its nodes, its root. -/
def hgtOf (l : List Rec) (more : Nat) : Nat := if l.length = 0 then 0 else min 8 (hgtN l + more)
def treeN (l : List Rec) (gap more : Nat) : List Nd := if l.length = 0 then [] else shelf gap (build (hgtOf l more) 0 l)
def rootOf (l : List Rec) (gap : Nat) : Int := if l.length = 0 then -1 else (gap : Int)
/-- Stand at good messages. -/
theorem stand_good {W : World} {A : Option Addr} (cap : Nat) (l : List Rec) (hl : RdAt A l W) (hln : l.length ≤ 1000) (hc : Kd.C k41 W A l.length l) (hcap : l.length ≤ cap) (hu : ∀ x ∈ l, 0 ≤ x.f0 ∧ x.f0 < 4294967296) (hinc : Inc l 0) (gap : Nat) (hgap : gap ≤ 1000) (more : Nat) (hmore : more ≤ 1000) :
    IsTree l (treeN l gap more) (rootOf l gap) (hgtOf l more) ∧ Calls Try.prog 7 #[.slice A l.length cap, .int .i64 (gap : Int), .int .i64 (more : Int)] W fun e w' => ∃ A' c', e = .returned (.tuple #[.slice A' (treeN l gap more).length c', .agg #[.int .i64 (rootOf l gap), .int .i64 (hgtOf l more : Int)]]) ∧ Hd (ShAt A' (treeN l gap more) w' ∧ Below W.heap.size W w') := by
  by_cases h0 : 0 < l.length
  · have h1 : hgtN l ≤ 8 ∧ 1 ≤ hgtN l := by unfold hgtN; rw [dif_pos h0]; have := need_range (l[l.length - 1]).f0; omega
    have hs := inc_srt hinc
    obtain ⟨hgt, hhg⟩ : ∃ hgt, hgt = min 8 (hgtN l + more) := ⟨_, rfl⟩
    have hg1 : 1 ≤ hgt := by omega
    have hg8 : hgt ≤ 8 := by omega
    have hgn : hgtN l ≤ hgt := by omega
    have hne : l ≠ [] := List.length_pos_iff.1 h0
    have hlen := build_len hgt 0 l hne
    have hlen2 : (build hgt 0 l).length ≤ 9000 := by
      have : (hgt + 1) * l.length ≤ 9 * l.length := Nat.mul_le_mul_right _ (by omega)
      omega
    have e1 : hgtOf l more = hgt := by unfold hgtOf; rw [if_neg (by omega), hhg]
    have e2 : treeN l gap more = shelf gap (build hgt 0 l) := by unfold treeN; rw [if_neg (by omega), e1]
    have e3 : rootOf l gap = (gap : Int) := by unfold rootOf; rw [if_neg (by omega)]
    have hx := stand_any cap l h0 hl hln gap hgap more hmore hc hcap hgt (hgtN l) h1.1 hhg hg1 (hgt_f l (by omega) hu 20 (by decide)) hu (all_same hu hgt (all_lt hs hu hgt hg1 hgn)) hs (fun r hr k _ => by have := (build_ok hgt 0 l hne r hr).2.2 k; omega)
    rw [e1, e2, e3]
    exact ⟨isTree_build l hne hln hu hs gap hgap hgt hg1 hg8 hgn, hx⟩
  · have hz : l = [] := List.eq_nil_of_length_eq_zero (by omega)
    subst hz
    have hx := stand_nil W A cap gap more
    have hx' : Calls Try.prog 7 #[.slice A ([] : List Rec).length cap, .int .i64 (gap : Int), .int .i64 (more : Int)] W fun e w' => e = .returned (.tuple #[.slice none 0 0, .agg #[.int .i64 (-1), .int .i64 0]]) ∧ Hd (Below W.heap.size W w') := hx
    refine ⟨isTree_nil, ?_⟩
    (with_reducible refine hx'.mono ?_)
    rintro e w' ⟨rfl, hd⟩
    exact ⟨none, 0, rfl, ⟨⟨fun hn => absurd hn (by simp [treeN])⟩, hd.out⟩⟩
end Go.Proofs.Ytkcnakaneiocjaa.PTr
