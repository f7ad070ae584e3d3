/- Trees, in plain terms: bounds on the nodes that Build lays. No program in sight. No condition. -/
import Derived.Test.YtkcnakaneiocjaaTrBuildP
set_option linter.unusedVariables false
set_option linter.unusedSimpArgs false
namespace Go.Proofs.Ytkcnakaneiocjaa.PTr
def NodeOk (m : Nat) (top : Nat) (r : Rn) : Prop := 0 ≤ r.cnt ∧ r.cnt ≤ (m : Int) ∧ ∀ k, r.kid k ≤ (top : Int)
theorem NodeOk.mono {m m' t t' : Nat} {r : Rn} (h : NodeOk m t r) (h1 : m ≤ m') (h2 : t ≤ t') : NodeOk m' t' r :=
  ⟨h.1, Int.le_trans h.2.1 (by omega), fun k => Int.le_trans (h.2.2 k) (by omega)⟩
theorem stB_ok (bl : Nat → List Rec → List Rn) (l : List Rec) (h : Nat) (hbl : ∀ b m, m ≠ [] → ∀ r ∈ bl b m, NodeOk m.length (b + (bl b m).length) r) (b : Nat) : ∀ d,
    (∀ k, (stB bl l h b d).1 k ≤ ((b + (stB bl l h b d).2.length : Nat) : Int)) ∧ ∀ r ∈ (stB bl l h b d).2, NodeOk l.length (b + (stB bl l h b d).2.length) r
  | 0 => ⟨fun k => by show (0 : Int) ≤ _; omega, fun r hr => by cases hr⟩
  | d + 1 => by
    obtain ⟨h1, h2⟩ := stB_ok bl l h hbl b d
    have e : stB bl l h b (d + 1) = if part l h d = [] then (upd (stB bl l h b d).1 d (-1), (stB bl l h b d).2) else
      (upd (stB bl l h b d).1 d ((b + (stB bl l h b d).2.length : Nat) : Int), (stB bl l h b d).2 ++ bl (b + (stB bl l h b d).2.length) (part l h d)) := rfl
    rw [e]
    split
    · refine ⟨fun k => ?_, h2⟩
      show upd _ _ _ k ≤ _
      unfold upd
      split
      · omega
      · exact h1 k
    · next hp =>
      have hl2 : ((stB bl l h b d).2 ++ bl (b + (stB bl l h b d).2.length) (part l h d)).length = (stB bl l h b d).2.length + (bl (b + (stB bl l h b d).2.length) (part l h d)).length := List.length_append
      refine ⟨fun k => ?_, fun r hr => ?_⟩
      · show upd _ _ _ k ≤ ((b + ((stB bl l h b d).2 ++ bl (b + (stB bl l h b d).2.length) (part l h d)).length : Nat) : Int)
        rw [hl2]
        unfold upd
        split
        · omega
        · exact Int.le_trans (h1 k) (by omega)
      · show NodeOk l.length (b + ((stB bl l h b d).2 ++ bl (b + (stB bl l h b d).2.length) (part l h d)).length) r
        rw [hl2]
        rcases List.mem_append.1 hr with hr | hr
        · exact (h2 r hr).mono (Nat.le_refl _) (by omega)
        · exact (hbl _ _ hp r hr).mono (List.length_filter_le _ _) (by omega)
theorem build_ok : ∀ (h b : Nat) (l : List Rec), l ≠ [] → ∀ r ∈ build h b l, NodeOk l.length (b + (build h b l).length) r
  | 0, b, l, hl, r, hr => by
    obtain rfl := List.mem_singleton.1 hr
    exact ⟨Int.le_refl _, by show (0 : Int) ≤ _; omega, fun k => by show (0 : Int) ≤ _; omega⟩
  | h + 1, b, l, hl, r, hr => by
    obtain ⟨h1, h2⟩ := stB_ok (build h) l h (build_ok h) (b + 1) 16
    have hln : (build (h + 1) b l).length = (stB (build h) l h (b + 1) 16).2.length + 1 := rfl
    rw [hln]
    rcases List.mem_cons.1 hr with rfl | hr
    · exact ⟨by show (0 : Int) ≤ (l.length : Int); omega, Int.le_refl _, fun k => Int.le_trans (h1 k) (by omega)⟩
    · exact (h2 r hr).mono (Nat.le_refl _) (by omega)
theorem shelf_mem {gap : Nat} {B : List Rn} {n : Nd} (hm : n ∈ shelf gap B) : n.kind = 0 ∨ ∃ r ∈ B, n = conv gap r := by
  unfold shelf at hm
  rcases List.mem_append.1 hm with hm | hm
  · obtain ⟨_, rfl⟩ := List.mem_replicate.1 hm
    exact .inl rfl
  · obtain ⟨r, hr, rfl⟩ := List.mem_map.1 hm
    exact .inr ⟨r, hr, rfl⟩
theorem conv_cnt (gap : Nat) (r : Rn) : (conv gap r).cnt = r.cnt ∨ (conv gap r).cnt = 0 := by
  unfold conv; split
  · exact .inr rfl
  · exact .inl rfl
/-- What stands at a slot of a shelf. -/
theorem atN_shelf (gap : Nat) (B : List Rn) (m t : Nat) (hB : ∀ r ∈ B, NodeOk m t r) (s : Int) : 0 ≤ (atN (shelf gap B) s).1.cnt ∧ (atN (shelf gap B) s).1.cnt ≤ (m : Int) := by
  have hz : 0 ≤ Nd.zero.cnt ∧ Nd.zero.cnt ≤ (m : Int) := ⟨Int.le_refl _, by show (0 : Int) ≤ _; omega⟩
  unfold atN
  split
  · split
    · next n hs =>
      split
      · exact hz
      · next hk =>
        rcases shelf_mem (List.mem_of_getElem? hs) with e | ⟨r, hr, rfl⟩
        · exact absurd e hk
        · have h1 := hB r hr
          rcases conv_cnt gap r with e | e <;> rw [e]
          · exact ⟨h1.1, h1.2.1⟩
          · exact ⟨Int.le_refl _, by omega⟩
    · exact hz
  · exact hz
/-- What below tells of a slot of a shelf. -/
theorem below_shelf (gap : Nat) (B : List Rn) (m t : Nat) (hB : ∀ r ∈ B, NodeOk m t r) (s : Int) : 0 ≤ belowN (shelf gap B) s ∧ belowN (shelf gap B) s ≤ (m : Int) + 1 := by
  have h := atN_shelf gap B m t hB s
  unfold belowN
  split
  · omega
  · split <;> omega
end Go.Proofs.Ytkcnakaneiocjaa.PTr
