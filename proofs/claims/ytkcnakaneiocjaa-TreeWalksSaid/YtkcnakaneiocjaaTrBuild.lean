/- Trees: the document's Build, whatever the messages. No condition but those that each contract bears. -/
import Derived.Test.YtkcnakaneiocjaaTrBuild1
set_option linter.unusedVariables false
set_option linter.unusedSimpArgs false
namespace Go.Proofs.Ytkcnakaneiocjaa.PTr
open Go.RowKit Go.Proofs.YtkcnakaneiocjaaW.PrintWords Go.Proofs.YtkcnakaneiocjaaW.PrintLast Go.Proofs.YtkcnakaneiocjaaW.PrintMore
theorem off_le (l : List Rec) (h d : Nat) : offD l h d ≤ l.length := List.length_filter_le _ _
theorem off_zero (l : List Rec) (h : Nat) : offD l h 0 = 0 := by
  unfold offD
  rw [List.filter_eq_nil_iff.2 fun x _ => ?_]
  · rfl
  · have := dig_range x.f0 h
    unfold ltD
    simp
    omega
theorem stB_len (bl : Nat → List Rec → List Rn) (l : List Rec) (h c : Nat) (hbl : ∀ b m, m ≠ [] → (bl b m).length ≤ c * m.length) (b : Nat) : ∀ d, (stB bl l h b d).2.length ≤ c * offD l h d
  | 0 => Nat.zero_le _
  | d + 1 => by
    have ih := stB_len bl l h c hbl b d
    have e : stB bl l h b (d + 1) = if part l h d = [] then (upd (stB bl l h b d).1 d (-1), (stB bl l h b d).2) else
      (upd (stB bl l h b d).1 d ((b + (stB bl l h b d).2.length : Nat) : Int), (stB bl l h b d).2 ++ bl (b + (stB bl l h b d).2.length) (part l h d)) := rfl
    rw [e, off_step, Nat.mul_add]
    split
    · show (stB bl l h b d).2.length ≤ _
      omega
    · next hp =>
      show ((stB bl l h b d).2 ++ bl _ (part l h d)).length ≤ _
      rw [List.length_append]
      have := hbl (b + (stB bl l h b d).2.length) _ hp
      omega
theorem build_len : ∀ (h b : Nat) (l : List Rec), l ≠ [] → (build h b l).length ≤ (h + 1) * l.length
  | 0, b, l, hl => by
    have : 0 < l.length := List.length_pos_iff.2 hl
    show 1 ≤ _
    omega
  | h + 1, b, l, hl => by
    have h0 : 0 < l.length := List.length_pos_iff.2 hl
    have := stB_len (build h) l h (h + 1) (build_len h) (b + 1) 16
    rw [off_all] at this
    show (_ :: (stB (build h) l h (b + 1) 16).2).length ≤ _
    rw [List.length_cons, Nat.succ_mul (h + 1)]
    omega
theorem build_any : ∀ (h : Nat), h ≤ 8 → ∀ {base : Nat} {W : World} {v : Value} {nodes : List Rn}, W.ownsRow base 71 21 v nodes.length (rowc nodes) → base ≤ W.heap.size → ∀ {A : Option Addr} (cap : Nat) (l : List Rec), 0 < l.length → RdAt A l W → l.length ≤ 10000 →
    nodes.length + (h + 1) * l.length ≤ 1000000 → (∀ g o, A = some ⟨g, o, none⟩ → v.ownBlock ≠ some g) → (∀ x ∈ l, 0 ≤ x.f0 ∧ x.f0 < 4294967296) → Same l h → Srt l →
    Calls Try.prog 24 #[v, .slice A l.length cap, .int .i64 ((h : Int) - 1)] W (BuildPost base v nodes (build h nodes.length l) W)
  | 0, _, base, W, v, nodes, hv, hbase, A, cap, l, hl0, hl, hln, hb, hsep, hu, h1, h2 => by
    obtain ⟨r, rfl⟩ := single (List.length_pos_iff.1 hl0) h1 h2
    have := hb
    exact build_leaf hv hbase (by omega) cap r hl
  | h + 1, hh, base, W, v, nodes, hv, hbase, A, cap, l, hl0, hl, hln, hb, hsep, hu, h1, h2 => by
    rw [show ((h + 1 : Nat) : Int) - 1 = (h : Int) by omega]
    have hst : ∀ d, (nodes ++ (⟨false, (l.length : Int), fun _ => 0, rc0⟩ : Rn) :: (stB (build h) l h (nodes.length + 1) d).2).length ≤ nodes.length + 1 + (h + 1) * offD l h d := fun d => by
      have := stB_len (build h) l h (h + 1) (build_len h) (nodes.length + 1) d
      rw [List.length_append, List.length_cons]
      omega
    rw [Nat.succ_mul (h + 1)] at hb
    refine build_node h (by omega) hv hbase cap l hl0 hl hln (fun d => ?_) hsep hu (fun d X u p c hd hp hX hbX hrd hs => ?_)
    · have := hst d
      have := Nat.mul_le_mul_left (h + 1) (off_le l h d)
      omega
    · have k1 := hst d
      have k2 := Nat.mul_le_mul_left (h + 1) (off_le l h (d + 1))
      rw [off_step, Nat.mul_add] at k2
      have k3 : (part l h d).length ≤ l.length := List.length_filter_le _ _
      have k4 := build_any h (by omega) hX hbX c (part l h d) (List.length_pos_iff.2 hp) hrd (by omega) (by omega) hs (fun x hx => hu x (List.mem_filter.1 hx).1) (same_part h1) (srt_part h2)
      have e : (nodes ++ (⟨false, (l.length : Int), fun _ => 0, rc0⟩ : Rn) :: (stB (build h) l h (nodes.length + 1) d).2).length = nodes.length + 1 + (stB (build h) l h (nodes.length + 1) d).2.length := by
        rw [List.length_append, List.length_cons]; omega
      rw [e] at k4
      exact k4
end Go.Proofs.Ytkcnakaneiocjaa.PTr
