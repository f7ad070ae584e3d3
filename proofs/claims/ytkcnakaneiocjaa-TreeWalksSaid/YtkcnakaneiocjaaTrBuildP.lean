/- Trees, in plain terms: the nodes that the document's Build lays, and that a shelf of them holds the messages. No program in sight. No condition. -/
import Derived.Test.YtkcnakaneiocjaaTrPlain2
set_option linter.unusedVariables false
set_option linter.unusedSimpArgs false
namespace Go.Proofs.Ytkcnakaneiocjaa.PTr
/-- A node of the document's. -/
structure Rn where
  leaf : Bool
  cnt : Int
  kid : Nat → Int
  rc : Rec
def upd (f : Nat → Int) (d : Nat) (v : Int) : Nat → Int := fun k => if k = d then v else f k
/-- The kids so far, and the nodes below them, where the first stands at b. -/
def stB (bl : Nat → List Rec → List Rn) (l : List Rec) (h b : Nat) : Nat → (Nat → Int) × List Rn
  | 0 => (fun _ => 0, [])
  | d + 1 => if part l h d = [] then (upd (stB bl l h b d).1 d (-1), (stB bl l h b d).2) else
    (upd (stB bl l h b d).1 d ((b + (stB bl l h b d).2.length : Nat) : Int), (stB bl l h b d).2 ++ bl (b + (stB bl l h b d).2.length) (part l h d))
def build : Nat → Nat → List Rec → List Rn
  | 0, _, l => [⟨true, 0, fun _ => 0, l.getD 0 rc0⟩]
  | h + 1, b, l => ⟨false, (l.length : Int), (stB (build h) l h (b + 1) 16).1, rc0⟩ :: (stB (build h) l h (b + 1) 16).2
theorem stB_pre (bl : Nat → List Rec → List Rn) (l : List Rec) (h b d : Nat) : ∀ (k : Nat), (∃ rest, (stB bl l h b (d + k)).2 = (stB bl l h b d).2 ++ rest) ∧ ∀ j, j < d → (stB bl l h b (d + k)).1 j = (stB bl l h b d).1 j
  | 0 => ⟨⟨[], by simp⟩, fun _ _ => rfl⟩
  | k + 1 => by
    obtain ⟨⟨rest, hr⟩, hj⟩ := stB_pre bl l h b d k
    have e : stB bl l h b (d + (k + 1)) = if part l h (d + k) = [] then (upd (stB bl l h b (d + k)).1 (d + k) (-1), (stB bl l h b (d + k)).2) else
      (upd (stB bl l h b (d + k)).1 (d + k) ((b + (stB bl l h b (d + k)).2.length : Nat) : Int), (stB bl l h b (d + k)).2 ++ bl (b + (stB bl l h b (d + k)).2.length) (part l h (d + k))) := rfl
    rw [e]
    split
    · refine ⟨⟨rest, hr⟩, fun j hjd => ?_⟩
      show upd _ _ _ j = _
      unfold upd
      rw [if_neg (by omega)]
      exact hj j hjd
    · refine ⟨⟨rest ++ bl (b + (stB bl l h b (d + k)).2.length) (part l h (d + k)), ?_⟩, fun j hjd => ?_⟩
      · show (stB bl l h b (d + k)).2 ++ _ = _
        rw [hr, List.append_assoc]
      · show upd _ _ _ j = _
        unfold upd
        rw [if_neg (by omega)]
        exact hj j hjd
/-- A node of the document's as the law stands it in a shelf. -/
def conv (gap : Nat) (r : Rn) : Nd := if r.leaf then ⟨2, 0, fun _ => 0, r.rc⟩ else ⟨1, r.cnt, fun k => if 0 ≤ r.kid k then r.kid k + gap else r.kid k, rc0⟩
def shelf (gap : Nat) (L : List Rn) : List Nd := List.replicate gap Nd.zero ++ L.map (conv gap)
theorem shelf_at (gap : Nat) (L : List Rn) (i : Nat) (r : Rn) (h : L[i]? = some r) : atN (shelf gap L) ((gap + i : Nat) : Int) = (conv gap r, true) := by
  unfold atN
  rw [if_pos (by omega), Int.toNat_natCast]
  have e : (shelf gap L)[gap + i]? = some (conv gap r) := by
    unfold shelf
    rw [List.getElem?_append_right (by simp), List.length_replicate, show gap + i - gap = i by omega, List.getElem?_map, h]
    rfl
  rw [e]
  dsimp only
  rw [if_neg]
  unfold conv
  split <;> simp
theorem single {l : List Rec} (h0 : l ≠ []) (h1 : Same l 0) (h2 : Srt l) : ∃ r, l = [r] := by
  match l, h0 with
  | [r], _ => exact ⟨r, rfl⟩
  | a :: b :: t, _ =>
    exfalso
    have e1 := h1 a List.mem_cons_self b (List.mem_cons_of_mem _ List.mem_cons_self)
    have e2 := (List.pairwise_cons.1 h2).1 b List.mem_cons_self
    simp only [Int.pow_zero, Int.ediv_one] at e1
    omega
theorem build_sub (gap : Nat) : ∀ (h b : Nat) (l : List Rec), l ≠ [] → Same l h → Srt l → ∀ (pre post : List Rn), pre.length = b → Sub (shelf gap (pre ++ (build h b l ++ post))) h ((gap + b : Nat) : Int) l
  | 0, b, l, h0, h1, h2, pre, post, hb => by
    obtain ⟨r, rfl⟩ := single h0 h1 h2
    refine ⟨_, shelf_at gap _ b ⟨true, 0, fun _ => 0, r⟩ ?_, rfl, rfl⟩
    rw [List.getElem?_append_right (by omega), hb, Nat.sub_self]
    rfl
  | h + 1, b, l, h0, h1, h2, pre, post, hb => by
    refine ⟨_, shelf_at gap _ b ⟨false, (l.length : Int), (stB (build h) l h (b + 1) 16).1, rc0⟩ ?_, rfl, rfl, fun d hd => ?_⟩
    · rw [List.getElem?_append_right (by omega), hb, Nat.sub_self]
      rfl
    · obtain ⟨k, hk⟩ : ∃ k, 16 = (d + 1) + k := ⟨15 - d, by omega⟩
      obtain ⟨⟨rest, hr⟩, hj⟩ := stB_pre (build h) l h (b + 1) (d + 1) k
      rw [← hk] at hr hj
      have e : stB (build h) l h (b + 1) (d + 1) = if part l h d = [] then (upd (stB (build h) l h (b + 1) d).1 d (-1), (stB (build h) l h (b + 1) d).2) else
        (upd (stB (build h) l h (b + 1) d).1 d ((b + 1 + (stB (build h) l h (b + 1) d).2.length : Nat) : Int), (stB (build h) l h (b + 1) d).2 ++ build h (b + 1 + (stB (build h) l h (b + 1) d).2.length) (part l h d)) := rfl
      have hkd := hj d (by omega)
      by_cases hp : part l h d = []
      · refine .inl ⟨hp, ?_⟩
        rw [e, if_pos hp] at hkd
        have e2 : (stB (build h) l h (b + 1) 16).1 d = -1 := by rw [hkd]; show upd _ _ _ d = _; unfold upd; rw [if_pos rfl]
        show (if 0 ≤ (stB (build h) l h (b + 1) 16).1 d then (stB (build h) l h (b + 1) 16).1 d + (gap : Int) else (stB (build h) l h (b + 1) 16).1 d) < 0
        rw [e2, if_neg (by decide)]
        decide
      · refine .inr ⟨hp, ?_⟩
        rw [e, if_neg hp] at hkd hr
        have e2 : (stB (build h) l h (b + 1) 16).1 d = ((b + 1 + (stB (build h) l h (b + 1) d).2.length : Nat) : Int) := by rw [hkd]; show upd _ _ _ d = _; unfold upd; rw [if_pos rfl]
        have e3 : (conv gap ⟨false, (l.length : Int), (stB (build h) l h (b + 1) 16).1, rc0⟩).kid d = ((gap + (b + 1 + (stB (build h) l h (b + 1) d).2.length) : Nat) : Int) := by
          show (if 0 ≤ (stB (build h) l h (b + 1) 16).1 d then (stB (build h) l h (b + 1) 16).1 d + (gap : Int) else (stB (build h) l h (b + 1) 16).1 d) = _
          rw [e2, if_pos (by omega)]
          omega
        rw [e3]
        have ih := build_sub gap h (b + 1 + (stB (build h) l h (b + 1) d).2.length) (part l h d) hp (same_part h1) (srt_part h2)
          (pre ++ (⟨false, (l.length : Int), (stB (build h) l h (b + 1) 16).1, rc0⟩ :: (stB (build h) l h (b + 1) d).2)) (rest ++ post) (by rw [List.length_append, List.length_cons, hb]; omega)
        have e4 : pre ++ (build (h + 1) b l ++ post) = pre ++ (⟨false, (l.length : Int), (stB (build h) l h (b + 1) 16).1, rc0⟩ :: (stB (build h) l h (b + 1) d).2) ++ (build h (b + 1 + (stB (build h) l h (b + 1) d).2.length) (part l h d) ++ (rest ++ post)) := by
          show pre ++ ((⟨false, (l.length : Int), (stB (build h) l h (b + 1) 16).1, rc0⟩ :: (stB (build h) l h (b + 1) 16).2) ++ post) = _
          rw [hr]
          simp [List.append_assoc]
        rw [e4]
        exact ih
end Go.Proofs.Ytkcnakaneiocjaa.PTr
