/- Package seqset: the set of a text, in plain Lean. No condition but those that each bears. -/
import Derived.Test.YtahbnpkhkhdmaaaDoorQSq0
import Derived.Test.YtahbnpkhkhdmaaaDoorSqNum
import Derived.Test.YtahbnpkhkhdmaaaDoorFlSplit
set_option linter.unusedVariables false
set_option linter.unusedSimpArgs false
namespace Go.Proofs.YtahbnpkhkhdmaaaDoor
open Go.RowKit Go.Shelf PSq Go.Proofs.YtahbnpkhkhdmaaaDoorW.PrintWords Go.Proofs.YtahbnpkhkhdmaaaDoorW.PrintLast Go.Proofs.YtahbnpkhkhdmaaaDoorW.PrintMore
def mkR : Option Nat → Option Nat → Option S78
  | some a, some b => some ⟨(a : Int), (b : Int)⟩
  | _, _ => none
theorem mkR_none : ∀ a : Option Nat, mkR a none = none
  | none => rfl
  | some _ => rfl
/-- A range of a text. -/
def rangeOf (x : ByteArray) : Option S78 :=
  mkR (endOf (cutAt 58 x).1) (endOf (if (cutAt 58 x).2.2 then (cutAt 58 x).2.1 else (cutAt 58 x).1))
def rangesOf : List ByteArray → Option (List S78)
  | [] => some []
  | x :: xs => (rangeOf x).bind fun r => (rangesOf xs).map (r :: ·)
theorem rangesOf_append : ∀ (pre : List ByteArray) (x : ByteArray), rangesOf (pre ++ [x]) = (rangesOf pre).bind fun l => (rangeOf x).map fun r => l ++ [r]
  | [], x => by simp [rangesOf]; cases rangeOf x <;> rfl
  | y :: ys, x => by
    simp only [List.cons_append, rangesOf, rangesOf_append ys x]
    cases rangeOf y with
    | none => rfl
    | some r => cases rangesOf ys with
      | none => rfl
      | some l => cases rangeOf x <;> rfl
theorem rangesOf_none : ∀ (pre post : List ByteArray), rangesOf pre = none → rangesOf (pre ++ post) = none
  | [], post, h => by cases h
  | y :: ys, post, h => by
    simp only [List.cons_append, rangesOf] at h ⊢
    cases hy : rangeOf y with
    | none => rfl
    | some r =>
      rw [hy] at h
      simp only [Option.bind_some, Option.map_eq_none_iff] at h ⊢
      exact rangesOf_none ys post h
theorem rangesOf_len : ∀ (pre : List ByteArray) (l : List S78), rangesOf pre = some l → l.length = pre.length
  | [], l, h => by cases h; rfl
  | y :: ys, l, h => by
    simp only [rangesOf] at h
    obtain ⟨r, _, h⟩ := Option.bind_eq_some_iff.1 h
    obtain ⟨l', h', rfl⟩ := Option.map_eq_some_iff.1 h
    simp [rangesOf_len ys l' h']
theorem splitN_count (c : UInt8) : ∀ l : List UInt8, (splitN c l).length ≤ l.length + 1
  | [] => by simp [splitN]
  | b :: l => by
    have ih := splitN_count c l
    unfold splitN
    split
    · simp only [List.length_cons]; omega
    · split
      · next p ps e => rw [e] at ih; simp only [List.length_cons] at ih ⊢; omega
      · next e => simp
theorem parts_count (c : UInt8) (s : ByteArray) : (parts c s).length ≤ s.size + 1 := by
  unfold parts
  rw [List.length_map]
  have := splitN_count c s.data.toList
  simpa using this
theorem splitN_each (c : UInt8) : ∀ (l : List UInt8), ∀ p ∈ splitN c l, p.length ≤ l.length
  | [], p, hp => by simp [splitN] at hp; subst hp; simp
  | b :: l, p, hp => by
    have ih := splitN_each c l
    unfold splitN at hp
    split at hp
    · rcases List.mem_cons.1 hp with rfl | hp
      · simp
      · have := ih p hp; simp; omega
    · split at hp
      · next q qs e =>
        rcases List.mem_cons.1 hp with rfl | hp
        · have := ih q (by rw [e]; exact List.mem_cons_self); simp; omega
        · have := ih p (by rw [e]; exact List.mem_cons_of_mem _ hp); simp; omega
      · simp at hp; subst hp; simp
theorem parts_each {c : UInt8} {s x : ByteArray} (h : x ∈ parts c s) : x.size ≤ s.size := by
  unfold parts at h
  obtain ⟨p, hp, rfl⟩ := List.mem_map.1 h
  have := splitN_each c s.data.toList p hp
  have hl : s.data.toList.length = s.size := by simp
  show p.toArray.size ≤ s.size
  rw [List.size_toArray]; omega
theorem cutAt_size (c : UInt8) (x : ByteArray) : (cutAt c x).1.size ≤ x.size ∧ (cutAt c x).2.1.size ≤ x.size := by
  unfold cutAt
  split
  · exact ⟨Nat.le_refl _, Nat.zero_le _⟩
  · exact ⟨by show (x.extract 0 _).size ≤ _; rw [ByteArray.size_extract]; omega, by show (x.extract _ _).size ≤ _; rw [ByteArray.size_extract]; omega⟩
/-- What Parse answers. -/
def parseOut : Option (List S78) → List S78 × Int
  | none => ([], 2)
  | some l => if 64 < l.length then ([], 9) else (l, 0)
def rcells (l : List S78) : List Value := l.flatMap fun r => [.int .u32 r.f0, .int .u32 r.f1]
theorem rcells_append (l : List S78) (r : S78) : rcells (l ++ [r]) = rcells l ++ [.int .u32 r.f0, .int .u32 r.f1] := by unfold rcells; rw [List.flatMap_append]; rfl
theorem rcells_reps (w : World) (base : Nat) (ok : Nat → Prop) : ∀ l : List S78, Reps (k78.M w base ok) 2 l (rcells l)
  | [] => Reps.none _ _
  | r :: l => Reps.c2 (k78_mkM w base ok r) (rcells_reps w base ok l)
theorem own_kd {W : World} {base : Nat} {v : Value} {l : List S78} (h : W.ownsRow base 78 2 v l.length (rcells l)) : Kd.R k78 78 W base (fun _ => True) v l :=
  ⟨fun _ _ => trivial, _, h, rcells_reps _ _ _ l⟩
end Go.Proofs.YtahbnpkhkhdmaaaDoor
