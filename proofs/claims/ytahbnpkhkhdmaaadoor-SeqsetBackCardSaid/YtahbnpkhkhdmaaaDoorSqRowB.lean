/- The statement SeqsetBack: its plain part, the walk, the row, the tied card. No condition. -/
import Derived.Test.YtahbnpkhkhdmaaaDoorSqWalks
import Derived.Test.YtahbnpkhkhdmaaaDoorOpen
import Derived.Below
import Derived.Test.YtahbnpkhkhdmaaaDoorCards
import Derived.Test.YtahbnpkhkhdmaaaDoorTie
import Derived.ProofKit
import Derived.OpenShut
import Derived.LaidMore
import Derived.LaidLaws
import Derived.Lay
import Derived.SevenTiedAt
import Derived.Stop.Joined
import Derived.ShutString
import Derived.SizedLaws
import Derived.Lib.LaidTab
import Derived.Test.YtahbnpkhkhdmaaaDoorSqOf
set_option linter.unusedVariables false
set_option linter.unusedSimpArgs false
namespace Go.Proofs.YtahbnpkhkhdmaaaDoor
section
open Go.RowKit Go.Shelf Go.Lib PSq Go.Proofs.YtahbnpkhkhdmaaaDoorW.PrintWords Go.Proofs.YtahbnpkhkhdmaaaDoorW.PrintLast Go.Proofs.YtahbnpkhkhdmaaaDoorW.PrintMore
theorem splitN_step {c b : UInt8} {l p : List UInt8} {ps : List (List UInt8)} (h : b ≠ c) (e : splitN c l = p :: ps) : splitN c (b :: l) = (b :: p) :: ps := by
  unfold splitN
  rw [if_neg h, e]
theorem splitN_app (c : UInt8) : ∀ (x l : List UInt8), c ∉ x → splitN c (x ++ c :: l) = x :: splitN c l
  | [], l, h => by simp [splitN]
  | b :: x, l, h => by
    have hb : b ≠ c := fun e => h (by simp [e])
    have ih := splitN_app c x l (fun hx => h (by simp [hx]))
    rw [List.cons_append]
    exact splitN_step hb ih
theorem splitN_own (c : UInt8) : ∀ (x : List UInt8), c ∉ x → splitN c x = [x]
  | [], h => rfl
  | b :: x, h => by
    have hb : b ≠ c := fun e => h (by simp [e])
    have ih := splitN_own c x (fun hx => h (by simp [hx]))
    exact splitN_step hb ih
theorem splitN_join : ∀ (r : List (List UInt8)) (x : List UInt8), 44 ∉ x → (∀ y ∈ r, (44 : UInt8) ∉ y) → splitN 44 (x ++ joinTail [44] r) = x :: r
  | [], x, hx, _ => by
    have : joinTail [44] [] = [] := by simp [joinTail]
    rw [this, List.append_nil, splitN_own 44 x hx]
  | y :: r, x, hx, hr => by
    have e : x ++ joinTail [44] (y :: r) = x ++ 44 :: (y ++ joinTail [44] r) := by rw [tail_cons]; simp
    rw [e, splitN_app 44 x _ hx, splitN_join r y (hr y (by simp)) (fun z hz => hr z (by simp [hz]))]
theorem endT_chars (n : Int) : ∀ c ∈ (endT n).data.toList, c = 42 ∨ isD c := by
  intro c hc
  unfold endT at hc
  split at hc
  · exact .inl (by simpa using hc)
  · exact .inr (dec_all _ c (by simpa using hc))
theorem endT_44 (n : Int) : (44 : UInt8) ∉ (endT n).data.toList := by
  intro h
  rcases endT_chars n _ h with e | e
  · exact absurd e (by decide)
  · exact absurd e (by unfold isD; decide)
theorem endT_58 (n : Int) : (58 : UInt8) ∉ (endT n).data.toList := by
  intro h
  rcases endT_chars n _ h with e | e
  · exact absurd e (by decide)
  · exact absurd e (by unfold isD; decide)
theorem rangeT_44 (r : S78) : (44 : UInt8) ∉ (rangeT r).data.toList := by
  unfold rangeT
  split
  · exact endT_44 _
  · rw [append_list, append_list]
    intro h
    rcases List.mem_append.1 h with h | h
    · exact endT_44 _ h
    · rcases List.mem_append.1 h with h | h
      · exact absurd h (by decide)
      · exact endT_44 _ h
theorem endOf_endT {n : Int} (h0 : 0 ≤ n) (h1 : n ≤ 4294967295) : endOf (endT n) = some n.toNat := by
  unfold endT
  by_cases h : n = 0
  · rw [if_pos h, h]; rfl
  · rw [if_neg h]
    apply endOf_num
    exact isNum_dec (by omega) (by omega)
theorem parts_setT (l : List S78) (hl : l ≠ []) : parts 44 (setT l) = l.map rangeT := by
  cases l with
  | nil => exact absurd rfl hl
  | cons r rs =>
    have e : (setT (r :: rs)).data.toList = (rangeT r).data.toList ++ joinTail [44] (listT rs) := by
      show Lib.join ((rangeT r).data.toList :: listT rs) [44] = _
      rw [Lib.join_cons]
    unfold parts
    rw [e, splitN_join (listT rs) _ (rangeT_44 r) (fun y hy => by obtain ⟨q, _, rfl⟩ := List.mem_map.1 hy; exact rangeT_44 q)]
    unfold listT
    rw [List.map_cons, List.map_cons, List.map_map]
    rfl
theorem rangeOf_rangeT {r : S78} (h : (0 ≤ r.f0 ∧ r.f0 ≤ 4294967295) ∧ (0 ≤ r.f1 ∧ r.f1 ≤ 4294967295)) : rangeOf (rangeT r) = some r := by
  have k0 := endOf_endT h.1.1 h.1.2
  have k1 := endOf_endT h.2.1 h.2.2
  have hk : mkR (some r.f0.toNat) (some r.f1.toNat) = some r := by
    show some (⟨(r.f0.toNat : Int), (r.f1.toNat : Int)⟩ : S78) = some r
    rw [Int.toNat_of_nonneg h.1.1, Int.toNat_of_nonneg h.2.1]
  by_cases he : r.f1 = r.f0
  · have hT : rangeT r = endT r.f0 := by unfold rangeT; rw [if_pos he]
    rw [hT]
    have hp : parts 58 (endT r.f0) = [endT r.f0] := by unfold parts; rw [splitN_own 58 _ (endT_58 _)]; rfl
    rcases rangeOf_parts (endT r.f0) with ⟨_, _, e⟩ | ⟨a, b, e, _⟩ | ⟨e, _⟩
    · rw [e, k0]
      rw [he] at hk
      exact hk
    · rw [hp] at e; cases e
    · rw [hp] at e; simp at e
  · have hT : rangeT r = endT r.f0 ++ (⟨#[58]⟩ ++ endT r.f1) := by unfold rangeT; rw [if_neg he]
    have hp : parts 58 (rangeT r) = [endT r.f0, endT r.f1] := by
      rw [hT]
      have e : (endT r.f0 ++ (⟨#[58]⟩ ++ endT r.f1)).data.toList = (endT r.f0).data.toList ++ 58 :: (endT r.f1).data.toList := by rw [append_list, append_list]; rfl
      unfold parts
      rw [e, splitN_app 58 _ _ (endT_58 _), splitN_own 58 _ (endT_58 _)]
      rfl
    rcases rangeOf_parts (rangeT r) with ⟨e, _, _⟩ | ⟨a, b, e, e2⟩ | ⟨e, _⟩
    · rw [hp] at e; simp at e
    · rw [hp] at e
      have e3 := List.cons.inj e
      have e4 := (List.cons.inj e3.2).1
      rw [e2, ← e3.1, ← e4, k0, k1, hk]
    · rw [hp] at e; simp at e
theorem rangesOf_rangeT : ∀ (l : List S78), R32 l → rangesOf (l.map rangeT) = some l
  | [], _ => rfl
  | r :: l, h => by
    show (rangeOf (rangeT r)).bind _ = _
    rw [rangeOf_rangeT (h r (by simp)), Option.bind_some, rangesOf_rangeT l (fun q hq => h q (by simp [hq]))]
    rfl
/-- A TEXT IS PARSED AS ITS SET. -/
theorem parse_setT {l : List S78} (h : R32 l) (hl : l ≠ []) : rangesOf (parts 44 (setT l)) = some l := by rw [parts_setT l hl, rangesOf_rangeT l h]
theorem setT_size {l : List S78} (h : R32 l) : (setT l).size ≤ 22 * (l.length + 1) := by
  have := preT_size h l.length
  unfold preT at this
  rw [List.take_of_length_le (Nat.le_refl _)] at this
  exact this
/-! Of rising numbers. -/
def Good (l : List Int) (i : Nat) (acc : List S78) : Prop :=
  (∀ r ∈ acc, 0 < r.f0 ∧ r.f0 ≤ r.f1) ∧ (∀ m : Int, (∃ r ∈ acc, r.f0 ≤ m ∧ m ≤ r.f1) ↔ m ∈ l.take i) ∧ (0 < i → ∃ pre r, acc = pre ++ [r] ∧ r.f1 = l.getD (i - 1) 0)
def Rises (l : List Int) : Prop := ∀ i, i < l.length → 0 < l.getD i 0 ∧ (0 < i → l.getD (i - 1) 0 < l.getD i 0)
theorem setTo_snoc (pre : List S78) (r : S78) (x : Int) : setTo (pre ++ [r]) x = pre ++ [⟨r.f0, x⟩] := by
  unfold setTo
  have e : (pre ++ [r]).length - 1 = pre.length := by simp
  rw [e, List.getD_eq_getElem?_getD, List.getElem?_append_right (Nat.le_refl _), List.set_append_right _ _ (Nat.le_refl _)]
  simp
theorem ofGo_good {l : List Int} (hr : Rises l) : ∀ (d i : Nat) (acc : List S78), d + i = l.length → Good l i acc → Good l l.length (ofGo l d i acc)
  | 0, i, acc, h, hg => by
    obtain rfl : i = l.length := by omega
    exact hg
  | d + 1, i, acc, h, hg => by
    have hi : i < l.length := by omega
    have hri := hr i hi
    have ht : l.take (i + 1) = l.take i ++ [l.getD i 0] := by
      rw [List.take_succ_eq_append_getElem hi, List.getD_eq_getElem?_getD, List.getElem?_eq_getElem hi]; rfl
    obtain ⟨x, hx⟩ : ∃ x, l.getD i 0 = x := ⟨_, rfl⟩
    obtain ⟨g1, g2, g3⟩ := hg
    unfold ofGo
    rw [hx] at hri ht
    rw [hx, if_neg (by omega)]
    by_cases hc : 0 < i ∧ x = l.getD (i - 1) 0 + 1
    · rw [if_pos hc]
      apply ofGo_good hr d (i + 1) _ (by omega)
      obtain ⟨pre, r, rfl, hf⟩ := g3 hc.1
      have hr0 := g1 r (by simp)
      rw [setTo_snoc]
      refine ⟨fun q hq => ?_, fun m => ?_, fun _ => ⟨pre, _, rfl, hx.symm⟩⟩
      · rcases List.mem_append.1 hq with hq | hq
        · exact g1 q (by simp [hq])
        · obtain rfl := List.mem_singleton.1 hq
          exact ⟨hr0.1, by show r.f0 ≤ x; omega⟩
      · rw [ht, List.mem_append, List.mem_singleton, ← g2 m]
        constructor
        · rintro ⟨q, hq, h1, h2⟩
          rcases List.mem_append.1 hq with hq | hq
          · exact .inl ⟨q, by simp [hq], h1, h2⟩
          · obtain rfl := List.mem_singleton.1 hq
            have h1' : r.f0 ≤ m := h1
            have h2' : m ≤ x := h2
            by_cases e : m = x
            · exact .inr e
            · exact .inl ⟨r, by simp, h1', by omega⟩
        · rintro (⟨q, hq, h1, h2⟩ | rfl)
          · rcases List.mem_append.1 hq with hq | hq
            · exact ⟨q, by simp [hq], h1, h2⟩
            · obtain rfl := List.mem_singleton.1 hq
              exact ⟨_, List.mem_append.2 (.inr (List.mem_singleton.2 rfl)), h1, by show m ≤ x; omega⟩
          · exact ⟨_, List.mem_append.2 (.inr (List.mem_singleton.2 rfl)), by show r.f0 ≤ m; omega, Int.le_refl _⟩
    · rw [if_neg hc]
      apply ofGo_good hr d (i + 1) _ (by omega)
      refine ⟨fun q hq => ?_, fun m => ?_, fun _ => ⟨acc, _, rfl, hx.symm⟩⟩
      · rcases List.mem_append.1 hq with hq | hq
        · exact g1 q hq
        · obtain rfl := List.mem_singleton.1 hq
          exact ⟨hri.1, Int.le_refl _⟩
      · rw [ht, List.mem_append, List.mem_singleton, ← g2 m]
        constructor
        · rintro ⟨q, hq, h1, h2⟩
          rcases List.mem_append.1 hq with hq | hq
          · exact .inl ⟨q, hq, h1, h2⟩
          · obtain rfl := List.mem_singleton.1 hq
            have h1' : x ≤ m := h1
            have h2' : m ≤ x := h2
            exact .inr (by omega)
        · rintro (⟨q, hq, h1, h2⟩ | rfl)
          · exact ⟨q, List.mem_append.2 (.inl hq), h1, h2⟩
          · exact ⟨_, List.mem_append.2 (.inr (List.mem_singleton.2 rfl)), Int.le_refl _, Int.le_refl _⟩
theorem of_means {l : List Int} (hr : Rises l) (last m : Nat) : hasB (ofGo l l.length 0 []) last m = true ↔ (m : Int) ∈ l := by
  have hg := ofGo_good hr l.length 0 [] (by omega) ⟨fun r h => absurd h List.not_mem_nil, fun m => by simp, fun h => absurd h (Nat.lt_irrefl 0)⟩
  obtain ⟨g1, g2, _⟩ := hg
  have g2m := g2 m
  rw [List.take_of_length_le (Nat.le_refl _)] at g2m
  rw [← g2m]
  unfold hasB
  rw [List.any_eq_true]
  have hends : ∀ r ∈ ofGo l l.length 0 [], loR r last = r.f0 ∧ hiR r last = r.f1 := by
    intro r h
    have := g1 r h
    have a1 : aF r last = r.f0 := if_neg (by omega)
    have b1 : bF r last = r.f1 := if_neg (by omega)
    unfold loR hiR mn mx
    rw [a1, b1]
    constructor <;> split <;> omega
  constructor
  · rintro ⟨r, h, h2⟩
    have he := hends r h
    rw [Bool.and_eq_true, decide_eq_true_eq, decide_eq_true_eq, he.1, he.2] at h2
    exact ⟨r, h, h2⟩
  · rintro ⟨r, h, h2⟩
    have he := hends r h
    refine ⟨r, h, ?_⟩
    rw [Bool.and_eq_true, decide_eq_true_eq, decide_eq_true_eq, he.1, he.2]
    exact h2
/-! What is walked rises. -/
theorem meantTo_mem {p : Nat → Bool} : ∀ (k m : Nat), m ∈ meantTo p k ↔ 0 < m ∧ m ≤ k ∧ p m = true
  | 0, m => ⟨fun h => absurd h List.not_mem_nil, fun h => absurd h.1 (by omega)⟩
  | k + 1, m => by
    show m ∈ meantTo p k ++ (if p (k + 1) then [k + 1] else []) ↔ _
    rw [List.mem_append, meantTo_mem k m]
    by_cases hp : p (k + 1) = true
    · rw [if_pos hp, List.mem_singleton]
      constructor
      · rintro (⟨a, b, c⟩ | rfl)
        · exact ⟨a, by omega, c⟩
        · exact ⟨by omega, Nat.le_refl _, hp⟩
      · rintro ⟨a, b, c⟩
        by_cases e : m = k + 1
        · exact .inr e
        · exact .inl ⟨a, by omega, c⟩
    · rw [if_neg hp]
      constructor
      · rintro (⟨a, b, c⟩ | h)
        · exact ⟨a, by omega, c⟩
        · exact absurd h List.not_mem_nil
      · rintro ⟨a, b, c⟩
        by_cases e : m = k + 1
        · exact absurd (e ▸ c) hp
        · exact .inl ⟨a, by omega, c⟩
def asInts (l : List Nat) : List Int := l.map fun (n : Nat) => (n : Int)
theorem meantTo_pairs {p : Nat → Bool} : ∀ k, (meantTo p k).Pairwise (· < ·)
  | 0 => List.Pairwise.nil
  | k + 1 => by
    show (meantTo p k ++ (if p (k + 1) then [k + 1] else [])).Pairwise _
    rw [List.pairwise_append]
    refine ⟨meantTo_pairs k, ?_, fun a ha b hb => ?_⟩
    · split
      · simp
      · exact List.Pairwise.nil
    · have := (meantTo_mem k a).1 ha
      split at hb
      · have := List.mem_singleton.1 hb
        omega
      · exact absurd hb List.not_mem_nil
theorem rises_of {l : List Nat} (h0 : ∀ m ∈ l, 0 < m) (hp : l.Pairwise (· < ·)) : Rises (asInts l) := by
  intro i hi
  have hi2 : i < l.length := by unfold asInts at hi; rwa [List.length_map] at hi
  have hg : ∀ j, (hj : j < l.length) → (asInts l).getD j 0 = ((l[j] : Nat) : Int) := by
    intro j hj
    unfold asInts
    rw [List.getD_eq_getElem?_getD, List.getElem?_map, List.getElem?_eq_getElem hj]; rfl
  rw [hg i hi2]
  refine ⟨by have := h0 l[i] (List.getElem_mem hi2); omega, fun h => ?_⟩
  rw [hg (i - 1) (by omega)]
  have := List.pairwise_iff_getElem.1 hp (i - 1) i (by omega) hi2 (by omega)
  omega
theorem has_l0 (l : List S78) (n last : Nat) (hl : l.length ≤ 1000000) : ∀ (d i k : Nat), d + i = l.length → d < k → seqset_Set_Has.l0 k (n : Int) (last : Int) l (l.length : Int) (i : Int) = some (decide (0 < n) && hasB (l.drop i) last n)
  | 0, i, k, h, hk => by
    obtain ⟨m, rfl⟩ : ∃ m, k = m + 1 := ⟨k - 1, by omega⟩
    unfold seqset_Set_Has.l0
    rw [if_neg (by omega), List.drop_eq_nil_of_le (by omega)]
    simp [hasB]
  | d + 1, i, k, h, hk => by
    obtain ⟨m, rfl⟩ : ∃ m, k = m + 1 := ⟨k - 1, by omega⟩
    have hi : i < l.length := by omega
    have ew : wrap64 ((i : Int) + 1) = ((i + 1 : Nat) : Int) := by rw [w64n (by omega) (by omega)]; omega
    have ih := has_l0 l n last hl d (i + 1) m (by omega) (by omega)
    have hdrop : l.drop i = l[i] :: l.drop (i + 1) := List.drop_eq_getElem_cons hi
    have hh : hasB (l.drop i) last n = ((decide (loR l[i] last ≤ n) && decide ((n : Int) ≤ hiR l[i] last)) || hasB (l.drop (i + 1)) last n) := by
      rw [hdrop]; rfl
    unfold seqset_Set_Has.l0
    rw [if_pos (by omega), if_pos (by omega), if_pos (by omega), rd78 l hi, ends_f]
    simp only [Option.bind_some]
    rw [ew, ih, hh]
    by_cases h0 : 0 < n
    · rw [if_pos (by omega)]
      by_cases h1 : loR l[i] last ≤ n
      · rw [if_pos (by omega)]
        by_cases h2 : (n : Int) ≤ hiR l[i] last
        · rw [if_pos (by omega)]; simp [h0, h1, h2]
        · rw [if_neg (by omega)]; simp [h0, h1, h2]
      · rw [if_neg (by omega)]; simp [h0, h1]
    · rw [if_neg (by omega)]; simp [h0]
theorem has_f (l : List S78) (n last : Nat) (hl : l.length ≤ 1000000) (k : Nat) (hk : l.length < k) : seqset_Set_Has.f k l (n : Int) (last : Int) = some (decide (0 < n) && hasB l last n) := by
  unfold seqset_Set_Has.f
  have h := has_l0 l n last hl l.length 0 k (by omega) hk
  rw [List.drop_zero] at h
  exact h
theorem meantTo_count (p : Nat → Bool) : ∀ k, (meantTo p k).length ≤ k
  | 0 => Nat.le_refl _
  | k + 1 => by
    show (meantTo p k ++ (if p (k + 1) then [k + 1] else [])).length ≤ _
    have := meantTo_count p k
    rw [List.length_append]
    split <;> simp <;> omega
end
section
open Go.RowKit Go.Shelf PSq Go.Proofs.YtahbnpkhkhdmaaaDoorW.PrintWords Go.Proofs.YtahbnpkhkhdmaaaDoorW.PrintLast Go.Proofs.YtahbnpkhkhdmaaaDoorW.PrintMore
attribute [local go_sem] Oper.semAt_some
theorem info_u32 : (Tryd.prog.info? 58).map (fun i => (i.zero, i.size, i.bytes)) = some (some (.int .u32 0), 1, 4) := by kernel_rfl
def icells (l : List Nat) : List Value := l.map fun (n : Nat) => .int .u32 (n : Int)
theorem icells_append (l : List Nat) (x : Nat) : icells (l ++ [x]) = icells l ++ [.int .u32 (x : Int)] := by unfold icells; rw [List.map_append]; rfl
/-- What the statement keeps while it collects: its result, the row of what has come, all that lay where the set was made. -/
structure BW (w0 w1 : World) (B : Nat) (l : List Nat) (W : World) : Prop where
  below : Below w0.heap.size w0 W
  below1 : Below w1.heap.size w1 W
  r0 : W.heap[w0.heap.size]? = some (.cells #[.bool false] 4 (0, 0))
  box : ∃ v, W.heap[B]? = some (.cells #[v] 53 (0, 0)) ∧ W.ownsRow (B + 1) 58 1 v l.length (icells l)
  size : B + 1 ≤ W.heap.size
  lo : w0.heap.size + 1 ≤ B
  lo1 : w1.heap.size ≤ B
theorem BW.keep {w0 w1 : World} {B : Nat} {l : List Nat} {W W' : World} (h : BW w0 w1 B l W) (hw : Below w0.heap.size w0 W') (hw1 : Below w1.heap.size w1 W') (hs : W.heap.size ≤ W'.heap.size)
    (hb : ∀ (j : Nat) (c : Array Value) (t : TypeId) (f : Nat × Nat), (j = w0.heap.size ∨ j = B ∨ B + 1 ≤ j) → W.heap[j]? = some (Obj.cells c t f) → W'.heap[j]? = some (Obj.cells c t f)) : BW w0 w1 B l W' := by
  obtain ⟨v, h1, h2⟩ := h.box
  exact ⟨hw, hw1, hb _ _ _ _ (.inl rfl) h.r0, ⟨v, hb _ _ _ _ (.inr (.inl rfl)) h1, row_keep h2 (fun j c t f hj => hb j c t f (.inr (.inr hj)))⟩, Nat.le_trans h.size hs, h.lo, h.lo1⟩
theorem BW.on {w0 w1 : World} {B : Nat} {l : List Nat} {W W' : World} (h : BW w0 w1 B l W) (hb : Below W.heap.size W W') : BW w0 w1 B l W' :=
  h.keep (h.below.trans (hb.mono h.below.size)) (h.below1.trans (hb.mono h.below1.size)) hb.size fun j c t f _ hc => (hb.block j (Array.getElem?_eq_some_iff.1 hc).1).trans hc
theorem BW.grown {w0 w1 : World} {B : Nat} {l : List Nat} {W W' : World} {row : Option Nat} (h : BW w0 w1 B l W) (hg : W.grownBy W' row) (hr : ∀ j, row = some j → B ≤ j ∧ ∃ o, W.heap[j]? = some o ∧ o.isCells = false) : BW w0 w1 B l W' := by
  have hlo := h.lo
  have hlo1 := h.lo1
  refine h.keep ((h.below).grown hg h.below.size (fun k e => by have := (hr k e).1; omega)) ((h.below1).grown hg h.below1.size (fun k e => by have := (hr k e).1; omega)) hg.size fun j c t f _ hc => (hg.block j (Array.getElem?_eq_some_iff.1 hc).1 (fun e => ?_)).trans hc
  obtain ⟨_, o, ho, hn⟩ := hr j e.symm
  rw [hc] at ho; cases ho; cases hn
theorem BW.touched {w0 w1 : World} {B : Nat} {l : List Nat} {W W' : World} (h : BW w0 w1 B l W) (ht : Touch (fun _ => False) W W') : BW w0 w1 B l W' := h.on (ht.below (Nat.le_refl _) (fun k hk e => e.elim))
theorem bw_old {B : Nat} {V w3 : World} {n : Nat} {v : Value} {xs : List Value} {o : Obj} (hrow : V.ownsRow (B + 1) 58 1 v n xs) (hg : (V.alloc o).grownBy w3 v.ownBlock) {k : Nat} (hk : k < B + 1) (hk2 : k < V.heap.size) : w3.heap[k]? = V.heap[k]? :=
  (hg.block k (by rw [World.size_alloc]; omega) (fun e => by have := row_lt hrow e.symm; omega)).trans (Below.heap_alloc _ _ _ hk2)
theorem bw_keeps {B C : Nat} {V w3 : World} {n : Nat} {v : Value} {xs : List Value} {o : Obj} (hrow : V.ownsRow (B + 1) 58 1 v n xs) (hg : (V.alloc o).grownBy w3 v.ownBlock) : KeepsFrom C V w3 :=
  ⟨by have := hg.size; rw [World.size_alloc] at this; omega, fun k ob _ hk hcl => by
    have hl := (Array.getElem?_eq_some_iff.1 hk).1
    exact (hg.block k (by rw [World.size_alloc]; omega) (fun e => row_ne hrow hk (fun cur e => by subst e; cases hcl) e.symm)).trans ((Below.heap_alloc _ _ _ hl).trans hk)⟩
theorem bw_put {w0 w1 V w3 : World} {B : Nat} {l : List Nat} {x : Nat} {v v' : Value} {o : Obj} (h : BW w0 w1 B l V) (hv : V.heap[B]? = some (.cells #[v] 53 (0, 0)))
    (hrow : V.ownsRow (B + 1) 58 1 v l.length (icells l)) (hg : (V.alloc o).grownBy w3 v.ownBlock) (ho : w3.ownsRow (B + 1) 58 1 v' (l.length + 1) (icells l ++ [.int .u32 (x : Int)])) :
    BW w0 w1 B (l ++ [x]) (w3.setCell ⟨B, 0, none⟩ v') := by
  have hs := h.size
  have hlo := h.lo
  have hb : Below w0.heap.size w0 w3 := (h.below.alloc h.below.size o).grown hg (by rw [World.size_alloc]; have := h.below.size; omega) (fun k e => by have := row_lt hrow e; omega)
  have hlo1 := h.lo1
  have hb1 : Below w1.heap.size w1 w3 := (h.below1.alloc h.below1.size o).grown hg (by rw [World.size_alloc]; have := h.below1.size; omega) (fun k e => by have := row_lt hrow e; omega)
  have hz : (w3.setCell ⟨B, 0, none⟩ v').heap.size = w3.heap.size := by simp [World.setCell]
  have hgs := hg.size
  rw [World.size_alloc] at hgs
  refine ⟨hb.setCell (by show _ ≤ B; omega) _, hb1.setCell (by show _ ≤ B; omega) _, (heap_setCell_ne _ _ _ (by omega)).trans ((bw_old hrow hg (by omega) (by omega)).trans h.r0),
    ⟨v', box_set _ ((bw_old hrow hg (by omega) (by omega)).trans hv), ?_⟩, by rw [hz]; omega, hlo, hlo1⟩
  rw [List.length_append, icells_append]
  exact own_move ho fun k hk => heap_setCell_ne _ _ _ (by have := row_lt ho hk; omega)
theorem c_of_own {W : World} {base : Nat} {v : Value} {l : List Nat} (h : W.ownsRow base 58 1 v l.length (icells l)) : ∃ A c, v = .slice A l.length c ∧ l.length ≤ c ∧ Kd.C (Kd.int .u32) W A l.length (asInts l) := by
  have hlen : (asInts l).length = l.length := by unfold asInts; rw [List.length_map]
  rcases h.2 with ⟨rfl, h0⟩ | ⟨g, cap, cur, rfl, _, hg, hc, hm, hcs, hx⟩
  · exact ⟨none, 0, by rw [h0], by omega, hlen, by omega, fun hn => absurd hn (by omega)⟩
  · refine ⟨some ⟨g, 0, none⟩, cap, rfl, hc, hlen, by unfold maxLen at hm; omega, fun hn => ⟨_, rfl, fun j p hj => ?_⟩⟩
    unfold asInts at hj
    rw [List.getElem?_map] at hj
    obtain ⟨q, hq, rfl⟩ := Option.map_eq_some_iff.1 hj
    refine ⟨[.int .u32 (q : Int)], rfl, rfl, fun i u hu => ?_⟩
    have hjl := (List.getElem?_eq_some_iff.1 hq).1
    obtain rfl : i = 0 := by
      have := (List.getElem?_eq_some_iff.1 hu).1
      simpa using this
    obtain rfl : Value.int .u32 (q : Int) = u := by simpa using hu
    have e1 : (icells l)[j]? = some (.int .u32 (q : Int)) := by unfold icells; rw [List.getElem?_map, hq]; rfl
    rw [← hx, List.getElem?_take_of_lt (by omega), Array.getElem?_toList] at e1
    rw [add_off]
    have hz : (Kd.int .u32).sz = 1 := rfl
    simp [World.cell?, hg, hz, e1]
theorem sb_res {n0 : Nat} {b : Bool} {W' : World} (tmps : Array Value) (hc : W'.cell? ⟨n0, 0, none⟩ = some (.bool b)) (h4 : tmps.getD 4 undef = .pointer (some ⟨n0, 0, none⟩)) :
    (results Tryd.f8 tmps).run Tryd.prog W' = .ok (.bool b) W' := by
  rw [results_cell1w rfl, h4]
  go_simp
set_option maxRecDepth 100000 in
set_option maxHeartbeats 4000000 in
theorem seqsetBack_any (w : World) (A0 : Option Addr) (c0 : Nat) (l0 : List S80) (t : Int) (hr0 : Kd.C k80 w A0 l0.length l0) (hc0 : l0.length ≤ c0) (h32 : R32 (l0.map ofR)) (ht0 : 0 ≤ t) (ht1 : t < 65536) (hG : GlobOk w) (m : Nat) (hm : 20 ≤ m) :
    CallsIn Fence.wide m Tryd.prog 8 #[.slice A0 l0.length c0, .int .u16 t] w fun e w' => e = .returned (.bool true) ∧ Below w.heap.size w w' := by
  have HR0 := Hd.mk hr0
  have HG := Hd.mk hG
  have HC0 := Hd.mk hc0
  have H32 := Hd.mk h32
  have hl0 : l0.length ≤ 9223372036854775807 := hr0.2.1
  clear hr0 hG hc0 h32
  refine callsIn_of_wp_marks Tryd.func8 rfl trivial ?_ rfl
  simp only [Tryd.ntmps8, List.size_toArray, List.length_cons, List.length_nil, Nat.reduceAdd, Nat.reduceSub, Array.replicate_succ, Array.replicate_zero, List.push_toArray, List.append_toArray, List.nil_append, List.cons_append]
  have hend : ∀ W' : World, Shut (w.heap.size + 1) (w.alloc (.cells #[.bool true] 4)) W' → W'.cell? ⟨w.heap.size, 0, none⟩ = some (.bool true) ∧ Below w.heap.size w W' := by
    intro W' hs
    exact ⟨(box_cell (hs.cells _ _ _ _ (World.alloc_heap_new w _))).1, sw_below hs (by omega) ((Below.refl _ w).alloc (Nat.le_refl _) _)⟩
  by_cases g0 : (64 : Int) < (l0.length : Int)
  · refine (wpIn_wide (n := m)).2 ?_
    go_wp2
    refine leaves_marks (B := w.heap.size + 1) _ _ ?_ ?_
    · exact ⟨fun d hd => absurd hd List.not_mem_nil, List.Pairwise.nil⟩
    · intro W' hs
      exact ⟨.bool true, sb_res _ (hend W' hs).1 rfl, rfl, (hend W' hs).2⟩
  · by_cases g1 : (l0.length : Int) = 0
    · refine (wpIn_wide (n := m)).2 ?_
      go_wp2
      refine leaves_marks (B := w.heap.size + 1) _ _ ?_ ?_
      · exact ⟨fun d hd => absurd hd List.not_mem_nil, List.Pairwise.nil⟩
      · intro W' hs
        exact ⟨.bool true, sb_res _ (hend W' hs).1 rfl, rfl, (hend W' hs).2⟩
    · have hlz : ((l0.length : Int) == 0) = false := beq_eq_false_iff_ne.2 g1
      by_cases g2 : 400 < t
      · refine (wpIn_wide (n := m)).2 ?_
        go_wp2
        refine leaves_marks (B := w.heap.size + 1) _ _ ?_ ?_
        · exact ⟨fun d hd => absurd hd List.not_mem_nil, List.Pairwise.nil⟩
        · intro W' hs
          exact ⟨.bool true, sb_res _ (hend W' hs).1 rfl, rfl, (hend W' hs).2⟩
      · obtain ⟨tn, rfl⟩ : ∃ tn : Nat, t = tn := ⟨t.toNat, by omega⟩
        have htw : IntKind.u32.wrap (tn : Int) = (tn : Int) := by rw [IntKind.wrap_u32]; omega
        obtain ⟨X, hX⟩ : ∃ X, l0.map ofR = X := ⟨_, rfl⟩
        have hXl : X.length = l0.length := by rw [← hX, List.length_map]
        have hXr : X.map toR = l0 := by
          rw [← hX, List.map_map]
          have : (toR ∘ ofR) = id := by funext r; rfl
          rw [this, List.map_id]
        have HX32 := Hd.mk (show R32 X by rw [← hX]; exact H32.out)
        have HOwn := Hd.mk (show postchaiselaw02_Own.f 80 l0 = some X by rw [← hX]; exact own_f l0 (by omega) 80 (by omega))
        have HStr := Hd.mk (string_f X HX32.out (by omega) 2100 (by omega))
        have hne : X ≠ [] := fun e => by rw [e] at hXl; exact g1 (by rw [← hXl]; rfl)
        have HPar : Hd (seqset_Parse.f (setT X) = some (X, 0)) := ⟨by
          have hsz := setT_size HX32.out
          unfold seqset_Parse.f
          rw [if_pos (by omega), parse_setT HX32.out hne]
          unfold parseOut
          simp only
          rw [if_neg (by omega)]⟩
        have HSame := Hd.mk (show postchaiselaw02_Same.f 2000 X l0 = some true by have h := same_f X (by omega) 2000 (by omega); rw [hXr] at h; exact h)
        have HAw := Hd.mk (awake_f 2100 (by omega))
        have HN1 := Hd.mk g1
        have h0f := eq_false g0
        have h2f := eq_false g2
        have H0 := Hd.mk g0
        have H2 := Hd.mk g2
        have HXl := Hd.mk hXl
        have hb0 : Below w.heap.size w (w.alloc (.cells #[.bool false] 4)) := (Below.refl _ w).alloc (Nat.le_refl _) _
        have HB0 := Hd.mk hb0
        clear g1 g0 g2 hend hl0 ht0 ht1 hX hne hXr hXl hb0
        gi_wp2
        refine And.intro trivial (And.intro (fun h => absurd h (by simp [Fence.wide])) ((callsIn_wide.2 (postchaiselaw02_Own.calls 80 A0 c0 l0 X _ (Kd.C_below HR0.out HB0.out) HC0.out HOwn.out)).mono ?_))
        rintro e W1 ⟨v1, rfl, R1, B1⟩
        obtain ⟨A1, c1, rfl, hc1, C1⟩ := Kd.R_reads R1
        have HC1 := Hd.mk hc1
        have HRow1 := Hd.mk C1
        have HOwn1 := Hd.mk R1
        have HB1 := Hd.mk (HB0.out.trans (B1.mono (by simp)))
        have HP1 := Hd.mk (show W1.heap[w.heap.size]? = some (.cells #[.bool false] 4 (0, 0)) from (B1.block w.heap.size (by simp)).trans (World.alloc_heap_new w _))
        clear R1 B1 C1 hc1
        gi_wp2
        refine And.intro trivial (And.intro (fun h => absurd h (by simp [Fence.wide])) ((callsIn_wide.2 (seqset_Set_String.calls 2100 A1 c1 X _ W1 (HG.out.on HB1.out) HRow1.out HC1.out HStr.out)).mono ?_))
        rintro e W2 ⟨rfl, B2⟩
        have HB2 := Hd.mk B2
        clear B2
        gi_wp2
        refine And.intro trivial (And.intro (fun h => absurd h (by simp [Fence.wide])) ((callsIn_wide.2 (seqset_Parse.calls (setT X) X 0 W2 ((HG.out.on HB1.out).on HB2.out) HPar.out)).mono ?_))
        rintro e W3 ⟨v3, rfl, R3, B3⟩
        obtain ⟨A3, c3, rfl, hc3, C3⟩ := Kd.R_reads R3
        have HC3 := Hd.mk hc3
        have HRow3 := Hd.mk C3
        have HB3 := Hd.mk (HB2.out.trans (B3.mono HB2.out.size))
        clear R3 B3 C3 hc3
        gi_wp2
        refine And.intro trivial (And.intro (fun h => absurd h (by simp [Fence.wide])) ((callsIn_wide.2 (postchaiselaw02_Same.calls 2000 A3 c3 X A0 c0 l0 true W3 HRow3.out HC3.out (Kd.C_below HR0.out (HB1.out.trans (HB3.out.mono HB1.out.size))) HC0.out HSame.out)).mono ?_))
        rintro e W4 ⟨rfl, D4⟩
        have HB4 := Hd.mk (HB3.out.trans (D4.below.mono HB3.out.size))
        clear D4
        gi_wp2
        refine And.intro trivial (And.intro (fun h => absurd h (by simp [Fence.wide])) ((callsIn_wide.2 (walkMk_any A1 X.length c1 tn W4)).mono ?_))
        rintro e W5 ⟨rfl, hW5⟩
        have HW5 := Hd.mk hW5
        have hs5 : W5.heap.size = W4.heap.size + 1 + 1 := by rw [hW5]; simp
        have hfn := walk_func_nil 46 #[.pointer (some ⟨W4.heap.size, 0, none⟩), .pointer (some ⟨W4.heap.size + 1, 0, none⟩)]
        have hs1 : w.heap.size + 1 ≤ W1.heap.size := (Array.getElem?_eq_some_iff.1 HP1.out).1
        have hs4 : W1.heap.size ≤ W4.heap.size := HB4.out.size
        have HLoc : Hd (A1 = none ∨ ∃ g, A1 = some ⟨g, 0, none⟩ ∧ w.heap.size + 1 ≤ g ∧ g < W1.heap.size) := ⟨by
          obtain ⟨inner, ho⟩ := Kd.R_own HOwn1.out
          rcases ho.2 with ⟨e, _⟩ | ⟨g, cap, cur, e, hg, hh, _⟩
          · injection e with e1 e2 e3; exact .inl e1
          · injection e with e1 e2 e3
            exact .inr ⟨g, e1, by simpa using hg, (Array.getElem?_eq_some_iff.1 hh).1⟩⟩
        have HBk : Hd (∀ k, walkBk A1 W4.heap.size (W4.heap.size + 1) k → w.heap.size + 1 ≤ k ∧ k < W4.heap.size + 1 + 1) := ⟨fun k hk => by
          rcases hk with rfl | rfl | ⟨ad, e, rfl⟩
          · omega
          · omega
          · rcases HLoc.out with h | ⟨g, h, h1, h2⟩
            · rw [h] at e; cases e
            · rw [h] at e; cases e; exact ⟨h1, by show g < _; omega⟩⟩
        have HS1 := Hd.mk hs1
        have HS4 := Hd.mk hs4
        clear hW5 hs1 hs4
        gi_wp2
        refine wpIn_rangeFunc_state2 rfl (by omega) (gf := 46) (lb := #[.pointer (some ⟨W4.heap.size, 0, none⟩), .pointer (some ⟨W4.heap.size + 1, 0, none⟩)]) rfl trivial
          (enters_of Tryd.func46 (by kernel_rfl) rfl) (walk_state2 X tn A1 c1 W4.heap.size (W4.heap.size + 1) (by have := HXl.out; have := H0.out; omega) (by have := H2.out; omega) _)
          (fun _ e => e.elim) ?blocks ?stands (fun _ => rfl)
          (fun pre W => ∃ k, k ≤ tn ∧ pre = meantTo (hasB X tn) k ∧ BW w W1 (W4.heap.size + 1 + 1) pre W)
          (fun c pre W => False)
          ?own ?ownx ?abide ?abidex ?zero
          (fun x => { tmps := #[.slice A0 l0.length c0, .int .u16 tn, undef, undef, .pointer (some ⟨w.heap.size, 0, none⟩), .slice A1 X.length c1, .slice A3 X.length c3, .int .i64 0, .func (.func 46) #[] #[.pointer (some ⟨W4.heap.size, 0, none⟩), .pointer (some ⟨W4.heap.size + 1, 0, none⟩)], .pointer (some ⟨W4.heap.size + 1 + 1, 0, none⟩), .int .u32 (x : Nat), undef, undef, .slice A0 l0.length c0, .int .i64 (l0.length : Nat), .bool false, .bool false, .slice A0 l0.length c0, .int .i64 (l0.length : Nat), .bool false, .bool false, .bool false, .int .u16 tn, .bool false, .bool false, .slice A0 l0.length c0, .slice A1 X.length c1, .tuple #[.slice A3 X.length c3, .int .i64 0], .slice A1 X.length c1, .string (setT X), .tuple #[.slice A3 X.length c3, .int .i64 0], .slice A3 X.length c3, .int .i64 0, .int .i64 0, .bool false, .bool false, .slice A3 X.length c3, .slice A0 l0.length c0, .bool true, .bool false, .bool false, .slice A1 X.length c1, .int .u16 tn, .int .u32 tn, .func (.func 46) #[] #[.pointer (some ⟨W4.heap.size, 0, none⟩), .pointer (some ⟨W4.heap.size + 1, 0, none⟩)], .func (.func 46) #[] #[.pointer (some ⟨W4.heap.size, 0, none⟩), .pointer (some ⟨W4.heap.size + 1, 0, none⟩)], .bool false, .func (.func 46) #[] #[.pointer (some ⟨W4.heap.size, 0, none⟩), .pointer (some ⟨W4.heap.size + 1, 0, none⟩)], .int .u32 (x : Nat), undef, undef, undef, undef, undef, undef, undef, undef, undef, undef, undef, undef, undef, undef, undef, undef, undef, undef, undef, undef, undef, undef, undef, undef, undef, undef, undef, undef, undef, undef, undef, undef, undef, undef, undef, undef, undef, undef], defers := [] }) ?assign ?body ?done ?stop
        case blocks =>
          intro k hk
          have := (HBk.out k hk).2
          simp only [World.size_alloc]
          omega
        case stands =>
          intro W hW
          refine WalkSt.on ?_ hW
          refine ⟨?_, ?_, ?_⟩
          · refine Go.Lib.cell?_alloc_some _ ?_
            rw [HW5.out]; go_simp
          · refine Go.Lib.cell?_alloc_some _ ?_
            rw [HW5.out]; go_simp
          · rw [HW5.out]
            have hb := (((HB4.out.trans ((Below.refl _ W4).mono HB4.out.size)).alloc HB4.out.size (.cells #[.slice A1 X.length c1] 44)).alloc (by have := HB4.out.size; simp; omega) (.cells #[.int .u32 tn] 58)).alloc (by have := HB4.out.size; simp; omega) (.cells #[.slice none 0 0] 53)
            exact Kd.C_below HRow1.out hb
        case own =>
          rintro pre P Q row ⟨k, hk, hp, hP⟩ hg hr
          exact ⟨k, hk, hp, hP.grown hg (fun j e => by have := (hr j e).1; simp only [World.size_alloc] at this; exact ⟨by omega, (hr j e).2⟩)⟩
        case ownx => exact fun c pre P Q row h => h.elim
        case abide =>
          rintro pre P Q ⟨k, hk, hp, hP⟩ ht
          exact ⟨k, hk, hp, hP.touched ht⟩
        case abidex => exact fun c pre P Q h => h.elim
        case zero =>
          have hsw := HS1.out
          have hs4 := HS4.out
          refine ⟨0, Nat.zero_le _, rfl, ?_, ?_, ?_, ⟨.slice none 0 0, ?_, ⟨rfl, .inl ⟨rfl, rfl⟩⟩⟩, by simp [hs5], by omega, by omega⟩
          · rw [HW5.out]
            exact (((HB1.out.trans (HB4.out.mono HB1.out.size)).alloc (by omega) _).alloc (by simp; omega) _).alloc (by simp; omega) _
          · rw [HW5.out]
            exact ((HB4.out.alloc (by omega) _).alloc (by simp; omega) _).alloc (by simp; omega) _
          · rw [HW5.out]
            exact (Below.heap_alloc _ _ _ (by first | (simp; done) | (simp; omega) | omega)).trans ((Below.heap_alloc _ _ _ (by first | (simp; done) | (simp; omega) | omega)).trans ((Below.heap_alloc _ _ _ (by first | (simp; done) | (simp; omega) | omega)).trans ((HB4.out.block w.heap.size (by omega)).trans HP1.out)))
          · exact heap_at1 _ _ hs5.symm
        case assign =>
          intro l x V K hK
          gi_wp2
          exact hK
        case body =>
          rintro l pre x V ⟨k, hk, hpre, hV⟩ ⟨hx0, hxt, hxp, hxe⟩
          have HE := Hd.mk (show x ≤ tn ∧ pre ++ [x] = meantTo (hasB X tn) x from ⟨hxt, hxe⟩)
          have hpl : pre.length ≤ 400 := by
            have h1 := meantTo_count (hasB X tn) k
            have h2 := H2.out
            rw [hpre]; omega
          obtain ⟨v, hv, hrow⟩ := hV.box
          obtain ⟨hc, hf⟩ := box_cell hv
          obtain ⟨Av, cv, rfl⟩ := own_slice hrow
          have hq := eq_false (show ¬ (400 : Int) < (pre.length : Int) by omega)
          have hsz := hV.size
          have HV := Hd.mk hV
          have HRow := Hd.mk hrow
          have Hv := Hd.mk hv
          obtain ⟨i0, hi, hz0, hz1, hz2⟩ := info_parts info_u32
          clear hV hrow hv hxe hxp hpre hxt hk
          gi_wp2_with (first
            | (gi_at_builtin; refine wpListIn_append_own _ rfl _ _ 53 rfl (W4.heap.size + 1 + 1 + 1) 58 i0 (.int .u32 0) 1 4 Tryd.underlying53 hi hz0 hz1 hz2 rfl (by decide) _ pre.length (icells pre) rfl (HRow.out.alloc _) ⟨V.heap.size, 0, none⟩ 1 1 [.int .u32 (x : Int)] rfl rfl (cell_one_new _ _ _) (by simp [Value.oneCell']) (by unfold maxLen; omega) (by omega) (by simp; omega) ?_; intro v' w3 hown' hg3 hnil3
               have hv3 : w3.heap[W4.heap.size + 1 + 1]? = some (.cells #[.slice Av pre.length cv] 53 (0, 0)) := (bw_old HRow.out hg3 (by omega) (by omega)).trans Hv.out
               obtain ⟨hc3, hf3⟩ := box_cell hv3
               obtain ⟨g', cap', cur', rfl, hbase', -⟩ : ∃ g' cap' cur', v' = .slice (some ⟨g', 0, none⟩) (pre.length + 1) cap' ∧ W4.heap.size + 1 + 1 + 1 ≤ g' ∧ w3.heap[g']? = some (.cells cur' 58 (0, 0)) := by
                 rcases hown'.2 with ⟨_, h0⟩ | ⟨g, c, cu, h1, h2, h3, _⟩
                 · exact absurd h0 (by omega)
                 · exact ⟨g, c, cu, h1, h2, h3⟩
               have HG3 : Hd _ := ⟨hg3⟩
               have HO3 : Hd _ := ⟨hown'⟩
               have HN3 : Hd _ := ⟨hnil3⟩
               have Hv3 : Hd _ := ⟨hv3⟩
               clear hg3 hown' hnil3 hv3 hc hf)
            | gi_in)
          refine ⟨?_, ?_, x, HE.out.1, HE.out.2, bw_put HV.out Hv.out HRow.out HG3.out HO3.out⟩
          · simp only [World.size_alloc]
            exact keeps_put (bw_keeps HRow.out HG3.out) _ _ (by first | (simp; done) | (simp; omega) | omega)
          · intro k hk
            have h5 := HBk.out k hk
            exact (heap_setCell_ne _ _ _ (by omega)).trans (bw_old HRow.out HG3.out (by omega) (by omega))
        case done =>
          rintro D xs V rfl hxs0 ⟨k, hk, hxs, hV⟩ hD
          simp only [World.size_alloc, hs5] at hD
          simp only [World.size_alloc, hs5]
          obtain ⟨v, hv, hrow⟩ := hV.box
          obtain ⟨hc, hf⟩ := box_cell hv
          obtain ⟨Al, cl, rfl, hcl, HCl⟩ := c_of_own hrow
          have hmem : ∀ i : Nat, (i : Int) ∈ asInts xs ↔ 0 < i ∧ i ≤ tn ∧ hasB X tn i = true := by
            intro i
            rw [← meantTo_mem (p := hasB X tn) tn i, ← hxs0]
            unfold asInts
            rw [List.mem_map]
            constructor
            · rintro ⟨q, hq, e⟩
              obtain rfl : q = i := by omega
              exact hq
            · exact fun h => ⟨i, h, rfl⟩
          have hal : (asInts xs).length = xs.length := by unfold asInts; rw [List.length_map]
          have hxl : xs.length ≤ 400 := by
            have h1 := meantTo_count (hasB X tn) tn
            have h2 := H2.out
            rw [hxs0]; omega
          have hri : Rises (asInts xs) := rises_of (fun i hi => by rw [hxs0] at hi; exact ((meantTo_mem _ _).1 hi).1) (by rw [hxs0]; exact meantTo_pairs tn)
          have hu32 : U32 (asInts xs) := by
            intro y hy
            unfold asInts at hy
            obtain ⟨q, hq, rfl⟩ := List.mem_map.1 hy
            rw [hxs0] at hq
            have := (meantTo_mem _ _).1 hq
            have h2 := H2.out
            omega
          have hOf := of_f (asInts xs) hu32 (by omega) 2100 (by omega)
          have hMe := fun i => of_means hri tn i
          have hol := ofGo_len (asInts xs) (asInts xs).length 0 []
          have hol2 : (ofGo (asInts xs) (asInts xs).length 0 []).length ≤ xs.length := by have h00 : ([] : List S78).length = 0 := rfl; omega
          obtain ⟨og, hog⟩ : ∃ og, ofGo (asInts xs) (asInts xs).length 0 [] = og := ⟨_, rfl⟩
          rw [hog] at hOf hMe hol2
          have HSay : Hd (∀ i : Nat, i ≤ tn → (decide (0 < i) && hasB og tn i) = (decide (0 < i) && hasB X tn i)) := ⟨fun i hi => by
            by_cases h0 : 0 < i
            · have h1 := (hMe i).trans (hmem i)
              have h2 : (hasB og tn i = true) ↔ (hasB X tn i = true) := ⟨fun h => (h1.1 h).2.2, fun h => h1.2 ⟨h0, hi, h⟩⟩
              rw [Bool.eq_iff_iff.2 h2]
            · simp [h0]⟩
          have HOf := Hd.mk hOf
          have HCl := Hd.mk HCl
          have Hcl := Hd.mk hcl
          have HV := Hd.mk hV
          have Hv := Hd.mk hv
          have HD := Hd.mk hD
          have Hxl := Hd.mk hxl
          have Hog2 := Hd.mk hol2
          clear hOf hMe hol hol2 hog hu32 hri hxl hmem hcl hV hv hD hrow hxs hxs0 hk
          gi_wp2
          have hO := seqset_Of.calls 2100 Al cl (asInts xs) og V (by rw [hal]; exact HCl.out) (by rw [hal]; exact Hcl.out) HOf.out
          rw [hal] at hO
          have HO := Hd.mk hO
          clear hO hal
          refine And.intro trivial (And.intro (fun h => absurd h (by simp [Fence.wide])) ((callsIn_wide.2 HO.out).mono ?_))
          rintro e V1 ⟨v1, rfl, R1, B1⟩
          obtain ⟨Ao, co, rfl, hco, Co⟩ := Kd.R_reads R1
          have HB1V := Hd.mk B1
          have HCo := Hd.mk Co
          have Hco := Hd.mk hco
          clear R1 B1 hco Co hc hf
          gi_wp2
          gi_loopw [12] (fun u wr => ∃ n : Nat, u = .int .u32 (n : Int) ∧ n ≤ tn + 1 ∧ Hd (Below V1.heap.size V1 wr)) (fun u _ => tn + 1 - (intOf u).toNat)
          case atStart => exact ⟨0, rfl, by omega, ⟨Below.refl _ _⟩⟩
          case round =>
            obtain ⟨n, rfl, hn, HBr⟩ := hrel
            have hlo := Hog2.out
            have hlx := Hxl.out
            have hX64 : X.length ≤ 1000 := by have := HXl.out; have := H0.out; omega
            by_cases hA : n ≤ tn
            · have qa : (n : Int) ≤ (tn : Int) := by omega
              have fw : IntKind.u32.wrap ((n : Int) + 1) = (n : Int) + 1 := by rw [IntKind.wrap_u32]; have := H2.out; omega
              have hh1 := has_f og n tn (by omega) 2100 (by omega)
              rw [HSay.out n hA] at hh1
              have hh2 := has_f X n tn (by omega) 2100 (by omega)
              have HCX : Hd (Below W1.heap.size W1 wr) := ⟨HV.out.below1.trans ((HB1V.out.mono HV.out.below1.size).trans (HBr.out.mono (Nat.le_trans HV.out.below1.size HB1V.out.size)))⟩
              have hn0 : n = 0 → (decide (0 < n) && hasB X tn n) = false := fun e => by subst e; rfl
              obtain ⟨r, hr⟩ : ∃ r, (decide (0 < n) && hasB X tn n) = r := ⟨_, rfl⟩
              rw [hr] at hh1 hh2 hn0
              have HH1 := Hd.mk hh1
              have HH2 := Hd.mk hh2
              have HN0 := Hd.mk hn0
              have HA2 := Hd.mk hA
              clear hh1 hh2 hr hn0 hA hlo hlx hX64
              gi_wp2
              refine And.intro trivial (And.intro (fun h => absurd h (by simp [Fence.wide])) ((callsIn_wide.2 (seqset_Set_Has.calls 2100 Ao co og n tn r wr (Kd.C_below HCo.out HBr.out) Hco.out HH1.out)).mono ?_))
              rintro e W6 ⟨rfl, B6⟩
              have HB6 := Hd.mk B6
              clear B6
              by_cases h0 : 0 < n
              · have q0 : (0 : Int) < (n : Int) := by omega
                have HP := Hd.mk h0
                clear h0
                gi_wp2
                refine And.intro trivial (And.intro (fun h => absurd h (by simp [Fence.wide])) ((callsIn_wide.2 (seqset_Set_Has.calls 2100 A1 c1 X n tn r W6 (Kd.C_below HRow1.out (HCX.out.trans (HB6.out.mono HCX.out.size))) HC1.out HH2.out)).mono ?_))
                rintro e W7 ⟨rfl, B7⟩
                have HB7 := Hd.mk B7
                clear B7
                cases r <;> gi_wp2
                all_goals
                  go_roundw
                  case rel => exact ⟨n + 1, rfl, by have := HA2.out; omega, ⟨HBr.out.trans ((HB6.out.mono HBr.out.size).trans (HB7.out.mono (Nat.le_trans HBr.out.size HB6.out.size)))⟩⟩
                  case measure =>
                    have := HA2.out
                    simp [intOf]; omega
              · obtain rfl : n = 0 := by omega
                obtain rfl : r = false := HN0.out rfl
                clear h0
                gi_wp2
                refine And.intro trivial ?_
                gi_wp2
                go_roundw
                case rel => exact ⟨1, rfl, by omega, ⟨HBr.out.trans (HB6.out.mono HBr.out.size)⟩⟩
                case measure =>
                  have := HA2.out
                  simp [intOf]
            · have qa := eq_false (show ¬ (n : Int) ≤ (tn : Int) by omega)
              clear hA
              have hBV : Below V.heap.size V wr := HB1V.out.trans (HBr.out.mono HB1V.out.size)
              have HBV := Hd.mk hBV
              have HT := Hd.mk (HV.out.on hBV)
              have hvc : wr.heap[W4.heap.size + 1 + 1]? = some (.cells #[.slice Al xs.length cl] 53 (0, 0)) := (hBV.block _ (Array.getElem?_eq_some_iff.1 Hv.out).1).trans Hv.out
              obtain ⟨hc, hf⟩ := box_cell hvc
              obtain ⟨p0, p1⟩ := box_cell HT.out.r0
              have qb : (og.length : Int) ≤ (xs.length : Int) := by omega
              clear hBV hvc hlo hlx hX64
              gi_wp2
              refine And.intro trivial (And.intro (fun h => absurd h (by simp [Fence.wide])) ((callsIn_wide.2 (postchaiselaw02_awake.calls 2100 true wr (HG.out.on HT.out.below) HAw.out)).mono ?_))
              rintro e W8 ⟨rfl, B8⟩
              have HT8 := Hd.mk (HT.out.on B8)
              have HM8 := Hd.mk ((B8.block _ (by have := (Array.getElem?_eq_some_iff.1 HD.out).1; have := HBV.out.size; omega)).trans ((HBV.out.block _ (Array.getElem?_eq_some_iff.1 HD.out).1).trans HD.out))
              clear B8 p0 p1 hc hf
              obtain ⟨p0, p1⟩ := box_cell HT8.out.r0
              have HR8 := Hd.mk (box_set (.bool true) HT8.out.r0)
              have HN8 := Hd.mk ((heap_setCell_ne W8 w.heap.size (.bool true) (k := W4.heap.size + 1 + 1 + 1) (by have := HT8.out.lo; omega)).trans HM8.out)
              have HB8 := Hd.mk (HT8.out.below.setCell (p := ⟨w.heap.size, 0, none⟩) (Nat.le_refl _) (.bool true))
              have hlo8 := HT8.out.lo
              gi_wp2
              refine leaves_marks (B := w.heap.size + 1) _ _ ?_ ?_
              · refine ⟨fun d hd => ?_, List.pairwise_singleton _ _⟩
                rw [List.mem_singleton.1 hd]
                exact ⟨_, rfl, by omega, HN8.out⟩
              · intro W' hs
                exact ⟨.bool true, sb_res _ (box_cell (hs.cells _ _ _ _ HR8.out)).1 rfl, rfl, sw_below hs (by omega) HB8.out⟩
        case stop => exact fun D c pre V _ _ h => h.elim
end
open Go.ChangeShapes Go.WideShapes Go.ChangeAt Go.RowKit
open Go.ChangeMaps (open_string shut_string)
def laidS : List (String × DataW Unit) := [("math/bits.deBruijn32tab", Rows.laid_math_bits_deBruijn32tab), ("math/bits.deBruijn64tab", Rows.laid_math_bits_deBruijn64tab), ("internal/strconv.uint64pow10", Rows.laid_internal_strconv_uint64pow10), ("unicode/utf8.acceptRanges", Rows.laid_unicode_utf8_acceptRanges), ("strconv.ErrRange", Rows.laid_strconv_ErrRange), ("strconv.ErrSyntax", Rows.laid_strconv_ErrSyntax), ("unicode/utf8.first", Rows.laid_unicode_utf8_first)]
theorem own : ownKnob Tryd.prog.godebug = none := by kernel_rfl
theorem glob_laid {W : World} (h : laidMetH Tryd.prog laidS W) : GlobOk W := by
  rw [MakeChecks.laidMetH_plain _ _ _ (by kernel_rfl)] at h
  obtain ⟨ps, ⟨g0, t0, cs0, f0, p0, q0, hg0, ht0, hv0, hd0, ⟨g1, t1, cs1, f1, p1, q1, hg1, ht1, hv1, hd1, ⟨g2, t2, cs2, f2, p2, q2, hg2, ht2, hv2, hd2, ⟨g3, t3, cs3, f3, p3, q3, hg3, ht3, hv3, hd3, ⟨g4, t4, cs4, f4, p4, q4, hg4, ht4, hv4, hd4, ⟨g5, t5, cs5, f5, p5, q5, hg5, ht5, hv5, hd5, _⟩, _⟩, _⟩, _⟩, _⟩, _⟩, _⟩ := h
  refine ⟨?_, ?_, ?_⟩
  · obtain rfl := Option.some.inj (g_tab.symm.trans hg2)
    obtain rfl := Option.some.inj ((show (Tryd.prog.globals[6]?).map (·.type) = some 136 by kernel_rfl).symm.trans ht2)
    have hd : DataW.trod (fun _ => ()) Tryd.prog W 0 (fun _ => true) false f2 136 cs2.toList = some (Lib.tabData .u64 Lib.pow10Tab, p2) := hd2
    unfold Lib.TabIs
    rw [hv2, ← Lib.cells_of_tab Tryd.underlying136 Tryd.underlying97 (by kernel_rfl) (by kernel_rfl) hd]
  · obtain rfl := Option.some.inj (g_errS.symm.trans hg5)
    obtain rfl := Option.some.inj ((show (Tryd.prog.globals[4]?).map (·.type) = some 93 by kernel_rfl).symm.trans ht5)
    obtain ⟨_, u, v, hcs, _, _⟩ := iface_of_trod Tryd.underlying93 hd5
    exact ⟨u, v, by rw [hv5, Array.eq_one_of_toList hcs]⟩
  · obtain rfl := Option.some.inj (g_errR.symm.trans hg4)
    obtain rfl := Option.some.inj ((show (Tryd.prog.globals[5]?).map (·.type) = some 93 by kernel_rfl).symm.trans ht4)
    obtain ⟨_, u, v, hcs, _, _⟩ := iface_of_trod Tryd.underlying93 hd4
    exact ⟨u, v, by rw [hv4, Array.eq_one_of_toList hcs]⟩
open Go.Proofs.YtahbnpkhkhdmaaaDoorW.PrintWords PSq
def RRng (p : Int × Int) (cs : List Value) : Prop := cs = [.int .u32 p.1, .int .u32 p.2] ∧ (Lit.int .u32 p.1).wf = true ∧ (Lit.int .u32 p.2).wf = true
def toRng (p : Int × Int) : S80 := ⟨p.1, p.2⟩
set_option maxRecDepth 100000 in
theorem openRng {H : Type} {enc : TypeId × Value → H} {w : World} {spare : Nat → Bool} {held : Bool} :
    ∀ fuel cs x, DataW.trod enc Tryd.prog w 0 spare held fuel 80 cs = some x → cs.length = 2 → ∃ p, RRng p cs := by
  intro fuel cs x h hl
  match cs, hl with
  | [c0, c1], _ =>
    obtain ⟨y0, y1, n0, _, _, h0, h1⟩ := trod_struct2 Tryd.underlying80 h
    simp only [(by kernel_rfl : Tryd.prog.cellsOf 58 = 1), List.drop, List.take, List.take_zero, List.drop_zero] at h0
    obtain ⟨v0, e0, _, w0⟩ := DataW.trod_int Tryd.underlying58 h0
    obtain rfl := (List.cons.inj e0).1
    simp only [(by kernel_rfl : Tryd.prog.cellsOf 58 = 1), List.drop, List.take, List.take_zero, List.drop_zero] at h1
    obtain ⟨v1, e1, _, w1⟩ := DataW.trod_int Tryd.underlying58 h1
    obtain rfl := (List.cons.inj e1).1
    exact ⟨(v0, v1), rfl, w0, w1⟩
theorem c_rng {w : World} {A : Option Addr} {n : Nat} {ps : List (Int × Int)} (h : Recs RRng 2 w A n ps) : Kd.C k80 w A n (ps.map toRng) := by
  obtain ⟨h1, h2, h3⟩ := h
  refine ⟨by simpa using h1, h2, fun hn => ?_⟩
  obtain ⟨ad, e, hc⟩ := h3 hn
  refine ⟨ad, e, fun j p hj => ?_⟩
  rw [List.getElem?_map] at hj
  obtain ⟨q, hq, rfl⟩ := Option.map_eq_some_iff.1 hj
  obtain ⟨c, a1, a2, a3⟩ := hc j q hq
  have e2 := a2.1
  subst e2
  exact ⟨_, a1, k80_mk w (toRng q), a3⟩
theorem c_u32 {w : World} {A : Option Addr} {n : Nat} {ps : List Int} (h : Recs (RInt .u32) 1 w A n ps) : Kd.C (Kd.int .u32) w A n ps := by
  obtain ⟨h1, h2, h3⟩ := h
  refine ⟨h1, h2, fun hn => ?_⟩
  obtain ⟨ad, e, hc⟩ := h3 hn
  refine ⟨ad, e, fun j p hj => ?_⟩
  obtain ⟨c, a1, a2, a3⟩ := hc j p hj
  exact ⟨_, a1, a2.1, a3⟩
theorem u32_range {a : Int} (h : (Lit.int .u32 a).wf = true) : 0 ≤ a ∧ a < 4294967296 := by
  have e : (Lit.int .u32 a).wf = (decide (IntKind.u32.min ≤ a) && decide (a ≤ IntKind.u32.max)) := rfl
  rw [e, Bool.and_eq_true, decide_eq_true_eq, decide_eq_true_eq] at h
  have h1 : IntKind.u32.min = 0 := rfl
  have h2 : IntKind.u32.max = 4294967295 := rfl
  omega
theorem u16_range {a : Int} (h : (Lit.int .u16 a).wf = true) : 0 ≤ a ∧ a < 65536 := by
  have e : (Lit.int .u16 a).wf = (decide (IntKind.u16.min ≤ a) && decide (a ≤ IntKind.u16.max)) := rfl
  rw [e, Bool.and_eq_true, decide_eq_true_eq, decide_eq_true_eq] at h
  have h1 : IntKind.u16.min = 0 := rfl
  have h2 : IntKind.u16.max = 65535 := rfl
  omega
theorem r32_recs {w : World} {A : Option Addr} {n : Nat} {ps : List (Int × Int)} (h : Recs RRng 2 w A n ps) : R32 ((ps.map toRng).map ofR) := by
  intro x hx
  rw [List.map_map] at hx
  obtain ⟨q, hq, rfl⟩ := List.mem_map.1 hx
  obtain ⟨j, hj⟩ := List.mem_iff_getElem?.1 hq
  obtain ⟨h1, _, h3⟩ := h
  have hlt := (List.getElem?_eq_some_iff.1 hj).1
  obtain ⟨ad, _, hc⟩ := h3 (by omega)
  obtain ⟨c, _, a2, _⟩ := hc j q hj
  have k1 := u32_range a2.2.1
  have k2 := u32_range a2.2.2
  exact ⟨⟨k1.1, by show q.1 ≤ _; omega⟩, ⟨k2.1, by show q.2 ≤ _; omega⟩⟩
theorem laidOut : laidOutB Tryd.prog = true := by kernel_rfl
namespace seqsetBack
set_option maxRecDepth 100000 in
theorem lifted (os : Os) (started : os.Started) (H : Type) (enc : TypeId × Value → H) :
    ReturnsInHanded {} Tryd.checked os 8 .any (fun w args => (Rows.seqsetBackSpec.pre enc Tryd.prog Tryd.f8 Rows.seqsetBackRow.domain false w args ∧ laidMetH Tryd.prog laidS w) ∧ sizedMet enc Tryd.prog Tryd.f8 (OpenSpec.ofChange Rows.seqsetBackSpec) false w args)
      (Rows.seqsetBackSpec.post enc Tryd.prog Tryd.f8 false true false false) := by
  refine returnsInHanded_of_change_and (C := Tryd.checked) (X := fun w _ => laidMetH Tryd.prog laidS w) (fun _ _ _ hh h => h.of_heap hh) own started (by kernel_rfl) Tryd.func8
    (ChangeSpec.witness_shaped (enc := enc) (C := Tryd.checked) (os := os) (X := fun w _ => laidMetH Tryd.prog laidS w) false (World.laidAll Tryd.prog os laidS) #[.slice none 0 0, .int .u16 0] 8 (World.laidAll_os _ _ _)
      (World.shaped_of_ZipB (by kernel_rfl) (by kernel_rfl)) (by kernel_rfl) (by kernel_rfl) (by kernel_rfl)
      (by rw [MakeChecks.laidMetH_plain _ _ _ (by kernel_rfl)]; exact laidMet_laidAll _ (by kernel_rfl) (by kernel_rfl))) ?_
  intro W base args ds gs before hval0 hW hc hsz0 hL hq
  have hsz : (DataW.weightsEach Tryd.prog (Tryd.f8.params.toList ++ Rows.seqsetBackSpec.plain.varTypes Tryd.prog) (ds ++ gs)).all (· ≤ reachBytes) = true := hsz0
  have hval : ∀ (j : Nat) t v, Tryd.f8.params[j]? = some t → args[j]? = some v → Value.okWide Tryd.prog W .any base t v := hval0
  have hW' := hW
  obtain ⟨p, q, hA0, hV, rfl, hfz, hnd⟩ := hW
  have hA : DataW.TrodAll enc Tryd.prog W 0 (fun _ => true) true Tryd.f8.params.toList args.toList ds p := hA0
  rw [Tryd.params8] at hA hval
  obtain ⟨v0, vs0, d0, ds0, p0, q0, hargs, rfl, rfl, h0, r0⟩ := trodAll_cons hA
  obtain ⟨v1, vs1, d1, ds1, p1, q1, rfl, rfl, rfl, h1, r1⟩ := trodAll_cons r0
  obtain ⟨rfl, rfl, rfl⟩ := trodAll_nil r1
  obtain rfl : args = #[v0, v1] := by cases args; simp_all
  obtain ⟨rfl, rfl⟩ := trodVars_none hV
  obtain ⟨a0, len0, cap0, rfl⟩ := okWide_slice Tryd.underlying47 (hval 0 47 v0 rfl rfl)
  have lt0 : ∀ x ∈ p0, x.block < W.heap.size := by obtain ⟨m, hm⟩ := h0; exact DataW.trod_lt m _ _ _ hm
  obtain ⟨l0, hcap0, _, w0⟩ := open_recs RRng Tryd.underlying47 (by kernel_rfl : Tryd.prog.cellsOf 80 = 2) h0 openRng
  obtain ⟨a1, rfl, rfl, rfl, w1⟩ := open_int Tryd.underlying52 (hval 1 52 v1 rfl rfl) h1
  have hN := glob_laid hL
  have rg := u16_range w1
  have c0 := c_rng w0
  have s0 := r32_recs w0
  obtain ⟨e0, _, _⟩ := w0
  have f0 : (l0.map toRng).length = len0 := by simpa using e0
  clear hA0 hval0 hsz0 hsz
  rw [← f0] at c0
  have k := seqsetBack_any W a0 cap0 (l0.map toRng) a1 c0 (by omega) s0 rg.1 rg.2 hN 20 (Nat.le_refl _)
  rw [f0] at k
  refine ((callsIn_wide (n := 20)).1 k).mono fun e W' ⟨he, bel⟩ => ?_
  subst he
  exact ⟨_, rfl, _, _, _, [], _, [], hW', trodAll_mk1 (shut_bool Tryd.underlying4 _), (trodAll_cons_mk (Below.trod laidOut (by kernel_rfl) (of_decide_eq_true (by kernel_rfl)) h0 bel lt0) (trodAll_cons_mk (shut_int Tryd.underlying52 w1) trodAll_mk0)), rfl, bel.frame _, fun h => by cases h⟩
theorem holds : Rows.SeqsetBackSaid :=
  OpenClaim.holds_of_wide 8 Tryd.f8 rfl rfl rfl rfl rfl rfl rfl ⟨rfl, rfl, rfl, rfl, rfl⟩ rfl rfl rfl rfl rfl (by kernel_rfl) Tryd.func8 (by kernel_rfl)
    (of_decide_eq_true (by kernel_rfl)) (by unfold Func.isWrapper; first | (rw [if_pos (by decide +kernel)]; kernel_rfl) | (rw [if_neg (by decide +kernel)]; exact ⟨rfl, rfl⟩))
    (fun os started H enc _ => lifted os started H enc)
theorem card_holds : Rows.SeqsetBackCardSaid :=
  Claim7.holds_tied_plain_at .later [] [.data, .data, .data, .data, .sentinel, .sentinel, .pinned] true (true, "a05e9ec925f6a43409b70bf8f0e6ae7d1c44d97a77606053f5dea31443dda426") true holds (fun _ h => by cases h) (by kernel_rfl) (fun _ h => by cases h) seqsetBack_row_tie rfl ⟨rfl, rfl⟩ (by kernel_rfl) rfl
    (fun f fn hf hfn => by
      obtain rfl : f = 8 := Option.some.inj ((show Tryd.prog.funcNamed "postchaise/postchaiselaw02.SeqsetBack" = some 8 by kernel_rfl).symm.trans hf) |>.symm
      obtain rfl : fn = Tryd.f8 := (Option.some.inj (Tryd.func8.symm.trans hfn)).symm
      exact ⟨by kernel_rfl, fun j t ht => by
        rw [Tryd.params8] at ht
        have hm : t ∈ [47, 52] := by simpa using Array.mem_of_getElem? ht
        have hall : ([47, 52].all fun u => !Tryd.prog.wantsStandIn u) = true := by kernel_rfl
        exact (show Tryd.prog.wantsStandIn t = false by simpa using List.all_eq_true.1 hall t hm)⟩)
    (by kernel_rfl)
end seqsetBack
/-- The card, under a short name, for the claim. -/
theorem seqsetBack_holds : Rows.SeqsetBackCardSaid := seqsetBack.card_holds
#print axioms seqsetBack_holds
end Go.Proofs.YtahbnpkhkhdmaaaDoor
