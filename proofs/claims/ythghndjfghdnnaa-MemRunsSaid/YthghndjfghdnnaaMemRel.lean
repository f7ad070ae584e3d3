/- The reference's memory against the program's: plain lists, no program in sight; and the reference's contracts in the form that the law's walk uses. No condition but those that each bears. -/
import Derived.Test.YthghndjfghdnnaaMem
import Derived.Test.YthghndjfghdnnaaQMemRuns2
namespace Go.Proofs.Ythghndjfghdnnaa
open Go.RowKit Go.Proofs.YthghndjfghdnnaaW.PrintWords Go.Proofs.Ythghndjfghdnnaa.PMemRuns
/-- The last change of a word, of the first q. -/
def lastN (L : List S62) (i : Int) : Nat → S62
  | 0 => z62
  | q + 1 => if (rd_T62 L q).f0 = i then rd_T62 L q else lastN L i q
def lastOf (L : List S62) (i : Int) : S62 := lastN L i L.length
theorem last_l0 (L : List S62) (a b i : Int) (hl : L.length ≤ 100000) : ∀ q k, q ≤ L.length → q < k → postchaiseref03_Last.l0 k i ((q : Int) - 1) a b L = some ((lastN L i q).f0, (lastN L i q).f1, (lastN L i q).f2) := by
  intro q
  induction q with
  | zero =>
    intro k _ hk
    obtain ⟨k, rfl⟩ : ∃ m, k = m + 1 := ⟨k - 1, by omega⟩
    simp only [postchaiseref03_Last.l0]
    rw [if_neg (by omega)]; rfl
  | succ q ih =>
    intro k hq hk
    obtain ⟨k, rfl⟩ : ∃ m, k = m + 1 := ⟨k - 1, by omega⟩
    simp only [postchaiseref03_Last.l0]
    have e : (((q + 1 : Nat) : Int) - 1) = (q : Int) := by omega
    rw [e, if_pos (by omega), if_pos (by omega), if_pos (by omega)]
    unfold lastN
    by_cases h : (rd_T62 L q).f0 = i
    · rw [if_pos h, if_pos h]
    · rw [if_neg h, if_neg h, show wrap64 ((q : Int) - 1) = (q : Int) - 1 by unfold wrap64; omega]
      exact ih k (by omega) (by omega)
theorem last_f (L : List S62) (a b i : Int) (hl : L.length ≤ 100000) : postchaiseref03_Last.f (L.length + 1) a b L i = some ((lastOf L i).f0, (lastOf L i).f1, (lastOf L i).f2) := by
  unfold postchaiseref03_Last.f
  rw [show wrap64 ((L.length : Int) - 1) = (L.length : Int) - 1 by unfold wrap64; omega]
  exact last_l0 L a b i hl L.length (L.length + 1) (Nat.le_refl _) (by omega)
abbrev inIt (N i : Int) : Prop := 0 ≤ i ∧ i < N
theorem has_f (N T : Int) (L : List S62) (i : Int) : postchaiseref03_Has.f N T L i = some (decide (inIt N i)) := by
  unfold postchaiseref03_Has.f
  by_cases h : 0 ≤ i
  · rw [if_pos h]; simp [h]
  · rw [if_neg h]; simp [h]
theorem load_f (N T : Int) (L : List S62) (i : Int) (hl : L.length ≤ 100000) : postchaiseref03_Load.f (L.length + 1) N T L i = some (N, if inIt N i then IntKind.u64.wrap (T + 1) else T, L, if inIt N i then (lastOf L i).f1 else 0) := by
  unfold postchaiseref03_Load.f
  rw [has_f]
  by_cases h : inIt N i
  · rw [decide_eq_true h]; simp [last_f L _ _ _ hl, h]
  · rw [decide_eq_false h]; simp [h]
def stored (N T : Int) (L : List S62) (i v : Int) : List S62 := if inIt N i then L ++ [⟨i, v, IntKind.u64.wrap (T + 1)⟩] else L
theorem store_f (N T : Int) (L : List S62) (i v : Int) (hl : L.length ≤ 100000) : postchaiseref03_Store.f N T L i v = some (N, if inIt N i then IntKind.u64.wrap (T + 1) else T, stored N T L i v) := by
  unfold postchaiseref03_Store.f stored
  rw [has_f]
  by_cases h : inIt N i
  · rw [decide_eq_true h]
    simp [h]
    omega
  · rw [decide_eq_false h]; simp [h]
theorem cas_f (N T : Int) (L : List S62) (i old v : Int) (hl : L.length ≤ 100000) : postchaiseref03_Cas.f (L.length + 1) N T L i old v =
    some (N, if inIt N i then IntKind.u64.wrap (T + 1) else T, if (lastOf L i).f1 = old then stored N T L i v else L, decide (inIt N i ∧ (lastOf L i).f1 = old)) := by
  unfold postchaiseref03_Cas.f
  rw [has_f]
  by_cases h : inIt N i
  · rw [decide_eq_true h]
    simp only [Option.bind_some, if_true, last_f L _ _ _ hl]
    by_cases h2 : (lastOf L i).f1 = old
    · rw [if_pos h2, store_f N T L i v hl]; simp [h, h2]
    · rw [if_neg h2]; simp [h, h2]
  · rw [decide_eq_false h]; simp [h, stored]
/-- The program's memory and the reference's say the same. -/
structure Rel (M : MemS) (T : Int) (L : List S62) : Prop where
  time : M.time = T
  word : ∀ i : Nat, i < M.n → M.words i = (lastOf L i).f1
  chg : ∀ i : Nat, i < M.n → M.changed i = (lastOf L i).f2
theorem rel_new (n : Nat) : Rel (memNew n) 0 [] := ⟨rfl, fun _ _ => rfl, fun _ _ => rfl⟩
theorem lastN_snoc (L : List S62) (x : S62) (i : Int) : ∀ q, q ≤ L.length → lastN (L ++ [x]) i q = lastN L i q := by
  intro q
  induction q with
  | zero => intro _; rfl
  | succ q ih =>
    intro hq
    have e : rd_T62 (L ++ [x]) q = rd_T62 L q := by unfold rd_T62; rw [Int.toNat_natCast, List.getD_eq_getElem?_getD, List.getD_eq_getElem?_getD, List.getElem?_append_left (by omega)]
    unfold lastN
    rw [e, ih (by omega)]
theorem lastOf_snoc (L : List S62) (x : S62) (i : Int) : lastOf (L ++ [x]) i = if x.f0 = i then x else lastOf L i := by
  unfold lastOf
  rw [List.length_append, List.length_singleton]
  have e : rd_T62 (L ++ [x]) (L.length : Nat) = x := by unfold rd_T62; rw [Int.toNat_natCast, List.getD_eq_getElem?_getD, List.getElem?_append_right (Nat.le_refl _)]; simp
  show (if (rd_T62 (L ++ [x]) (L.length : Nat)).f0 = i then rd_T62 (L ++ [x]) (L.length : Nat) else lastN (L ++ [x]) i L.length) = _
  rw [e, lastN_snoc L x i L.length (Nat.le_refl _)]
theorem rel_tick {M : MemS} {T : Int} {L : List S62} (h : Rel M T L) : Rel M.tick (IntKind.u64.wrap (T + 1)) L := ⟨by show IntKind.u64.wrap (M.time + 1) = _; rw [h.time], h.word, h.chg⟩
theorem rel_put {M : MemS} {T : Int} {L : List S62} (h : Rel M T L) (i : Nat) (v : Int) : Rel (M.tick.put i v) (IntKind.u64.wrap (T + 1)) (L ++ [⟨i, v, IntKind.u64.wrap (T + 1)⟩]) := by
  have ht : M.tick.time = IntKind.u64.wrap (T + 1) := (rel_tick h).time
  refine ⟨ht, fun j hj => ?_, fun j hj => ?_⟩
  · rw [lastOf_snoc]
    show (if j = i then v else M.words j) = _
    by_cases e : j = i
    · rw [if_pos e, if_pos (by simp [e])]
    · rw [if_neg e, if_neg (by simp; omega)]; exact h.word j hj
  · rw [lastOf_snoc]
    show (if j = i then M.tick.time else M.changed j) = _
    by_cases e : j = i
    · rw [if_pos e, if_pos (by simp [e]), ht]
    · rw [if_neg e, if_neg (by simp; omega)]; exact h.chg j hj
theorem rel_load {M : MemS} {T : Int} {L : List S62} (h : Rel M T L) (i : Int) : Rel (M.load i) (if inIt M.n i then IntKind.u64.wrap (T + 1) else T) L ∧ M.get i = (if inIt M.n i then (lastOf L i).f1 else 0) := by
  unfold MemS.load MemS.get
  by_cases hi : 0 ≤ i ∧ i < M.n
  · rw [if_pos hi, if_pos hi, if_pos hi, if_pos hi]
    refine ⟨rel_tick h, ?_⟩
    have := h.word i.toNat (by omega)
    rwa [Int.toNat_of_nonneg hi.1] at this
  · rw [if_neg hi, if_neg hi, if_neg hi, if_neg hi]; exact ⟨h, rfl⟩
theorem rel_store {M : MemS} {T : Int} {L : List S62} (h : Rel M T L) (i v : Int) : Rel (M.store i v) (if inIt M.n i then IntKind.u64.wrap (T + 1) else T) (stored M.n T L i v) := by
  unfold MemS.store stored
  by_cases hi : 0 ≤ i ∧ i < M.n
  · rw [if_pos hi, if_pos hi, if_pos hi]
    have := rel_put h i.toNat v
    rwa [Int.toNat_of_nonneg hi.1] at this
  · rw [if_neg hi, if_neg hi, if_neg hi]; exact h
theorem rel_cas {M : MemS} {T : Int} {L : List S62} (h : Rel M T L) (i old v : Int) :
    Rel (M.cas i old v) (if inIt M.n i then IntKind.u64.wrap (T + 1) else T) (if (lastOf L i).f1 = old then stored M.n T L i v else L) ∧ M.casOk i old = decide (inIt M.n i ∧ (lastOf L i).f1 = old) := by
  unfold MemS.cas MemS.casOk stored
  by_cases hi : 0 ≤ i ∧ i < M.n
  · have hw : M.words i.toNat = (lastOf L i).f1 := by
      have := h.word i.toNat (by omega)
      rwa [Int.toNat_of_nonneg hi.1] at this
    rw [if_pos hi, hw]
    refine ⟨?_, by have hi' : inIt M.n i := hi; simp [hi']⟩
    by_cases ho : (lastOf L i).f1 = old
    · rw [if_pos ho, if_pos hi, if_pos ho, if_pos hi]
      have := rel_put h i.toNat v
      rwa [Int.toNat_of_nonneg hi.1] at this
    · rw [if_neg ho, if_pos hi, if_neg ho]; exact rel_tick h
  · rw [if_neg hi, if_neg hi]
    refine ⟨?_, by rw [decide_eq_false (fun e => hi ⟨e.1, e.2.1⟩), decide_eq_false (fun e => hi e.1)]⟩
    by_cases ho : (lastOf L i).f1 = old
    · rw [if_pos ho, if_neg hi]; exact h
    · rw [if_neg ho]; exact h
theorem rel_chg {M : MemS} {T : Int} {L : List S62} (h : Rel M T L) (i : Int) (hne : ∀ x ∈ L, inIt M.n x.f0) : M.chg i = (lastOf L i).f2 := by
  unfold MemS.chg
  by_cases hi : 0 ≤ i ∧ i < M.n
  · rw [if_pos hi]
    have := h.chg i.toNat (by omega)
    rwa [Int.toNat_of_nonneg hi.1] at this
  · rw [if_neg hi]
    have key : ∀ q, q ≤ L.length → lastN L i q = z62 := by
      intro q
      induction q with
      | zero => intro _; rfl
      | succ q ih =>
        intro hq
        unfold lastN
        rw [if_neg ?_, ih (by omega)]
        intro e
        have hm := hne (rd_T62 L q) (by unfold rd_T62; rw [Int.toNat_natCast, List.getD_eq_getElem?_getD, List.getElem?_eq_getElem (by omega)]; exact List.getElem_mem _)
        rw [e] at hm
        exact hi hm
    unfold lastOf
    rw [key _ (Nat.le_refl _)]; rfl
/-! ### The reference's contracts, in the law's spelling -/
def tickN (N T i : Int) : Int := if inIt N i then IntKind.u64.wrap (T + 1) else T
def gotN (N : Int) (L : List S62) (i : Int) : Int := if inIt N i then (lastOf L i).f1 else 0
def casL (N T : Int) (L : List S62) (i old v : Int) : List S62 := if (lastOf L i).f1 = old then stored N T L i v else L
def casB (N : Int) (L : List S62) (i old : Int) : Bool := decide (inIt N i ∧ (lastOf L i).f1 = old)
def RefPost (P : Nat → Prop) (v : Value) (L : List S62) (w0 w w' : World) : Prop :=
  Kd.R k62 62 w' w0.heap.size (fun k => P k ∨ w.heap.size ≤ k) v L ∧ Below w0.heap.size w0 w' ∧ Kept w w' P
theorem refLoad (N T i : Int) (sl : Value) (L : List S62) (P : Nat → Prop) (w0 w : World) (hl : L.length ≤ 100000) (hB : Below w0.heap.size w0 w) (ho : Kd.R k62 62 w w0.heap.size P sl L) :
    Calls Try.prog 29 #[.agg #[.int .i64 N, .int .u64 T, sl], .int .i64 i] w fun e w' => ∃ v, e = .returned (.tuple #[.agg #[.int .i64 N, .int .u64 (tickN N T i), v], .int .u64 (gotN N L i)]) ∧ Hd (RefPost P v L w0 w w') :=
  (postchaiseref03_Load.calls (L.length + 1) N T P sl L i _ _ _ _ w0 w hB ho (load_f N T L i hl)).mono fun _ _ ⟨v, h1, h2, h3, h4⟩ => ⟨v, h1, ⟨h2, h3, h4⟩⟩
theorem refStore (N T i x : Int) (sl : Value) (L : List S62) (P : Nat → Prop) (w0 w : World) (hl : L.length ≤ 100000) (hB : Below w0.heap.size w0 w) (ho : Kd.R k62 62 w w0.heap.size P sl L) :
    Calls Try.prog 30 #[.agg #[.int .i64 N, .int .u64 T, sl], .int .i64 i, .int .u64 x] w fun e w' => ∃ v, e = .returned (.agg #[.int .i64 N, .int .u64 (tickN N T i), v]) ∧ Hd (RefPost P v (stored N T L i x) w0 w w') :=
  (postchaiseref03_Store.calls N T P sl L i x _ _ _ w0 w hB ho (store_f N T L i x hl)).mono fun _ _ ⟨v, h1, h2, h3, h4⟩ => ⟨v, h1, ⟨h2, h3, h4⟩⟩
theorem refCas (N T i old x : Int) (sl : Value) (L : List S62) (P : Nat → Prop) (w0 w : World) (hl : L.length ≤ 100000) (hB : Below w0.heap.size w0 w) (ho : Kd.R k62 62 w w0.heap.size P sl L) :
    Calls Try.prog 31 #[.agg #[.int .i64 N, .int .u64 T, sl], .int .i64 i, .int .u64 old, .int .u64 x] w fun e w' => ∃ v, e = .returned (.tuple #[.agg #[.int .i64 N, .int .u64 (tickN N T i), v], .bool (casB N L i old)]) ∧ Hd (RefPost P v (casL N T L i old x) w0 w w') :=
  (postchaiseref03_Cas.calls (L.length + 1) N T P sl L i old x _ _ _ _ w0 w hB ho (cas_f N T L i old x hl)).mono fun _ _ ⟨v, h1, h2, h3, h4⟩ => ⟨v, h1, ⟨h2, h3, h4⟩⟩
theorem refLast (N T i : Int) (A : Option Addr) (c : Nat) (L : List S62) (w : World) (hl : L.length ≤ 100000) (hC : Kd.C k62 w A L.length L) (hc : L.length ≤ c) :
    Calls Try.prog 33 #[.agg #[.int .i64 N, .int .u64 T, .slice A L.length c], .int .i64 i] w fun e w' => e = .returned (.agg #[.int .i64 (lastOf L i).f0, .int .u64 (lastOf L i).f1, .int .u64 (lastOf L i).f2]) ∧ Below w.heap.size w w' :=
  postchaiseref03_Last.calls (L.length + 1) N T A c L i _ _ _ w hC hc (last_f L N T i hl)
theorem stored_len (N T : Int) (L : List S62) (i v : Int) : (stored N T L i v).length ≤ L.length + 1 := by unfold stored; split <;> simp
theorem casL_len (N T : Int) (L : List S62) (i old v : Int) : (casL N T L i old v).length ≤ L.length + 1 := by unfold casL; split; exact stored_len _ _ _ _ _; omega
theorem stored_rng {N T : Int} {L : List S62} {i v : Int} (h : ∀ x ∈ L, inIt N x.f0) : ∀ x ∈ stored N T L i v, inIt N x.f0 := by
  intro x hx
  unfold stored at hx
  split at hx
  · rename_i hi
    rcases List.mem_append.1 hx with hx | hx
    · exact h x hx
    · rw [List.mem_singleton.1 hx]; exact hi
  · exact h x hx
theorem casL_rng {N T : Int} {L : List S62} {i old v : Int} (h : ∀ x ∈ L, inIt N x.f0) : ∀ x ∈ casL N T L i old v, inIt N x.f0 := by
  unfold casL
  split
  · exact stored_rng h
  · exact h
end Go.Proofs.Ythghndjfghdnnaa
