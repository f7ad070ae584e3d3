/- Chapter 11, plain lists: the reference's notes, that they are the program's. No condition but those that each bears. -/
import Derived.Test.YtlklegdaeffcpaaListPure2
namespace Go.Proofs.Ytlklegdaeffcpaa.PList
open Go.RowKit Go.Proofs.YtlklegdaeffcpaaW.PrintWords Go.Proofs.YtlklegdaeffcpaaW.PrintLast Go.Proofs.YtlklegdaeffcpaaW.PrintMore
def gonesR (x0 x1 : List S40) : Nat → List S42
  | 0 => []
  | q + 1 => (if fndR x1 (rd_T40 x0 q).f0 < 0 then [⟨0, (q : Int) + 1, ⟨0, 0⟩⟩] else []) ++ gonesR x0 x1 q
theorem gonesR_len (x0 x1 : List S40) : ∀ q, (gonesR x0 x1 q).length ≤ q
  | 0 => Nat.le_refl _
  | q + 1 => by
    have := gonesR_len x0 x1 q
    unfold gonesR
    rw [List.length_append]
    split
    · simp; omega
    · simp; omega
theorem rdiff_l0 (x0 x1 : List S40) (hl : x0.length ≤ 1000000) (hn : x1.length ≤ 1000000) : ∀ (q k : Nat) (acc : List S42), q ≤ x0.length → acc.length + q ≤ 2000000 → x1.length < k → postchaiseref11_Diff.l0 (q + k + 1) x0 x1 acc ((q : Int) - 1) = postchaiseref11_Diff.l1 k x0 x1 (acc ++ gonesR x0 x1 q) false 0 := by
  intro q
  induction q with
  | zero =>
    intro k acc _ _ _
    rw [Nat.zero_add]
    simp only [postchaiseref11_Diff.l0]
    rw [if_neg (by omega)]
    simp [gonesR]
  | succ q ih =>
    intro k acc hq ha hk
    obtain ⟨m, hm⟩ : ∃ m, m = q + k + 1 := ⟨_, rfl⟩
    rw [show q + 1 + k + 1 = m + 1 by omega]
    simp only [postchaiseref11_Diff.l0]
    rw [hm]
    have e : (((q + 1 : Nat) : Int) - 1) = (q : Int) := by omega
    rw [e, if_pos (by omega), if_pos (by omega), if_pos (by omega), find_f x1 _ hn _ (by omega), w64 ((q : Int) - 1) (by omega) (by omega), w64 ((q : Int) + 1) (by omega) (by omega)]
    simp only [Option.bind_some]
    unfold gonesR
    by_cases h : fndR x1 (rd_T40 x0 q).f0 < 0
    · rw [if_pos h, if_pos h, if_pos (by omega), ih k _ (by omega) (by simp; omega) hk, List.append_assoc]
    · rw [if_neg h, if_neg h, ih k _ (by omega) (by omega) hk, List.nil_append]
/-- Is there a number that is new, from the i-th on (d of them)? -/
def freshR (x0 x1 : List S40) : Nat → Nat → Bool
  | _, 0 => false
  | i, d + 1 => decide (fndR x0 (rd_T40 x1 i).f0 < 0) || freshR x0 x1 (i + 1) d
theorem rdiff_l1 (x0 x1 : List S40) (hl : x0.length ≤ 1000000) (hn : x1.length ≤ 1000000) (acc : List S42) (ha : acc.length ≤ 2000000) : ∀ (d i k : Nat) (b : Bool), i + d = x1.length → x0.length < k →
    postchaiseref11_Diff.l1 (d + k + 1) x0 x1 acc b i = (if (b || freshR x0 x1 i d) = true then postchaiseref11_Diff.j2 k x0 x1 (acc ++ [⟨1, (x1.length : Int), ⟨0, 0⟩⟩]) else postchaiseref11_Diff.j2 k x0 x1 acc) := by
  intro d
  induction d with
  | zero =>
    intro i k b hi hk
    rw [Nat.zero_add]
    simp only [postchaiseref11_Diff.l1]
    rw [if_neg (by omega), if_pos (by omega : acc.length < 5864062014805)]
    simp [freshR]
  | succ d ih =>
    intro i k b hi hk
    obtain ⟨m, hm⟩ : ∃ m, m = d + k + 1 := ⟨_, rfl⟩
    rw [show d + 1 + k + 1 = m + 1 by omega]
    simp only [postchaiseref11_Diff.l1]
    rw [hm, if_pos (by omega), w64 ((i : Int) + 1) (by omega) (by omega), show ((i : Int) + 1) = ((i + 1 : Nat) : Int) by omega]
    unfold freshR
    cases b with
    | true => rw [if_pos rfl, ih (i + 1) k true (by omega) hk, Bool.true_or, Bool.true_or]
    | false =>
      rw [if_neg (by decide), if_pos (by omega), find_f x0 _ hl _ (by omega)]
      simp only [Option.bind_some]
      rw [ih (i + 1) k _ (by omega) hk, Bool.false_or]
def fetR (x0 : List S40) (e : S40) : Bool := decide (fndR x0 e.f0 < 0) || !decide ((rd_T40 x0 (fndR x0 e.f0)).f1 = e.f1)
def fetchR (x0 x1 : List S40) : Nat → Nat → List S42
  | _, 0 => []
  | i, d + 1 => (if fetR x0 (rd_T40 x1 i) then [⟨2, (i : Int) + 1, ⟨(rd_T40 x1 i).f0, (rd_T40 x1 i).f1⟩⟩] else []) ++ fetchR x0 x1 (i + 1) d
theorem rdiff_l2 (x0 x1 : List S40) (hl : x0.length ≤ 1000000) (hn : x1.length ≤ 1000000) : ∀ (d i k : Nat) (acc : List S42), i + d = x1.length → d + x0.length < k → acc.length + d ≤ 3000000 → postchaiseref11_Diff.l2 k x0 x1 acc i = some (acc ++ fetchR x0 x1 i d) := by
  intro d
  induction d with
  | zero =>
    intro i k acc hi hk _
    obtain ⟨k, rfl⟩ : ∃ m, k = m + 1 := ⟨k - 1, by omega⟩
    simp only [postchaiseref11_Diff.l2]
    rw [if_neg (by omega)]
    simp [fetchR]
  | succ d ih =>
    intro i k acc hi hk ha
    obtain ⟨k, rfl⟩ : ∃ m, k = m + 1 := ⟨k - 1, by omega⟩
    simp only [postchaiseref11_Diff.l2]
    have hf := fndR_le x0 (rd_T40 x1 i).f0
    have hfet : fetR x0 (rd_T40 x1 i) = (decide (fndR x0 (rd_T40 x1 i).f0 < 0) || !decide ((rd_T40 x0 (fndR x0 (rd_T40 x1 i).f0)).f1 = (rd_T40 x1 i).f1)) := rfl
    rw [if_pos (by omega), if_pos (by omega), find_f x0 _ hl k (by omega), w64 ((i : Int) + 1) (by omega) (by omega)]
    simp only [Option.bind_some]
    unfold fetchR
    rw [show ((i : Int) + 1) = ((i + 1 : Nat) : Int) by omega]
    by_cases h : fndR x0 (rd_T40 x1 i).f0 < 0
    · rw [decide_eq_true h, Bool.true_or] at hfet
      rw [if_pos h, if_pos (by omega), ih (i + 1) k _ (by omega) (by omega) (by simp; omega), hfet, if_pos rfl, List.append_assoc]
    · rw [decide_eq_false h, Bool.false_or] at hfet
      rw [if_neg h, if_pos (by omega), if_pos (by omega)]
      by_cases hb : (rd_T40 x0 (fndR x0 (rd_T40 x1 i).f0)).f1 = (rd_T40 x1 i).f1
      · rw [decide_eq_true hb] at hfet
        rw [if_pos hb, ih (i + 1) k _ (by omega) (by omega) (by omega), hfet]
        simp
      · rw [decide_eq_false hb] at hfet
        rw [if_neg hb, if_pos (by omega), ih (i + 1) k _ (by omega) (by omega) (by simp; omega), hfet]
        simp
def exR (x0 x1 : List S40) : List S42 := if freshR x0 x1 0 x1.length = true then [⟨1, (x1.length : Int), ⟨0, 0⟩⟩] else []
def diffR (x0 x1 : List S40) : List S42 := gonesR x0 x1 x0.length ++ exR x0 x1 ++ fetchR x0 x1 0 x1.length
theorem rdiff_f (x0 x1 : List S40) (hl : x0.length ≤ 900000) (hn : x1.length ≤ 900000) (k : Nat) (hk : 2 * x0.length + 2 * x1.length + 5 < k) : postchaiseref11_Diff.f k x0 x1 = some (diffR x0 x1) := by
  unfold postchaiseref11_Diff.f
  rw [w64 _ (by omega) (by omega)]
  obtain ⟨m, rfl⟩ : ∃ m, k = x0.length + (x1.length + (m + 1) + 1) + 1 := ⟨k - x0.length - x1.length - 3, by omega⟩
  have hg := gonesR_len x0 x1 x0.length
  rw [rdiff_l0 x0 x1 (by omega) (by omega) x0.length (x1.length + (m + 1) + 1) [] (Nat.le_refl _) (by simp; omega) (by omega), List.nil_append]
  have h1 := rdiff_l1 x0 x1 (by omega) (by omega) (gonesR x0 x1 x0.length) (by omega) x1.length 0 (m + 1) false (by omega) (by omega)
  refine h1.trans ?_
  rw [Bool.false_or]
  unfold diffR exR
  simp only [postchaiseref11_Diff.j2]
  by_cases h : freshR x0 x1 0 x1.length = true
  · rw [if_pos h, if_pos h]
    exact rdiff_l2 x0 x1 (by omega) (by omega) x1.length 0 m _ (by omega) (by omega) (by simp; omega)
  · rw [if_neg h, if_neg h, List.append_nil]
    exact rdiff_l2 x0 x1 (by omega) (by omega) x1.length 0 m _ (by omega) (by omega) (by omega)
theorem diffR_len (x0 x1 : List S40) (hl : x0.length ≤ 80) (hn : x1.length ≤ 80) : (diffR x0 x1).length ≤ 161 := by
  have h1 := gonesR_len x0 x1 x0.length
  have h3 : ∀ d i, (fetchR x0 x1 i d).length ≤ d := by
    intro d
    induction d with
    | zero => intro i; exact Nat.le_refl _
    | succ d ih =>
      intro i
      have := ih (i + 1)
      unfold fetchR
      rw [List.length_append]
      split
      · simp; omega
      · simp; omega
  have h2 := h3 x1.length 0
  unfold diffR exR
  rw [List.length_append, List.length_append]
  split
  · simp; omega
  · simp; omega
theorem rd_own (l : List S40) (i : Nat) : rd_T35 (own l) i = ofR (rd_T40 l i) := by
  unfold rd_T35 rd_T40 own
  simp only [Int.toNat_natCast]
  rw [List.getD_eq_getElem?_getD, List.getD_eq_getElem?_getD, List.getElem?_map]
  cases l[i]? <;> rfl
theorem gones_own (x0 x1 : List S40) : ∀ q, gonesP (own x0) (own x1) q = (gonesR x0 x1 q).map ofM
  | 0 => rfl
  | q + 1 => by
    have hf := fndR_le x1 (rd_T40 x0 q).f0
    unfold gonesP gonesR
    rw [gones_own x0 x1 q, List.map_append, rd_own, show (ofR (rd_T40 x0 q)).f0 = (rd_T40 x0 q).f0 from rfl, fnd_own]
    by_cases h : fndR x1 (rd_T40 x0 q).f0 < 0
    · rw [if_pos (by omega), if_pos h]; rfl
    · rw [if_neg (by omega), if_neg h]; rfl
theorem fet_own (x0 : List S40) (e : S40) : fetP (own x0) (ofR e) = fetR x0 e := by
  unfold fetP fetR
  rw [show (ofR e).f0 = e.f0 from rfl, show (ofR e).f1 = e.f1 from rfl, fnd_own]
  by_cases h : fndR x0 e.f0 < 0
  · rw [decide_eq_true h, Bool.true_or, Bool.true_or]
  · obtain ⟨i, hi, h1, h2⟩ := fndR_at x0 e.f0 h
    rw [decide_eq_false h, Bool.false_or, Bool.false_or, h1, rd_own, rd40 x0 i hi, show (ofR x0[i]).f0 = (x0[i]).f0 from rfl, show (ofR x0[i]).f1 = (x0[i]).f1 from rfl, h2]
    by_cases h3 : (x0[i]).f1 = e.f1
    · simp [h3]
    · simp [h3]
theorem fetch_own (x0 x1 : List S40) : ∀ d i, fetchP (own x0) (own x1) i d = (fetchR x0 x1 i d).map ofM
  | 0, _ => rfl
  | d + 1, i => by
    unfold fetchP fetchR
    rw [fetch_own x0 x1 d (i + 1), List.map_append, rd_own, fet_own]
    by_cases h : fetR x0 (rd_T40 x1 i) = true
    · rw [if_pos h, if_pos h]; rfl
    · rw [if_neg h, if_neg h]; rfl
theorem fresh_iff (x0 x1 : List S40) : ∀ d i, i + d = x1.length → (freshR x0 x1 i d = true ↔ ∃ (j : Nat) (h : j < x1.length), i ≤ j ∧ fndR x0 (x1[j]).f0 < 0)
  | 0, i, hi => ⟨fun h => (by cases h), fun ⟨j, hj, h, _⟩ => (by omega)⟩
  | d + 1, i, hi => by
    have ih := fresh_iff x0 x1 d (i + 1) (by omega)
    unfold freshR
    rw [Bool.or_eq_true, ih, decide_eq_true_iff, rd40 x1 i (by omega)]
    constructor
    · rintro (h | ⟨j, hj, h1, h2⟩)
      · exact ⟨i, by omega, Nat.le_refl _, h⟩
      · exact ⟨j, hj, by omega, h2⟩
    · rintro ⟨j, hj, h1, h2⟩
      by_cases e : j = i
      · subst e; exact .inl h2
      · exact .inr ⟨j, hj, by omega, h2⟩
theorem rises_le {L : List S40} (h : RisesP L) : ∀ (d i : Nat) (hj : i + d < L.length), (L[i]'(by omega)).f0 ≤ (L[i + d]).f0
  | 0, i, _ => Int.le_refl _
  | d + 1, i, hj => Int.le_trans (rises_le h d i (by omega)) (Int.le_of_lt (h.next (i + d) (by omega)))
theorem last_own (l : List S40) (h : 0 < l.length) : lastP (own l) = (l[l.length - 1]).f0 := by
  unfold lastP
  rw [own_len, if_neg (by omega), rd_own, rd40 l _ (by omega)]
  rfl
theorem last_nil (l : List S40) (h : l.length = 0) : lastP (own l) = 0 := by
  unfold lastP
  rw [own_len, if_pos h]
theorem ex_own (x0 x1 : List S40) (hw : ∀ e ∈ x1, 0 ≤ e.f0) (hw0 : ∀ e ∈ x0, 0 ≤ e.f0) (hm : MayP x0 x1) : exP (own x0) (own x1) = (exR x0 x1).map ofM := by
  unfold exP exR
  have hiff : lastP (own x1) > lastP (own x0) ↔ freshR x0 x1 0 x1.length = true := by
    rw [fresh_iff x0 x1 x1.length 0 (by omega)]
    constructor
    · intro h
      by_cases h1 : x1.length = 0
      · rw [last_nil x1 h1] at h
        by_cases h0 : x0.length = 0
        · rw [last_nil x0 h0] at h; omega
        · rw [last_own x0 (by omega)] at h
          have := hw0 _ (List.getElem_mem (show x0.length - 1 < x0.length by omega))
          omega
      · refine ⟨x1.length - 1, by omega, Nat.zero_le _, ?_⟩
        rw [last_own x1 (by omega)] at h
        apply Classical.byContradiction
        intro hn
        obtain ⟨i, hi, _, h2⟩ := fndR_at x0 _ hn
        rw [last_own x0 (by omega)] at h
        have := rises_le hm.l (x0.length - 1 - i) i (by omega)
        have e : (x0[i + (x0.length - 1 - i)]'(by omega)) = x0[x0.length - 1]'(by omega) := by congr 1; omega
        rw [e] at this
        omega
    · rintro ⟨j, hj, _, h2⟩
      rw [last_own x1 (by omega)]
      have hle := rises_le hm.n (x1.length - 1 - j) j (by omega)
      have e : (x1[j + (x1.length - 1 - j)]'(by omega)) = x1[x1.length - 1]'(by omega) := by congr 1; omega
      rw [e] at hle
      by_cases h0 : x0.length = 0
      · rw [last_nil x0 h0]
        have h3 := hm.n.first (by omega)
        have h4 := hw _ (List.getElem_mem (show 0 < x1.length by omega))
        have h5 := rises_le hm.n j 0 (by omega)
        have e2 : (x1[0 + j]'(by omega)) = x1[j] := by congr 1; omega
        rw [e2] at h5
        omega
      · rw [last_own x0 (by omega)]
        have h3 := hm.new j hj h2 (by omega)
        have h4 : (x0[x0.length - 1]'(by omega)).f0 ≠ (x1[j]).f0 := fun e => fndR_mem x0 _ (x0.length - 1) (by omega) e h2
        omega
  by_cases h : lastP (own x1) > lastP (own x0)
  · rw [if_pos h, if_pos (hiff.1 h)]; simp [ofM, ofR, own_len]
  · rw [if_neg h, if_neg (fun e => h (hiff.2 e))]; rfl
theorem diff_own (x0 x1 : List S40) (hw : ∀ e ∈ x1, 0 ≤ e.f0) (hw0 : ∀ e ∈ x0, 0 ≤ e.f0) (hm : MayP x0 x1) : diffP (own x0) (own x1) = (diffR x0 x1).map ofM := by
  unfold diffP diffR
  rw [List.map_append, List.map_append, own_len, own_len, gones_own, ex_own x0 x1 hw hw0 hm, fetch_own]
theorem awake_20 : postchaiselaw11_awake.f 20 = some true := by decide +kernel
theorem awake_f : ∀ k, 20 ≤ k → postchaiselaw11_awake.f k = some true := by
  intro k hk
  obtain ⟨m, rfl⟩ : ∃ m, k = 20 + m := ⟨k - 20, by omega⟩
  induction m with
  | zero => exact awake_20
  | succ m ih => exact postchaiselaw11_awake.mono _ _ (ih (by omega))
end Go.Proofs.Ytlklegdaeffcpaa.PList
