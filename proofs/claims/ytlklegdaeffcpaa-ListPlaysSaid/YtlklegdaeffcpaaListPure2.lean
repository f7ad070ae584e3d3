/- Chapter 11, plain lists: the law ListDiffs in the printed form. No condition but those that each bears. -/
import Derived.Test.YtlklegdaeffcpaaListPure
import Derived.Test.YtlklegdaeffcpaaQList9
namespace Go.Proofs.Ytlklegdaeffcpaa.PList
open Go.RowKit Go.Proofs.YtlklegdaeffcpaaW.PrintWords Go.Proofs.YtlklegdaeffcpaaW.PrintLast Go.Proofs.YtlklegdaeffcpaaW.PrintMore
theorem own_l0 (L : List S40) (hl : L.length ≤ 1000000) : ∀ (d i k : Nat) (acc : List S35), i + d = L.length → d < k → acc.length + d ≤ 2000000 → postchaiselaw11_Own.l0 k L acc i = some (acc ++ own (L.drop i)) := by
  intro d
  induction d with
  | zero =>
    intro i k acc hi hk _
    obtain ⟨k, rfl⟩ : ∃ m, k = m + 1 := ⟨k - 1, by omega⟩
    simp only [postchaiselaw11_Own.l0]
    rw [if_neg (by omega), List.drop_eq_nil_of_le (by omega)]
    simp [own]
  | succ d ih =>
    intro i k acc hi hk ha
    obtain ⟨k, rfl⟩ : ∃ m, k = m + 1 := ⟨k - 1, by omega⟩
    simp only [postchaiselaw11_Own.l0]
    have hlt : i < L.length := by omega
    rw [if_pos (by omega), if_pos (by omega), if_pos (by omega), rd40 L i hlt, w64 _ (by omega) (by omega), show ((i : Int) + 1) = ((i + 1 : Nat) : Int) by omega,
      ih (i + 1) k _ (by omega) (by omega) (by simp; omega), List.drop_eq_getElem_cons hlt]
    simp only [own, List.map_cons, List.append_assoc, List.cons_append, List.nil_append]
    rfl
theorem own_f (L : List S40) (hl : L.length ≤ 1000000) (k : Nat) (hk : L.length < k) : postchaiselaw11_Own.f k L = some (own L) := by
  unfold postchaiselaw11_Own.f
  have := own_l0 L hl L.length 0 k [] (by omega) hk (by simp; omega)
  simpa using this
theorem notes_l0 (L : List S42) (hl : L.length ≤ 1000000) : ∀ (d i k : Nat) (acc : List S37), i + d = L.length → d < k → acc.length + d ≤ 2000000 → postchaiselaw11_Notes.l0 k L acc i = some (acc ++ (L.drop i).map ofM) := by
  intro d
  induction d with
  | zero =>
    intro i k acc hi hk _
    obtain ⟨k, rfl⟩ : ∃ m, k = m + 1 := ⟨k - 1, by omega⟩
    simp only [postchaiselaw11_Notes.l0]
    rw [if_neg (by omega), List.drop_eq_nil_of_le (by omega)]
    simp
  | succ d ih =>
    intro i k acc hi hk ha
    obtain ⟨k, rfl⟩ : ∃ m, k = m + 1 := ⟨k - 1, by omega⟩
    simp only [postchaiselaw11_Notes.l0]
    have hlt : i < L.length := by omega
    rw [if_pos (by omega), if_pos (by omega), if_pos (by omega), rd42 L i hlt, w64 _ (by omega) (by omega), show ((i : Int) + 1) = ((i + 1 : Nat) : Int) by omega,
      ih (i + 1) k _ (by omega) (by omega) (by simp; omega), List.drop_eq_getElem_cons hlt]
    simp only [List.map_cons, List.append_assoc, List.cons_append, List.nil_append]
    rfl
theorem notes_f (L : List S42) (hl : L.length ≤ 1000000) (k : Nat) (hk : L.length < k) : postchaiselaw11_Notes.f k L = some (L.map ofM) := by
  unfold postchaiselaw11_Notes.f
  have := notes_l0 L hl L.length 0 k [] (by omega) hk (by simp; omega)
  simpa using this
/-- The last number. -/
def lastP (l : List S35) : Int := if l.length = 0 then 0 else (rd_T35 l ((l.length - 1 : Nat) : Int)).f0
theorem last_f (l : List S35) (hl : l.length ≤ 1000000) : list_List_Last.f l = some (lastP l) := by
  unfold list_List_Last.f lastP
  by_cases h : l.length = 0
  · rw [if_pos (by omega), if_pos h]
  · rw [if_neg (by omega), if_neg h, w64 _ (by omega) (by omega), if_pos (by omega), if_pos (by omega), show ((l.length : Int) - 1) = ((l.length - 1 : Nat) : Int) by omega]
def gonesP (x0 x1 : List S35) : Nat → List S37
  | 0 => []
  | q + 1 => (if fnd x1 (rd_T35 x0 q).f0 + 1 = 0 then [⟨0, (q : Int) + 1, ⟨0, 0⟩⟩] else []) ++ gonesP x0 x1 q
theorem gonesP_len (x0 x1 : List S35) : ∀ q, (gonesP x0 x1 q).length ≤ q
  | 0 => Nat.le_refl _
  | q + 1 => by
    have := gonesP_len x0 x1 q
    unfold gonesP
    rw [List.length_append]
    split
    · simp; omega
    · simp; omega
def tailP (k : Nat) (x0 x1 : List S35) (acc : List S37) : Option (List S37) :=
  (list_List_Last.f x1).bind fun t122 => ((list_List_Last.f x0).bind fun t123 => (if t122 > t123 then (if acc.length < 5864062014805 then (list_List_Diff.j1 k x0 x1 (acc ++ [(⟨1, (x1.length : Int), (⟨0, 0⟩ : S35)⟩ : S37)])) else (none)) else (list_List_Diff.j1 k x0 x1 acc)))
theorem diff_l0 (x0 x1 : List S35) (_hl : x0.length ≤ 1000000) (_hn : x1.length ≤ 1000000) : ∀ (q k : Nat) (acc : List S37), q ≤ x0.length → acc.length + q ≤ 2000000 → list_List_Diff.l0 (q + k + 1) x0 x1 acc ((q : Int) - 1) = tailP k x0 x1 (acc ++ gonesP x0 x1 q) := by
  intro q
  induction q with
  | zero =>
    intro k acc _ _
    rw [Nat.zero_add]
    simp only [list_List_Diff.l0]
    rw [if_neg (by omega)]
    simp [tailP, gonesP]
  | succ q ih =>
    intro k acc hq ha
    obtain ⟨m, hm⟩ : ∃ m, m = q + k + 1 := ⟨_, rfl⟩
    rw [show q + 1 + k + 1 = m + 1 by omega]
    simp only [list_List_Diff.l0]
    rw [hm]
    have e : (((q + 1 : Nat) : Int) - 1) = (q : Int) := by omega
    have hs : list_List_Seq.f x1 (rd_T35 x0 q).f0 = some (fnd x1 (rd_T35 x0 q).f0 + 1) := rfl
    rw [e, if_pos (by omega), if_pos (by omega), if_pos (by omega), hs, w64 ((q : Int) - 1) (by omega) (by omega), w64 ((q : Int) + 1) (by omega) (by omega)]
    simp only [Option.bind_some]
    unfold gonesP
    by_cases h : fnd x1 (rd_T35 x0 q).f0 + 1 = 0
    · rw [if_pos h, if_pos h, if_pos (by omega), ih k _ (by omega) (by simp; omega), List.append_assoc]
    · rw [if_neg h, if_neg h, ih k _ (by omega) (by omega), List.nil_append]
/-- Is an entry told anew? -/
def fetP (x0 : List S35) (e : S35) : Bool := decide (fnd x0 e.f0 < 0) || (!((rd_T35 x0 (fnd x0 e.f0)).f0 == e.f0) || !((rd_T35 x0 (fnd x0 e.f0)).f1 == e.f1))
def fetchP (x0 x1 : List S35) : Nat → Nat → List S37
  | _, 0 => []
  | i, d + 1 => (if fetP x0 (rd_T35 x1 i) then [⟨2, (i : Int) + 1, ⟨(rd_T35 x1 i).f0, (rd_T35 x1 i).f1⟩⟩] else []) ++ fetchP x0 x1 (i + 1) d
theorem fetchP_len (x0 x1 : List S35) : ∀ d i, (fetchP x0 x1 i d).length ≤ d
  | 0, _ => Nat.le_refl _
  | d + 1, i => by
    have := fetchP_len x0 x1 d (i + 1)
    unfold fetchP
    rw [List.length_append]
    split
    · simp; omega
    · simp; omega
theorem diff_l1 (x0 x1 : List S35) (hl : x0.length ≤ 1000000) (hn : x1.length ≤ 1000000) : ∀ (d i k : Nat) (acc : List S37), i + d = x1.length → d < k → acc.length + d ≤ 3000000 → list_List_Diff.l1 k x0 acc x1 (x1.length : Int) i = some (acc ++ fetchP x0 x1 i d) := by
  intro d
  induction d with
  | zero =>
    intro i k acc hi hk _
    obtain ⟨k, rfl⟩ : ∃ m, k = m + 1 := ⟨k - 1, by omega⟩
    simp only [list_List_Diff.l1]
    rw [if_neg (by omega)]
    simp [fetchP]
  | succ d ih =>
    intro i k acc hi hk ha
    obtain ⟨k, rfl⟩ : ∃ m, k = m + 1 := ⟨k - 1, by omega⟩
    simp only [list_List_Diff.l1]
    have hf := fnd_le x0 (rd_T35 x1 i).f0
    have hs : list_List_Seq.f x0 (rd_T35 x1 i).f0 = some (fnd x0 (rd_T35 x1 i).f0 + 1) := rfl
    have hfet : fetP x0 (rd_T35 x1 i) = (decide (fnd x0 (rd_T35 x1 i).f0 < 0) || (!((rd_T35 x0 (fnd x0 (rd_T35 x1 i).f0)).f0 == (rd_T35 x1 i).f0) || !((rd_T35 x0 (fnd x0 (rd_T35 x1 i).f0)).f1 == (rd_T35 x1 i).f1))) := rfl
    rw [if_pos (by omega), if_pos (by omega), if_pos (by omega), hs, w64 ((i : Int) + 1) (by omega) (by omega)]
    simp only [Option.bind_some]
    unfold fetchP
    rw [show ((i : Int) + 1) = ((i + 1 : Nat) : Int) by omega]
    by_cases h : fnd x0 (rd_T35 x1 i).f0 < 0
    · rw [decide_eq_true h, Bool.true_or] at hfet
      rw [if_pos (by omega), if_pos (by omega), ih (i + 1) k _ (by omega) (by omega) (by simp; omega), hfet, if_pos rfl, List.append_assoc]
    · rw [decide_eq_false h, Bool.false_or] at hfet
      rw [if_neg (by omega), show fnd x0 (rd_T35 x1 i).f0 + 1 - 1 = fnd x0 (rd_T35 x1 i).f0 by omega, w64 (fnd x0 (rd_T35 x1 i).f0) (by omega) (by omega), if_pos (by omega), if_pos (by omega), ← hfet]
      by_cases hb : fetP x0 (rd_T35 x1 i) = true
      · rw [if_pos hb, if_pos (by omega), ih (i + 1) k _ (by omega) (by omega) (by simp; omega), if_pos hb, List.append_assoc]
      · rw [if_neg hb, ih (i + 1) k _ (by omega) (by omega) (by omega), if_neg hb, List.nil_append]
def exP (x0 x1 : List S35) : List S37 := if lastP x1 > lastP x0 then [⟨1, (x1.length : Int), ⟨0, 0⟩⟩] else []
def diffP (x0 x1 : List S35) : List S37 := gonesP x0 x1 x0.length ++ exP x0 x1 ++ fetchP x0 x1 0 x1.length
theorem diff_f (x0 x1 : List S35) (hl : x0.length ≤ 900000) (hn : x1.length ≤ 900000) (k : Nat) (hk : x0.length + x1.length + 3 < k) : list_List_Diff.f k x0 x1 = some (diffP x0 x1) := by
  unfold list_List_Diff.f
  rw [w64 _ (by omega) (by omega)]
  obtain ⟨m, rfl⟩ : ∃ m, k = x0.length + (m + 1) + 1 := ⟨k - x0.length - 2, by omega⟩
  have hg := gonesP_len x0 x1 x0.length
  rw [diff_l0 x0 x1 (by omega) (by omega) x0.length (m + 1) [] (Nat.le_refl _) (by simp; omega), List.nil_append]
  unfold tailP diffP exP
  rw [last_f x1 (by omega), last_f x0 (by omega)]
  simp only [Option.bind_some, list_List_Diff.j1]
  by_cases h : lastP x1 > lastP x0
  · rw [if_pos h, if_pos h, if_pos (by omega)]
    exact diff_l1 x0 x1 (by omega) (by omega) x1.length 0 m _ (by omega) (by omega) (by simp; omega)
  · rw [if_neg h, if_neg h, List.append_nil]
    exact diff_l1 x0 x1 (by omega) (by omega) x1.length 0 m _ (by omega) (by omega) (by omega)
end Go.Proofs.Ytlklegdaeffcpaa.PList
