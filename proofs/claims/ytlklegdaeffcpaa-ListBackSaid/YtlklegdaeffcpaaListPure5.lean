/- Chapter 11, plain lists: the program's Play, and the law ListPlays. No condition but those that each bears. -/
import Derived.Test.YtlklegdaeffcpaaListPure4
namespace Go.Proofs.Ytlklegdaeffcpaa.PList
open Go.RowKit Go.Proofs.YtlklegdaeffcpaaW.PrintWords Go.Proofs.YtlklegdaeffcpaaW.PrintLast Go.Proofs.YtlklegdaeffcpaaW.PrintMore
def oneP (o : Option (List S40)) : List S35 × Bool := match o with | some l => (own l, true) | none => ([], false)
def resP (o : Option (List S40)) : List S35 × Int := match o with | some l => (own l, 0) | none => ([], 3)
theorem pplay_one (l : List S40) (n : S42) (hw : n.f1 ≤ 9223372036854775807) (hl : l.length ≤ 1000000000) (k : Nat) : list_List_play.f (k + 3) (own l) n.f0 n.f1 n.f2.f0 n.f2.f1 = some (oneP (play1 l n)) := by
  have hh : list_List_play.f (k + 3) (own l) n.f0 n.f1 n.f2.f0 n.f2.f1 = list_List_play.j0 (k + 3) (own l) (decide (1 ≤ n.f1 ∧ n.f1 ≤ l.length)) n.f0 n.f1 n.f2.f0 n.f2.f1 := by
    unfold list_List_play.f
    rw [own_len]
    by_cases h : n.f1 ≥ 1
    · rw [if_pos h]
      by_cases h2 : n.f1 ≤ l.length
      · rw [decide_eq_true h2, decide_eq_true ⟨h, h2⟩]
      · rw [decide_eq_false h2, decide_eq_false (fun e => h2 e.2)]
    · rw [if_neg h, decide_eq_false (fun e => h e.1)]
  rw [hh]
  obtain ⟨b, hb⟩ : ∃ b, b = decide (1 ≤ n.f1 ∧ n.f1 ≤ l.length) := ⟨_, rfl⟩
  rw [← hb]
  simp only [list_List_play.j0]
  rw [own_len]
  have hj1 : ∀ c, c = false → n.f0 ≠ 1 → list_List_play.j1 (k + 2) (own l) b c n.f0 n.f1 n.f2.f0 n.f2.f1 = some (oneP (play1 l n)) := by
    intro c hc h1
    subst hc
    simp only [list_List_play.j1]
    rw [if_neg (by decide)]
    by_cases h0 : n.f0 = 0
    · rw [if_pos h0]
      simp only [list_List_play.j2]
      by_cases hx : 1 ≤ n.f1 ∧ n.f1 ≤ l.length
      · have hb1 : b = true := by rw [hb]; exact decide_eq_true hx
        rw [if_pos hb1, w64 (n.f1 - 1) (by omega) (by omega)]
        unfold list_Entry_54.f
        rw [own_len, if_pos ⟨by omega, by omega, hx.2, by omega⟩]
        unfold play1
        rw [if_neg h1, if_pos ⟨.inl h0, hx⟩, if_neg (by omega)]
        simp [oneP, own]
      · have hb1 : b = false := by rw [hb]; exact decide_eq_false hx
        rw [hb1, if_neg (by decide), if_neg (by omega)]
        unfold play1
        rw [if_neg h1, if_neg (fun e => hx e.2)]
        rfl
    · rw [if_neg h0]
      simp only [list_List_play.j2]
      rw [if_neg (by decide)]
      by_cases h2 : n.f0 = 2
      · rw [if_pos h2]
        by_cases hx : 1 ≤ n.f1 ∧ n.f1 ≤ l.length
        · have hb1 : b = true := by rw [hb]; exact decide_eq_true hx
          rw [if_pos hb1, w64 (n.f1 - 1) (by omega) (by omega), if_pos (by omega), if_pos (by rw [own_len]; omega)]
          unfold play1
          rw [if_neg h1, if_pos ⟨.inr h2, hx⟩, if_pos h2]
          simp [oneP, own, ofR]
        · have hb1 : b = false := by rw [hb]; exact decide_eq_false hx
          rw [hb1, if_neg (by decide)]
          unfold play1
          rw [if_neg h1, if_neg (fun e => hx e.2)]
          rfl
      · rw [if_neg h2]
        unfold play1
        rw [if_neg h1, if_neg (by omega)]
        rfl
  have hj1n : n.f0 = 1 → play1 l n = none → list_List_play.j1 (k + 2) (own l) b false n.f0 n.f1 n.f2.f0 n.f2.f1 = some (oneP (play1 l n)) := by
    intro h1 hn
    rw [hn]
    simp only [list_List_play.j1]
    rw [if_neg (by decide), if_neg (by omega)]
    simp only [list_List_play.j2]
    rw [if_neg (by decide), if_neg (by omega)]
    rfl
  by_cases h1 : n.f0 = 1
  · rw [if_pos h1]
    by_cases h2 : n.f1 ≥ l.length
    · rw [if_pos h2, w64 (n.f1 - l.length) (by omega) (by omega)]
      by_cases h3 : n.f1 - l.length ≤ 65536
      · rw [decide_eq_true h3]
        simp only [list_List_play.j1]
        rw [own_len, w64 (n.f1 - l.length) (by omega) (by omega)]
        have hc : l.length + (n.f1 - l.length).toNat < 17592186044416 := by omega
        unfold play1
        simp only [if_pos h1, if_pos hc, if_pos (show (l.length : Int) ≤ n.f1 ∧ n.f1 - l.length ≤ 65536 from ⟨h2, h3⟩), if_pos (show 0 ≤ n.f1 - (l.length : Int) by omega), if_true]
        simp [oneP, own, ofR, z35, z40]
      · rw [decide_eq_false h3]
        exact hj1n h1 (by unfold play1; rw [if_pos h1, if_neg (by omega)])
    · rw [if_neg h2]
      exact hj1n h1 (by unfold play1; rw [if_pos h1, if_neg (by omega)])
  · rw [if_neg h1]
    exact hj1 false rfl h1
theorem rd_ofM (M : List S42) (i : Nat) (h : i < M.length) : rd_T37 (M.map ofM) i = ofM M[i] := by
  rw [rd37 _ i (by simpa using h)]
  simp
theorem pplay_l0 (M : List S42) (hw : ∀ n ∈ M, n.f1 ≤ 9223372036854775807) (hM : M.length ≤ 1000) : ∀ (d i k : Nat) (l : List S40), i + d = M.length → l.length + d * 65536 ≤ 900000000 → d + 4 ≤ k →
    list_List_Play.l0 k (own l) (M.map ofM) (M.length : Int) i = some (resP (plays l (M.drop i))) := by
  intro d
  induction d with
  | zero =>
    intro i k l hi _ hk
    obtain ⟨k, rfl⟩ : ∃ m, k = m + 1 := ⟨k - 1, by omega⟩
    simp only [list_List_Play.l0]
    rw [if_neg (by omega), List.drop_eq_nil_of_le (by omega)]
    rfl
  | succ d ih =>
    intro i k l hi hl hk
    obtain ⟨k, rfl⟩ : ∃ m, k = m + 3 + 1 := ⟨k - 4, by omega⟩
    have hlt : i < M.length := by omega
    have hwn := hw _ (List.getElem_mem hlt)
    obtain ⟨k3, hk3⟩ : ∃ k3, k3 = k + 3 := ⟨_, rfl⟩
    rw [← hk3]
    simp only [list_List_Play.l0]
    rw [if_pos (by omega), if_pos (by omega), if_pos (by simp; omega), rd_ofM M i hlt, List.drop_eq_getElem_cons hlt, hk3]
    have hone := pplay_one l M[i] hwn (by omega) k
    show ((list_List_play.f (k + 3) (own l) (M[i]).f0 (M[i]).f1 (M[i]).f2.f0 (M[i]).f2.f1).bind _) = some (resP ((play1 l M[i]).bind fun l' => plays l' (M.drop (i + 1))))
    rw [hone]
    simp only [Option.bind_some]
    cases hp : play1 l M[i] with
    | none => rfl
    | some l' =>
      have := play1_len hp
      simp only [oneP, if_true]
      rw [w64 _ (by omega) (by omega), show ((i : Int) + 1) = ((i + 1 : Nat) : Int) by omega]
      exact ih (i + 1) (k + 3) l' (by omega) (by omega) (by omega)
theorem pplay_f (L : List S40) (M : List S42) (hw : ∀ n ∈ M, n.f1 ≤ 9223372036854775807) (hM : M.length ≤ 200) (hL : L.length ≤ 300) (k : Nat) (hk : M.length + 4 ≤ k) : list_List_Play.f k (own L) (M.map ofM) = some (resP (plays L M)) := by
  unfold list_List_Play.f list_Entry_40.f
  rw [own_len, if_pos (by omega)]
  simp only [Option.bind_some, List.length_map]
  exact pplay_l0 M hw (by omega) M.length 0 k L (by omega) (by omega) hk
theorem back_l0 (l : List S40) (hl : l.length ≤ 10000000) : ∀ (d i k : Nat) (acc : List S40), i + d = l.length → d < k → acc.length ≤ i → postchaiselaw11_Back.l0 k (own l) acc i = some (acc ++ l.drop i) := by
  intro d
  induction d with
  | zero =>
    intro i k acc hi hk _
    obtain ⟨k, rfl⟩ : ∃ m, k = m + 1 := ⟨k - 1, by omega⟩
    simp only [postchaiselaw11_Back.l0]
    rw [if_neg (by rw [own_len]; omega), List.drop_eq_nil_of_le (by omega), List.append_nil]
  | succ d ih =>
    intro i k acc hi hk ha
    obtain ⟨k, rfl⟩ : ∃ m, k = m + 1 := ⟨k - 1, by omega⟩
    simp only [postchaiselaw11_Back.l0]
    have hlt : i < l.length := by omega
    rw [if_pos (by rw [own_len]; omega), if_pos (by omega), if_pos (by omega), rd_own, rd40 l i hlt, w64 _ (by omega) (by omega), show ((i : Int) + 1) = ((i + 1 : Nat) : Int) by omega,
      ih (i + 1) k _ (by omega) (by omega) (by simp; omega), List.drop_eq_getElem_cons hlt]
    simp only [List.append_assoc, List.cons_append, List.nil_append]
    rfl
theorem back_f (l : List S40) (hl : l.length ≤ 10000000) (k : Nat) (hk : l.length < k) : postchaiselaw11_Back.f k (own l) = some l := by
  unfold postchaiselaw11_Back.f
  have := back_l0 l hl l.length 0 k [] (by omega) hk (by simp)
  simpa using this
theorem same_l0 (l : List S40) (hl : l.length ≤ 10000000) : ∀ (d i k : Nat), i + d = l.length → d < k → postchaiseref11_Same.l0 k l l i = some true := by
  intro d
  induction d with
  | zero =>
    intro i k hi hk
    obtain ⟨k, rfl⟩ : ∃ m, k = m + 1 := ⟨k - 1, by omega⟩
    simp only [postchaiseref11_Same.l0]
    rw [if_neg (by omega)]
  | succ d ih =>
    intro i k hi hk
    obtain ⟨k, rfl⟩ : ∃ m, k = m + 1 := ⟨k - 1, by omega⟩
    simp only [postchaiseref11_Same.l0]
    rw [if_pos (by omega), if_pos (by omega), if_pos (by omega), if_neg (by simp), w64 _ (by omega) (by omega), show ((i : Int) + 1) = ((i + 1 : Nat) : Int) by omega]
    exact ih (i + 1) k (by omega) (by omega)
theorem same_f (l : List S40) (hl : l.length ≤ 10000000) (k : Nat) (hk : l.length < k) : postchaiseref11_Same.f k l l = some true := by
  unfold postchaiseref11_Same.f
  rw [if_pos rfl]
  exact same_l0 l hl l.length 0 k (by omega) hk
theorem plays_len : ∀ (M : List S42) (L l' : List S40), plays L M = some l' → l'.length ≤ L.length + M.length * 65536
  | [], L, l', h => by unfold plays at h; obtain rfl := Option.some.inj h; omega
  | n :: M, L, l', h => by
    unfold plays at h
    cases hp : play1 L n with
    | none => rw [hp] at h; cases h
    | some l2 =>
      rw [hp] at h
      have h1 := play1_len hp
      have h2 := plays_len M l2 l' h
      simp only [List.length_cons]
      omega
end Go.Proofs.Ytlklegdaeffcpaa.PList
