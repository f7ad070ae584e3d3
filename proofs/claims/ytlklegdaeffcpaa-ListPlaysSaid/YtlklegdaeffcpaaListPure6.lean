/- Chapter 11, plain lists: the law ListPlays in the printed form. No condition but those that each bears. -/
import Derived.Test.YtlklegdaeffcpaaListPure5
import Derived.Test.YtlklegdaeffcpaaQList12
namespace Go.Proofs.Ytlklegdaeffcpaa.PList
open Go.RowKit Go.Proofs.YtlklegdaeffcpaaW.PrintWords Go.Proofs.YtlklegdaeffcpaaW.PrintLast Go.Proofs.YtlklegdaeffcpaaW.PrintMore
def lastR (L : List S40) : Int := if L.length = 0 then 0 else (rd_T40 L ((L.length - 1 : Nat) : Int)).f0
theorem last_eq (L : List S40) : lastP (own L) = lastR L := by
  unfold lastP lastR
  rw [own_len]
  split
  · rfl
  · rw [rd_own]; rfl
theorem res_back (o : Option (List S40)) (n : Nat) (h : ∀ l, o = some l → l.length ≤ n) : (resP o).1 = own (resR o).1 ∧ (resP o).2 = (resR o).2 ∧ (resR o).1.length ≤ n := by
  cases o with
  | none => exact ⟨rfl, rfl, Nat.zero_le _⟩
  | some l => exact ⟨rfl, rfl, h l rfl⟩
theorem plays_j3 (L : List S40) (u : Int) (W : List S40) (e : Int) (hL : L.length ≤ 80) (hW : W.length ≤ 5000000) (k : Nat) (hk : 6000000 ≤ k) :
    postchaiselaw11_ListPlays.j3 (k + 1) L u (own L) (own W) e W e (lastR L) = some true := by
  have hf := fndR_le L u
  simp only [postchaiselaw11_ListPlays.j3]
  rw [back_f W (by omega) k (by omega)]
  simp only [Option.bind_some]
  rw [same_f W (by omega) k (by omega)]
  simp only [Option.bind_some, if_true]
  rw [back_f L (by omega) k (by omega)]
  simp only [Option.bind_some]
  rw [same_f L (by omega) k (by omega)]
  simp only [Option.bind_some, if_true]
  rw [show list_List_Seq.f (own L) u = some (fnd (own L) u + 1) from rfl, find_f L u (by omega) k (by omega)]
  simp only [Option.bind_some]
  rw [fnd_own, w64 (fndR L u + 1) (by omega) (by omega), if_pos rfl, last_f (own L) (by rw [own_len]; omega)]
  simp only [Option.bind_some]
  rw [last_eq, if_pos rfl, awake_f k (by omega)]
  rfl
theorem plays_j2 (L : List S40) (M : List S42) (u : Int) (hw : ∀ n ∈ M, n.f1 ≤ 9223372036854775807) (hL : L.length ≤ 80) (hM : M.length ≤ 60) (k : Nat) (hk : 400000010 ≤ k) : postchaiselaw11_ListPlays.j2 (k + 2) L M u false = some true := by
  obtain ⟨k1, hk1⟩ : ∃ k1, k1 = k + 1 := ⟨_, rfl⟩
  rw [show k + 2 = k1 + 1 by omega]
  simp only [postchaiselaw11_ListPlays.j2]
  rw [if_neg (by decide), own_f L (by omega) k1 (by omega)]
  simp only [Option.bind_some]
  rw [notes_f M (by omega) k1 (by omega)]
  simp only [Option.bind_some]
  rw [pplay_f L M hw (by omega) (by omega) k1 (by omega)]
  simp only [Option.bind_some]
  rw [rplay_f L M hw hM hL k1 (by omega)]
  simp only [Option.bind_some]
  obtain ⟨h1, h2, h3⟩ := res_back (plays L M) 5000000 (fun l hl => by have := plays_len M L l hl; omega)
  rw [h1, h2]
  have hfin : postchaiselaw11_ListPlays.j3 k1 L u (own L) (own (resR (plays L M)).1) (resR (plays L M)).2 (resR (plays L M)).1 (resR (plays L M)).2 (lastR L) = some true := by
    rw [hk1]; exact plays_j3 L u _ _ hL h3 k (by omega)
  by_cases h0 : L.length = 0
  · have hl : lastR L = 0 := by unfold lastR; rw [if_pos h0]
    rw [if_neg (by omega), ← hl]
    exact hfin
  · have hl : lastR L = (rd_T40 L ((L.length - 1 : Nat) : Int)).f0 := by unfold lastR; rw [if_neg h0]
    rw [if_pos (by omega), w64 _ (by omega) (by omega), if_pos (by omega), if_pos (by omega), show ((L.length : Int) - 1) = ((L.length - 1 : Nat) : Int) by omega, ← hl]
    exact hfin
/-- Behind the count. -/
theorem plays_rest (L : List S40) (M : List S42) (u : Int) (hw : ∀ n ∈ M, n.f1 ≤ 9223372036854775807) (s x8 : Int) (k : Nat) (hk : 400000013 ≤ k) : postchaiselaw11_ListPlays.j1 k L M u s x8 false = some true := by
  obtain ⟨k, rfl⟩ : ∃ m, k = m + 2 + 1 := ⟨k - 3, by omega⟩
  have ht : postchaiselaw11_ListPlays.j2 (k + 2) L M u true = some true := by simp [postchaiselaw11_ListPlays.j2]
  obtain ⟨k2, hk2⟩ : ∃ k2, k2 = k + 2 := ⟨_, rfl⟩
  rw [← hk2] at ht ⊢
  simp only [postchaiselaw11_ListPlays.j1]
  rw [if_neg (by decide)]
  by_cases h1 : (L.length : Int) > 80
  · rw [if_pos h1]; exact ht
  · rw [if_neg h1]
    by_cases h2 : (M.length : Int) > 60
    · rw [if_pos h2]; exact ht
    · rw [if_neg h2]
      by_cases h3 : s > 2
      · rw [decide_eq_true h3]; exact ht
      · rw [decide_eq_false h3, hk2]
        exact plays_j2 L M u hw (by omega) (by omega) k (by omega)
theorem plays_l0 (L : List S40) (M : List S42) (u : Int) (hw : ∀ n ∈ M, n.f1 ≤ 9223372036854775807) (_hl : M.length ≤ 9223372036854775806) : ∀ (d i k : Nat) (s : Int), i + d = 61 → 400000100 + 2 * d ≤ k → postchaiselaw11_ListPlays.l0 k L M u s i = some true := by
  intro d
  induction d with
  | zero =>
    intro i k s hi hk
    obtain ⟨k, rfl⟩ : ∃ m, k = m + 1 := ⟨k - 1, by omega⟩
    simp only [postchaiselaw11_ListPlays.l0]
    have hr := plays_rest L M u hw s i k (by omega)
    split
    · rw [decide_eq_false (by omega)]; exact hr
    · exact hr
  | succ d ih =>
    intro i k s hi hk
    obtain ⟨k, rfl⟩ : ∃ m, k = m + 1 + 1 := ⟨k - 2, by omega⟩
    obtain ⟨k1, hk1⟩ : ∃ k1, k1 = k + 1 := ⟨_, rfl⟩
    rw [← hk1]
    simp only [postchaiselaw11_ListPlays.l0]
    by_cases h : (i : Int) < (M.length : Int)
    · rw [if_pos h, decide_eq_true (by omega), hk1]
      simp only [postchaiselaw11_ListPlays.j1]
      have hn : ∀ s, postchaiselaw11_ListPlays.l0 k L M u s (wrap64 ((i : Int) + 1)) = some true := fun s => by
        rw [w64 _ (by omega) (by omega), show ((i : Int) + 1) = ((i + 1 : Nat) : Int) by omega]
        exact ih (i + 1) k s (by omega) (by omega)
      rw [if_pos trivial, if_pos (by omega), if_pos h]
      split
      · split
        · split
          · exact hn _
          · exact hn _
        · exact hn _
      · exact hn _
    · rw [if_neg h]
      exact plays_rest L M u hw s i k1 (by omega)
/-- THE LAW, in the printed form. -/
theorem listPlays_f (L : List S40) (M : List S42) (u : Int) (hw : ∀ n ∈ M, n.f1 ≤ 9223372036854775807) (hl : M.length ≤ 9223372036854775806) : postchaiselaw11_ListPlays.f 500000000 L M u = some true := by
  unfold postchaiselaw11_ListPlays.f
  exact plays_l0 L M u hw hl 61 0 500000000 0 (by omega) (by omega)
end Go.Proofs.Ytlklegdaeffcpaa.PList
