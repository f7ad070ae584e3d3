/- Chapter 11, plain lists: the law ListBack in the printed form. No condition but those that each bears. -/
import Derived.Test.YtlklegdaeffcpaaListPure7
import Derived.Test.YtlklegdaeffcpaaQList13
namespace Go.Proofs.Ytlklegdaeffcpaa.PList
open Go.RowKit Go.Proofs.YtlklegdaeffcpaaW.PrintWords Go.Proofs.YtlklegdaeffcpaaW.PrintLast Go.Proofs.YtlklegdaeffcpaaW.PrintMore
theorem gonesR_wf (L N : List S40) (hL : L.length ≤ 80) : ∀ q, q ≤ 80 → ∀ n ∈ gonesR L N q, n.f1 ≤ 9223372036854775807
  | 0, _, n, h => absurd h (List.not_mem_nil)
  | q + 1, hq, n, h => by
    unfold gonesR at h
    rcases List.mem_append.1 h with h | h
    · split at h
      · rw [List.mem_singleton.1 h]; show (q : Int) + 1 ≤ _; omega
      · exact absurd h (List.not_mem_nil)
    · exact gonesR_wf L N hL q (by omega) n h
theorem fetchR_wf (L N : List S40) : ∀ d i, i + d ≤ 80 → ∀ n ∈ fetchR L N i d, n.f1 ≤ 9223372036854775807
  | 0, _, _, n, h => absurd h (List.not_mem_nil)
  | d + 1, i, hi, n, h => by
    unfold fetchR at h
    rcases List.mem_append.1 h with h | h
    · split at h
      · rw [List.mem_singleton.1 h]; show (i : Int) + 1 ≤ _; omega
      · exact absurd h (List.not_mem_nil)
    · exact fetchR_wf L N d (i + 1) (by omega) n h
theorem diffR_wf (L N : List S40) (hL : L.length ≤ 80) (hN : N.length ≤ 80) : ∀ n ∈ diffR L N, n.f1 ≤ 9223372036854775807 := by
  intro n h
  unfold diffR at h
  rcases List.mem_append.1 h with h | h
  · rcases List.mem_append.1 h with h | h
    · exact gonesR_wf L N hL L.length hL n h
    · unfold exR at h
      split at h
      · rw [List.mem_singleton.1 h]; show (N.length : Int) ≤ _; omega
      · exact absurd h (List.not_mem_nil)
  · exact fetchR_wf L N N.length 0 (by omega) n h
theorem play1_kind {l l' : List S40} {n : S42} (h : play1 l n = some l') : (l'.length < l.length → n.f0 = 0) ∧ (n.f0 = 1 → ¬ n.f1 < l.length) := by
  unfold play1 at h
  split at h
  · rename_i h1
    split at h
    · rename_i h2
      obtain rfl := Option.some.inj h
      exact ⟨fun h3 => by rw [List.length_append] at h3; omega, fun _ => by omega⟩
    · cases h
  · rename_i h1
    split at h
    · rename_i h2
      obtain rfl := Option.some.inj h
      refine ⟨fun h3 => ?_, fun h3 => absurd h3 h1⟩
      split at h3
      · simp at h3
      · rcases h2.1 with e | e
        · exact e
        · contradiction
    · cases h
/-- Notes to the same list: none. -/
theorem diff_same (N : List S40) (h : RisesP N) : diffR N N = [] := by
  have hg : ∀ q, q ≤ N.length → gonesR N N q = [] := by
    intro q
    induction q with
    | zero => intro _; rfl
    | succ q ih =>
      intro hq
      unfold gonesR
      rw [rd40 N q (by omega), if_neg (fndR_mem N _ q (by omega) rfl), ih (by omega)]
      rfl
  have hfr : freshR N N 0 N.length = false := by
    rw [Bool.eq_false_iff]
    intro e
    obtain ⟨j, hj, _, h2⟩ := (fresh_iff N N N.length 0 (by omega)).1 e
    exact fndR_mem N _ j hj rfl h2
  have hf : ∀ d i, i + d = N.length → fetchR N N i d = [] := by
    intro d
    induction d with
    | zero => intro i _; rfl
    | succ d ih =>
      intro i hi
      unfold fetchR
      have hlt : i < N.length := by omega
      have hnf := fndR_mem N _ i hlt rfl
      obtain ⟨k, hk, h1, h2⟩ := fndR_at N _ hnf
      have hki : k = i := rises_one h k i hk hlt h2
      subst hki
      have hfet : fetR N N[k] = false := by
        unfold fetR
        rw [decide_eq_false hnf, h1, rd40 N k hk]
        simp
      rw [rd40 N k hlt, hfet, ih (k + 1) (by omega)]
      rfl
  unfold diffR exR
  rw [hg N.length (Nat.le_refl _), hfr, hf N.length 0 (by omega)]
  rfl
theorem back_tail (N : List S40) (h : RisesP N) (hN : N.length ≤ 80) (hw : ∀ e ∈ N, 0 ≤ e.f0) (x : List S35) (M : List S37) (i : Int) (hi : ¬ i < (M.length : Int)) (k : Nat) (hk : 600 ≤ k) : postchaiselaw11_ListBack.l0 (k + 1) N M x i = some true := by
  have hm : MayP N N := ⟨h, h, fun i hi hf => absurd hf (fndR_mem N _ i hi rfl)⟩
  have hd := diff_own N N hw hw hm
  rw [diff_same N h] at hd
  simp only [postchaiselaw11_ListBack.l0]
  rw [if_neg hi, own_f N (by omega) k (by omega)]
  simp only [Option.bind_some]
  rw [diff_f (own N) (own N) (by rw [own_len]; omega) (by rw [own_len]; omega) k (by rw [own_len]; omega), hd]
  simp only [Option.bind_some, List.map_nil, List.length_nil]
  rw [awake_f k (by omega)]
  rfl
theorem back_loop (N : List S40) (h : RisesP N) (hN : N.length ≤ 80) (hw : ∀ e ∈ N, 0 ≤ e.f0) (M : List S42) (hM : M.length ≤ 170) (hwM : ∀ n ∈ M, n.f1 ≤ 9223372036854775807) : ∀ (d i k : Nat) (l : List S40), i + d = M.length → l.length + d * 65536 ≤ 800000000 → plays l (M.drop i) = some N → 700 + d ≤ k →
    postchaiselaw11_ListBack.l0 k N (M.map ofM) (own l) i = some true := by
  intro d
  induction d with
  | zero =>
    intro i k l hi _ _ hk
    obtain ⟨k, rfl⟩ : ∃ m, k = m + 1 := ⟨k - 1, by omega⟩
    exact back_tail N h hN hw _ _ _ (by simp; omega) k (by omega)
  | succ d ih =>
    intro i k l hi hl hp hk
    obtain ⟨k, rfl⟩ : ∃ m, k = m + 1 := ⟨k - 1, by omega⟩
    have hlt : i < M.length := by omega
    rw [List.drop_eq_getElem_cons hlt] at hp
    have hp : (play1 l M[i]).bind (fun l' => plays l' (M.drop (i + 1))) = some N := hp
    cases h1 : play1 l M[i] with
    | none => rw [h1] at hp; cases hp
    | some l' =>
      rw [h1] at hp
      have hp : plays l' (M.drop (i + 1)) = some N := hp
      have hk1 := play1_kind h1
      have hl1 := play1_len h1
      have hone : list_List_Play.f k (own l) [ofM M[i]] = some (own l', 0) := by
        have := pplay_l0 [M[i]] (fun n hn => hwM n (by rw [List.mem_singleton.1 hn]; exact List.getElem_mem hlt)) (by simp) 1 0 k l rfl (Nat.le_trans (Nat.add_le_add_left (show 1 * 65536 ≤ (d + 1) * 65536 from Nat.mul_le_mul_right _ (by omega)) _) (Nat.le_trans hl (by decide))) (by omega)
        have e : plays l [M[i]] = some l' := by show (play1 l M[i]).bind (fun l' => plays l' []) = _; rw [h1]; rfl
        rw [List.drop_zero, e] at this
        unfold list_List_Play.f list_Entry_40.f
        rw [own_len, if_pos (by omega)]
        exact this
      simp only [postchaiselaw11_ListBack.l0]
      rw [if_pos (by simp; omega), if_pos (by omega), rd_ofM M i hlt]
      show ((list_List_Play.f k (own l) [ofM M[i]]).bind _) = _
      rw [hone]
      simp only [Option.bind_some, if_true]
      rw [own_len, own_len, w64 ((i : Int) + 1) (by omega) (by omega), show ((i : Int) + 1) = ((i + 1 : Nat) : Int) by omega]
      have hrec := ih (i + 1) k l' (by omega) (by omega) hp (by omega)
      have htail : (if (M[i]).f0 = 1 then (if (M[i]).f1 < (l.length : Int) then some false else postchaiselaw11_ListBack.l0 k N (M.map ofM) (own l') ((i + 1 : Nat) : Int)) else postchaiselaw11_ListBack.l0 k N (M.map ofM) (own l') ((i + 1 : Nat) : Int)) = some true := by
        by_cases e : (M[i]).f0 = 1
        · rw [if_pos e, if_neg (hk1.2 e)]; exact hrec
        · rw [if_neg e]; exact hrec
      show (if (l'.length : Int) < (l.length : Int) then (if (M[i]).f0 = 0 then (if (M[i]).f0 = 1 then (if (M[i]).f1 < (l.length : Int) then some false else postchaiselaw11_ListBack.l0 k N (M.map ofM) (own l') ((i + 1 : Nat) : Int)) else postchaiselaw11_ListBack.l0 k N (M.map ofM) (own l') ((i + 1 : Nat) : Int)) else some false)
        else (if (M[i]).f0 = 1 then (if (M[i]).f1 < (l.length : Int) then some false else postchaiselaw11_ListBack.l0 k N (M.map ofM) (own l') ((i + 1 : Nat) : Int)) else postchaiselaw11_ListBack.l0 k N (M.map ofM) (own l') ((i + 1 : Nat) : Int))) = some true
      rw [htail]
      by_cases e : (l'.length : Int) < (l.length : Int)
      · rw [if_pos e, if_pos (hk1.1 (by omega))]
      · rw [if_neg e]
/-- THE LAW, in the printed form. -/
theorem listBack_f (L N : List S40) (hw : ∀ e ∈ N, 0 ≤ e.f0) (hw0 : ∀ e ∈ L, 0 ≤ e.f0) : postchaiselaw11_ListBack.f 2000 L N = some true := by
  unfold postchaiselaw11_ListBack.f
  have hj : ∀ k, postchaiselaw11_ListBack.j0 (k + 1) L N true = some true := fun k => by simp [postchaiselaw11_ListBack.j0]
  by_cases h1 : (L.length : Int) > 80
  · rw [if_pos h1]; exact hj 1999
  · rw [if_neg h1]
    by_cases h2 : (N.length : Int) > 80
    · rw [if_pos h2]; exact hj 1999
    · rw [if_neg h2]
      obtain ⟨b, hb, hp⟩ := may_f L N (by omega) (by omega) 2000 (by omega)
      rw [hb]
      simp only [Option.bind_some]
      cases b with
      | false => exact hj 1999
      | true =>
        have hm := hp rfl
        have hd := diff_own L N hw hw0 hm
        have hlen := diffR_len L N (by omega) (by omega)
        have hpl := plays_diff hm (by omega)
        have hwM := diffR_wf L N (by omega) (by omega)
        have hlast : postchaiselaw11_ListBack.j1 1999 N (own L) ((diffR L N).map ofM) (!true) = some true := by
          have : postchaiselaw11_ListBack.j1 (1998 + 1) N (own L) ((diffR L N).map ofM) (!true) = some true := by
            simp only [postchaiselaw11_ListBack.j1]
            rw [if_neg (by decide)]
            exact back_loop N hm.n (by omega) hw (diffR L N) (by omega) hwM (diffR L N).length 0 1998 L (by omega) (by omega) (by rw [List.drop_zero]; exact hpl) (by omega)
          exact this
        have e : postchaiselaw11_ListBack.j0 (1999 + 1) L N (!true) = some true := by
          simp only [postchaiselaw11_ListBack.j0]
          rw [if_neg (by decide), own_f L (by omega) 1999 (by omega), own_f N (by omega) 1999 (by omega)]
          simp only [Option.bind_some]
          rw [diff_f (own L) (own N) (by rw [own_len]; omega) (by rw [own_len]; omega) 1999 (by rw [own_len, own_len]; omega), hd]
          simp only [Option.bind_some]
          rw [pplay_f L (diffR L N) hwM (by omega) (by omega) 1999 (by omega), hpl]
          simp only [Option.bind_some, resP, if_true]
          rw [back_f N (by omega) 1999 (by omega)]
          simp only [Option.bind_some]
          rw [same_f N (by omega) 1999 (by omega)]
          simp only [Option.bind_some]
          exact hlast
        exact e
end Go.Proofs.Ytlklegdaeffcpaa.PList
