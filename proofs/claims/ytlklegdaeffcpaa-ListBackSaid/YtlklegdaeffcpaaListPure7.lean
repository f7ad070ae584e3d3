/- Chapter 11, plain lists: the notes of the difference, played, come to the other list. No condition but those that each bears. -/
import Derived.Test.YtlklegdaeffcpaaListPure5
namespace Go.Proofs.Ytlklegdaeffcpaa.PList
open Go.RowKit Go.Proofs.YtlklegdaeffcpaaW.PrintWords Go.Proofs.YtlklegdaeffcpaaW.PrintLast Go.Proofs.YtlklegdaeffcpaaW.PrintMore
theorem sorted_ext : ∀ (l m : List Int), l.Pairwise (· < ·) → m.Pairwise (· < ·) → (∀ x, x ∈ l ↔ x ∈ m) → l = m
  | [], [], _, _, _ => rfl
  | [], b :: m, _, _, h => absurd ((h b).2 List.mem_cons_self) (List.not_mem_nil)
  | a :: l, [], _, _, h => absurd ((h a).1 List.mem_cons_self) (List.not_mem_nil)
  | a :: l, b :: m, hl, hm, h => by
    obtain ⟨ha, hl2⟩ := List.pairwise_cons.1 hl
    obtain ⟨hb, hm2⟩ := List.pairwise_cons.1 hm
    have e : a = b := by
      rcases List.mem_cons.1 ((h a).1 List.mem_cons_self) with e | h1
      · exact e
      · rcases List.mem_cons.1 ((h b).2 List.mem_cons_self) with e | h2
        · exact e.symm
        · have := hb a h1
          have := ha b h2
          omega
    subst e
    congr 1
    refine sorted_ext l m hl2 hm2 (fun x => ⟨fun hx => ?_, fun hx => ?_⟩)
    · rcases List.mem_cons.1 ((h x).1 (List.mem_cons_of_mem _ hx)) with e | h1
      · have := ha x hx; omega
      · exact h1
    · rcases List.mem_cons.1 ((h x).2 (List.mem_cons_of_mem _ hx)) with e | h1
      · have := hb x hx; omega
      · exact h1
theorem parts {α : Type} (p : α → Bool) : ∀ (l : List α), l.Pairwise (fun a b => p b = true → p a = true) → l = l.filter p ++ l.filter (fun x => !p x)
  | [], _ => rfl
  | a :: l, h => by
    obtain ⟨ha, h2⟩ := List.pairwise_cons.1 h
    have ih := parts p l h2
    by_cases e : p a = true
    · rw [List.filter_cons_of_pos e, List.filter_cons_of_neg (by simp [e]), List.cons_append, ← ih]
    · have hn : ∀ b ∈ l, ¬ p b = true := fun b hb hp => e (ha b hb hp)
      rw [List.filter_cons_of_neg e, List.filter_eq_nil_iff.2 hn, List.nil_append, List.filter_eq_self.2 (fun b hb => ?_)]
      rcases List.mem_cons.1 hb with rfl | hb
      · simpa using e
      · simpa using hn b hb
theorem rises_lt {L : List S40} (h : RisesP L) (i j : Nat) (hi : i < L.length) (hj : j < L.length) (hij : i < j) : (L[i]).f0 < (L[j]).f0 := by
  have h1 := rises_le h (j - 1 - i) i (by omega)
  have h2 := h.next (j - 1) (by omega)
  have e1 : (L[i + (j - 1 - i)]'(by omega)) = L[j - 1]'(by omega) := by congr 1; omega
  have e2 : (L[j - 1 + 1]'(by omega)) = L[j] := by congr 1; omega
  rw [e1] at h1
  rw [e2] at h2
  omega
theorem rises_pair {L : List S40} (h : RisesP L) : L.Pairwise (fun a b => a.f0 < b.f0) := List.pairwise_iff_getElem.2 fun i j hi hj hij => rises_lt h i j hi hj hij
theorem rises_one {L : List S40} (h : RisesP L) (i j : Nat) (hi : i < L.length) (hj : j < L.length) (e : (L[i]).f0 = (L[j]).f0) : i = j := by
  rcases Nat.lt_trichotomy i j with h1 | h1 | h1
  · have := rises_lt h i j hi hj h1; omega
  · exact h1
  · have := rises_lt h j i hj hi h1; omega
/-- Is a number there? -/
def inn (L : List S40) (e : S40) : Bool := !decide (fndR L e.f0 < 0)
theorem inn_iff (L : List S40) (e : S40) : inn L e = true ↔ ∃ a ∈ L, a.f0 = e.f0 := by
  unfold inn
  constructor
  · intro h
    obtain ⟨i, hi, _, h2⟩ := fndR_at L e.f0 (by simpa using h)
    exact ⟨_, List.getElem_mem hi, h2⟩
  · rintro ⟨a, ha, e2⟩
    obtain ⟨i, hi, rfl⟩ := List.mem_iff_getElem.1 ha
    simpa using fndR_mem L e.f0 i hi e2
def keptL (L N : List S40) : List S40 := L.filter (inn N)
def oldN (L N : List S40) : List S40 := N.filter (inn L)
theorem kept_uids {L N : List S40} (hl : RisesP L) (hn : RisesP N) : (keptL L N).map (·.f0) = (oldN L N).map (·.f0) := by
  refine sorted_ext _ _ (List.pairwise_map.2 ((rises_pair hl).filter _)) (List.pairwise_map.2 ((rises_pair hn).filter _)) (fun u => ?_)
  simp only [keptL, oldN, List.mem_map, List.mem_filter, inn_iff]
  constructor
  · rintro ⟨a, ⟨ha, b, hb, e1⟩, e2⟩
    exact ⟨b, ⟨hb, a, ha, e1.symm⟩, e1.trans e2⟩
  · rintro ⟨a, ⟨ha, b, hb, e1⟩, e2⟩
    exact ⟨b, ⟨hb, a, ha, e1.symm⟩, e1.trans e2⟩
theorem may_parts {L N : List S40} (h : MayP L N) : N = oldN L N ++ N.filter (fun e => !inn L e) := by
  refine parts (inn L) N (List.pairwise_iff_getElem.2 fun i j hi hj hij hp => ?_)
  obtain ⟨a, ha, e⟩ := (inn_iff L N[j]).1 hp
  obtain ⟨q, hq, rfl⟩ := List.mem_iff_getElem.1 ha
  apply Classical.byContradiction
  intro hne
  have h1 := h.new i hi (by unfold inn at hne; simpa using hne) (by omega)
  have h2 := rises_lt h.n i j hi hj hij
  have h3 := rises_le h.l (L.length - 1 - q) q (by omega)
  have e3 : (L[q + (L.length - 1 - q)]'(by omega)) = L[L.length - 1]'(by omega) := by congr 1; omega
  rw [e3] at h3
  omega
theorem plays_append : ∀ (a b : List S42) (l : List S40), plays l (a ++ b) = (plays l a).bind fun l' => plays l' b
  | [], b, l => rfl
  | n :: a, b, l => by
    show ((play1 l n).bind fun l' => plays l' (a ++ b)) = ((play1 l n).bind fun l' => plays l' a).bind fun l' => plays l' b
    cases play1 l n with
    | none => rfl
    | some l' => exact plays_append a b l'
theorem plays_gones (L N : List S40) : ∀ (q : Nat) (S : List S40), q ≤ L.length → plays (L.take q ++ S) (gonesR L N q) = some ((L.take q).filter (inn N) ++ S)
  | 0, S, _ => by simp [gonesR, plays]
  | q + 1, S, hq => by
    have hlt : q < L.length := by omega
    have ht : L.take (q + 1) = L.take q ++ [L[q]] := by rw [List.take_succ_eq_append_getElem hlt]
    have hlen : (L.take q).length = q := by simp; omega
    unfold gonesR
    rw [rd40 L q hlt, plays_append, ht, List.filter_append]
    by_cases h : fndR N (L[q]).f0 < 0
    · have hi : inn N L[q] = false := by unfold inn; simp [h]
      rw [if_pos h]
      have h1 : play1 (L.take q ++ [L[q]] ++ S) ⟨0, (q : Int) + 1, ⟨0, 0⟩⟩ = some (L.take q ++ S) := by
        unfold play1
        rw [if_neg (by simp), if_pos ⟨.inl rfl, by simp; omega, by simp; omega⟩, if_neg (by simp)]
        have e1 : ((q : Int) + 1 - 1).toNat = q := by omega
        have e2 : ((q : Int) + 1).toNat = q + 1 := by omega
        simp only [e1, e2]
        rw [List.append_assoc, List.take_append_of_le_length (by omega), List.take_of_length_le (by omega), List.drop_append, List.drop_eq_nil_of_le (by omega), hlen, List.nil_append, show q + 1 - q = 1 by omega]
        rfl
      show (((play1 (L.take q ++ [L[q]] ++ S) ⟨0, (q : Int) + 1, ⟨0, 0⟩⟩).bind fun l' => plays l' []).bind _) = _
      rw [h1]
      show plays (L.take q ++ S) (gonesR L N q) = _
      rw [plays_gones L N q S (by omega), List.filter_cons_of_neg (by simp [hi])]
      simp
    · have hi : inn N L[q] = true := by unfold inn; simp [h]
      rw [if_neg h]
      show plays (L.take q ++ [L[q]] ++ S) (gonesR L N q) = _
      rw [List.append_assoc, plays_gones L N q ([L[q]] ++ S) (by omega), List.filter_cons_of_pos hi, List.append_assoc]
      simp
theorem plays_ex {L N : List S40} (h : MayP L N) (hN : N.length ≤ 80) : plays (keptL L N) (exR L N) = some (keptL L N ++ List.replicate (N.length - (keptL L N).length) z40) := by
  have hu := congrArg List.length (kept_uids h.l h.n)
  simp only [List.length_map] at hu
  have hp := congrArg List.length (may_parts h)
  rw [List.length_append] at hp
  unfold exR
  by_cases hf : freshR L N 0 N.length = true
  · rw [if_pos hf]
    show ((play1 (keptL L N) ⟨1, (N.length : Int), ⟨0, 0⟩⟩).bind fun l' => plays l' []) = _
    unfold play1
    rw [if_pos rfl, if_pos ⟨by simp only; omega, by simp only; omega⟩]
    have e : ((N.length : Int) - (keptL L N).length).toNat = N.length - (keptL L N).length := by omega
    simp only [e]
    rfl
  · rw [if_neg hf]
    have h0 : (N.filter (fun e => !inn L e)) = [] := List.filter_eq_nil_iff.2 fun e he hx => hf (by
      obtain ⟨j, hj, rfl⟩ := List.mem_iff_getElem.1 he
      exact (fresh_iff L N N.length 0 (by omega)).2 ⟨j, hj, Nat.zero_le _, by unfold inn at hx; simpa using hx⟩)
    rw [h0, List.length_nil] at hp
    rw [show N.length - (keptL L N).length = 0 by omega]
    simp [plays]
/-- Who is not told anew is right already. -/
theorem kept_at {L N : List S40} (h : MayP L N) (i : Nat) (hi : i < N.length) (hf : fetR L N[i] = false) : (keptL L N ++ List.replicate (N.length - (keptL L N).length) z40)[i]? = some N[i] := by
  unfold fetR at hf
  rw [Bool.or_eq_false_iff] at hf
  have hnf : ¬ fndR L (N[i]).f0 < 0 := by simpa using hf.1
  obtain ⟨k, hk, h1, h2⟩ := fndR_at L _ hnf
  have h3 : (L[k]).f1 = (N[i]).f1 := by
    have := hf.2
    rw [h1, rd40 L k hk] at this
    simpa using this
  have hin : inn L N[i] = true := by unfold inn; simpa using hnf
  -- i lies in the old part
  have hp := may_parts h
  have hold : i < (oldN L N).length := by
    apply Classical.byContradiction
    intro hge
    have hlen := congrArg List.length hp
    rw [List.length_append] at hlen
    have e : N[i]? = (N.filter (fun e => !inn L e))[i - (oldN L N).length]? := by
      conv => lhs; rw [hp]
      rw [List.getElem?_append_right (by omega)]
    rw [List.getElem?_eq_getElem hi] at e
    have hm := List.mem_of_getElem? e.symm
    have := (List.mem_filter.1 hm).2
    rw [hin] at this
    cases this
  have hu := kept_uids h.l h.n
  have hul := congrArg List.length hu
  simp only [List.length_map] at hul
  have hki : i < (keptL L N).length := by omega
  rw [List.getElem?_append_left hki, List.getElem?_eq_getElem hki]
  have e1 : ((oldN L N)[i]'hold) = N[i] := by
    have : N[i]? = some ((oldN L N)[i]'hold) := by
      conv => lhs; rw [hp]
      rw [List.getElem?_append_left hold, List.getElem?_eq_getElem hold]
    rw [List.getElem?_eq_getElem hi] at this
    exact (Option.some.inj this).symm
  have e2 : ((keptL L N)[i]'hki).f0 = (N[i]).f0 := by
    have : ((keptL L N).map (·.f0))[i]? = ((oldN L N).map (·.f0))[i]? := by rw [hu]
    rw [List.getElem?_map, List.getElem?_map, List.getElem?_eq_getElem hki, List.getElem?_eq_getElem hold, e1] at this
    exact Option.some.inj this
  have hm : (keptL L N)[i]'hki ∈ L := (List.mem_filter.1 (List.getElem_mem hki)).1
  obtain ⟨q, hq, e3⟩ := List.mem_iff_getElem.1 hm
  have e4 : q = k := rises_one h.l q k hq hk (by rw [e3, e2, h2])
  subst e4
  congr 1
  rw [← e3] at e2 ⊢
  generalize L[q] = x at *
  generalize N[i] = y at *
  obtain ⟨x0, x1⟩ := x
  obtain ⟨y0, y1⟩ := y
  simp only at e2 h3
  rw [e2, h3]
theorem plays_fetch {L N : List S40} (h : MayP L N) (base : List S40) (hb : base.length = N.length) (hk : ∀ (i : Nat) (hi : i < N.length), fetR L N[i] = false → base[i]? = some N[i]) : ∀ (d i : Nat), i + d = N.length → plays (N.take i ++ base.drop i) (fetchR L N i d) = some N
  | 0, i, hi => by
    rw [List.take_of_length_le (by omega), List.drop_eq_nil_of_le (by omega), List.append_nil]
    rfl
  | d + 1, i, hi => by
    have hlt : i < N.length := by omega
    have hltb : i < base.length := by omega
    have ih := plays_fetch h base hb hk d (i + 1) (by omega)
    have ht : N.take (i + 1) = N.take i ++ [N[i]] := by rw [List.take_succ_eq_append_getElem hlt]
    have hlen : (N.take i).length = i := by simp; omega
    rw [ht, List.append_assoc] at ih
    unfold fetchR
    rw [rd40 N i hlt, plays_append]
    by_cases hf : fetR L N[i] = true
    · rw [if_pos hf]
      have h1 : play1 (N.take i ++ base.drop i) ⟨2, (i : Int) + 1, ⟨(N[i]).f0, (N[i]).f1⟩⟩ = some (N.take i ++ ([N[i]] ++ base.drop (i + 1))) := by
        unfold play1
        rw [if_neg (by simp), if_pos ⟨.inr rfl, by simp only; omega, by simp; omega⟩, if_pos rfl]
        have e1 : ((i : Int) + 1 - 1).toNat = i := by omega
        simp only [e1]
        rw [List.set_append_right _ _ (by omega), hlen, Nat.sub_self, List.drop_eq_getElem_cons hltb]
        rfl
      show (((play1 (N.take i ++ base.drop i) ⟨2, (i : Int) + 1, ⟨(N[i]).f0, (N[i]).f1⟩⟩).bind fun l' => plays l' []).bind _) = _
      rw [h1]
      exact ih
    · rw [if_neg hf]
      show plays (N.take i ++ base.drop i) (fetchR L N (i + 1) d) = _
      have hbi := hk i hlt (by simpa using hf)
      rw [List.getElem?_eq_getElem hltb] at hbi
      rw [List.drop_eq_getElem_cons hltb, Option.some.inj hbi]
      exact ih
/-- A LIST, AND ITS NOTES TO ANOTHER ONE, PLAYED, COME TO THAT ONE. -/
theorem plays_diff {L N : List S40} (h : MayP L N) (hN : N.length ≤ 80) : plays L (diffR L N) = some N := by
  unfold diffR
  rw [List.append_assoc, plays_append]
  have h1 := plays_gones L N L.length [] (Nat.le_refl _)
  rw [List.take_length, List.append_nil, List.append_nil] at h1
  rw [h1]
  show plays (keptL L N) (exR L N ++ fetchR L N 0 N.length) = _
  rw [plays_append, plays_ex h hN]
  have hu := congrArg List.length (kept_uids h.l h.n)
  simp only [List.length_map] at hu
  have hp := congrArg List.length (may_parts h)
  rw [List.length_append] at hp
  have h3 := plays_fetch h (keptL L N ++ List.replicate (N.length - (keptL L N).length) z40) (by simp; omega) (fun i hi hf => kept_at h i hi hf) N.length 0 (by omega)
  rw [List.take_zero, List.nil_append, List.drop_zero] at h3
  exact h3
end Go.Proofs.Ytlklegdaeffcpaa.PList
