/- Chapter 11, plain lists: notes played, and the law ListPlays. No condition but those that each bears. -/
import Derived.Test.YtlklegdaeffcpaaListPure3
import Derived.Test.YtlklegdaeffcpaaQList10
import Derived.Test.YtlklegdaeffcpaaQList11
namespace Go.Proofs.Ytlklegdaeffcpaa.PList
open Go.RowKit Go.Proofs.YtlklegdaeffcpaaW.PrintWords Go.Proofs.YtlklegdaeffcpaaW.PrintLast Go.Proofs.YtlklegdaeffcpaaW.PrintMore
/-- One note. -/
def play1 (l : List S40) (n : S42) : Option (List S40) :=
  if n.f0 = 1 then if (l.length : Int) ≤ n.f1 ∧ n.f1 - l.length ≤ 65536 then some (l ++ List.replicate (n.f1 - l.length).toNat z40) else none
  else if (n.f0 = 0 ∨ n.f0 = 2) ∧ 1 ≤ n.f1 ∧ n.f1 ≤ l.length then some (if n.f0 = 2 then l.set (n.f1 - 1).toNat n.f2 else l.take (n.f1 - 1).toNat ++ l.drop n.f1.toNat)
  else none
def plays : List S40 → List S42 → Option (List S40)
  | l, [] => some l
  | l, n :: ns => (play1 l n).bind fun l' => plays l' ns
theorem play1_len {l l' : List S40} {n : S42} (h : play1 l n = some l') : l'.length ≤ l.length + 65536 := by
  unfold play1 at h
  split at h
  · split at h
    · obtain rfl := Option.some.inj h
      simp; omega
    · cases h
  · split at h
    · obtain rfl := Option.some.inj h
      split
      · simp
      · simp; omega
    · cases h
def resR (o : Option (List S40)) : List S40 × Int := match o with | some l => (l, 0) | none => ([], 3)
theorem resR_none : resR none = ([], 3) := rfl
theorem rplay_l1 (M : List S42) (i f0 f1 f2 f3 : Int) (hf : f1 ≤ 10000000) : ∀ (d k : Nat) (l : List S40), (l.length : Int) + d = f1 → postchaiseref11_Play.l1 (d + k + 1) M l i f0 f1 f2 f3 = postchaiseref11_Play.l0 k M (l ++ List.replicate d z40) (wrap64 (i + 1)) := by
  intro d
  induction d with
  | zero =>
    intro k l h
    rw [Nat.zero_add]
    simp only [postchaiseref11_Play.l1]
    rw [if_neg (by omega)]
    simp
  | succ d ih =>
    intro k l h
    obtain ⟨m, hm⟩ : ∃ m, m = d + k + 1 := ⟨_, rfl⟩
    rw [show d + 1 + k + 1 = m + 1 by omega]
    simp only [postchaiseref11_Play.l1]
    rw [hm, if_pos (by omega), if_pos (by omega), ih k _ (by simp; omega), List.append_assoc]
    rfl
def remF (l : List S40) (p : Nat) : Nat → Nat → List S40
  | _, 0 => []
  | i, d + 1 => (if i = p then [] else [rd_T40 l i]) ++ remF l p (i + 1) d
theorem remF_eq (l : List S40) (p : Nat) : ∀ d i, i + d = l.length → remF l p i d = if i ≤ p then (l.drop i).take (p - i) ++ l.drop (p + 1) else l.drop i
  | 0, i, h => by
    unfold remF
    split
    · rw [List.drop_eq_nil_of_le (by omega), List.drop_eq_nil_of_le (by omega)]; simp
    · rw [List.drop_eq_nil_of_le (by omega)]
  | d + 1, i, h => by
    unfold remF
    have hlt : i < l.length := by omega
    rw [remF_eq l p d (i + 1) (by omega), rd40 l i hlt]
    by_cases e : i = p
    · subst e
      rw [if_pos rfl, if_neg (by omega), if_pos (by omega), Nat.sub_self]
      simp
    · rw [if_neg e]
      by_cases h2 : i ≤ p
      · rw [if_pos (by omega), if_pos h2, List.drop_eq_getElem_cons hlt, show p - i = (p - (i + 1)) + 1 by omega]
        simp only [List.take_succ_cons, List.cons_append, List.nil_append]
      · rw [if_neg (by omega), if_neg h2, List.drop_eq_getElem_cons hlt]
        simp only [List.cons_append, List.nil_append]
theorem rplay_l2 (M : List S42) (l : List S40) (i : Int) (p : Nat) (f0 f1 f2 f3 : Int) (hp : f1 = (p : Int) + 1) (hl : l.length ≤ 10000000) (hpl : p ≤ 10000000) : ∀ (d q k : Nat) (acc : List S40), q + d = l.length → acc.length ≤ q →
    postchaiseref11_Play.l2 (d + k + 1) M l i acc q f0 f1 f2 f3 = postchaiseref11_Play.l0 k M (acc ++ remF l p q d) (wrap64 (i + 1)) := by
  intro d
  induction d with
  | zero =>
    intro q k acc h _
    rw [Nat.zero_add]
    simp only [postchaiseref11_Play.l2]
    rw [if_neg (by omega)]
    simp [remF]
  | succ d ih =>
    intro q k acc h ha
    obtain ⟨m, hm⟩ : ∃ m, m = d + k + 1 := ⟨_, rfl⟩
    rw [show d + 1 + k + 1 = m + 1 by omega]
    simp only [postchaiseref11_Play.l2]
    rw [hm, if_pos (by omega), hp, show (p : Int) + 1 - 1 = p by omega, w64 (p : Int) (by omega) (by omega), w64 ((q : Int) + 1) (by omega) (by omega), show ((q : Int) + 1) = ((q + 1 : Nat) : Int) by omega, ← hp]
    unfold remF
    by_cases e : q = p
    · rw [if_pos (by omega), if_pos e, ih (q + 1) k acc (by omega) (by omega), List.nil_append]
    · rw [if_neg (by omega), if_neg e, if_pos (by omega), if_pos (by omega), ih (q + 1) k _ (by omega) (by simp; omega), List.append_assoc]
theorem fuel_ok {d k k2 a C : Nat} (hC : C = 6000000) (hk : d * C + C + 1 ≤ k + 2) (h : k = a + k2 + 1) (ha : a ≤ 5000000) : d * C + 1 ≤ k2 := by
  generalize d * C = q at hk ⊢
  omega
theorem rplay_l0 (M : List S42) (hw : ∀ n ∈ M, n.f1 ≤ 9223372036854775807) (hM : M.length ≤ 60) (C : Nat) (hC : C = 6000000) : ∀ (d i k : Nat) (l : List S40), i + d = M.length → l.length + d * 65536 ≤ 5000000 → d * C + 1 ≤ k → postchaiseref11_Play.l0 k M l i = some (resR (plays l (M.drop i))) := by
  intro d
  induction d with
  | zero =>
    intro i k l hi _ hk
    obtain ⟨k, rfl⟩ : ∃ m, k = m + 1 := ⟨k - 1, by omega⟩
    simp only [postchaiseref11_Play.l0]
    rw [if_neg (by omega), List.drop_eq_nil_of_le (by omega)]
    rfl
  | succ d ih =>
    intro i k l hi hl hk
    rw [Nat.add_mul, Nat.one_mul] at hk
    obtain ⟨q, hq⟩ : ∃ q, q = d * C := ⟨_, rfl⟩
    obtain ⟨k, rfl⟩ : ∃ m, k = m + 1 + 1 := ⟨k - 2, by rw [← hq] at hk; omega⟩
    have hkC : 6000000 - 1 ≤ k := by rw [← hq] at hk; omega
    have hlt : i < M.length := by omega
    have hwn := hw _ (List.getElem_mem hlt)
    simp only [postchaiseref11_Play.l0]
    rw [if_pos (by omega), if_pos (by omega), rd42 M i hlt, List.drop_eq_getElem_cons hlt]
    generalize hn : M[i] = n at hwn
    have ei : wrap64 ((i : Int) + 1) = ((i + 1 : Nat) : Int) := by rw [w64 _ (by omega) (by omega)]; omega
    show _ = some (resR ((play1 l n).bind fun l' => plays l' (M.drop (i + 1))))
    have fail : ∀ (h : play1 l n = none), some (([] : List S40), (3 : Int)) = some (resR ((play1 l n).bind fun l' => plays l' (M.drop (i + 1)))) := fun h => by rw [h]; rfl
    have go : ∀ (k' : Nat) (l' : List S40), play1 l n = some l' → d * C + 1 ≤ k' → postchaiseref11_Play.l0 k' M l' ((i + 1 : Nat) : Int) = some (resR ((play1 l n).bind fun l' => plays l' (M.drop (i + 1)))) := fun k' l' h hk' => by
      have := play1_len h
      rw [h, ih (i + 1) k' l' (by omega) (by omega) hk']
      rfl
    by_cases h1 : n.f0 = 1
    · rw [if_pos h1]
      by_cases h2 : n.f1 < l.length
      · rw [if_pos h2]
        simp only [postchaiseref11_Play.j1]
        rw [if_pos trivial]
        exact fail (by unfold play1; rw [if_pos h1, if_neg (by omega)])
      · rw [if_neg h2, w64 (n.f1 - l.length) (by omega) (by omega)]
        simp only [postchaiseref11_Play.j1]
        by_cases h3 : n.f1 - l.length > 65536
        · rw [if_pos (decide_eq_true h3)]
          exact fail (by unfold play1; rw [if_pos h1, if_neg (by omega)])
        · rw [if_neg (by simpa using h3)]
          obtain ⟨d2, hd2⟩ : ∃ d2 : Nat, n.f1 - l.length = d2 := ⟨(n.f1 - l.length).toNat, by omega⟩
          obtain ⟨k2, rfl⟩ : ∃ k2, k = d2 + k2 + 1 := ⟨k - d2 - 1, by omega⟩
          rw [rplay_l1 M i _ _ _ _ (by omega) d2 k2 l (by omega), ei]
          exact go k2 _ (by unfold play1; rw [if_pos h1, if_pos ⟨by omega, by omega⟩, hd2, Int.toNat_natCast]) (fuel_ok hC hk rfl (by omega))
    · rw [if_neg h1]
      by_cases h0 : n.f0 = 0 ∨ n.f0 = 2
      · have hj : (if n.f0 = 0 then (if n.f1 < 1 then postchaiseref11_Play.j3 (k + 1) M l i true n.f0 n.f1 n.f2.f0 n.f2.f1 else postchaiseref11_Play.j3 (k + 1) M l i (decide (n.f1 > (l.length : Int))) n.f0 n.f1 n.f2.f0 n.f2.f1) else if n.f0 = 2 then (if n.f1 < 1 then postchaiseref11_Play.j3 (k + 1) M l i true n.f0 n.f1 n.f2.f0 n.f2.f1 else postchaiseref11_Play.j3 (k + 1) M l i (decide (n.f1 > (l.length : Int))) n.f0 n.f1 n.f2.f0 n.f2.f1) else postchaiseref11_Play.j3 (k + 1) M l i true n.f0 n.f1 n.f2.f0 n.f2.f1)
            = (if n.f1 < 1 then postchaiseref11_Play.j3 (k + 1) M l i true n.f0 n.f1 n.f2.f0 n.f2.f1 else postchaiseref11_Play.j3 (k + 1) M l i (decide (n.f1 > (l.length : Int))) n.f0 n.f1 n.f2.f0 n.f2.f1) := by
          by_cases e : n.f0 = 0
          · rw [if_pos e]
          · rw [if_neg e, if_pos (by omega)]
        rw [hj]
        by_cases h2 : n.f1 < 1
        · rw [if_pos h2]
          simp only [postchaiseref11_Play.j3]
          rw [if_pos trivial]
          exact fail (by unfold play1; rw [if_neg h1, if_neg (by omega)])
        · rw [if_neg h2]
          simp only [postchaiseref11_Play.j3]
          by_cases h3 : n.f1 > (l.length : Int)
          · rw [if_pos (decide_eq_true h3)]
            exact fail (by unfold play1; rw [if_neg h1, if_neg (by omega)])
          · rw [if_neg (by simpa using h3)]
            obtain ⟨p, hp⟩ : ∃ p : Nat, n.f1 = (p : Int) + 1 := ⟨(n.f1 - 1).toNat, by omega⟩
            by_cases h4 : n.f0 = 2
            · rw [if_pos h4, w64 (n.f1 - 1) (by omega) (by omega), if_pos (by omega), if_pos (by omega), ei]
              exact go k _ (by unfold play1; rw [if_neg h1, if_pos ⟨h0, by omega, by omega⟩, if_pos h4]) (fuel_ok (a := 0) hC (Nat.le_succ_of_le hk) (by omega) (by omega))
            · rw [if_neg h4]
              obtain ⟨k2, rfl⟩ : ∃ k2, k = l.length + k2 + 1 := ⟨k - l.length - 1, by omega⟩
              have := rplay_l2 M l i p n.f0 n.f1 n.f2.f0 n.f2.f1 hp (by omega) (by omega) l.length 0 k2 [] (by omega) (by simp)
              refine this.trans ?_
              rw [ei, List.nil_append, remF_eq l p l.length 0 (by omega), if_pos (Nat.zero_le _)]
              exact go k2 _ (by unfold play1; rw [if_neg h1, if_pos ⟨h0, by omega, by omega⟩, if_neg h4, show (n.f1 - 1).toNat = p by omega, show n.f1.toNat = p + 1 by omega]; simp) (fuel_ok hC hk rfl (by omega))
      · rw [if_neg (by omega), if_neg (by omega)]
        simp only [postchaiseref11_Play.j3]
        rw [if_pos trivial]
        exact fail (by unfold play1; rw [if_neg h1, if_neg (by omega)])
theorem rplay_f (L : List S40) (M : List S42) (hw : ∀ n ∈ M, n.f1 ≤ 9223372036854775807) (hM : M.length ≤ 60) (hL : L.length ≤ 80) (k : Nat) (hk : 400000000 ≤ k) : postchaiseref11_Play.f k L M = some (resR (plays L M)) := by
  unfold postchaiseref11_Play.f
  simp only [Option.bind_some, List.length_nil, List.nil_append]
  rw [if_pos (by omega)]
  exact rplay_l0 M hw hM 6000000 rfl M.length 0 k L (by omega) (by omega) (by omega)
end Go.Proofs.Ytlklegdaeffcpaa.PList
