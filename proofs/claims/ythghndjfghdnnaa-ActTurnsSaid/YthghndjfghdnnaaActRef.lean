/- The reference of chapter 4 against Turn and Rest at a fleet: plain lists, no program in sight; then the reference's contracts in that spelling. No condition but those that each bears. -/
import Derived.Test.YthghndjfghdnnaaActRest
import Derived.Test.YthghndjfghdnnaaQActTurns1
namespace Go.Proofs.Ythghndjfghdnnaa
open Go.RowKit Go.Proofs.YthghndjfghdnnaaW.PrintWords Go.Proofs.Ythghndjfghdnnaa.PActTurns
def toL (n : Nat) (f : Nat → Nat) : List Int := (List.range n).map (fun i => (f i : Int))
theorem toL_length (n : Nat) (f : Nat → Nat) : (toL n f).length = n := by simp [toL]
theorem toL_rd (n : Nat) (f : Nat → Nat) (i : Nat) (h : i < n) : rd (toL n f) i = f i := by
  unfold rd toL; simp [h]
theorem toL_set (n : Nat) (f g : Nat → Nat) (i : Nat) (x : Int) (h : i < n) (hx : x = g i) (hg : ∀ j, j ≠ i → g j = f j) : (toL n f).set i x = toL n g := by
  apply List.ext_getElem?
  intro j
  unfold toL
  rw [List.getElem?_set]
  by_cases e : i = j
  · subst e; simp [h, hx]
  · rw [if_neg e]
    by_cases hj : j < n
    · simp [hj, hg j (Ne.symm e)]
    · simp [hj]
theorem toL_congr (n : Nat) (f g : Nat → Nat) (h : ∀ i, i < n → f i = g i) : toL n f = toL n g := by
  unfold toL
  apply List.map_congr_left
  intro i hi
  rw [h i (List.mem_range.1 hi)]
theorem wrap_small (x : Nat) (h : x < 1000000) : wrap64 ((x : Int) + 1) = ((x + 1 : Nat) : Int) := by unfold wrap64; omega
theorem turn_l0 (ns did : Nat → Nat) (n : Nat) (ps : List Int) (hn : 0 < n) (hn10 : n ≤ 10) (hs : ∀ i, i < n → ns i ≤ 19) (hl : ps.length ≤ 200) :
    ∀ m k, k + m = ps.length → (turned ns n ps did k).2 ≤ k → ∃ F, postchaiseref04_Turn.l0 F (toL n ns) ps (toL n (turned ns n ps did k).1) ((turned ns n ps did k).2 : Nat) (k : Nat) = some (toL n (turned ns n ps did ps.length).1, (((turned ns n ps did ps.length).2 : Nat) : Int)) := by
  intro m
  induction m with
  | zero =>
    intro k hk _
    obtain rfl : k = ps.length := by omega
    refine ⟨2, ?_⟩
    simp [postchaiseref04_Turn.l0, postchaiseref04_Turn.j1]
  | succ m ih =>
    intro k hk hle
    obtain ⟨hpl, hpe⟩ := pick_lt (nth ps k) n hn
    have hnl : ((toL n ns).length : Int) = n := by rw [toL_length]
    have hrd : rd ps (k : Int) = nth ps k := by unfold rd nth; simp
    have h3 : (nth ps k).tmod n < n := Int.tmod_lt_of_pos _ (by omega)
    have h1 : -(n : Int) < (nth ps k).tmod n := by have := Int.lt_tmod_of_pos (nth ps k) (show (0 : Int) < n by omega); omega
    have hem : ((nth ps k).tmod n) % n = nth ps k % n := by rw [Int.tmod_def]; exact Int.sub_mul_emod_self_left _ _ _
    have key : ∀ q : Int, q = (pick (nth ps k) n : Nat) → ∃ F, (if q < ((toL n (turned ns n ps did k).1).length : Int) then (if q < (n : Int) then (if rd (toL n (turned ns n ps did k).1) q < rd (toL n ns) q then
        postchaiseref04_Turn.l0 F (toL n ns) ps ((toL n (turned ns n ps did k).1).set q.toNat (wrap64 (rd (toL n (turned ns n ps did k).1) q + 1))) (wrap64 (((turned ns n ps did k).2 : Nat) + 1)) (wrap64 ((k : Int) + 1))
        else postchaiseref04_Turn.l0 F (toL n ns) ps (toL n (turned ns n ps did k).1) ((turned ns n ps did k).2 : Nat) (wrap64 ((k : Int) + 1))) else none) else none) = some (toL n (turned ns n ps did ps.length).1, (((turned ns n ps did ps.length).2 : Nat) : Int)) := by
      rintro q rfl
      have hps := hs _ hpl
      rw [wrap_small k (by omega), toL_rd _ _ _ hpl, toL_rd _ _ _ hpl, toL_length, Int.toNat_natCast]
      by_cases hd : (turned ns n ps did k).1 (pick (nth ps k) n) < ns (pick (nth ps k) n)
      · have hst := turned_yes hd
        obtain ⟨F, hF⟩ := ih (k + 1) (by omega) (by rw [hst]; exact Nat.succ_le_succ hle)
        refine ⟨F, ?_⟩
        rw [if_pos (by omega), if_pos (by omega), if_pos (by omega), wrap_small _ (by omega), wrap_small _ (by omega), ← hF, hst]
        congr 1
        exact toL_set _ _ _ _ _ hpl (by simp [bump]) (fun j hj => by simp [bump, hj])
      · have hst := turned_no hd
        obtain ⟨F, hF⟩ := ih (k + 1) (by omega) (by rw [hst]; omega)
        refine ⟨F, ?_⟩
        rw [if_pos (by omega), if_pos (by omega), if_neg (by omega), ← hF, hst]
    rcases Int.lt_or_le ((nth ps k).tmod n) 0 with hneg | hpos
    · have hq : wrap64 ((nth ps k).tmod n + n) = (pick (nth ps k) n : Nat) := by
        rw [hpe, ← hem]
        unfold wrap64
        have : ((nth ps k).tmod n) % n = (nth ps k).tmod n + n := by rw [← Int.add_emod_right]; exact Int.emod_eq_of_lt (by omega) (by omega)
        omega
      obtain ⟨F, hF⟩ := key _ hq
      refine ⟨F + 2, ?_⟩
      simp only [postchaiseref04_Turn.l0, postchaiseref04_Turn.j1, hnl, hrd]
      rw [if_pos (by omega), if_pos (by simp; omega), if_pos (by omega), if_pos (by omega), if_neg (by omega), if_pos hneg, if_pos (by rw [hq]; omega)]
      exact hF
    · have hq : (nth ps k).tmod n = (pick (nth ps k) n : Nat) := by
        rw [hpe, ← hem]
        exact (Int.emod_eq_of_lt hpos h3).symm
      obtain ⟨F, hF⟩ := key _ hq
      refine ⟨F + 2, ?_⟩
      simp only [postchaiseref04_Turn.l0, postchaiseref04_Turn.j1, hnl, hrd]
      rw [if_pos (by omega), if_pos (by simp; omega), if_pos (by omega), if_pos (by omega), if_neg (by omega), if_neg (by omega), if_pos (by omega)]
      exact hF
theorem turn_f (ns did : Nat → Nat) (n : Nat) (ps : List Int) (hn : 0 < n) (hn10 : n ≤ 10) (hs : ∀ i, i < n → ns i ≤ 19) (hl : ps.length ≤ 200) :
    ∃ F, postchaiseref04_Turn.f F (toL n ns) (toL n did) ps = some (toL n (turned ns n ps did ps.length).1, (((turned ns n ps did ps.length).2 : Nat) : Int)) := by
  obtain ⟨F, hF⟩ := turn_l0 ns did n ps hn hn10 hs hl ps.length 0 (by omega) (Nat.le_refl _)
  refine ⟨F, ?_⟩
  unfold postchaiseref04_Turn.f
  simp only [Option.bind_some, List.length_nil, Nat.zero_add, List.nil_append, toL_length]
  rw [if_pos (by omega)]
  exact hF
theorem turn_f0 (ps : List Int) : postchaiseref04_Turn.f 2 [] [] ps = some ([], 0) := by
  simp [postchaiseref04_Turn.f, postchaiseref04_Turn.l0, postchaiseref04_Turn.j1]
theorem rest_l1 (ns did : Nat → Nat) (n : Nat) (limit : Int) (r : Nat) (hn10 : n ≤ 10) (hs : ∀ i, i < n → ns i ≤ 19) (X : Option (List Int × Int))
    (hX : (going ns did n = [] ∧ some (toL n did, (r : Int)) = X) ∨ (going ns did n ≠ [] ∧ ∃ F, postchaiseref04_Rest.l0 F (toL n ns) limit (toL n (round ns n did)) (wrap64 ((r : Int) + 1)) = X)) :
    ∀ m i, i + m = n → ∃ F, postchaiseref04_Rest.l1 F (toL n ns) limit (toL n (bumps did (going ns did i))) r (decide (going ns did i ≠ [])) (i : Nat) = X := by
  intro m
  induction m with
  | zero =>
    intro i hi
    obtain rfl : i = n := by omega
    rcases hX with ⟨hg, rfl⟩ | ⟨hg, F, hF⟩
    · refine ⟨1, ?_⟩
      simp [postchaiseref04_Rest.l1, toL_length, hg, bumps_nil]
    · refine ⟨F + 1, ?_⟩
      simp only [postchaiseref04_Rest.l1, toL_length]
      rw [if_neg (by omega), if_pos (by simp [hg]), ← hF]
      rfl
  | succ m ih =>
    intro i hi
    obtain ⟨F, hF⟩ := ih (i + 1) (by omega)
    have hin : i < n := by omega
    have hps := hs i hin
    have hni : i ∉ going ns did i := fun h => by have := (going_lt h).1; omega
    have hb : bumps did (going ns did i) i = did i := by unfold bumps; rw [if_neg hni]
    refine ⟨F + 1, ?_⟩
    simp only [postchaiseref04_Rest.l1, toL_length]
    rw [if_pos (by omega), if_pos (by omega), if_pos (by omega), toL_rd _ _ _ hin, toL_rd _ _ _ hin, hb, Int.toNat_natCast, wrap_small i (by omega)]
    by_cases hd : did i < ns i
    · rw [if_pos (by omega), wrap_small _ (by omega), ← hF]
      have hg : going ns did (i + 1) = going ns did i ++ [i] := if_pos hd
      rw [hg]
      congr 1
      · exact toL_set _ _ _ _ _ hin (by rw [bumps_snoc _ _ _ hni]; simp [bump, hb]) (fun j hj => by rw [bumps_snoc _ _ _ hni]; simp [bump, hj])
      · simp
    · rw [if_neg (by omega), ← hF]
      have hg : going ns did (i + 1) = going ns did i := if_neg hd
      rw [hg]
theorem round_le {ns did : Nat → Nat} {n : Nat} (h : ∀ i, i < n → did i ≤ ns i) : ∀ i, i < n → round ns n did i ≤ ns i := by
  intro i hi
  unfold round bumps
  have := h i hi
  split
  · rename_i hm; have := (going_lt hm).2; omega
  · exact this
theorem rest_l0 (ns : Nat → Nat) (n : Nat) (limit : Int) (hn10 : n ≤ 10) (hs : ∀ i, i < n → ns i ≤ 19) (hl : limit ≤ 60) :
    ∀ m did r, r + m = limit.toNat → ∃ F, postchaiseref04_Rest.l0 F (toL n ns) limit (toL n did) (r : Nat) = some (toL n (rested ns n m did).1, (((rested ns n m did).2 + r : Nat) : Int)) := by
  intro m
  induction m with
  | zero =>
    intro did r hr
    refine ⟨1, ?_⟩
    simp only [postchaiseref04_Rest.l0]
    rw [if_neg (by omega)]
    simp [rested]
  | succ m ih =>
    intro did r hr
    have e0 : toL n (bumps did (going ns did 0)) = toL n did := by rw [show going ns did 0 = [] from rfl, bumps_nil]
    by_cases hg : going ns did n = []
    · obtain ⟨F, hF⟩ := rest_l1 ns did n limit r hn10 hs _ (.inl ⟨hg, rfl⟩) n 0 (by omega)
      refine ⟨F + 1, ?_⟩
      simp only [postchaiseref04_Rest.l0]
      rw [if_pos (by omega), rested_stop hg]
      rw [e0] at hF
      simpa [show going ns did 0 = [] from rfl] using hF
    · obtain ⟨F', hF'⟩ := ih (round ns n did) (r + 1) (by omega)
      obtain ⟨F, hF⟩ := rest_l1 ns did n limit r hn10 hs _ (.inr ⟨hg, F', rfl⟩) n 0 (by omega)
      refine ⟨F + 1, ?_⟩
      simp only [postchaiseref04_Rest.l0]
      rw [if_pos (by omega), rested_go hg]
      rw [e0, wrap_small r (by omega), hF'] at hF
      refine Eq.trans ?_ (hF.trans ?_)
      · rfl
      · congr 2; simp only []; omega
theorem rest_f (ns did : Nat → Nat) (n : Nat) (limit : Int) (hn10 : n ≤ 10) (hs : ∀ i, i < n → ns i ≤ 19) (hl : limit ≤ 60) :
    ∃ F, postchaiseref04_Rest.f F (toL n ns) (toL n did) limit = some (toL n (rested ns n limit.toNat did).1, (((rested ns n limit.toNat did).2 : Nat) : Int)) := by
  obtain ⟨F, hF⟩ := rest_l0 ns n limit hn10 hs hl limit.toNat did 0 (by omega)
  refine ⟨F, ?_⟩
  unfold postchaiseref04_Rest.f
  simp only [Option.bind_some, List.length_nil, Nat.zero_add, List.nil_append, toL_length]
  rw [if_pos (by omega)]
  exact hF
/-! ### The contracts -/
def RefPost4 (n : Nat) (f : Nat → Nat) (v : Value) (w w' : World) : Prop := Kd.R (Kd.int .i64) 3 w' w.heap.size (fun _ => True) v (toL n f) ∧ Below w.heap.size w w'
theorem refTurn (ns did : Nat → Nat) (n : Nat) (ps : List Int) (hn : 0 < n) (hn10 : n ≤ 10) (hs : ∀ i, i < n → ns i ≤ 19) (hl : ps.length ≤ 200) (A0 A1 A2 : Option Addr) (c0 c1 c2 : Nat) (w : World)
    (h0 : Kd.C (Kd.int .i64) w A0 n (toL n ns)) (h1 : Kd.C (Kd.int .i64) w A1 n (toL n did)) (h2 : Kd.C (Kd.int .i64) w A2 ps.length ps) (k0 : n ≤ c0) (k1 : n ≤ c1) (k2 : ps.length ≤ c2) :
    Calls Try.prog 36 #[.slice A0 n c0, .slice A1 n c1, .slice A2 ps.length c2] w fun e w' => ∃ v, e = .returned (.tuple #[v, .int .i64 ((turned ns n ps did ps.length).2 : Nat)]) ∧ Hd (RefPost4 n (turned ns n ps did ps.length).1 v w w') := by
  obtain ⟨F, hF⟩ := turn_f ns did n ps hn hn10 hs hl
  have e0 := toL_length n ns
  have e1 := toL_length n did
  have h := postchaiseref04_Turn.calls F A0 c0 (toL n ns) A1 c1 (toL n did) A2 c2 ps _ _ w (by rw [e0]; exact h0) (by rw [e0]; exact k0) (by rw [e1]; exact h1) (by rw [e1]; exact k1) h2 k2 hF
  rw [e0, e1] at h
  exact h.mono fun _ _ ⟨v, a, b, c⟩ => ⟨v, a, ⟨b, c⟩⟩
theorem refTurn0 (ps : List Int) (A0 A1 A2 : Option Addr) (c0 c1 c2 : Nat) (w : World) (h2 : Kd.C (Kd.int .i64) w A2 ps.length ps) (k2 : ps.length ≤ c2) :
    Calls Try.prog 36 #[.slice A0 0 c0, .slice A1 0 c1, .slice A2 ps.length c2] w fun e w' => ∃ v, e = .returned (.tuple #[v, .int .i64 0]) ∧ Hd (Kd.R (Kd.int .i64) 3 w' w.heap.size (fun _ => True) v [] ∧ Below w.heap.size w w') :=
  (postchaiseref04_Turn.calls 2 A0 c0 [] A1 c1 [] A2 c2 ps [] 0 w ⟨rfl, by simp, fun h => absurd h (Nat.lt_irrefl _)⟩ (Nat.zero_le _) ⟨rfl, by simp, fun h => absurd h (Nat.lt_irrefl _)⟩ (Nat.zero_le _) h2 k2 (turn_f0 ps)).mono fun _ _ ⟨v, a, b, c⟩ => ⟨v, a, ⟨b, c⟩⟩
theorem refRest (ns did : Nat → Nat) (n : Nat) (limit : Int) (hn10 : n ≤ 10) (hs : ∀ i, i < n → ns i ≤ 19) (hl : limit ≤ 60) (A0 A1 : Option Addr) (c0 c1 : Nat) (w : World)
    (h0 : Kd.C (Kd.int .i64) w A0 n (toL n ns)) (h1 : Kd.C (Kd.int .i64) w A1 n (toL n did)) (k0 : n ≤ c0) (k1 : n ≤ c1) :
    Calls Try.prog 39 #[.slice A0 n c0, .slice A1 n c1, .int .i64 limit] w fun e w' => ∃ v, e = .returned (.tuple #[v, .int .i64 ((rested ns n limit.toNat did).2 : Nat)]) ∧ Hd (RefPost4 n (rested ns n limit.toNat did).1 v w w') := by
  obtain ⟨F, hF⟩ := rest_f ns did n limit hn10 hs hl
  have e0 := toL_length n ns
  have e1 := toL_length n did
  have h := postchaiseref04_Rest.calls F A0 c0 (toL n ns) A1 c1 (toL n did) limit _ _ w (by rw [e0]; exact h0) (by rw [e0]; exact k0) (by rw [e1]; exact h1) (by rw [e1]; exact k1) hF
  rw [e0, e1] at h
  exact h.mono fun _ _ ⟨v, a, b, c⟩ => ⟨v, a, ⟨b, c⟩⟩
end Go.Proofs.Ythghndjfghdnnaa
