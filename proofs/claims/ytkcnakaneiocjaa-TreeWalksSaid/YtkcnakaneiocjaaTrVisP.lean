/- Trees, in plain terms: which slots a walk comes to in a tree of good messages, and which messages. No program in sight. No condition. -/
import Derived.Test.YtkcnakaneiocjaaTrWalk
import Derived.Test.YtkcnakaneiocjaaTrStd
set_option linter.unusedVariables false
set_option linter.unusedSimpArgs false
namespace Go.Proofs.Ytkcnakaneiocjaa.PTr
theorem vis_none {N : List Nd} {s : Int} (hs : (atN N s).2 = false) : ∀ h, vis N h s = []
  | 0 => by unfold vis; rw [hs]; rfl
  | h + 1 => by unfold vis; rw [hs]; rfl
theorem vis_neg {N : List Nd} {s : Int} (hs : s < 0) (h : Nat) : vis N h s = [] := vis_none (by rw [atN_neg N s hs]) h
theorem dep_neg {N : List Nd} {s : Int} (hs : s < 0) : ∀ h, Dep N h s
  | 0 => fun h => by rw [atN_neg N s hs] at h; cases h
  | h + 1 => fun h => by rw [atN_neg N s hs] at h; cases h
theorem sub_dep (N : List Nd) : ∀ (h : Nat) (s : Int) (l : List Rec), Sub N h s l → Dep N h s
  | 0, s, l, hs => by
    obtain ⟨n, h1, h2, _⟩ := hs
    intro _
    rw [h1, h2]
    decide
  | h + 1, s, l, hs => by
    obtain ⟨n, h1, h2, _, h4⟩ := hs
    intro _ _ d hd
    rw [h1]
    rcases h4 d hd with ⟨_, h5⟩ | ⟨_, h5⟩
    · exact dep_neg h5 h
    · exact sub_dep N h _ _ h5
theorem filt_step (g : Rec → Int) (n : Int) : ∀ (l : List Rec), l.Pairwise (fun x y => g x ≤ g y) → l.filter (fun x => decide (g x < n + 1)) = l.filter (fun x => decide (g x < n)) ++ l.filter (fun x => g x == n)
  | [], _ => rfl
  | x :: l, hp => by
    obtain ⟨h1, h2⟩ := List.pairwise_cons.1 hp
    have ih := filt_step g n l h2
    rw [List.filter_cons, List.filter_cons, List.filter_cons, ih]
    by_cases c1 : g x < n
    · rw [decide_eq_true (by omega : g x < n + 1), decide_eq_true c1, beq_eq_false_iff_ne.2 (by omega : g x ≠ n)]
      simp
    · have hz : l.filter (fun x => decide (g x < n)) = [] := List.filter_eq_nil_iff.2 fun y hy => by
        have := h1 y hy
        simp
        omega
      rw [hz, decide_eq_false c1]
      by_cases c2 : g x = n
      · rw [decide_eq_true (by omega : g x < n + 1), c2, beq_self_eq_true]
        simp
      · rw [decide_eq_false (by omega : ¬ g x < n + 1), beq_eq_false_iff_ne.2 c2]
        simp
theorem parts_lt {l : List Rec} {h : Nat} (hp : l.Pairwise (fun x y => dig x.f0 h ≤ dig y.f0 h)) : ∀ n, (List.range n).flatMap (part l h) = l.filter (ltD h n)
  | 0 => by
    symm
    refine List.filter_eq_nil_iff.2 fun x _ => ?_
    have := dig_range x.f0 h
    unfold ltD
    simp
    omega
  | n + 1 => by
    rw [List.range_succ, List.flatMap_append, parts_lt hp n]
    have := filt_step (fun x => dig x.f0 h) (n : Int) l hp
    have e : l.filter (ltD h (n + 1)) = l.filter (fun x => decide (dig x.f0 h < (n : Int) + 1)) := by
      unfold ltD; rfl
    rw [e, this]
    show l.filter (ltD h n) ++ (part l h n ++ []) = _
    rw [List.append_nil]
    rfl
theorem parts_all {l : List Rec} {h : Nat} (hp : l.Pairwise (fun x y => dig x.f0 h ≤ dig y.f0 h)) : (List.range 16).flatMap (part l h) = l := by
  rw [parts_lt hp, List.filter_eq_self.2 fun x _ => ?_]
  have := dig_range x.f0 h
  unfold ltD
  exact decide_eq_true (by omega)
theorem recsOf_flat (f : Nat → List Vis) (L : List Nat) : recsOf (L.flatMap f) = L.flatMap fun d => recsOf (f d) := by
  induction L with
  | nil => rfl
  | cons a L ih => rw [List.flatMap_cons, List.flatMap_cons, recsOf_app, ih]
theorem flat_congr (f g : Nat → List Rec) (L : List Nat) (h : ∀ d ∈ L, f d = g d) : L.flatMap f = L.flatMap g := by
  induction L with
  | nil => rfl
  | cons a L ih => rw [List.flatMap_cons, List.flatMap_cons, h a List.mem_cons_self, ih fun d hd => h d (List.mem_cons_of_mem _ hd)]
theorem recs_sub (N : List Nd) : ∀ (h : Nat) (s : Int) (l : List Rec), Sub N h s l → Same l h → Srt l → recsOf (vis N h s) = l
  | 0, s, l, hs, _, _ => by
    obtain ⟨n, h1, h2, rfl⟩ := hs
    unfold vis
    rw [h1, if_pos rfl, recsOf_yes h2]
  | h + 1, s, l, hs, hm, hr => by
    obtain ⟨n, h1, h2, _, h4⟩ := hs
    have e : vis N (h + 1) s = [(s, n)] ++ (List.range 16).flatMap fun d => vis N h (n.kid d) := by
      unfold vis
      rw [h1, if_pos rfl, if_pos h2]
      cases h <;> rfl
    rw [e, recsOf_app, recsOf_no (by show n.kind ≠ 2; rw [h2]; decide), List.nil_append, recsOf_flat]
    have e2 := flat_congr (fun d => recsOf (vis N h (n.kid d))) (part l h) (List.range 16) (fun d hd => by
      rcases h4 d (List.mem_range.1 hd) with ⟨h5, h6⟩ | ⟨_, h6⟩
      · show recsOf _ = _
        rw [vis_neg h6, h5]; rfl
      · exact recs_sub N h _ _ h6 (same_part hm) (srt_part hr))
    rw [e2, parts_all (dig_mono hm hr)]
/-- Slots, one behind the other. -/
def seg (N : List Nd) (s k : Nat) : List Vis := (List.range k).map fun i => (((s + i : Nat) : Int), (atN N ((s + i : Nat) : Int)).1)
theorem seg_add (N : List Nd) (s a : Nat) : ∀ b, seg N s (a + b) = seg N s a ++ seg N (s + a) b
  | 0 => by simp [seg]
  | b + 1 => by
    have ih := seg_add N s a b
    have e : ∀ (s k : Nat), seg N s (k + 1) = seg N s k ++ [(((s + k : Nat) : Int), (atN N ((s + k : Nat) : Int)).1)] := fun s k => by
      unfold seg; rw [List.range_succ, List.map_append]; rfl
    rw [← Nat.add_assoc, e, ih, e, List.append_assoc, Nat.add_assoc]
theorem vis_build (gap : Nat) : ∀ (h b : Nat) (l : List Rec), l ≠ [] → Same l h → Srt l → ∀ (pre post : List Rn), pre.length = b →
    vis (shelf gap (pre ++ (build h b l ++ post))) h ((gap + b : Nat) : Int) = seg (shelf gap (pre ++ (build h b l ++ post))) (gap + b) (build h b l).length
  | 0, b, l, h0, h1, h2, pre, post, hb => by
    obtain ⟨r, rfl⟩ := single h0 h1 h2
    have e := shelf_at gap (pre ++ (build 0 b [r] ++ post)) b ⟨true, 0, fun _ => 0, r⟩ (by
      rw [List.getElem?_append_right (by omega), hb, Nat.sub_self]
      rfl)
    unfold vis
    rw [e, if_pos rfl]
    show _ = seg _ _ 1
    unfold seg
    simp [List.range_succ]
    rw [show ((gap : Int) + (b : Int)) = ((gap + b : Nat) : Int) by omega, e]
  | h + 1, b, l, h0, h1, h2, pre, post, hb => by
    obtain ⟨N, hN⟩ : ∃ N, shelf gap (pre ++ (build (h + 1) b l ++ post)) = N := ⟨_, rfl⟩
    have ea := shelf_at gap (pre ++ (build (h + 1) b l ++ post)) b ⟨false, (l.length : Int), (stB (build h) l h (b + 1) 16).1, rc0⟩ (by
      rw [List.getElem?_append_right (by omega), hb, Nat.sub_self]
      rfl)
    rw [hN] at ea ⊢
    have hkid : ∀ d, d < 16 → (part l h d = [] ∧ (stB (build h) l h (b + 1) (d + 1)).2 = (stB (build h) l h (b + 1) d).2 ∧ vis N h ((conv gap ⟨false, (l.length : Int), (stB (build h) l h (b + 1) 16).1, rc0⟩).kid d) = []) ∨
        (∃ m, (stB (build h) l h (b + 1) (d + 1)).2.length = (stB (build h) l h (b + 1) d).2.length + m ∧ vis N h ((conv gap ⟨false, (l.length : Int), (stB (build h) l h (b + 1) 16).1, rc0⟩).kid d) = seg N (gap + (b + 1 + (stB (build h) l h (b + 1) d).2.length)) m) := fun d hd => by
      obtain ⟨k, hk⟩ : ∃ k, 16 = (d + 1) + k := ⟨15 - d, by omega⟩
      obtain ⟨⟨rest, hr⟩, hj⟩ := stB_pre (build h) l h (b + 1) (d + 1) k
      rw [← hk] at hr hj
      have e : stB (build h) l h (b + 1) (d + 1) = if part l h d = [] then (upd (stB (build h) l h (b + 1) d).1 d (-1), (stB (build h) l h (b + 1) d).2) else
        (upd (stB (build h) l h (b + 1) d).1 d ((b + 1 + (stB (build h) l h (b + 1) d).2.length : Nat) : Int), (stB (build h) l h (b + 1) d).2 ++ build h (b + 1 + (stB (build h) l h (b + 1) d).2.length) (part l h d)) := rfl
      have hkd := hj d (by omega)
      by_cases hp : part l h d = []
      · rw [e, if_pos hp] at hkd
        have e2 : (stB (build h) l h (b + 1) 16).1 d = -1 := by rw [hkd]; show upd _ _ _ d = _; unfold upd; rw [if_pos rfl]
        refine .inl ⟨hp, by rw [e, if_pos hp], vis_neg ?_ h⟩
        show (if 0 ≤ (stB (build h) l h (b + 1) 16).1 d then (stB (build h) l h (b + 1) 16).1 d + (gap : Int) else (stB (build h) l h (b + 1) 16).1 d) < 0
        rw [e2, if_neg (by decide)]
        decide
      · rw [e, if_neg hp] at hkd hr
        have e2 : (stB (build h) l h (b + 1) 16).1 d = ((b + 1 + (stB (build h) l h (b + 1) d).2.length : Nat) : Int) := by rw [hkd]; show upd _ _ _ d = _; unfold upd; rw [if_pos rfl]
        have e3 : (conv gap ⟨false, (l.length : Int), (stB (build h) l h (b + 1) 16).1, rc0⟩).kid d = ((gap + (b + 1 + (stB (build h) l h (b + 1) d).2.length) : Nat) : Int) := by
          show (if 0 ≤ (stB (build h) l h (b + 1) 16).1 d then (stB (build h) l h (b + 1) 16).1 d + (gap : Int) else (stB (build h) l h (b + 1) 16).1 d) = _
          rw [e2, if_pos (by omega)]
          omega
        refine .inr ⟨(build h (b + 1 + (stB (build h) l h (b + 1) d).2.length) (part l h d)).length, by rw [e, if_neg hp, List.length_append], ?_⟩
        rw [e3]
        have ih := vis_build gap h (b + 1 + (stB (build h) l h (b + 1) d).2.length) (part l h d) hp (same_part h1) (srt_part h2)
          (pre ++ (⟨false, (l.length : Int), (stB (build h) l h (b + 1) 16).1, rc0⟩ :: (stB (build h) l h (b + 1) d).2)) (rest ++ post) (by rw [List.length_append, List.length_cons, hb]; omega)
        have e4 : pre ++ (build (h + 1) b l ++ post) = pre ++ (⟨false, (l.length : Int), (stB (build h) l h (b + 1) 16).1, rc0⟩ :: (stB (build h) l h (b + 1) d).2) ++ (build h (b + 1 + (stB (build h) l h (b + 1) d).2.length) (part l h d) ++ (rest ++ post)) := by
          show pre ++ ((⟨false, (l.length : Int), (stB (build h) l h (b + 1) 16).1, rc0⟩ :: (stB (build h) l h (b + 1) 16).2) ++ post) = _
          rw [hr]
          simp [List.append_assoc]
        rw [← e4, hN] at ih
        exact ih
    have hall : ∀ d, d ≤ 16 → ((List.range d).flatMap fun d => vis N h ((conv gap ⟨false, (l.length : Int), (stB (build h) l h (b + 1) 16).1, rc0⟩).kid d)) = seg N (gap + b + 1) (stB (build h) l h (b + 1) d).2.length := by
      intro d
      induction d with
      | zero => intro _; rfl
      | succ d ih =>
        intro hd
        rw [flat_step, ih (by omega)]
        rcases hkid d (by omega) with ⟨_, h6, h7⟩ | ⟨m, h6, h7⟩
        · rw [h7, h6, List.append_nil]
        · rw [h7, h6, seg_add]
          congr 2
          omega
    have e : vis N (h + 1) ((gap + b : Nat) : Int) = (((gap + b : Nat) : Int), conv gap ⟨false, (l.length : Int), (stB (build h) l h (b + 1) 16).1, rc0⟩) :: ((List.range 16).flatMap fun d => vis N h ((conv gap ⟨false, (l.length : Int), (stB (build h) l h (b + 1) 16).1, rc0⟩).kid d)) := by
      unfold vis
      rw [ea, if_pos rfl, if_pos (by rfl)]
      cases h <;> rfl
    rw [e, hall 16 (Nat.le_refl _)]
    have e5 : (build (h + 1) b l).length = 1 + (stB (build h) l h (b + 1) 16).2.length := by
      show ((⟨false, (l.length : Int), (stB (build h) l h (b + 1) 16).1, rc0⟩ : Rn) :: (stB (build h) l h (b + 1) 16).2).length = _
      rw [List.length_cons, Nat.add_comm]
    rw [e5, seg_add]
    have e6 : seg N (gap + b) 1 = [(((gap + b : Nat) : Int), conv gap ⟨false, (l.length : Int), (stB (build h) l h (b + 1) 16).1, rc0⟩)] := by
      unfold seg
      rw [List.range_succ, List.range_zero, List.nil_append, List.map_cons, List.map_nil, Nat.add_zero, ea]
    rw [e6]
    rfl
/-- What a walk tells of the law's tree. -/
structure IsWalk (l : List Rec) (N : List Nd) (root : Int) (hgt : Nat) : Prop where
  dep : Dep N hgt root
  recs : recsOf (vis N hgt root) = l
  seg : (l = [] ∧ N = [] ∧ root = -1 ∧ vis N hgt root = []) ∨ (l ≠ [] ∧ ∃ gap : Nat, root = (gap : Int) ∧ gap ≤ N.length ∧ vis N hgt root = seg N gap (N.length - gap) ∧ ∀ i (h : i < N.length), gap ≤ i → atN N ((i : Nat) : Int) = (N[i], true))
theorem isWalk_good (l : List Rec) (hu : ∀ x ∈ l, 0 ≤ x.f0 ∧ x.f0 < 4294967296) (hinc : Inc l 0) (gap more : Nat) : IsWalk l (treeN l gap more) (rootOf l gap) (hgtOf l more) := by
  by_cases h0 : 0 < l.length
  · have h1 : hgtN l ≤ 8 ∧ 1 ≤ hgtN l := by unfold hgtN; rw [dif_pos h0]; have := need_range (l[l.length - 1]).f0; omega
    have hs := inc_srt hinc
    obtain ⟨hgt, hhg⟩ : ∃ hgt, hgt = min 8 (hgtN l + more) := ⟨_, rfl⟩
    have hg1 : 1 ≤ hgt := by omega
    have hgn : hgtN l ≤ hgt := by omega
    have hne : l ≠ [] := List.length_pos_iff.1 h0
    have e1 : hgtOf l more = hgt := by unfold hgtOf; rw [if_neg (by omega), hhg]
    have e2 : treeN l gap more = shelf gap (build hgt 0 l) := by unfold treeN; rw [if_neg (by omega), e1]
    have e3 : rootOf l gap = (gap : Int) := by unfold rootOf; rw [if_neg (by omega)]
    rw [e1, e2, e3]
    have hsame := all_same hu hgt (all_lt hs hu hgt hg1 hgn)
    have hsub := build_sub gap hgt 0 l hne hsame hs [] [] rfl
    have hvis := vis_build gap hgt 0 l hne hsame hs [] [] rfl
    simp only [List.nil_append, List.append_nil, Nat.add_zero] at hsub hvis
    have hlen : (shelf gap (build hgt 0 l)).length = gap + (build hgt 0 l).length := by unfold shelf; rw [List.length_append, List.length_replicate, List.length_map]
    refine ⟨sub_dep _ _ _ _ hsub, recs_sub _ _ _ _ hsub hsame hs, .inr ⟨hne, gap, rfl, by omega, by rw [hvis, hlen, Nat.add_sub_cancel_left], fun i hi hgi => ?_⟩⟩
    obtain ⟨j, rfl⟩ : ∃ j, i = gap + j := ⟨i - gap, by omega⟩
    have hj : j < (build hgt 0 l).length := by omega
    have ha := shelf_at gap (build hgt 0 l) j _ (List.getElem?_eq_getElem hj)
    have e : (shelf gap (build hgt 0 l))[gap + j]? = some (conv gap (build hgt 0 l)[j]) := by
      unfold shelf
      rw [List.getElem?_append_right (by simp), List.length_replicate, show gap + j - gap = j by omega, List.getElem?_map, List.getElem?_eq_getElem hj]
      rfl
    rw [ha]
    exact congrArg (·, true) (List.getElem?_eq_some_iff.1 e).2.symm
  · have hz : l = [] := List.eq_nil_of_length_eq_zero (by omega)
    subst hz
    have e : vis [] 0 (-1) = [] := vis_neg (by decide) 0
    exact ⟨dep_neg (show (-1 : Int) < 0 by decide) 0, by show recsOf (vis [] 0 (-1)) = []; rw [e]; rfl, .inl ⟨rfl, rfl, rfl, e⟩⟩
end Go.Proofs.Ytkcnakaneiocjaa.PTr
