/- Going and Rest over acts of any kind. No condition but those that each bears. -/
import Derived.Test.YtkjppffkjofamaaDrive
set_option linter.unusedVariables false
set_option linter.unusedSimpArgs false
namespace Go.Proofs.Ytkjppffkjofamaa
open Go.RowKit Go.Shelf
attribute [local go_sem] Oper.semAt_some
variable {Q : (Nat → Nat) → (Nat → Prop) → World → Prop} {n : Nat} {bs ns : Nat → Nat}
/-- The acts below k that go on. -/
def going (ns did : Nat → Nat) : Nat → List Nat
  | 0 => []
  | k + 1 => if did k < ns k then going ns did k ++ [k] else going ns did k
theorem going_lt {ns did : Nat → Nat} {k i : Nat} (h : i ∈ going ns did k) : i < k ∧ did i < ns i := by
  induction k with
  | zero => exact absurd h (List.not_mem_nil)
  | succ k ih =>
    unfold going at h
    split at h
    · rcases List.mem_append.1 h with h | h
      · exact ⟨by have := ih h; omega, (ih h).2⟩
      · rw [List.mem_singleton.1 h]; exact ⟨by omega, by assumption⟩
    · exact ⟨by have := ih h; omega, (ih h).2⟩
theorem going_mem {ns did : Nat → Nat} {k i : Nat} (h : i < k) (hd : did i < ns i) : i ∈ going ns did k := by
  induction k with
  | zero => omega
  | succ k ih =>
    unfold going
    by_cases e : i = k
    · subst e; rw [if_pos hd]; simp
    · split
      · exact List.mem_append_left _ (ih (by omega))
      · exact ih (by omega)
theorem going_any (A : Option Addr) (n c : Nat) (w : World) : Calls Try.prog 44 #[.slice A n c] w fun e w' => e = .returned (.func (.func 50) #[] #[.pointer (some ⟨w.heap.size, 0, none⟩)]) ∧ w' = w.alloc (.cells #[.slice A n c] 70) := by
  go_enter Try.func44, Try.ntmps44
  go_wp2
  go_ret
  exact ⟨rfl, rfl⟩
def encAct (bs : Nat → Nat) (i : Nat) : Array Value := #[.int .i64 i, .pointer (some ⟨bs i, 0, none⟩)]
/-- What the walk through the acts hears of its caller. -/
def ActsAt (A : Option Addr) (n : Nat) (bs : Nat → Nat) (W : World) : Prop := ∀ j, j < n → ∃ ba oa, A = some ⟨ba, oa, none⟩ ∧ W.cell? ⟨ba, oa + j, none⟩ = some (.pointer (some ⟨bs j, 0, none⟩))
theorem ActsAt.touch {S : Nat → Prop} {A : Option Addr} {n : Nat} {bs : Nat → Nat} {w W : World} (h : ActsAt A n bs w) (ht : Touch S w W) (hf : ∀ ba oa, A = some ⟨ba, oa, none⟩ → ba < w.heap.size ∧ ¬ S ba) : ActsAt A n bs W := fun j hj => by
  obtain ⟨ba, oa, e, hc⟩ := h j hj
  exact ⟨ba, oa, e, (ht.cell (p := ⟨ba, oa + j, none⟩) (hf ba oa e).1 (hf ba oa e).2).trans hc⟩
def GoNeed (Q : (Nat → Nat) → (Nat → Prop) → World → Prop) (n : Nat) (bs ns did0 : Nat → Nat) (gb : Nat) (A : Option Addr) (capa : Nat) (pre : List Nat) (W : World) : Prop :=
  W.cell? ⟨gb, 0, none⟩ = some (.slice A n capa) ∧ ActsAt A n bs W ∧
  ∃ did foot, Q did foot W ∧ ∀ k, pre = going ns did0 k → ∀ j, k ≤ j → did j = did0 j
def GoCan (n : Nat) (ns did0 : Nat → Nat) (pre : List Nat) (i : Nat) : Prop := i < n ∧ did0 i < ns i ∧ pre = going ns did0 i
theorem going_hears {did0 : Nat → Nat} {gb capa : Nat} {A : Option Addr} (D : Drive Q n bs ns) (I : List Nat → World → Prop) (hI : ∀ pre W, I pre W → GoNeed Q n bs ns did0 gb A capa pre W) (m : Nat) :
    SeqHears Fence.wide m Try.prog 50 #[.pointer (some ⟨gb, 0, none⟩)] (encAct bs) I (GoCan n ns did0) (fun xs => xs = going ns did0 n) := by
  intro l J W hJ h0 hY
  obtain ⟨hg, ha, _, _, hF, _⟩ := hI _ _ (hJ _ _ h0)
  have hn10 := D.n10
  have HY : Hd _ := ⟨hY⟩
  have HJ : Hd _ := ⟨hJ⟩
  have HI : Hd _ := ⟨hI⟩
  have H0 : Hd _ := ⟨h0⟩
  clear ha hF hY hJ hI h0
  refine callsIn_of_wp Try.func50 rfl trivial ?_ rfl
  simp only [Try.ntmps50, List.size_toArray, List.length_cons, List.length_nil, Nat.reduceAdd, Nat.reduceSub, Array.replicate_succ, Array.replicate_zero, List.push_toArray, List.append_toArray, List.nil_append, List.cons_append]
  refine wpIn_wide.2 ?_
  go_step3
  refine wp_seq (wp_label ?_)
  show Code.wp _ _ _ _ _
  refine (wpIn_wide (n := m)).1 ?_
  gi_wp2
  gi_loopw [7] (fun i wr => ∃ k : Nat, k ≤ n ∧ i = .int .i64 k ∧ Hd (J (going ns did0 k) wr)) (fun i _ => n - (intOf i).toNat)
  case atStart => exact ⟨0, Nat.zero_le _, rfl, H0⟩
  case round =>
    obtain ⟨k, hk, rfl, HK⟩ := hrel
    by_cases hlt : k < n
    · obtain ⟨_, ha, did, foot, hF, hd⟩ := HI.out _ _ (HJ.out _ _ HK.out)
      have hdk := hd k rfl k (Nat.le_refl _)
      obtain ⟨ba, oa, rfl, hcell⟩ := ha k hlt
      have hlo : (0 : Int) ≤ (k : Int) := by omega
      have hhi : (k : Int) < (n : Int) := by omega
      have hov := D.over hF k hlt
      rw [hdk] at hov
      have hle := D.le hF k hlt
      rw [hdk] at hle
      clear ha hd hF
      by_cases hgo : did0 k < ns k
      · rw [decide_eq_false (by omega)] at hov
        have HO : Hd _ := ⟨hov⟩
        clear hov
        obtain ⟨fn, tmps, assign, body, hy, hR⟩ := HY.out (going ns did0 k) k wr HK.out ⟨hlt, hgo, rfl⟩
        have HR : Hd _ := ⟨hR⟩
        clear hR
        dsimp only [encAct] at hy
        gi_wp2
        refine And.intro trivial (And.intro (fun h => absurd h (by simp [Fence.wide])) ((callsIn_wide.2 HO.out).mono ?_))
        rintro e w' ⟨rfl, rfl⟩
        gi_wp2
        refine And.intro (fun h => absurd h (by simp [Fence.wide])) (HR.out.mono ?_)
        rintro e W2 ⟨rfl, hJ2⟩
        have HJ2 : Hd (J (going ns did0 (k + 1)) W2) := ⟨by unfold going; rw [if_pos hgo]; exact hJ2⟩
        clear hJ2
        gi_wp2
        go_roundw
        case rel => exact ⟨k + 1, by omega, by go_num, HJ2⟩
        case measure => simp [intOf]; omega
      · rw [decide_eq_true (by omega)] at hov
        have HO : Hd _ := ⟨hov⟩
        clear hov
        gi_wp2
        refine And.intro trivial (And.intro (fun h => absurd h (by simp [Fence.wide])) ((callsIn_wide.2 HO.out).mono ?_))
        rintro e w' ⟨rfl, rfl⟩
        gi_wp2
        go_roundw
        case rel => exact ⟨k + 1, by omega, by go_num, by unfold going; rw [if_neg hgo]; exact HK⟩
        case measure => simp [intOf]; omega
    · obtain rfl : k = n := by omega
      gi_wp2
      simp only [Exit.noGoto]
      go_end0
      exact ⟨⟨_, rfl⟩, _, rfl, HK.out⟩
def bumps (did : Nat → Nat) (pre : List Nat) : Nat → Nat := fun j => if j ∈ pre then did j + 1 else did j
theorem bumps_nil (did : Nat → Nat) : bumps did [] = did := by funext j; simp [bumps]
theorem bumps_snoc (did : Nat → Nat) (pre : List Nat) (i : Nat) (h : i ∉ pre) : bumps did (pre ++ [i]) = bump (bumps did pre) i := by
  funext j
  unfold bumps bump
  by_cases e : j = i
  · subst e; simp [h]
  · simp [e]
/-- One round: each that goes on does a step. -/
def round (ns : Nat → Nat) (n : Nat) (did : Nat → Nat) : Nat → Nat := bumps did (going ns did n)
def rested (ns : Nat → Nat) (n : Nat) : Nat → (Nat → Nat) → (Nat → Nat) × Nat
  | 0, did => (did, 0)
  | L + 1, did => if going ns did n = [] then (did, 0) else ((rested ns n L (round ns n did)).1, (rested ns n L (round ns n did)).2 + 1)
theorem rested_stop {ns did : Nat → Nat} {n L : Nat} (h : going ns did n = []) : rested ns n (L + 1) did = (did, 0) := if_pos h
theorem rested_go {ns did : Nat → Nat} {n L : Nat} (h : ¬ going ns did n = []) : rested ns n (L + 1) did = ((rested ns n L (round ns n did)).1, (rested ns n L (round ns n did)).2 + 1) := if_neg h
theorem rest_end {w V W' : World} {did d : Nat → Nat} {foot footr : Nat → Prop} (D : Drive Q n bs ns) (h : Q did foot w) (h2 : Q d footr V) (hf : ∀ k, footr k → foot k ∨ w.heap.size ≤ k)
    (hT : Touch foot w V) (hK : KeepsOthers w V) (hs : Shut w.heap.size V W') : Driven Q d foot w W' := by
  have z1 := hT.size
  have z2 := hs.touch.size
  refine ⟨D.grow _ (D.move W' h2 z2 (fun k c t f _ hk => (hs.cells k c t f hk).trans hk.symm)) (fun k hk => ?_) (fun k hk => ?_), hT.step hs.touch (fun k hk e => by omega), ⟨by omega, fun k o hk ho => ?_⟩⟩
  · rcases hf k hk with e | e
    · exact .inl e
    · exact .inr ⟨e, by have := D.foot_lt h2 k hk; omega⟩
  · rcases hk with e | e
    · have := D.foot_lt h k e; omega
    · exact e.2
  · have h3 := hK.same k o hk ho
    exact (hs.touch.block k (Array.getElem?_eq_some_iff.1 h3).1 (by have := (Array.getElem?_eq_some_iff.1 hk).1; omega)).trans h3
/-- Between two rounds. -/
structure RestAt (Q : (Nat → Nat) → (Nat → Prop) → World → Prop) (w W : World) (did : Nat → Nat) (foot : Nat → Prop) (ds : List Deferred) : Prop where
  fleet : ∃ footr, Q did footr W ∧ ∀ k, footr k → foot k ∨ w.heap.size ≤ k
  touch : Touch foot w W
  keeps : KeepsOthers w W
  marks : Marks w.heap.size W ds
/-- Within a round. sb: the block of 'some'; gb: of the walk's acts; C: the heap's size where the walk began. -/
structure RestIn (Q : (Nat → Nat) → (Nat → Prop) → World → Prop) (w : World) (n : Nat) (did : Nat → Nat) (foot : Nat → Prop) (ds : List Deferred) (sb gb : Nat) (A : Option Addr) (capa : Nat) (pre : List Nat) (V : World) : Prop where
  fleet : ∃ footr, Q (bumps did pre) footr V ∧ (∀ k, footr k → foot k ∨ w.heap.size ≤ k) ∧ ¬ footr sb ∧ ¬ footr gb
  touch : Touch foot w V
  keeps : KeepsOthers w V
  marks : Marks w.heap.size V ds
  flag : V.heap[sb]? = some (.cells #[.bool (decide (pre ≠ []))] 4 (0, 0))
  acts : V.cell? ⟨gb, 0, none⟩ = some (.slice A n capa)
theorem blk_cell {w : World} {b t i : Nat} {cs : Array Value} {v : Value} (h : w.heap[b]? = some (.cells cs t (0, 0))) (hc : cs[i]? = some v) : w.cell? ⟨b, i, none⟩ = some v := by simp [World.cell?, h, hc]
theorem blk_free {w : World} {b t : Nat} {cs : Array Value} (h : w.heap[b]? = some (.cells cs t (0, 0))) (i : Nat) : w.frozen? ⟨b, i, none⟩ = false := by simp [World.frozen?, h]
theorem decide_snoc (pre : List Nat) (i : Nat) : decide (pre ++ [i] ≠ []) = true := by simp
theorem RestIn.own {w : World} {did : Nat → Nat} {foot : Nat → Prop} {ds : List Deferred} {sb gb capa C : Nat} {A0 : Option Addr} (D0 : Drive Q n bs ns) (hC : w.heap.size ≤ C) (hds : ∀ d, d ∈ ds → ∀ D, d.target = .collected D → D < C) :
    OwnFrom C (fun pre V => RestIn Q w n did foot ds sb gb A0 capa pre V) := by
  rintro pre A B row ⟨⟨footr, hF, hf1, hf2, hf3⟩, hT, hK, hM, hfl, hac⟩ hg hr
  have hc : ∀ (k : Nat) (c : Array Value) (t : TypeId) (f : Nat × Nat), A.heap[k]? = some (Obj.cells c t f) → B.heap[k]? = A.heap[k]? := fun k c t f hk => hg.block k (Array.getElem?_eq_some_iff.1 hk).1 (fun e => by
    obtain ⟨_, o, ho, hn⟩ := hr k e.symm
    rw [hk] at ho; cases ho; cases hn)
  have hb : ∀ k, k < C → k < A.heap.size → B.heap[k]? = A.heap[k]? := fun k hk hl => hg.block k hl (fun e => by have := (hr k e.symm).1; omega)
  refine ⟨⟨footr, D0.move _ hF hg.size (fun k c t f _ hk => hc k c t f hk), hf1, hf2, hf3⟩, hT.step (T := fun k => C ≤ k) ⟨hg.os, hg.tape, hg.output, hg.size, fun k hk hs => hb k (Nat.lt_of_not_le hs) hk⟩ (fun k hk e => by omega), ⟨Nat.le_trans hK.size hg.size, fun k o hk ho => ?_⟩, ⟨fun d hd => ?_, hM.once⟩, (hc _ _ _ _ hfl).trans hfl, ?_⟩
  · have h2 := hK.same k o hk ho
    exact (hb k (by have := (Array.getElem?_eq_some_iff.1 hk).1; omega) (Array.getElem?_eq_some_iff.1 h2).1).trans h2
  · obtain ⟨D, rfl, hB, hD⟩ := hM.each d hd
    exact ⟨D, rfl, hB, (hb D (hds _ hd D rfl) (Array.getElem?_eq_some_iff.1 hD).1).trans hD⟩
  · obtain ⟨x, y, z, e⟩ := cells_of hac
    exact (World.cell?_of_block (w := A) (hc _ _ _ _ e)).trans hac
theorem RestIn.need {w : World} {did : Nat → Nat} {foot : Nat → Prop} {ds : List Deferred} {sb gb capa : Nat} {A : Option Addr} {pre : List Nat} {V : World} (ha : ActsAt A n bs w)
    (hba : ∀ ba oa, A = some ⟨ba, oa, none⟩ → ba < w.heap.size ∧ ¬ foot ba) (h : RestIn Q w n did foot ds sb gb A capa pre V) : GoNeed Q n bs ns did gb A capa pre V := by
  obtain ⟨⟨footr, hF, _⟩, hT, _, _, _, hac⟩ := h
  refine ⟨hac, ha.touch hT hba, _, footr, hF, fun k e j hj => ?_⟩
  unfold bumps
  rw [if_neg (fun hm => by rw [e] at hm; have := (going_lt hm).1; omega)]
theorem RestIn.step {w V V1 V2 : World} {did : Nat → Nat} {foot : Nat → Prop} {ds : List Deferred} {sb gb capa : Nat} {A : Option Addr} {pre : List Nat} {x : Nat} {footr : Nat → Prop}
    (hT : Touch foot w V) (hK : KeepsOthers w V) (hM : Marks w.heap.size V ds) (hfl : V.heap[sb]? = some (.cells #[.bool (decide (pre ≠ []))] 4 (0, 0))) (hac : V.cell? ⟨gb, 0, none⟩ = some (.slice A n capa))
    (hf1 : ∀ k, footr k → foot k ∨ w.heap.size ≤ k) (hf2 : ¬ footr sb) (hf3 : ¬ footr gb) (hsb : w.heap.size ≤ sb) (hne : gb ≠ sb) (hx : x ∉ pre) (h1 : V1 = V.setCell ⟨sb, 0, none⟩ (.bool true)) (hs : Driven Q (bump (bumps did pre) x) footr V1 V2) :
    RestIn Q w n did foot ds sb gb A capa (pre ++ [x]) V2 ∧ KeepsOthers V V2 := by
  subst h1
  obtain ⟨hF, hT2, hK2⟩ := hs
  have lsb := (Array.getElem?_eq_some_iff.1 hfl).1
  have lgb := lt_of_cell hac
  have hz : (V.setCell ⟨sb, 0, none⟩ (.bool true)).heap.size = V.heap.size := by simp [World.setCell]
  have hk1 : KeepsOthers V (V.setCell ⟨sb, 0, none⟩ (.bool true)) := KeepsOthers.setCell _ _ _
  have hkk := hk1.trans hK2
  have hw := hT.size
  refine ⟨⟨⟨_, by rw [bumps_snoc _ _ _ hx]; exact hF, fun k hk => ?_, fun e => ?_, fun e => ?_⟩, ?_, hK.trans hkk, ⟨fun d hd => ?_, hM.once⟩, ?_, ?_⟩, hkk⟩
  · rcases hk with hk | hk
    · exact hf1 k hk
    · exact .inr (by omega)
  · rcases e with e | e
    · exact hf2 e
    · omega
  · rcases e with e | e
    · exact hf3 e
    · simp at lgb; omega
  · exact ((hT.setCell (p := ⟨sb, 0, none⟩) (.inr hsb) _)).step hT2 (fun k hk e => by rcases hf1 k e with e | e; exact e; omega)
  · obtain ⟨D, rfl, hB, hD⟩ := hM.each d hd
    exact ⟨D, rfl, hB, hkk.same D _ hD rfl⟩
  · rw [hT2.block sb (by omega) hf2, decide_snoc]
    simp [World.setCell, Array.getElem?_modify, hfl]
  · rw [hT2.cell (p := ⟨gb, 0, none⟩) (by rw [hz]; exact lgb) hf3]
    exact (World.cell?_setCell_other _ _ _ _ (fun e => hne (congrArg Addr.block e).symm)).trans hac
set_option maxHeartbeats 2000000 in
theorem rest_any {w : World} {did : Nat → Nat} {foot : Nat → Prop} (D : Drive Q n bs ns) (h : Q did foot w)
    (A : Option Addr) (capa : Nat) (ha : ActsAt A n bs w) (hba : ∀ ba oa, A = some ⟨ba, oa, none⟩ → ba < w.heap.size ∧ ¬ foot ba) (limit : Int) (hl : limit ≤ 60) :
    Calls Try.prog 27 #[.int .i64 limit, .slice A n capa] w fun e w' => e = .returned (.int .i64 ((rested ns n limit.toNat did).2 : Nat)) ∧ Driven Q (rested ns n limit.toNat did).1 foot w w' := by
  have HA : Hd _ := ⟨ha⟩
  have HF : Hd _ := ⟨h⟩
  clear ha h
  obtain ⟨L, hL⟩ : ∃ L : Nat, limit.toNat = L := ⟨_, rfl⟩
  have hm : max (0 : Int) limit = (L : Int) := by omega
  rw [hL]
  refine (callsIn_wide (n := 5)).1 ?_
  refine callsIn_of_wp_marks Try.func27 rfl trivial ?_ rfl
  simp only [Try.ntmps27, List.size_toArray, List.length_cons, List.length_nil, Nat.reduceAdd, Nat.reduceSub, Array.replicate_succ, Array.replicate_zero, List.push_toArray, List.append_toArray, List.nil_append, List.cons_append]
  gi_wp2
  refine wpIn_loop_ghost_k (fun g a W => ∃ (r : Nat) (did' : Nat → Nat) (ds : List Deferred) (u5 u6 u7 u8 u12 u13 u14 u15 u16 u17 u18 u19 u20 u21 u22 u23 : Value),
    a = { tmps := #[.int .i64 limit, .slice A n capa, undef, undef, .int .i64 0, u5, u6, u7, u8, .int .i64 limit, .int .i64 L, .int .i64 r, u12, u13, u14, u15, u16, u17, u18, u19, u20, u21, u22, u23, undef, undef], defers := ds } ∧
    g = L - r ∧ r ≤ L ∧ Hd (rested ns n L did = ((rested ns n (L - r) did').1, (rested ns n (L - r) did').2 + r)) ∧ Hd (RestAt Q w W did' foot ds)) L ?start ?loop
  case start =>
    exact ⟨0, did, [], undef, undef, undef, undef, undef, undef, undef, undef, undef, undef, undef, undef, undef, undef, undef, undef, rfl, rfl, Nat.zero_le _, ⟨rfl⟩,
      ⟨⟨foot, HF.out, fun _ h => .inl h⟩, Touch.refl _ _, KeepsOthers.refl _, Marks.nil _ _⟩⟩
  case loop =>
    rintro g a W ⟨r, did', ds, u5, u6, u7, u8, u12, u13, u14, u15, u16, u17, u18, u19, u20, u21, u22, u23, rfl, rfl, hr, HE, HR⟩ J K hJ hK
    have HJ : Hd _ := ⟨hJ⟩
    have HK : Hd _ := ⟨hK⟩
    clear hJ hK
    by_cases hlt : r < L
    · have hlo : (0 : Int) ≤ (r : Int) := by omega
      have hhi : (r : Int) < (L : Int) := by omega
      gi_wp2
      refine And.intro trivial ((callsIn_wide.2 (going_any _ _ _ _)).mono ?_)
      rintro e w' ⟨rfl, rfl⟩
      gi_wp2
      obtain ⟨⟨footr, hF, hf1⟩, hT, hKO, hM⟩ := HR.out
      have hwW := hT.size
      refine wpIn_rangeFunc_hears rfl (by omega) (gf := 50) (lb := #[.pointer (some ⟨W.heap.size + 1, 0, none⟩)]) rfl trivial (enters_of Try.func50 (by kernel_rfl) rfl)
        (fun pre V => RestIn Q w n did' foot ds W.heap.size (W.heap.size + 1) A capa pre V) (GoCan n ns did') (fun xs => xs = going ns did' n) (going_hears D _ (fun pre V h => h.need HA.out hba) _) (fun _ => rfl) ?own ?zero
        (fun x => { tmps := #[.int .i64 limit, .slice A n capa, undef, undef, .int .i64 0, .int .i64 r, .pointer (some ⟨W.heap.size, 0, none⟩), u7, .pointer (some ⟨bs x, 0, none⟩), .int .i64 limit, .int .i64 L, .int .i64 r, .bool true, .int .i64 r, .slice A n capa,
          .func (.func 50) #[] #[.pointer (some ⟨W.heap.size + 1, 0, none⟩)], .int .i64 x, .pointer (some ⟨bs x, 0, none⟩), u18, u19, u20, u21, u22, u23, undef, undef], defers := [] }) ?assign ?body ?done
      case own => exact RestIn.own D (by simp; omega) (fun d hd D e => by
        obtain ⟨D', rfl, _, hD⟩ := hM.each d hd
        cases e
        have := (Array.getElem?_eq_some_iff.1 hD).1
        simp; omega)
      case zero =>
        have hb : Below W.heap.size W ((W.alloc (.cells #[.bool false] 4)).alloc (.cells #[.slice A n capa] 70)) := ((Below.refl _ W).alloc (Nat.le_refl _) _).alloc (by simp) _
        refine ⟨⟨footr, by rw [bumps_nil]; exact D.below hF hb, hf1, fun e => by have := D.foot_lt hF _ e; omega, fun e => by have := D.foot_lt hF _ e; omega⟩, hT.step (Touch.of_below hb (fun _ => False)) (fun _ _ e => e.elim), hKO.trans ((KeepsOthers.alloc _ _).trans (KeepsOthers.alloc _ _)), ⟨fun d hd => ?_, hM.once⟩, ?_, ?_⟩
        · obtain ⟨D', rfl, hB, hD⟩ := hM.each d hd
          exact ⟨D', rfl, hB, (hb.block D' (Array.getElem?_eq_some_iff.1 hD).1).trans hD⟩
        · exact (Below.heap_alloc _ _ _ (by simp)).trans (heap_alloc_new W _)
        · simp [go_sem]
      case assign =>
        intro l x V K hK
        dsimp only [encAct]
        gi_wp2
        exact hK
      case body =>
        rintro l pre x V ⟨⟨footr2, hF2, g1, g2, g3⟩, hT2, hK2, hM2, hfl2, hac2⟩ ⟨c1, c2, c3⟩
        have hxp : x ∉ pre := fun hm => by rw [c3] at hm; have := (going_lt hm).1; omega
        have hbx : bumps did' pre x < ns x := by unfold bumps; rw [if_neg hxp]; exact c2
        have e0 := blk_cell hfl2 (i := 0) rfl
        have f0 := blk_free hfl2 0
        have hst := D.step (D.touch hF2 (touch_set V W.heap.size 0 (.bool true)) (fun k hk e => g2 (e ▸ hk))) x c1 hbx
        have HS : Hd _ := ⟨hst⟩
        have H2 : Hd _ := ⟨hfl2⟩
        have H3 : Hd _ := ⟨hac2⟩
        have H4 : Hd _ := ⟨hM2⟩
        clear hst hfl2 hac2 hM2 hF2 hF
        gi_wp2
        refine And.intro trivial ((CallsIn.inRound l (callsIn_wide.2 HS.out)).mono ?_)
        rintro e V2 ⟨rfl, hs2⟩
        have fin := RestIn.step hT2 hK2 H4.out H2.out H3.out g1 g2 g3 hwW (by omega) hxp rfl hs2
        have HF2 : Hd _ := ⟨fin⟩
        clear fin hs2
        gi_wp2
        exact ⟨HF2.out.2.from _, HF2.out.1⟩
      case done =>
        rintro D0 xs V rfl rfl ⟨⟨footr2, hF2, g1, g2, g3⟩, hT2, hK2, hM2, hfl2, hac2⟩ hD
        have e0 := blk_cell hfl2 (i := 0) rfl
        have H2 : Hd _ := ⟨hF2⟩
        have HM3 : Hd (Marks w.heap.size V ({ target := .collected ((W.alloc (.cells #[.bool false] 4)).alloc (.cells #[.slice A n capa] 70)).heap.size, args := #[] } :: ds)) := ⟨⟨fun d hd => ?_, List.pairwise_cons.2 ⟨fun d hd e => ?_, hM2.once⟩⟩⟩
        rotate_left
        · rcases List.mem_cons.1 hd with rfl | hd
          · exact ⟨_, rfl, by simp; omega, hD⟩
          · exact hM2.each d hd
        · obtain ⟨D', rfl, _, hD'⟩ := hM.each d hd
          have := (Array.getElem?_eq_some_iff.1 hD').1
          simp at e
          omega
        have HT2 : Hd _ := ⟨hT2⟩
        have HK2 : Hd _ := ⟨hK2⟩
        clear hF2 hfl2 hac2 hM2 hM hF hD hT2 hK2 HR
        by_cases hg : going ns did' n = []
        · have e1 : decide (going ns did' n ≠ []) = false := by simp [hg]
          rw [show (#[Value.bool (decide (going ns did' n ≠ []))][0] : Value) = .bool false by rw [← e1]; rfl] at e0
          clear e1
          gi_wp2
          have hr : rested ns n L did = (did', r) := by
            rw [HE.out, show L - r = (L - (r + 1)) + 1 by omega, rested_stop hg, Nat.zero_add]
          refine leaves_marks _ _ HM3.out fun W' hs => ⟨_, results_tmp rfl _ _ _, ?_⟩
          rw [hr]
          refine ⟨rfl, rest_end D HF.out ?_ g1 HT2.out HK2.out hs⟩
          have := H2.out
          rw [hg, bumps_nil] at this
          exact this
        · have e1 : decide (going ns did' n ≠ []) = true := by simp [hg]
          rw [show (#[Value.bool (decide (going ns did' n ≠ []))][0] : Value) = .bool true by rw [← e1]; rfl] at e0
          clear e1
          gi_wp2
          refine HK.out _ _ ⟨L - (r + 1), by omega, HJ.out _ _ _ ⟨r + 1, round ns n did', _, _, _, _, _, _, _, _, _, _, _, _, _, _, _, _, _, rfl, rfl, by omega, ⟨?_⟩, ⟨⟨footr2, H2.out, g1⟩, HT2.out, HK2.out, HM3.out⟩⟩⟩
          rw [HE.out, show L - r = (L - (r + 1)) + 1 by omega, rested_go hg]
          simp only [Prod.mk.injEq, true_and]
          omega
    · obtain rfl : r = L := by omega
      gi_wp2
      obtain ⟨⟨footr, hF, hf1⟩, hT, hKO, hM⟩ := HR.out
      have hr : rested ns n r did = (did', r) := by
        rw [HE.out, Nat.sub_self]; simp [rested]
      refine leaves_marks _ _ hM fun W' hs => ⟨_, results_tmp rfl _ _ _, ?_⟩
      rw [hr]
      exact ⟨rfl, rest_end D HF.out hF hf1 hT hKO hs⟩
end Go.Proofs.Ytkjppffkjofamaa
