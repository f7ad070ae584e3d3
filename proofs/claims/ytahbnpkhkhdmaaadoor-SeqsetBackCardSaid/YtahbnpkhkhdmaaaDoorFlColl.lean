/- Package flags: slices.AppendSeq and Collect of the flags' names, String. No condition but those that each contract bears. -/
import Derived.Test.YtahbnpkhkhdmaaaDoorFlStr
import Derived.Maps.AppendAt
set_option linter.unusedVariables false
set_option linter.unusedSimpArgs false
namespace Go.Proofs.YtahbnpkhkhdmaaaDoor
open Go.RowKit Go.Shelf
attribute [local go_sem] Oper.semAt_some
theorem row_keep {W W' : World} {base : Nat} {e : TypeId} {size : Nat} {v : Value} {k : Nat} {xs : List Value} (h : W.ownsRow base e size v k xs)
    (hb : ∀ (j : Nat) (c : Array Value) (t : TypeId) (f : Nat × Nat), base ≤ j → W.heap[j]? = some (Obj.cells c t f) → W'.heap[j]? = some (Obj.cells c t f)) : W'.ownsRow base e size v k xs := by
  obtain ⟨h1, h2⟩ := h
  refine ⟨h1, ?_⟩
  rcases h2 with h2 | ⟨g, cap, cur, e1, e2, e3, e4⟩
  · exact .inl h2
  · exact .inr ⟨g, cap, cur, e1, e2, hb _ _ _ _ e2 e3, e4⟩
theorem row_ne {W : World} {base : Nat} {e : TypeId} {size : Nat} {v : Value} {k : Nat} {xs : List Value} (h : W.ownsRow base e size v k xs) {j : Nat} {o : Obj} (hj : W.heap[j]? = some o) (hno : ∀ cur, o ≠ .cells cur e (0, 0)) :
    v.ownBlock ≠ some j := by
  rcases h.2 with ⟨rfl, _⟩ | ⟨g, cap, cur, rfl, _, hgb, _⟩
  · simp [Value.ownBlock]
  · intro e'
    have : g = j := by simpa [Value.ownBlock] using e'
    subst this; rw [hgb] at hj; cases hj; exact hno cur rfl
theorem row_lt {W : World} {base : Nat} {e : TypeId} {size : Nat} {v : Value} {k : Nat} {xs : List Value} (h : W.ownsRow base e size v k xs) {j : Nat} (hj : v.ownBlock = some j) : base ≤ j := by
  rcases h.2 with ⟨rfl, _⟩ | ⟨g, cap, cur, rfl, hb, hgb, _⟩
  · simp [Value.ownBlock] at hj
  · have : g = j := by simpa [Value.ownBlock] using hj
    omega
theorem box_cell {W : World} {B : Nat} {v : Value} {t : TypeId} (h : W.heap[B]? = some (.cells #[v] t (0, 0))) : W.cell? ⟨B, 0, none⟩ = some v ∧ W.frozen? ⟨B, 0, none⟩ = false := by
  constructor <;> simp [World.cell?, World.frozen?, h]
theorem box_set {W : World} {B : Nat} {v : Value} {t : TypeId} (v' : Value) (h : W.heap[B]? = some (.cells #[v] t (0, 0))) : (W.setCell ⟨B, 0, none⟩ v').heap[B]? = some (.cells #[v'] t (0, 0)) := by
  obtain ⟨hlt, hk⟩ := Array.getElem?_eq_some_iff.1 h
  show (W.heap.modify B _)[B]? = _
  rw [Array.getElem?_eq_getElem (by rw [Array.size_modify]; exact hlt), Array.getElem_modify_self, hk]
  rfl
/-- What AppendSeq keeps: the box with the slice of what has come. -/
structure AppAt (w0 : World) (pre : List ByteArray) (W : World) : Prop where
  below : Below w0.heap.size w0 W
  box : ∃ v, W.heap[w0.heap.size]? = some (.cells #[v] 34 (0, 0)) ∧ W.ownsRow w0.heap.size 9 1 v pre.length (pre.map .string) ∧ (v = .slice none 0 0 ↔ pre = [])
theorem AppAt.keep {w0 : World} {pre : List ByteArray} {W W' : World} (h : AppAt w0 pre W) (hw : Below w0.heap.size W W')
    (hb : ∀ (j : Nat) (c : Array Value) (t : TypeId) (f : Nat × Nat), w0.heap.size ≤ j → W.heap[j]? = some (Obj.cells c t f) → W'.heap[j]? = some (Obj.cells c t f)) : AppAt w0 pre W' := by
  obtain ⟨v, h1, h2, h3⟩ := h.box
  exact ⟨h.below.trans hw, v, hb _ _ _ _ (Nat.le_refl _) h1, row_keep h2 hb, h3⟩
theorem grown_set (W : World) (b : Nat) (v : Value) : W.grownBy (W.setCell ⟨b, 0, none⟩ v) (some b) :=
  ⟨rfl, rfl, rfl, by simp [World.setCell], fun k _ hk => Below.heap_setCell _ _ _ k (fun e => hk (by rw [e]))⟩
theorem namesTo_len (p : Nat → Bool) : ∀ n, (namesTo p n).length ≤ n
  | 0 => Nat.le_refl _
  | n + 1 => by
    have := namesTo_len p n
    show (namesTo p n ++ (if p n then [name5 n] else [])).length ≤ n + 1
    rw [List.length_append]
    split <;> simp <;> omega
theorem info_string : (Tryd.prog.info? 9).map (fun i => (i.zero, i.size, i.bytes)) = some (some (.string ⟨#[]⟩), 1, 16) := by kernel_rfl
set_option maxRecDepth 100000 in
set_option maxHeartbeats 2000000 in
theorem appendSeq_names (s : Int) (w : World) {cap bn on cn : Nat} (hN : NamesSt s cap bn on cn w) (m : Nat) (hm : 10 ≤ m) :
    CallsIn Fence.wide m Tryd.prog 56 #[.slice none 0 0, .func (.func 37) #[] #[.pointer (some ⟨cap, 0, none⟩)]] w fun e w' => ∃ v, e = .returned v ∧ w'.ownsRow w.heap.size 9 1 v (namesTo (bitAt s) 5).length ((namesTo (bitAt s) 5).map .string) ∧ (v = .slice none 0 0 ↔ namesTo (bitAt s) 5 = []) ∧ Below w.heap.size w w' := by
  have l1 := lt_of_cell hN.cap
  have l2 := lt_of_cell hN.names.v
  have l3 := lt_of_cell (hN.names.c 0 (by omega))
  have HN : Hd _ := ⟨hN⟩
  clear hN
  refine callsIn_of_wp_marks Tryd.func56 rfl trivial ?_ rfl
  simp only [Tryd.ntmps56, List.size_toArray, List.length_cons, List.length_nil, Nat.reduceAdd, Nat.reduceSub, Array.replicate_succ, Array.replicate_zero, List.push_toArray, List.append_toArray, List.nil_append, List.cons_append]
  gi_wp2
  have hneed : ∀ (pre : List ByteArray) (W : World), AppAt w pre W → NamesSt s cap bn on cn W := fun pre W h => HN.out.on h.below
  refine wpIn_rangeFunc_hears rfl (by omega) (gf := 37) (lb := #[.pointer (some ⟨cap, 0, none⟩)]) rfl trivial
    (enters_of Tryd.func37 (by kernel_rfl) rfl) (fun pre W => AppAt w pre W) _ _ (names_hears s cap bn on cn _ hneed _)
    (fun _ => rfl) ?own ?zero
    (fun x => { tmps := #[.slice none 0 0, .func (.func 37) #[] #[.pointer (some ⟨cap, 0, none⟩)], .pointer (some ⟨w.heap.size, 0, none⟩), undef, .slice none 0 0, .string x, .func (.func 37) #[] #[.pointer (some ⟨cap, 0, none⟩)], .string x, undef, undef, undef, undef, undef], defers := [] }) ?assign ?body ?done
  case own =>
    rintro pre X Y row hX hg hr
    refine hX.keep ((Below.refl _ X).grown hg hX.below.size (fun k e => by have := (hr k e).1; simp only [World.size_alloc] at this; omega)) (fun j c t f hj hc => (hg.block j (Array.getElem?_eq_some_iff.1 hc).1 (fun e => ?_)).trans hc)
    obtain ⟨_, o, ho, hn⟩ := hr j e.symm
    rw [hc] at ho; cases ho; cases hn
  case zero =>
    refine ⟨(Below.refl _ w).alloc (Nat.le_refl _) _, _, World.alloc_heap_new w _, ⟨rfl, .inl ⟨rfl, rfl⟩⟩, by simp⟩
  case assign =>
    intro l x V K hK
    gi_wp2
    exact hK
  case body =>
    rintro l pre x V hV ⟨j, hj, -, hp, -⟩
    obtain ⟨i0, hi, hz0, hz1, hz2⟩ := info_parts info_string
    obtain ⟨v, hv, hrow, hnil⟩ := hV.box
    obtain ⟨hc, hf⟩ := box_cell hv
    have hlen : pre.length ≤ 4 := by
      have := namesTo_len (bitAt s) j
      rw [hp]; omega
    clear hp hj
    have hsz := hV.below.size
    have hBlt := lt_of_cell hc
    have HV : Hd _ := ⟨hV⟩
    have HR : Hd _ := ⟨hrow⟩
    have Hv : Hd _ := ⟨hv⟩
    clear hV hrow hv hnil
    gi_wp2_with (first
      | (gi_at_builtin; refine wpListIn_append_own _ rfl _ _ 34 rfl w.heap.size 9 i0 (.string ⟨#[]⟩) 1 16 Tryd.underlying34 hi hz0 hz1 hz2 rfl (by decide) v pre.length (pre.map .string) rfl (HR.out.alloc _) ⟨V.heap.size, 0, none⟩ 1 1 [.string x] rfl rfl (cell_one_new _ _ _) (by simp [Value.oneCell']) (by unfold maxLen; omega) (by omega) (by simp; omega) ?_; intro v' w3 hown' hg3 hnil3
         have hv3 : w3.heap[w.heap.size]? = some (.cells #[v] 34 (0, 0)) := (hg3.block w.heap.size (by simp; omega) (fun e => row_ne HR.out Hv.out (fun cur e => by cases e) e.symm)).trans ((Below.heap_alloc _ _ _ hBlt).trans Hv.out)
         obtain ⟨hc3, hf3⟩ := box_cell hv3
         obtain ⟨g', cap', cur', rfl, hbase', -⟩ : ∃ g' cap' cur', v' = .slice (some ⟨g', 0, none⟩) (pre.length + 1) cap' ∧ w.heap.size ≤ g' ∧ w3.heap[g']? = some (.cells cur' 9 (0, 0)) := by
           rcases hown'.2 with ⟨_, h0⟩ | ⟨g, c, cu, h1, h2, h3, _⟩
           · exact absurd h0 (by omega)
           · exact ⟨g, c, cu, h1, h2, h3⟩
         have HG3 : Hd _ := ⟨hg3⟩
         have HO3 : Hd _ := ⟨hown'⟩
         have HN3 : Hd _ := ⟨hnil3⟩
         have Hv3 : Hd _ := ⟨hv3⟩
         clear hg3 hown' hnil3 hv3 hc hf)
      | gi_in)
    have hb3 : Below w.heap.size w w3 := (HV.out.below.alloc HV.out.below.size _).grown HG3.out (by have := HV.out.below.size; simp; omega) (fun k e => row_lt HR.out e)
    refine ⟨⟨?_, fun k o hk ho hcl => ?_⟩, hb3.trans ((Touch.refl (fun k => w.heap.size ≤ k) w3).setCell (p := ⟨w.heap.size, 0, none⟩) (.inl (Nat.le_refl _)) _ |>.below hb3.size (fun k hk e => by omega)), _, box_set _ Hv3.out, ?_, by simp⟩
    · have h1 := HG3.out.size
      rw [World.size_alloc] at h1
      have h2 : (w3.setCell ⟨w.heap.size, 0, none⟩ (.slice (some ⟨g', 0, none⟩) (pre.length + 1) cap')).heap.size = w3.heap.size := by simp [World.setCell]
      omega
    · have hk2 : w.heap.size + 1 ≤ k := by simpa using hk
      have hkl := (Array.getElem?_eq_some_iff.1 ho).1
      refine (Below.heap_setCell _ _ _ _ (by show k ≠ w.heap.size; omega)).trans ((HG3.out.block k (by simp; omega) (fun e => row_ne HR.out ho (fun cur e => by subst e; cases hcl) e.symm)).trans ((Below.heap_alloc _ _ _ hkl).trans ho))
    · have := HO3.out.kept (grown_set w3 w.heap.size (.slice (some ⟨g', 0, none⟩) (pre.length + 1) cap')) (.inr (row_ne HO3.out Hv3.out (fun cur e => by cases e)))
      simpa using this
  case done =>
    rintro D xs V rfl rfl hV hD
    obtain ⟨v, hv, hrow, hnil⟩ := hV.box
    obtain ⟨hc, hf⟩ := box_cell hv
    have HF : ∀ W' : World, Shut (w.heap.size + 1) V W' → W'.ownsRow w.heap.size 9 1 v (namesTo (bitAt s) 5).length ((namesTo (bitAt s) 5).map .string) ∧ (v = .slice none 0 0 ↔ namesTo (bitAt s) 5 = []) ∧ Below w.heap.size w W' := fun W' hs =>
      ⟨row_keep hrow (fun j c t f hj hc => hs.cells j c t f hc), hnil, hV.below.trans (hs.touch.below hV.below.size (fun k hk e => by omega))⟩
    obtain ⟨u, hu⟩ : ∃ u, u = v := ⟨_, rfl⟩
    rw [← hu] at HF
    have HF := Hd.mk HF
    have Hu := Hd.mk hu
    have HD : Hd _ := ⟨hD⟩
    have hw := hrow.2
    clear hV hrow hv hnil hD hu
    rcases hw with ⟨e1, _⟩ | ⟨g, c, cu, e1, _⟩ <;> subst e1 <;> gi_wp2
    all_goals
      refine leaves_marks (B := w.heap.size + 1) _ _ ⟨fun d hd => ?_, List.pairwise_singleton _ _⟩ fun W' hs => ⟨_, results_tmp rfl _ _ _, u, by rw [Hu.out]; rfl, HF.out W' hs⟩
      rw [List.mem_singleton.1 hd]
      exact ⟨_, rfl, by simp, HD.out⟩
theorem collect_names (s : Int) (w : World) {cap bn on cn : Nat} (hN : NamesSt s cap bn on cn w) (m : Nat) (hm : 11 ≤ m) :
    CallsIn Fence.wide m Tryd.prog 39 #[.func (.func 37) #[] #[.pointer (some ⟨cap, 0, none⟩)]] w fun e w' => ∃ v, e = .returned v ∧ w'.ownsRow w.heap.size 9 1 v (namesTo (bitAt s) 5).length ((namesTo (bitAt s) 5).map .string) ∧ (v = .slice none 0 0 ↔ namesTo (bitAt s) 5 = []) ∧ Below w.heap.size w w' := by
  refine callsIn_of_wp Tryd.func39 rfl trivial ?_ rfl
  simp only [Tryd.ntmps39, List.size_toArray, List.length_cons, List.length_nil, Nat.reduceAdd, Nat.reduceSub, Array.replicate_succ, Array.replicate_zero, List.push_toArray, List.append_toArray, List.nil_append, List.cons_append]
  have HN : Hd _ := ⟨hN⟩
  clear hN
  gi_wp2
  refine And.intro trivial (And.intro (fun h => absurd h (by simp [Fence.wide])) ((appendSeq_names s w HN.out (m - 1) (by omega)).mono ?_))
  rintro e w' ⟨v, rfl, h1, h2, h3⟩
  have hw := h1.2
  obtain ⟨u, hu⟩ : ∃ u, u = v := ⟨_, rfl⟩
  rw [← hu] at h1 h2
  have H1 := Hd.mk h1
  have H2 := Hd.mk h2
  have H3 := Hd.mk h3
  have Hu := Hd.mk hu
  clear h1 h2 h3 hu
  rcases hw with ⟨e1, _⟩ | ⟨g, c, cu, e1, _⟩ <;> subst e1 <;> gi_wp2
  all_goals
    go_ret
    exact ⟨u, by rw [Hu.out]; rfl, H1.out, H2.out, H3.out⟩
theorem join_len : ∀ (L : List (List UInt8)), (∀ x ∈ L, x.length ≤ 9) → (Lib.join L [32]).length ≤ 10 * L.length
  | [], _ => by simp [Lib.join_nil]
  | x :: r, h => by
    rw [Lib.join_cons]
    have hx := h x (by simp)
    have ht : ∀ (r : List (List UInt8)), (∀ x ∈ r, x.length ≤ 9) → (Lib.joinTail [32] r).length ≤ 10 * r.length := by
      intro r
      induction r with
      | nil => intro _; simp [Lib.joinTail]
      | cons y r ih =>
        intro h
        have hy := h y (by simp)
        have := ih (fun x hx => h x (by simp [hx]))
        have e : Lib.joinTail [32] (y :: r) = ([32] ++ y) ++ Lib.joinTail [32] r := by simp [Lib.joinTail]
        rw [e, List.length_append, List.length_append]
        simp only [List.length_cons, List.length_nil]
        omega
    have := ht r (fun x hx => h x (by simp [hx]))
    simp only [List.length_append, List.length_cons]; omega
theorem namesTo_size (p : Nat → Bool) : ∀ n, ∀ x ∈ namesTo p n, x.size ≤ 9
  | 0, x, h => by cases h
  | n + 1, x, h => by
    rcases List.mem_append.1 (show x ∈ namesTo p n ++ (if p n then [name5 n] else []) from h) with h | h
    · exact namesTo_size p n x h
    · split at h
      · obtain rfl := List.mem_singleton.1 h; exact name5_size n
      · cases h
theorem join_row {W : World} {base : Nat} {v : Value} {L : List ByteArray} (hrow : W.ownsRow base 9 1 v L.length (L.map .string)) (hnil : v = .slice none 0 0 ↔ L = []) (h5 : L.length ≤ 5) (h9 : ∀ x ∈ L, x.size ≤ 9) :
    Calls Tryd.prog 38 #[v, .string ⟨#[32]⟩] W fun e w' => e = .returned (.string ⟨(Lib.join (L.map (·.data.toList)) [32]).toArray⟩) ∧ Below W.heap.size W w' := by
  have hl := join_len (L.map (·.data.toList)) (by
    intro x hx
    obtain ⟨y, hy, rfl⟩ := List.mem_map.1 hx
    simpa using h9 y hy)
  rcases hrow.2 with ⟨rfl, _⟩ | ⟨g, cap, cur, rfl, _, hg, hcap, _, _, htake⟩
  · rw [hnil.1 rfl]
    exact (Tryd.strings_Join_none none 0 ⟨#[32]⟩ W).mono (by rintro e w' ⟨rfl, rfl⟩; exact ⟨rfl, Below.refl _ _⟩)
  · refine Tryd.strings_Join g 0 cap L ⟨#[32]⟩ W (fun j x hx => ?_) (Array.getElem?_eq_some_iff.1 hg).1 (by omega) hcap (by simp at hl ⊢; omega)
    have hj : (L.map Value.string)[j]? = some (.string x) := by simp [hx]
    rw [← htake, List.getElem?_take] at hj
    have hc : cur[j]? = some (.string x) := by
      split at hj
      · simpa using hj
      · cases hj
    unfold World.cell?
    rw [hg]
    simpa using hc
/-- A set's text. -/
def strOf (s : Int) : ByteArray := ⟨#[40]⟩ ++ ⟨(Lib.join ((namesTo (bitAt s) 5).map (·.data.toList)) [32]).toArray⟩ ++ ⟨#[41]⟩
set_option maxRecDepth 100000 in
set_option maxHeartbeats 1000000 in
theorem string_any (s : Int) (w : World) {bn on cn : Nat} (hN : NamesAt w bn on cn) :
    Calls Tryd.prog 15 #[.int .u8 s] w fun e w' => e = .returned (.string (strOf s)) ∧ Below w.heap.size w w' := by
  have HN : Hd _ := ⟨hN⟩
  clear hN
  have HC : Hd (∀ (w : World) (cap : Nat), NamesSt s cap bn on cn w → Calls Tryd.prog 39 #[.func (.func 37) #[] #[.pointer (some ⟨cap, 0, none⟩)]] w fun e w' => ∃ v, e = .returned v ∧ w'.ownsRow w.heap.size 9 1 v (namesTo (bitAt s) 5).length ((namesTo (bitAt s) 5).map .string) ∧ (v = .slice none 0 0 ↔ namesTo (bitAt s) 5 = []) ∧ Below w.heap.size w w') :=
    ⟨fun w cap h => (callsIn_wide (n := 20)).1 (collect_names s w h 20 (by omega))⟩
  obtain ⟨js, hjs⟩ : ∃ js : ByteArray, ⟨(Lib.join ((namesTo (bitAt s) 5).map (·.data.toList)) [32]).toArray⟩ = js := ⟨_, rfl⟩
  have hsz : js.size ≤ 50 := by
    have h1 := join_len ((namesTo (bitAt s) 5).map (·.data.toList)) (by
      intro x hx
      obtain ⟨y, hy, rfl⟩ := List.mem_map.1 hx
      simpa using namesTo_size _ 5 y hy)
    have h2 := namesTo_len (bitAt s) 5
    rw [← hjs]
    show (Lib.join _ _).toArray.size ≤ _
    simp at h1 ⊢; omega
  have hS : Hd (strOf s = ⟨#[40]⟩ ++ js ++ ⟨#[41]⟩) := ⟨by unfold strOf; rw [hjs]⟩
  have HJ := Hd.mk hjs
  clear hjs
  have z1 : (⟨#[40]⟩ ++ js : ByteArray).size = 1 + js.size := by rw [ByteArray.size_append]; rfl
  go_enter Tryd.func15, Tryd.ntmps15
  go_wp2_with (first
    | (go_at_call 12; have hx := names_any s w; (with_reducible refine hx.mono ?_); clear hx; rintro e w1 ⟨rfl, rfl⟩)
    | (go_at_call 39; have hx := HC.out (w.alloc (.cells #[.int .u8 s] 22)) w.heap.size ⟨by go_simp, HN.out.on ((Below.refl _ w).alloc (Nat.le_refl _) _)⟩; (with_reducible refine hx.mono ?_); clear hx; rintro e w2 ⟨v, rfl, h1, h2, h3⟩; have hw := h1.2; have H1 := Hd.mk h1; have H2 := Hd.mk h2; have H3 := Hd.mk h3; clear h1 h2 h3)
    | (go_at_call 38; have hx := join_row H1.out H2.out (namesTo_len _ 5) (namesTo_size _ 5); rw [HJ.out] at hx; (with_reducible refine hx.mono ?_); clear hx; rintro e w3 ⟨rfl, h4⟩; have H4 := Hd.mk h4; clear h4))
  go_ret
  refine ⟨by rw [hS.out]; rfl, ?_⟩
  have hb1 : Below w.heap.size w (w.alloc (.cells #[.int .u8 s] 22)) := (Below.refl _ w).alloc (Nat.le_refl _) _
  have hb2 := hb1.trans (H3.out.mono (by simp))
  exact hb2.trans (H4.out.mono hb2.size)
end Go.Proofs.YtahbnpkhkhdmaaaDoor
