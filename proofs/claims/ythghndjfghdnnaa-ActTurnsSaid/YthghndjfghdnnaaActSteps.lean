/- The contracts of the law's own steps: next, its closure, an act of such steps; a step of it. No condition but those that each contract bears. -/
import Derived.Test.YthghndjfghdnnaaAct
import Derived.Deep.RegionLaw
import Derived.OneCell
import Derived.Deep.DeepCutAuto
namespace Go.Proofs.Ythghndjfghdnnaa
open Go.RowKit
/-- 'j steps of this name are left': none, or the closure over three variables (the log's address, the name, j), each in a block that 'ok' allows. -/
def NextIs (w : World) (lb lo : Nat) (nm : Int) (j : Nat) (v : Value) (ok : Nat → Prop) : Prop :=
  (j = 0 ∧ v = .nilFunc) ∨ (0 < j ∧ ∃ b1 b2 b3, v = .func (.func 45) #[] #[.pointer (some ⟨b1, 0, none⟩), .pointer (some ⟨b2, 0, none⟩), .pointer (some ⟨b3, 0, none⟩)] ∧ (ok b1 ∧ ok b2 ∧ ok b3) ∧
    w.cell? ⟨b1, 0, none⟩ = some (.pointer (some ⟨lb, lo, none⟩)) ∧ w.cell? ⟨b2, 0, none⟩ = some (.int .i64 nm) ∧ w.cell? ⟨b3, 0, none⟩ = some (.int .i64 j))
theorem NextIs.isStep {w : World} {lb lo : Nat} {nm : Int} {j : Nat} {v : Value} {ok : Nat → Prop} (h : NextIs w lb lo nm j v ok) : IsStep v := by
  rcases h with ⟨_, rfl⟩ | ⟨_, _, _, _, rfl, _⟩
  · exact .inl rfl
  · exact .inr ⟨_, _, rfl⟩
theorem NextIs.move {w w' : World} {lb lo : Nat} {nm : Int} {j : Nat} {v : Value} {ok ok' : Nat → Prop} (h : NextIs w lb lo nm j v ok) (hk : ∀ k, k < w.heap.size → ok k → w'.heap[k]? = w.heap[k]?) (ho : ∀ k, k < w.heap.size → ok k → ok' k) : NextIs w' lb lo nm j v ok' := by
  rcases h with h | ⟨h0, b1, b2, b3, hv, ⟨o1, o2, o3⟩, c1, c2, c3⟩
  · exact .inl h
  · have l1 := lt_of_cell c1
    have l2 := lt_of_cell c2
    have l3 := lt_of_cell c3
    exact .inr ⟨h0, b1, b2, b3, hv, ⟨ho _ l1 o1, ho _ l2 o2, ho _ l3 o3⟩, (World.cell?_of_block (w := w) (hk _ l1 o1)).trans c1, (World.cell?_of_block (w := w) (hk _ l2 o2)).trans c2, (World.cell?_of_block (w := w) (hk _ l3 o3)).trans c3⟩
/-- The log: a variable that holds a slice of the call's own, with the names xs. 'row': the block in which they lie, if there is one. -/
def LogAt (w : World) (base lb lo : Nat) (xs : List Int) (row : Option Nat) : Prop :=
  ∃ v, w.cell? ⟨lb, lo, none⟩ = some v ∧ w.frozen? ⟨lb, lo, none⟩ = false ∧ w.ownsRow base 3 1 v xs.length (xs.map (Value.int .i64)) ∧ v.ownBlock = row
theorem info_int : (Try.prog.info? 3).map (fun i => (i.zero, i.size, i.bytes)) = some (some (.int .i64 0), 1, 8) := by kernel_rfl
theorem grown_below {w w1 : World} (h : Below w.heap.size w w1) (row : Option Nat) : w.grownBy w1 row := ⟨h.os, h.tape, h.output, h.size, fun i hi _ => h.block i hi⟩
theorem owns_below {w w1 : World} {base : Nat} {e : TypeId} {size n : Nat} {v : Value} {xs : List Value} (h : w.ownsRow base e size v n xs) (hb : Below w.heap.size w w1) : w1.ownsRow base e size v n xs :=
  h.kept (grown_below hb none) (by cases v.ownBlock <;> simp)
theorem owns_touch {S : Nat → Prop} {w w1 : World} {base : Nat} {e : TypeId} {size n : Nat} {v : Value} {xs : List Value} (h : w.ownsRow base e size v n xs) (ht : Touch S w w1) (hs : ∀ k, v.ownBlock = some k → ¬ S k) : w1.ownsRow base e size v n xs := by
  rcases h with ⟨h1, h2 | ⟨g, cap, cur, hv, hg, hh, r⟩⟩
  · exact ⟨h1, .inl h2⟩
  · exact ⟨h1, .inr ⟨g, cap, cur, hv, hg, (ht.block g (Array.getElem?_eq_some_iff.1 hh).1 (hs g (by rw [hv]; rfl))).trans hh, r⟩⟩
theorem LogAt.touch {S : Nat → Prop} {w w1 : World} {base lb lo : Nat} {xs : List Int} {row : Option Nat} (h : LogAt w base lb lo xs row) (ht : Touch S w w1) (hl : ¬ S lb) (hr : ∀ k, row = some k → ¬ S k) : LogAt w1 base lb lo xs row := by
  obtain ⟨v, hv, hf, ho, hrow⟩ := h
  have ll := lt_of_cell hv
  exact ⟨v, (ht.cell (p := ⟨lb, lo, none⟩) ll hl).trans hv, (ht.frozen (p := ⟨lb, lo, none⟩) ll hl).trans hf, owns_touch ho ht (fun k hk => hr k (by rw [← hrow, hk])), hrow⟩
theorem LogAt.below {w w1 : World} {base lb lo : Nat} {xs : List Int} {row : Option Nat} (h : LogAt w base lb lo xs row) (hb : Below w.heap.size w w1) : LogAt w1 base lb lo xs row :=
  h.touch (Touch.of_below hb (fun _ => False)) id (fun _ _ => id)
def NextPost (lb lo : Nat) (nm : Int) (j : Nat) (w : World) (e : Ending) (w' : World) : Prop := ∃ v, e = .returned v ∧ NextIs w' lb lo nm j v (fun k => w.heap.size ≤ k) ∧ Below w.heap.size w w'
theorem next_any (lb lo : Nat) (nm : Int) (j : Nat) (hj : 0 < j) (w : World) : Calls Try.prog 41 #[.int .i64 j, .int .i64 nm, .pointer (some ⟨lb, lo, none⟩)] w (NextPost lb lo nm j w) := by
  go_enter Try.func41, Try.ntmps41
  go_wp2
  go_ret
  refine ⟨_, rfl, .inr ⟨hj, _, _, _, rfl, ⟨by simp; omega, by simp, by simp⟩, ?_, ?_, ?_⟩, (((Below.refl _ w).alloc (Nat.le_refl _) _).alloc (by simp) _).alloc (by simp; omega) _⟩
  · simp [go_sem]
  · simp [go_sem]
  · simp [go_sem]
/-- .. and of the log's block the cell at lo alone. -/
structure TouchL (S : Nat → Prop) (lb lo : Nat) (w w' : World) : Prop extends Touch S w w' where
  others : ∀ o, o ≠ lo → w'.cell? ⟨lb, o, none⟩ = w.cell? ⟨lb, o, none⟩ ∧ w'.frozen? ⟨lb, o, none⟩ = w.frozen? ⟨lb, o, none⟩
theorem TouchL.below_step {S : Nat → Prop} {lb lo : Nat} {w w1 w2 : World} (h : TouchL S lb lo w w1) (hb : Below w1.heap.size w1 w2) (hl : lb < w1.heap.size) : TouchL S lb lo w w2 :=
  ⟨h.toTouch.step (Touch.of_below hb (fun _ => False)) (fun _ _ e => e.elim), fun o ho => ⟨(World.cell?_of_block (w := w1) (hb.block lb hl)).trans (h.others o ho).1, (World.frozen?_of_block (w := w1) (hb.block lb hl)).trans (h.others o ho).2⟩⟩
def StepPost (base lb lo : Nat) (nm : Int) (j : Nat) (xs : List Int) (row : Option Nat) (w : World) (e : Ending) (w' : World) : Prop :=
  ∃ v row', e = .returned v ∧ NextIs w' lb lo nm j v (fun k => w.heap.size ≤ k ∧ some k ≠ row') ∧ LogAt w' base lb lo (xs ++ [nm]) row' ∧ (row' = row ∨ ∃ g, row' = some g ∧ w.heap.size ≤ g) ∧ TouchL (fun k => k = lb ∨ some k = row) lb lo w w'
/-- Behind the append and the store of the log. -/
def Logged (base lb lo : Nat) (nm : Int) (xs : List Int) (row : Option Nat) (w w' : World) : Prop :=
  ∃ g, LogAt w' base lb lo (xs ++ [nm]) (some g) ∧ (row = some g ∨ w.heap.size ≤ g) ∧ g < w'.heap.size ∧ TouchL (fun k => k = lb ∨ some k = row) lb lo w w'
theorem logged_of {base lb lo : Nat} {nm : Int} {xs : List Int} {v v' : Value} {w w1 : World} {g cap : Nat} {o : Obj} (hlb : lb < w.heap.size) (hlr : some lb ≠ v.ownBlock)
    (hv : v' = .slice (some ⟨g, 0, none⟩) (xs.length + 1) cap) (hown : w1.ownsRow base 3 1 v' (xs.length + 1) (xs.map (Value.int .i64) ++ [.int .i64 nm])) (hgrow : World.grownBy (w.alloc o).drew w1 v.ownBlock) (hat : v.ownBlock = some g ∨ g = w.heap.size + 1) (hlt : g < w1.heap.size)
    (e1 : (w1.cell? ⟨lb, lo, none⟩).isSome = true) (e2 : w1.frozen? ⟨lb, lo, none⟩ = false) : Logged base lb lo nm xs v.ownBlock w (w1.setCell ⟨lb, lo, none⟩ v') := by
  have hgl : some lb ≠ some g := by
    rcases hat with h | h
    · rw [← h]; exact hlr
    · intro e; cases e; omega
  refine ⟨g, ⟨v', World.cell?_setCell_same' _ _ _ e1, by rw [World.frozen?_setCell]; exact e2, ?_, by rw [hv]; rfl⟩, hat.imp id (fun h => by omega), by simpa [World.setCell] using hlt, ?_⟩
  · have h2 : w1.ownsRow base 3 1 v' (xs ++ [nm]).length ((xs ++ [nm]).map (Value.int .i64)) := by simpa using hown
    exact ownsRow_setCell_other h2 (a := ⟨lb, lo, none⟩) (by rw [hv]; exact fun e => hgl e.symm) _
  · have t1 : Touch (fun k => k = lb ∨ some k = v.ownBlock) w w1 := by
      refine ⟨hgrow.os, hgrow.tape, hgrow.output, ?_, fun k hk hs => ?_⟩
      · have := hgrow.size; simp at this; omega
      · have := hgrow.block k (by simp; omega) (fun e => hs (.inr e))
        rw [this]
        exact Below.heap_alloc w o k hk
    refine ⟨t1.setCell (.inl (.inl rfl)) _, fun o' ho' => ⟨?_, ?_⟩⟩
    · rw [World.cell?_setCell_other _ _ _ _ (by intro h; cases h; exact ho' rfl), hgrow.cell_far ⟨lb, o', none⟩ (by simp; omega) hlr]
      exact World.cell?_of_block (w := w) (Below.heap_alloc w o lb hlb)
    · rw [World.frozen?_setCell, hgrow.frozen_far ⟨lb, o', none⟩ (by simp; omega) hlr]
      exact World.frozen?_of_block (w := w) (Below.heap_alloc w o lb hlb)
set_option maxHeartbeats 2000000 in
theorem nextStep_any (base lb lo : Nat) (nm : Int) (j : Nat) (xs : List Int) (row : Option Nat) (b1 b2 b3 : Nat) (w : World) (hl : LogAt w base lb lo xs row) (hx : xs.length ≤ 100000) (hbase : base ≤ w.heap.size) (hlr : some lb ≠ row) (hjb : j ≤ 1000)
    (c1 : w.cell? ⟨b1, 0, none⟩ = some (.pointer (some ⟨lb, lo, none⟩))) (c2 : w.cell? ⟨b2, 0, none⟩ = some (.int .i64 nm)) (c3 : w.cell? ⟨b3, 0, none⟩ = some (.int .i64 ((j : Int) + 1)))
    (n1 : b1 ≠ lb ∧ some b1 ≠ row) (n2 : b2 ≠ lb ∧ some b2 ≠ row) (n3 : b3 ≠ lb ∧ some b3 ≠ row) :
    Calls Try.prog 45 #[.pointer (some ⟨b1, 0, none⟩), .pointer (some ⟨b2, 0, none⟩), .pointer (some ⟨b3, 0, none⟩)] w (StepPost base lb lo nm j xs row w) := by
  obtain ⟨v, hv, hf, hown, hrow⟩ := hl
  obtain ⟨i0, hi, hz0, hz1, hz2⟩ := info_parts info_int
  have l1 := lt_of_cell c1
  have l2 := lt_of_cell c2
  have l3 := lt_of_cell c3
  have ll := lt_of_cell hv
  subst hrow
  obtain ⟨m1, m1'⟩ := n1
  obtain ⟨m2, m2'⟩ := n2
  obtain ⟨m3, m3'⟩ := n3
  go_enter Try.func45, Try.ntmps45
  go_wp2
  go_cut [] (fun wx => Logged base lb lo nm xs v.ownBlock w wx)
  case first =>
    go_region_law
    ((refine step_append_lies _ (by rfl) _ _ _ (by rfl) base 3 i0 _ 1 8 Try.underlying23 hi hz0 hz1 hz2 rfl (by omega) v xs.length (xs.map (Value.int .i64)) (by rfl) ((hown.alloc _).drew)
        ⟨w.heap.size, 0, none⟩ 1 1 [.int .i64 nm] (by rfl) (by rfl) (World.news_of_block (cs := #[.int .i64 nm]) (t := 3) (fr := (0, 0)) (heap_alloc_new w _)) (by simp [Value.oneCell'])
        (by omega) (by unfold maxLen; omega) (by omega) (by simp; omega) (w.heap.size + 1) (by simp) ?_; intro gg cap w1 hown1 hgrow hat hlt;
      have e1 : w1.cell? ⟨lb, lo, none⟩ = some v := (hgrow.cell_far ⟨lb, lo, none⟩ (by simp; omega) hlr).trans (by simp [go_sem, *]);
      have e2 : w1.frozen? ⟨lb, lo, none⟩ = false := (hgrow.frozen_far ⟨lb, lo, none⟩ (by simp; omega) hlr).trans (by simp [go_sem, *]);
      have e3 : w1.cell? ⟨b1, 0, none⟩ = some (.pointer (some ⟨lb, lo, none⟩)) := (hgrow.cell_far ⟨b1, 0, none⟩ (by simp; omega) m1').trans (by simp [go_sem, *])))
    all_goals (try go_wp2_with fail)
    all_goals go_meet
    all_goals exact logged_of ll hlr rfl hown1 hgrow hat hlt (by rw [e1]; rfl) e2
  case rest =>
    obtain ⟨g, hl, hg, hgl, ht⟩ := hcut
    have d1 : wc.cell? ⟨b1, 0, none⟩ = some (.pointer (some ⟨lb, lo, none⟩)) := (ht.cell (p := ⟨b1, 0, none⟩) l1 (fun e => e.elim m1 m1')).trans c1
    have d2 : wc.cell? ⟨b2, 0, none⟩ = some (.int .i64 nm) := (ht.cell (p := ⟨b2, 0, none⟩) l2 (fun e => e.elim m2 m2')).trans c2
    have d3 : wc.cell? ⟨b3, 0, none⟩ = some (.int .i64 ((j : Int) + 1)) := (ht.cell (p := ⟨b3, 0, none⟩) l3 (fun e => e.elim m3 m3')).trans c3
    have hsz := ht.size
    have hgo : some g = v.ownBlock ∨ ∃ g', some g = some g' ∧ w.heap.size ≤ g' := hg.elim (fun e => .inl e.symm) (fun e => .inr ⟨g, rfl, e⟩)
    have HL : Hd _ := ⟨hl⟩
    have HG : Hd _ := ⟨hg⟩
    have HO : Hd _ := ⟨hgo⟩
    clear hl hg hgo hown hv hf
    by_cases hj : j = 0
    · subst hj
      go_wp2
      go_ret
      exact ⟨_, some g, rfl, .inl ⟨rfl, rfl⟩, HL.out, HO.out, ht⟩
    · have hj' : 1 ≤ j := by omega
      go_wp2_with (go_at_call 41; refine (next_any lb lo nm j (by omega) _).mono ?_; rintro e w' ⟨v', rfl, hn, hb⟩)
      go_ret
      exact ⟨v', some g, rfl, hn.move (fun _ _ _ => rfl) (fun k _ hk => ⟨by omega, fun e => by cases e; omega⟩), HL.out.below hb, HO.out, ht.below_step hb (by omega)⟩
end Go.Proofs.Ythghndjfghdnnaa
