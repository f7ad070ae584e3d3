/- Acts of any kind, stepped side by side: what an act is told by, and Step, Turn, Going, Rest over it. No condition but those that each contract bears. -/
import Derived.Test.YtkjppffkjofamaaAct
import Derived.Test.YtkjppffkjofamaaRange
import Derived.RangeFuncNested
import Derived.RangeFuncBound
import Derived.RangeFuncCalls
import Derived.Shelf.Abstract
import Derived.Shelf.RegionOpen
import Derived.OwnWalkIn
import Derived.TacticsInMore
import Derived.LoopNIn
import Derived.LoopIn
import Derived.WalkMore
import Derived.Sort.LoopGhostIn
set_option linter.unusedVariables false
set_option linter.unusedSimpArgs false
namespace Go.Proofs.Ytkjppffkjofamaa
open Go.RowKit Go.Shelf
/-- What a cell is known in holds cells. -/
theorem cells_of {w : World} {a : Addr} {v : Value} (h : w.cell? a = some v) : ∃ c t f, w.heap[a.block]? = some (.cells c t f) := by
  unfold World.cell? at h
  cases e : w.heap[a.block]? with
  | none => rw [e] at h; cases h
  | some o =>
    rw [e] at h
    cases o with
    | cells c t f => exact ⟨c, t, f, rfl⟩
    | _ => cases h
theorem touch_set (w : World) (b i : Nat) (u : Value) : Touch (· = b) w (w.setCell ⟨b, i, none⟩ u) := (Touch.refl (· = b) w).setCell (p := ⟨b, i, none⟩) (.inl rfl) u
theorem ActAt.counted {w : World} {b : Nat} {v : Value} {c : Int} (h : ActAt w b v c) (x : Int) : ActAt (w.setCell ⟨b, 1, none⟩ (.int .i64 x)) b v x :=
  ⟨by rw [setCell_get _ _ _ _ _ _ h.count, if_neg (by omega)]; exact h.next, by rw [setCell_get _ _ _ _ _ _ h.count, if_pos rfl], fun i => by rw [World.frozen?_setCell]; exact h.free i⟩
theorem ActAt.nexted {w : World} {b : Nat} {v : Value} {c : Int} (h : ActAt w b v c) (v' : Value) : ActAt (w.setCell ⟨b, 0, none⟩ v') b v' c :=
  ⟨by rw [setCell_get _ _ _ _ _ _ h.next, if_pos rfl], by rw [setCell_get _ _ _ _ _ _ h.next, if_neg (by omega)]; exact h.count, fun i => by rw [World.frozen?_setCell]; exact h.free i⟩
theorem step_over (b : Nat) (c : Int) (w : World) (h : ActAt w b .nilFunc c) : Calls Try.prog 31 #[.pointer (some ⟨b, 0, none⟩)] w fun e w' => e = .returned (.bool true) ∧ w = w' := by
  go_enter Try.func31, Try.ntmps31
  go_wp2_with (go_at_call 28; refine (over_yes b c _ h).mono ?_; rintro e w' ⟨rfl, rfl⟩)
  go_ret
  exact ⟨rfl, rfl⟩
theorem step_none (w : World) : Calls Try.prog 31 #[.pointer none] w fun e w' => e = .returned (.bool true) ∧ w = w' := by
  go_enter Try.func31, Try.ntmps31
  go_wp2_with (go_at_call 28; refine (over_none _).mono ?_; rintro e w' ⟨rfl, rfl⟩)
  go_ret
  exact ⟨rfl, rfl⟩
def nilB (v : Value) : Bool := match v with | .nilFunc => true | _ => false
set_option maxHeartbeats 1000000 in
/-- Step at an act whose next step is any function value: what that comes to is the act's next. -/
theorem act_step (b f : Nat) (cs : Array Value) (c : Int) (w : World) (R : Value → World → Prop) (eg : ∀ args w, (callFunc f args).run Try.prog w = .ok (.enter f args) w) (ha : ActAt w b (.func (.func f) #[] cs) c) (hc0 : 0 ≤ c) (hc1 : c ≤ 100000)
    (hcall : Calls Try.prog f cs (w.setCell ⟨b, 1, none⟩ (.int .i64 (c + 1))) fun e w2 => ∃ v', e = .returned v' ∧ IsStep v' ∧ w2.heap[b]? = (w.setCell ⟨b, 1, none⟩ (.int .i64 (c + 1))).heap[b]? ∧ R v' w2) :
    Calls Try.prog 31 #[.pointer (some ⟨b, 0, none⟩)] w fun e w' => ∃ v' w2, e = .returned (.bool (nilB v')) ∧ R v' w2 ∧ w' = w2.setCell ⟨b, 0, none⟩ v' ∧ ActAt w' b v' (c + 1) := by
  have hc : w.cell? ⟨b, 1, none⟩ = some (.int .i64 c) := ha.count
  have hnx := (ha.counted (c + 1)).next
  have f1 := ha.free 1
  have f0 := ha.free 0
  have HS : Hd _ := ⟨hcall⟩
  have HA : Hd _ := ⟨ha⟩
  have h0 : cs = #[] ++ cs := by simp
  have HC : Hd _ := ⟨h0⟩
  clear hcall ha h0
  go_enter Try.func31, Try.ntmps31
  go_wp2_with (go_at_call 28; refine (over_no b c _ _ _ HA.out).mono ?_; rintro e w' ⟨rfl, rfl⟩)
  refine HS.out.mono ?_
  rintro e w2 ⟨v', rfl, hv, hbk, hR⟩
  have ha2 : ActAt w2 b (.func (.func f) #[] cs) (c + 1) := (HA.out.counted (c + 1)).of_block hbk
  have hnx2 := ha2.next
  have f2 := ha2.free 0
  have ha3 := ha2.nexted v'
  have H3 : Hd _ := ⟨ha3⟩
  have HR : Hd _ := ⟨hR⟩
  clear ha3 hR hbk HS HA ha2
  rcases hv with rfl | ⟨f', cs', rfl⟩
  · go_wp2_with (go_at_call 28; refine (over_yes b (c + 1) _ H3.out).mono ?_; rintro e w' ⟨rfl, rfl⟩)
    go_ret
    exact ⟨_, _, rfl, HR.out, rfl, H3.out⟩
  · go_wp2_with (go_at_call 28; refine (over_no b (c + 1) _ _ _ H3.out).mono ?_; rintro e w' ⟨rfl, rfl⟩)
    go_ret
    exact ⟨_, _, rfl, HR.out, rfl, H3.out⟩
def bump (did : Nat → Nat) (i : Nat) : Nat → Nat := fun j => if j = i then did j + 1 else did j
/-- After some steps of acts whose blocks lie in foot. -/
def Driven (Q : (Nat → Nat) → (Nat → Prop) → World → Prop) (did : Nat → Nat) (foot : Nat → Prop) (w w' : World) : Prop :=
  Q did (fun k => foot k ∨ (w.heap.size ≤ k ∧ k < w'.heap.size)) w' ∧ Touch foot w w' ∧ KeepsOthers w w'
/-- n acts in blocks bs i, each with ns i steps, did i of them done; foot: the blocks that are theirs. -/
structure Drive (Q : (Nat → Nat) → (Nat → Prop) → World → Prop) (n : Nat) (bs ns : Nat → Nat) : Prop where
  n10 : n ≤ 10
  le : ∀ {did foot W}, Q did foot W → ∀ i, i < n → did i ≤ ns i
  foot_lt : ∀ {did foot W}, Q did foot W → ∀ k, foot k → k < W.heap.size
  over : ∀ {did foot W}, Q did foot W → ∀ i, i < n → Calls Try.prog 28 #[.pointer (some ⟨bs i, 0, none⟩)] W fun e w' => e = .returned (.bool (decide (did i = ns i))) ∧ W = w'
  step : ∀ {did foot W}, Q did foot W → ∀ i, i < n → did i < ns i → Calls Try.prog 31 #[.pointer (some ⟨bs i, 0, none⟩)] W fun e w' => e = .returned (.bool (decide (ns i - did i - 1 = 0))) ∧ Driven Q (bump did i) foot W w'
  move : ∀ {did foot W} (W' : World), Q did foot W → W.heap.size ≤ W'.heap.size → (∀ k c t f, foot k → W.heap[k]? = some (.cells c t f) → W'.heap[k]? = W.heap[k]?) → Q did foot W'
  grow : ∀ {did foot W} (foot' : Nat → Prop), Q did foot W → (∀ k, foot k → foot' k) → (∀ k, foot' k → k < W.heap.size) → Q did foot' W
variable {Q : (Nat → Nat) → (Nat → Prop) → World → Prop} {n : Nat} {bs ns : Nat → Nat}
theorem Drive.touch {S : Nat → Prop} {w w' : World} {did : Nat → Nat} {foot : Nat → Prop} (D : Drive Q n bs ns) (h : Q did foot w) (ht : Touch S w w') (hs : ∀ k, foot k → ¬ S k) : Q did foot w' :=
  D.move w' h ht.size (fun k _ _ _ hk _ => ht.block k (D.foot_lt h k hk) (hs k hk))
theorem Drive.below {w w' : World} {did : Nat → Nat} {foot : Nat → Prop} (D : Drive Q n bs ns) (h : Q did foot w) (hb : Below w.heap.size w w') : Q did foot w' :=
  D.move w' h hb.size (fun k _ _ _ hk _ => hb.block k (D.foot_lt h k hk))
theorem Driven.same {w : World} {did : Nat → Nat} {foot : Nat → Prop} (D : Drive Q n bs ns) (h : Q did foot w) : Driven Q did foot w w :=
  ⟨D.grow _ h (fun _ hk => .inl hk) (fun k hk => hk.elim (D.foot_lt h k) (fun e => e.2)), Touch.refl _ _, KeepsOthers.refl _⟩
theorem Driven.step {w w1 w2 : World} {did2 : Nat → Nat} {foot : Nat → Prop} (D : Drive Q n bs ns) (ht : Touch foot w w1) (hk1 : KeepsOthers w w1) (hl : ∀ k, foot k → k < w1.heap.size) (h : Driven Q did2 (fun k => foot k ∨ (w.heap.size ≤ k ∧ k < w1.heap.size)) w1 w2) : Driven Q did2 foot w w2 := by
  obtain ⟨hF, hT, hK⟩ := h
  have hs := ht.size
  have hs2 := hT.size
  refine ⟨D.grow _ hF (fun k hk => ?_) (fun k hk => ?_), ht.step hT (fun k hk e => ?_), hk1.trans hK⟩
  · rcases hk with (hk | hk) | hk
    · exact .inl hk
    · exact .inr ⟨hk.1, by omega⟩
    · exact .inr ⟨by omega, hk.2⟩
  · rcases hk with hk | hk
    · have := hl k hk; omega
    · exact hk.2
  · rcases e with e | e
    · exact e
    · omega
end Go.Proofs.Ytkjppffkjofamaa
