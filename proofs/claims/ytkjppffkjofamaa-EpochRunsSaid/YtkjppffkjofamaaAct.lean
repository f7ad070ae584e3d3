/- The contracts of package act's Over, New, Count, and of the law's steps and its closure. No condition but those that each contract bears. -/
import Derived.Test.YtkjppffkjofamaaRows
import Derived.Test.YtkjppffkjofamaaTouch
import Derived.WalkKit
import Derived.WalkSpells
import Derived.WalkLawsBesides
import Derived.Laws.EntriesVeiled
import Derived.KernelRfl
import Derived.Great.Ranges
import Derived.Deep.RegionHeld3
import Derived.Deep.AppendLies
import Derived.Deep.DrawnRows
import Derived.StillTactics
import Derived.Laws.Pointers
set_option linter.unusedVariables false
set_option linter.unusedSimpArgs false
namespace Go.Proofs.Ytkjppffkjofamaa
open Go.RowKit
/-- An act: what comes next, and how many steps were done. -/
structure ActAt (w : World) (b : Nat) (v : Value) (c : Int) : Prop where
  next : w.cell? ⟨b, 0, none⟩ = some v
  count : w.cell? ⟨b, 1, none⟩ = some (.int .i64 c)
  free : ∀ i, w.frozen? ⟨b, i, none⟩ = false
theorem ActAt.of_block {w w' : World} {b : Nat} {v : Value} {c : Int} (h : ActAt w b v c) (hb : w'.heap[b]? = w.heap[b]?) : ActAt w' b v c :=
  ⟨(World.cell?_of_block (w := w) hb).trans h.next, (World.cell?_of_block (w := w) hb).trans h.count, fun i => (World.frozen?_of_block (w := w) hb).trans (h.free i)⟩
theorem ActAt.lt {w : World} {b : Nat} {v : Value} {c : Int} (h : ActAt w b v c) : b < w.heap.size := lt_of_cell h.next
theorem ActAt.touch {w w' : World} {b : Nat} {v : Value} {c : Int} {S : Nat → Prop} (h : ActAt w b v c) (t : Touch S w w') (hs : ¬ S b) : ActAt w' b v c := h.of_block (t.block b h.lt hs)
/-- A function value or none. -/
def IsStep (v : Value) : Prop := v = .nilFunc ∨ ∃ f cs, v = .func (.func f) #[] cs
theorem builtAct_nil : Try.prog.built 105 #[(0, Value.nilFunc)].toList = some #[.nilFunc, .int .i64 0] := by kernel_rfl
theorem builtAct_func (f : Nat) (cs : Array Value) : Try.prog.built 105 #[(0, Value.func (.func f) #[] cs)].toList = some #[.func (.func f) #[] cs, .int .i64 0] := by kernel_rfl
def NewAct (v : Value) (w : World) (e : Ending) (w' : World) : Prop := ∃ b, e = .returned (.pointer (some ⟨b, 0, none⟩)) ∧ w.heap.size = b ∧ ActAt w' b v 0 ∧ Below w.heap.size w w' ∧ w'.heap.size = b + 1
theorem actNew_any (v : Value) (hv : IsStep v) (w : World) : Calls Try.prog 41 #[v] w (NewAct v w) := by
  have hb : ∃ cs : Array Value, Try.prog.built 105 #[(0, v)].toList = some cs ∧ cs = #[v, .int .i64 0] := by
    rcases hv with rfl | ⟨f, cs, rfl⟩
    · exact ⟨_, builtAct_nil, rfl⟩
    · exact ⟨_, builtAct_func f cs, rfl⟩
  obtain ⟨cs, hb, hcs⟩ := hb
  have HB : Hd _ := ⟨hb⟩
  have HC : Hd _ := ⟨hcs⟩
  clear hb hcs
  go_enter Try.func41, Try.ntmps41
  go_wp2_with (first | (refine wpList_buildTo (by rfl) 105 #[(0, Operand.tmp 3)] (by rfl) (some 4) (by rfl) cs ?_ ?_; (simp [Act.eval]; exact HB.out)) | (refine Great.wpList_boxTo (by rfl) 105 _ (by rfl) _ (by rfl) w.heap.size (by rfl) cs (by rfl) ?_))
  go_ret
  refine ⟨_, rfl, rfl, ⟨?_, ?_, fun i => World.frozen?_alloc_at _ _ _ _ rfl⟩, (Below.refl _ _).alloc (Nat.le_refl _) _, by simp⟩
  · rw [World.cell?_alloc_at _ _ _ _ rfl, HC.out]; rfl
  · rw [World.cell?_alloc_at _ _ _ _ rfl, HC.out]; rfl
@[go_sem] theorem eql_step_nil (w : World) : (binOp .eql 98 .nilFunc .nilFunc).run Try.prog w = .ok (.bool true) w := by kernel_rfl
@[go_sem] theorem eql_step_func (f : Nat) (cs : Array Value) (w : World) : (binOp .eql 98 (.func (.func f) #[] cs) .nilFunc).run Try.prog w = .ok (.bool false) w := by kernel_rfl
theorem over_none (w : World) : Calls Try.prog 28 #[.pointer none] w fun e w' => e = .returned (.bool true) ∧ w = w' := by
  go_enter Try.func28, Try.ntmps28
  go_wp2
  go_ret
  exact ⟨rfl, rfl⟩
theorem over_yes (b : Nat) (c : Int) (w : World) (h : ActAt w b .nilFunc c) : Calls Try.prog 28 #[.pointer (some ⟨b, 0, none⟩)] w fun e w' => e = .returned (.bool true) ∧ w = w' := by
  have hn := h.next
  go_enter Try.func28, Try.ntmps28
  go_wp2
  go_ret
  exact ⟨rfl, rfl⟩
theorem over_no (b : Nat) (c : Int) (f : Nat) (cs : Array Value) (w : World) (h : ActAt w b (.func (.func f) #[] cs) c) : Calls Try.prog 28 #[.pointer (some ⟨b, 0, none⟩)] w fun e w' => e = .returned (.bool false) ∧ w = w' := by
  have hn := h.next
  go_enter Try.func28, Try.ntmps28
  go_wp2
  go_ret
  exact ⟨rfl, rfl⟩
theorem count_any (b : Nat) (v : Value) (c : Int) (w : World) (h : ActAt w b v c) : Calls Try.prog 29 #[.pointer (some ⟨b, 0, none⟩)] w fun e w' => e = .returned (.int .i64 c) ∧ w = w' := by
  have hn := h.count
  go_enter Try.func29, Try.ntmps29
  go_wp2
  go_ret
  exact ⟨rfl, rfl⟩
theorem count_none (w : World) : Calls Try.prog 29 #[.pointer none] w fun e w' => e = .returned (.int .i64 0) ∧ w = w' := by
  go_enter Try.func29, Try.ntmps29
  go_wp2
  go_ret
  exact ⟨rfl, rfl⟩
end Go.Proofs.Ytkjppffkjofamaa
