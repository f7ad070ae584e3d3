/- The law's alone and moved: an act done at once. No condition but those that each contract bears. -/
import Derived.Test.YtkjppffkjofamaaEpochSeat
set_option linter.unusedVariables false
set_option linter.unusedSimpArgs false
namespace Go.Proofs.Ytkjppffkjofamaa
open Go.RowKit Go.Shelf
def AloneDone (Q : (Nat → Nat) → (Nat → Prop) → World → Prop) (ns : Nat → Nat) (foot : Nat → Prop) (W : World) (e : Ending) (w' : World) : Prop :=
  e = .returned (.bool true) ∧ (∃ did' foot', did' 0 = ns 0 ∧ Q did' foot' w') ∧ Touch foot W w'
set_option maxHeartbeats 1000000 in
theorem alone_any {Q : (Nat → Nat) → (Nat → Prop) → World → Prop} {bs ns did : Nat → Nat} {foot : Nat → Prop} {W : World} (D : Drive Q 1 bs ns) (h : Q did foot W) (hle : ns 0 ≤ did 0 + 12) :
    Calls Try.prog 24 #[.pointer (some ⟨bs 0, 0, none⟩)] W (AloneDone Q ns foot W) := by
  have h0 := D.le h 0 (by omega)
  have hall := rested_all (ns := ns) (n := 1) 12 did (fun i hi => by obtain rfl : i = 0 := (by omega); exact ⟨h0, hle⟩) 0 (by omega)
  have HR : Hd (∀ Wa : World, Wa = W.alloc (.cells #[.pointer (some ⟨bs 0, 0, none⟩)] 63) → Calls Try.prog 27 #[.int .i64 12, .slice (some ⟨W.heap.size, 0, none⟩) 1 1] Wa fun e w' => ∃ r : Int, e = .returned (.int .i64 r) ∧ Driven Q (rested ns 1 12 did).1 foot Wa w') := ⟨by
    rintro Wa rfl
    have hq := D.below (w := W) (w' := W.alloc (.cells #[.pointer (some ⟨bs 0, 0, none⟩)] 63)) h ((Below.refl _ W).alloc (Nat.le_refl _) _)
    refine (rest_any D hq (some ⟨W.heap.size, 0, none⟩) 1 (fun j hj => ?_) (fun ba oa e => ?_) 12 (by omega)).mono ?_
    · obtain rfl : j = 0 := by omega
      exact ⟨_, _, rfl, blk_cell (heap_alloc_new W _) rfl⟩
    · cases e
      exact ⟨by simp, fun hf => by have := D.foot_lt h _ hf; omega⟩
    · rintro e w' ⟨rfl, hD⟩; exact ⟨_, rfl, hD⟩⟩
  have HD : Hd _ := ⟨D⟩
  have HT : Hd _ := ⟨hall⟩
  clear D h h0 hle hall
  go_enter Try.func24, Try.ntmps24
  go_wp2_with (first
    | (go_at_call 27; refine (HR.out _ rfl).mono ?_; rintro e w2 ⟨r, rfl, hQ, hT, hK⟩; have HO : Hd _ := ⟨HD.out.over hQ 0 (by omega)⟩; have HQ : Hd _ := ⟨hQ⟩; have HTT : Hd _ := ⟨hT⟩; clear hQ hT hK)
    | (go_at_call 28; refine HO.out.mono ?_; rintro e w3 ⟨rfl, rfl⟩))
  go_ret
  refine ⟨?_, ⟨_, _, HT.out, HQ.out⟩, ((Touch.refl foot W).alloc _).trans HTT.out⟩
  rw [HT.out]; simp
end Go.Proofs.Ytkjppffkjofamaa
