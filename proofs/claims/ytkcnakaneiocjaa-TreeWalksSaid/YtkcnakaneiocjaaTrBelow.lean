/- Trees: below and Len, walked. No condition but those that each contract bears. -/
import Derived.Test.YtkcnakaneiocjaaTrAt
set_option linter.unusedVariables false
set_option linter.unusedSimpArgs false
namespace Go.Proofs.Ytkcnakaneiocjaa.PTr
open Go.RowKit Go.Proofs.YtkcnakaneiocjaaW.PrintWords Go.Proofs.YtkcnakaneiocjaaW.PrintLast Go.Proofs.YtkcnakaneiocjaaW.PrintMore
theorem method_201 (v : Value) (W : World) : (method 201 25 v "At").run Try.prog W = .ok (48, v) W := method_at 200 v W
attribute [local go_sem] method_201
theorem nd_cell (w : World) (n : Nd) (j : Nat) (u : Value) (h : (ncells n)[j]? = some u) : (w.alloc (.cells (nArr n) 60)).cell? ⟨w.heap.size, j, none⟩ = some u := by
  rw [World.cell?_alloc_new]
  simpa [nArr] using h
/-- A shelf, as the interface has it. -/
def shV (A : Option Addr) (len cap : Nat) : Value := .iface 25 (.slice A len cap)
def belowN (N : List Nd) (slot : Int) : Int := if (atN N slot).2 = false then 0 else if (atN N slot).1.kind = 2 then 1 else (atN N slot).1.cnt
set_option maxRecDepth 100000 in
set_option maxHeartbeats 400000 in
theorem below_any {A : Option Addr} {N : List Nd} {W : World} (h : ShAt A N W) (hN : N.length ≤ 1000000) (cap : Nat) (slot : Int) :
    Calls Try.prog 26 #[.iface 25 (.slice A N.length cap), .int .i64 slot] W fun e w' => e = .returned (.int .i64 (belowN N slot)) ∧ Hd (Below W.heap.size W w') := by
  have HA := Hd.mk (at_any h hN cap slot)
  have HF := Hd.mk (show belowN N slot = if (atN N slot).2 = false then 0 else if (atN N slot).1.kind = 2 then 1 else (atN N slot).1.cnt from rfl)
  obtain ⟨⟨n, is⟩, hr⟩ : ∃ r, atN N slot = r := ⟨_, rfl⟩
  rw [hr] at HA HF
  dsimp only at HA HF
  clear h hr
  cases is with
  | false =>
    replace HF := Hd.mk (HF.out.trans (if_pos rfl))
    go_enter Try.func26, Try.ntmps26
    go_wp2_with (first
      | (go_at_call 48; have hx := HA.out; (with_reducible refine hx.mono ?_); clear hx; rintro e w1 ⟨rfl, HB⟩)
      | ((with_reducible refine gate_store (t := 60) rfl ?_); refine wp_st60 rfl _ _ rfl _ (nArr n) rfl rfl rfl (narr_size _) (narr_one _) ?_))
    go_ret
    rw [HF.out]
    exact ⟨rfl, ⟨below_alloc HB.out _⟩⟩
  | true =>
    by_cases hk : n.kind = 2
    · replace HF := Hd.mk (HF.out.trans ((if_neg (by decide)).trans (if_pos hk)))
      have qk : (n.kind == 2) = true := by rw [hk]; rfl
      clear hk
      go_enter Try.func26, Try.ntmps26
      go_wp2_with (first
        | (go_at_call 48; have hx := HA.out; (with_reducible refine hx.mono ?_); clear hx; rintro e w1 ⟨rfl, HB⟩; have d0 := nd_cell w1 n 0 _ rfl; have d1 := nd_cell w1 n 1 _ rfl)
        | ((with_reducible refine gate_store (t := 60) rfl ?_); refine wp_st60 rfl _ _ rfl _ (nArr n) rfl rfl rfl (narr_size _) (narr_one _) ?_))
      go_ret
      rw [HF.out]
      exact ⟨rfl, ⟨below_alloc HB.out _⟩⟩
    · replace HF := Hd.mk (HF.out.trans ((if_neg (by decide)).trans (if_neg hk)))
      have qk : (n.kind == 2) = false := beq_eq_false_iff_ne.2 hk
      clear hk
      go_enter Try.func26, Try.ntmps26
      go_wp2_with (first
        | (go_at_call 48; have hx := HA.out; (with_reducible refine hx.mono ?_); clear hx; rintro e w1 ⟨rfl, HB⟩; have d0 := nd_cell w1 n 0 _ rfl; have d1 := nd_cell w1 n 1 _ rfl)
        | ((with_reducible refine gate_store (t := 60) rfl ?_); refine wp_st60 rfl _ _ rfl _ (nArr n) rfl rfl rfl (narr_size _) (narr_one _) ?_))
      go_ret
      rw [HF.out]
      exact ⟨rfl, ⟨below_alloc HB.out _⟩⟩
set_option maxRecDepth 100000 in
set_option maxHeartbeats 400000 in
theorem len_any {A : Option Addr} {N : List Nd} {W : World} (h : ShAt A N W) (hN : N.length ≤ 1000000) (cap : Nat) (root hgt : Int) :
    Calls Try.prog 15 #[.agg #[.int .i64 root, .int .i64 hgt], .iface 25 (.slice A N.length cap)] W fun e w' => e = .returned (.int .i64 (atN N root).1.cnt) ∧ Hd (Below W.heap.size W w') := by
  have HA := Hd.mk (at_any (h.on (below_alloc (Below.refl _ _) (.cells #[.int .i64 root, .int .i64 hgt] 27))) hN cap root)
  obtain ⟨⟨n, is⟩, hr⟩ : ∃ r, atN N root = r := ⟨_, rfl⟩
  rw [hr] at HA
  simp only [hr]
  dsimp only at HA
  clear h hr
  go_enter Try.func15, Try.ntmps15
  go_wp2_with (first
    | (go_at_call 48; have hx := HA.out; (with_reducible refine hx.mono ?_); clear hx; rintro e w1 ⟨rfl, HB⟩; have d1 := nd_cell w1 n 1 _ rfl)
    | ((with_reducible refine gate_store (t := 60) rfl ?_); refine wp_st60 rfl _ _ rfl _ (nArr n) rfl rfl rfl (narr_size _) (narr_one _) ?_))
  go_ret
  exact ⟨rfl, ⟨below_alloc ((below_alloc (Below.refl _ _) _).trans (HB.out.mono (by simp))) _⟩⟩
end Go.Proofs.Ytkcnakaneiocjaa.PTr
