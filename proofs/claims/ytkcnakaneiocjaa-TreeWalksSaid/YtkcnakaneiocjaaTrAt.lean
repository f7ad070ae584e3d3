/- Trees: a shelf's At, walked. No condition but those that the contract bears. -/
import Derived.Test.YtkcnakaneiocjaaTrNd
set_option linter.unusedVariables false
set_option linter.unusedSimpArgs false
namespace Go.Proofs.Ytkcnakaneiocjaa.PTr
open Go.RowKit Go.Proofs.YtkcnakaneiocjaaW.PrintWords Go.Proofs.YtkcnakaneiocjaaW.PrintLast Go.Proofs.YtkcnakaneiocjaaW.PrintMore
set_option maxRecDepth 100000 in
set_option maxHeartbeats 1000000 in
theorem at_any {A : Option Addr} {N : List Nd} {W : World} (h : ShAt A N W) (hN : N.length ≤ 1000000) (cap : Nat) (slot : Int) :
    Calls Try.prog 48 #[.slice A N.length cap, .int .i64 slot] W fun e w' => e = .returned (.tuple #[.agg (nArr (atN N slot).1), .bool (atN N slot).2]) ∧ Hd (Below W.heap.size W w') := by
  have HH := Hd.mk h
  clear h
  by_cases h0 : slot < 0
  · have q0 : decide (slot < 0) = true := decide_eq_true h0
    have HF := Hd.mk (show atN N slot = (Nd.zero, false) by unfold atN; rw [if_neg (by omega)])
    clear h0
    go_enter Try.func48, Try.ntmps48
    go_upto_region 2 with fail
    go_wp2_with ((with_reducible refine gate_store (t := 60) rfl ?_); refine wp_st60 rfl _ _ rfl _ (nArr Nd.zero) rfl rfl rfl rfl (narr_one _) ?_)
    refine bodyPost_ret (res_node rfl _ _ W.heap.size (nArr Nd.zero) false (narr_size _) rfl rfl (heap_alloc_new W _)) rfl ?_
    rw [HF.out]
    exact ⟨rfl, ⟨below_alloc (Below.refl _ _) _⟩⟩
  · have q0 : decide (slot < 0) = false := decide_eq_false h0
    obtain ⟨i, rfl⟩ : ∃ i : Nat, slot = (i : Int) := ⟨slot.toNat, by omega⟩
    by_cases h1 : i < N.length
    · obtain ⟨g, o, rfl, hg, hcell⟩ := HH.out.cell (by omega)
      have q1 : decide (N.length ≤ i) = false := decide_eq_false (by omega)
      have b0 : (0 : Int) ≤ (i : Int) := by omega
      have b1 : (i : Int) < (N.length : Int) := by omega
      have ck : W.cell? ⟨g, o + i * 26, none⟩ = some (.int .u8 N[i].kind) := hcell i h1 0 _ rfl
      have hld : ∀ j u, (nArr N[i])[j]? = some u → (W.alloc (.cells (nArr Nd.zero) 60)).cell? ⟨g, o + i * 26 + j, none⟩ = some u := fun j u hu => ((below_alloc (Below.refl _ _) _).cell (p := ⟨g, o + i * 26 + j, none⟩) hg).trans (hcell i h1 j u (by simpa [nArr] using hu))
      have HFa := Hd.mk (show atN N (i : Int) = if N[i].kind = 0 then (Nd.zero, false) else (N[i], true) by
        unfold atN; rw [if_pos (by omega), Int.toNat_natCast, List.getElem?_eq_getElem h1])
      obtain ⟨n, hn⟩ : ∃ n, N[i] = n := ⟨_, rfl⟩
      rw [hn] at ck hld HFa
      have HLd := Hd.mk hld
      clear hcell hn hld h0 h1
      by_cases hk : n.kind = 0
      · have qk : (n.kind == 0) = true := by rw [hk]; rfl
        have HF := Hd.mk (HFa.out.trans (if_pos hk))
        clear hk HFa
        go_enter Try.func48, Try.ntmps48
        go_upto_region 2 with fail
        go_wp2_with ((with_reducible refine gate_store (t := 60) rfl ?_); refine wp_st60 rfl _ _ rfl _ (nArr Nd.zero) rfl rfl rfl rfl (narr_one _) ?_)
        refine bodyPost_ret (res_node rfl _ _ W.heap.size (nArr Nd.zero) false (narr_size _) rfl rfl (heap_alloc_new W _)) rfl ?_
        rw [HF.out]
        exact ⟨rfl, ⟨below_alloc (Below.refl _ _) _⟩⟩
      · have qk : (n.kind == 0) = false := beq_eq_false_iff_ne.2 hk
        have HF := Hd.mk (HFa.out.trans (if_neg hk))
        clear hk HFa
        go_enter Try.func48, Try.ntmps48
        go_upto_region 3 with fail
        go_wp2_with (first
          | ((with_reducible refine gate_load (t := 60) rfl ?_); (refine wp_ld60 rfl _ rfl g (o + i * 26) (nArr n) (by simp [go_sem]) (narr_size _) HLd.out ?_))
          | ((with_reducible refine gate_store (t := 60) rfl ?_); (refine wp_st60 rfl _ _ rfl _ (nArr n) rfl rfl rfl (narr_size _) (narr_one _) ?_)))
        refine bodyPost_ret (res_node rfl _ _ W.heap.size (nArr n) true (narr_size _) rfl rfl (heap_alloc_new W _)) rfl ?_
        rw [HF.out]
        exact ⟨rfl, ⟨below_alloc (Below.refl _ _) _⟩⟩
    · have q1 : decide (N.length ≤ i) = true := decide_eq_true (by omega)
      have HF := Hd.mk (show atN N (i : Int) = (Nd.zero, false) by
        unfold atN; rw [if_pos (by omega), Int.toNat_natCast, List.getElem?_eq_none (by omega)])
      clear h0 h1
      go_enter Try.func48, Try.ntmps48
      go_upto_region 2 with fail
      go_wp2_with ((with_reducible refine gate_store (t := 60) rfl ?_); refine wp_st60 rfl _ _ rfl _ (nArr Nd.zero) rfl rfl rfl rfl (narr_one _) ?_)
      refine bodyPost_ret (res_node rfl _ _ W.heap.size (nArr Nd.zero) false (narr_size _) rfl rfl (heap_alloc_new W _)) rfl ?_
      rw [HF.out]
      exact ⟨rfl, ⟨below_alloc (Below.refl _ _) _⟩⟩
end Go.Proofs.Ytkcnakaneiocjaa.PTr
