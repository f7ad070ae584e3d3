/- The walks of the laws of chapter 3: MemPacks, MemApart, MemRuns. -/
import Derived.Test.YthghndjfghdnnaaMem
import Derived.OpenShut
namespace Go.Proofs.Ythghndjfghdnnaa
open Go.RowKit
set_option maxHeartbeats 1000000 in
theorem memAwake (w : World) : Calls Try.prog 23 #[] w fun e w' => e = .returned (.bool true) ∧ Below w.heap.size w w' := by
  go_enter Try.func23, Try.ntmps23
  go_wp2_with fail
  refine (new_yes 1 w (by omega) (by omega)).mono ?_
  rintro e w1 ⟨b, rfl, hge, hm, ht, hs⟩
  go_wp2_with fail
  refine (store_any _ b 0 5 w1 hm).mono ?_
  rintro e w2 ⟨rfl, hm2, ht2, hs2⟩
  go_wp2_with fail
  have c := cas_any _ b 0 5 7 w2 hm2
  rw [show MemS.casOk _ 0 5 = true from rfl] at c
  refine c.mono ?_
  clear c
  rintro e w3 ⟨rfl, hm3, ht3, hs3⟩
  go_wp2_with fail
  have c := time_any _ b w3 hm3
  rw [show MemS.time _ = 2 from rfl] at c
  refine c.mono ?_
  clear c
  rintro e w3' ⟨rfl, rfl⟩
  go_wp2_with fail
  have c := load_any _ b 0 w3 hm3
  rw [show MemS.get _ 0 = 7 from rfl] at c
  refine c.mono ?_
  clear c
  rintro e w4 ⟨rfl, hm4, ht4, hs4⟩
  go_wp2_with fail
  refine (pack_any (-1) 0 w4 (by omega) (by omega)).mono ?_
  rw [show packed (-1) 0 = 0 from rfl]
  rintro e w4' ⟨rfl, rfl⟩
  go_wp2_with fail
  refine (place_any 0 w4).mono ?_
  rintro e w4' ⟨rfl, rfl⟩
  go_wp2_with fail
  go_ret
  have t : Touch (· = b) w w4 := (((ht.mono (fun _ _ h => h.elim)).step ht2 (fun _ _ h => h)).step ht3 (fun _ _ h => h)).step ht4 (fun _ _ h => h)
  exact ⟨rfl, t.below (Nat.le_refl _) (fun k hk e => by omega)⟩
theorem packed_place (p t : Int) (h : -1 ≤ p ∧ p < 2147483647) : packed p t % 4294967296 - 1 = p := by unfold packed; rw [if_pos h]; omega
theorem packed_tag (p t : Int) (h0 : 0 ≤ t) (h1 : t < 4294967296) (h : -1 ≤ p ∧ p < 2147483647) : packed p t / 4294967296 % 4294967296 = t := by unfold packed; rw [if_pos h]; omega
set_option maxHeartbeats 1000000 in
theorem memPacks_any (p t n : Int) (w : World) (h0 : 0 ≤ t) (h1 : t < 4294967296) (h2 : 0 ≤ n) (h3 : n < 18446744073709551616) :
    Calls Try.prog 4 #[.int .i64 p, .int .u32 t, .int .u64 n] w fun e w' => e = .returned (.bool true) ∧ Below w.heap.size w w' := by
  by_cases h : -1 ≤ p ∧ p < 2147483647
  · have e1 : (packed p t % 4294967296 - 1 == p) = true := by rw [packed_place p t h]; simp
    have e2 : (packed p t / 4294967296 % 4294967296 == t) = true := by rw [packed_tag p t h0 h1 h]; simp
    obtain ⟨h4, h5⟩ := h
    go_enter Try.func4, Try.ntmps4
    go_wp2_with (first | (go_at_call 19; refine (pack_any p t _ h0 h1).mono ?_; rintro e w' ⟨rfl, rfl⟩) | (go_at_call 20; refine (refPack_any p t _ h0 h1).mono ?_; rintro e w' ⟨rfl, rfl⟩) | (go_at_call 21; refine (place_any _ _).mono ?_; rintro e w' ⟨rfl, rfl⟩) | (go_at_call 22; refine (tag_any _ _).mono ?_; rintro e w' ⟨rfl, rfl⟩) | (go_at_call 23; refine (memAwake _).mono ?_; rintro e w' ⟨rfl, hb⟩))
    go_ret
    exact ⟨rfl, hb⟩
  · rcases (by omega : p < -1 ∨ 2147483647 ≤ p) with h | h
    all_goals
      go_enter Try.func4, Try.ntmps4
      go_wp2_with (first | (go_at_call 19; refine (pack_any p t _ h0 h1).mono ?_; rintro e w' ⟨rfl, rfl⟩) | (go_at_call 20; refine (refPack_any p t _ h0 h1).mono ?_; rintro e w' ⟨rfl, rfl⟩) | (go_at_call 21; refine (place_any _ _).mono ?_; rintro e w' ⟨rfl, rfl⟩) | (go_at_call 22; refine (tag_any _ _).mono ?_; rintro e w' ⟨rfl, rfl⟩) | (go_at_call 23; refine (memAwake _).mono ?_; rintro e w' ⟨rfl, hb⟩))
      go_ret
      exact ⟨rfl, hb⟩
theorem memPacks_std (w : World) (p : Int) (_hp : (Lit.int .i64 p).wf = true) (t : Int) (ht : (Lit.int .u32 t).wf = true) (n : Int) (hn : (Lit.int .u64 n).wf = true) :
    Calls Try.prog 4 #[.int .i64 p, .int .u32 t, .int .u64 n] w fun e w' => e = .returned (.bool true) ∧ Below w.heap.size w w' := by
  have := bounds_u32 ht
  have := bounds_u64 hn
  exact memPacks_any p t n w (by omega) (by omega) (by omega) (by omega)
end Go.Proofs.Ythghndjfghdnnaa
