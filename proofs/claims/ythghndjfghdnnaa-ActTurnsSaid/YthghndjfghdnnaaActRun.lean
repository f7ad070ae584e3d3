/- Run, the whole chain, and a step of it. No condition but those that each contract bears. -/
import Derived.Test.YthghndjfghdnnaaActChain
namespace Go.Proofs.Ythghndjfghdnnaa
open Go.RowKit
def RunGoPost (A : Nat) (th : Value) (w : World) (e : Ending) (w' : World) : Prop :=
  ∃ s t, e = .returned (.func (.func 40) #[] #[.pointer (some ⟨s, 0, none⟩), .pointer (some ⟨t, 0, none⟩)]) ∧ w.heap.size ≤ s ∧ w.heap.size ≤ t ∧ w'.cell? ⟨s, 0, none⟩ = some (.pointer (some ⟨A, 0, none⟩)) ∧ w'.cell? ⟨t, 0, none⟩ = some th ∧ Below w.heap.size w w'
theorem run_go (A : Nat) (f : Nat) (cs : Array Value) (c : Int) (g : Nat) (gs : Array Value) (w : World) (ha : ActAt w A (.func (.func f) #[] cs) c) :
    Calls Try.prog 11 #[.pointer (some ⟨A, 0, none⟩), .func (.func g) #[] gs] w (RunGoPost A (.func (.func g) #[] gs) w) := by
  have hb : Below w.heap.size w ((w.alloc (.cells #[.pointer (some ⟨A, 0, none⟩)] 29)).alloc (.cells #[.func (.func g) #[] gs] 26)) := ((Below.refl _ w).alloc (Nat.le_refl _) _).alloc (by simp) _
  have ha2 := ha.of_block (hb.block A ha.lt)
  have HA : Hd _ := ⟨ha2⟩
  clear ha2 ha
  go_enter Try.func11, Try.ntmps11
  go_wp2_with (go_at_call 15; refine (over_no A c _ _ _ HA.out).mono ?_; rintro e w' ⟨rfl, rfl⟩)
  go_ret
  refine ⟨w.heap.size, w.heap.size + 1, rfl, Nat.le_refl _, by omega, ?_, ?_, hb⟩
  · simp [go_sem]
  · simp [go_sem]
theorem run_over (base : Nat) (V : Vars) (ns : List Nat) (i ib : Nat) (xs : List Int) (row : Option Nat) (hc : ChainOk base V ns (i + 1) xs row) (hi : i < 10) (A : Nat) (c : Int) (w : World) (ha : ActAt w A .nilFunc c) (he : EnvAt w base V ns i xs row) (hib : w.cell? ⟨ib, 0, none⟩ = some (.int .i64 i)) (hne : ib ≠ V.ca) :
    Calls Try.prog 11 #[.pointer (some ⟨A, 0, none⟩), .func (.func 13) #[] #[.pointer (some ⟨V.ca, 0, none⟩), .pointer (some ⟨V.ch, 0, none⟩), .pointer (some ⟨ib, 0, none⟩)]] w (ChainPost base V ns (i + 1) xs row w) := by
  have hb : Below w.heap.size w ((w.alloc (.cells #[.pointer (some ⟨A, 0, none⟩)] 29)).alloc (.cells #[.func (.func 13) #[] #[.pointer (some ⟨V.ca, 0, none⟩), .pointer (some ⟨V.ch, 0, none⟩), .pointer (some ⟨ib, 0, none⟩)]] 26)) := ((Below.refl _ w).alloc (Nat.le_refl _) _).alloc (by simp) _
  have ha2 := ha.of_block (hb.block A ha.lt)
  have th := then_any base V ns i ib xs row hc hi _ (he.below hb) ((hb.cell (p := ⟨ib, 0, none⟩) (lt_of_cell hib)).trans hib) hne
  have HA : Hd _ := ⟨ha2⟩
  have HT : Hd _ := ⟨th⟩
  clear ha2 ha th he hib hc
  go_enter Try.func11, Try.ntmps11
  go_wp2_with (go_at_call 15; refine (over_yes A c _ HA.out).mono ?_; rintro e w' ⟨rfl, rfl⟩)
  refine HT.out.mono ?_
  rintro e w' ⟨v, i', rfl, hle, hz, hE, hS, hT⟩
  have HE : Hd _ := ⟨hE⟩
  have HS : Hd _ := ⟨hS⟩
  have HZ : Hd _ := ⟨hz⟩
  clear hE hS hz HT
  go_wp2_with fail
  go_ret
  refine ⟨_, i', rfl, hle, HZ.out, HE.out, ?_, (Touch.of_below hb _).step hT (fun k _ h => h)⟩
  rcases HS.out with h | ⟨h1, h2, h3⟩
  · exact .inl h
  · exact .inr ⟨h1, h2, h3.touch (Touch.refl (fun _ => False) _) (fun k _ hk => ⟨id, by simp at hk; omega⟩)⟩
def RunPost (base : Nat) (V : Vars) (ns : List Nat) (i : Nat) (xs : List Int) (row : Option Nat) (B : Nat) (w : World) (e : Ending) (w' : World) : Prop :=
  ∃ v i', e = .returned v ∧ i ≤ i' ∧ (∀ k, i ≤ k → k < i' → nthN ns k = 0) ∧ EnvAt w' base V ns i' xs row ∧ Stands w' V ns i' v (fun k => B ≤ k) ∧ Touch (fun k => k = V.ca) w w'
theorem run_any (base : Nat) (V : Vars) (ns : List Nat) (i ib A B : Nat) (nx : Value) (xs : List Int) (row : Option Nat) (hc : ChainOk base V ns (i + 1) xs row) (hi : i < ns.length) (w : World) (he : EnvAt w base V ns i xs row) (ha : ActAt w A nx 0)
    (hn : NextIs w V.lg 0 i (nthN ns i) nx (fun k => B ≤ k ∧ k ≠ A)) (hA : B ≤ A) (hB : B ≤ w.heap.size) (hib : w.cell? ⟨ib, 0, none⟩ = some (.int .i64 i)) (hib2 : B ≤ ib ∧ ib ≠ A) (hca : V.ca < B) :
    Calls Try.prog 11 #[.pointer (some ⟨A, 0, none⟩), .func (.func 13) #[] #[.pointer (some ⟨V.ca, 0, none⟩), .pointer (some ⟨V.ch, 0, none⟩), .pointer (some ⟨ib, 0, none⟩)]] w (RunPost base V ns i xs row B w) := by
  have hsm := he.small
  have hsm2 := hsm.2 i
  rcases hn with ⟨h0, rfl⟩ | ⟨h0, b1, b2, b3, rfl, ho, c1, c2, c3⟩
  · refine (run_over base V ns i ib xs row hc (by omega) A 0 w ha he hib (by omega)).mono ?_
    rintro e w' ⟨v, i', rfl, hle, hz, hE, hS, hT⟩
    refine ⟨v, i', rfl, by omega, fun k h1 h2 => ?_, hE, ?_, hT⟩
    · by_cases e : k = i
      · rw [e]; exact h0
      · exact hz k (by omega) h2
    · rcases hS with h | ⟨h1, h2, h3⟩
      · exact .inl h
      · exact .inr ⟨h1, h2, h3.touch (Touch.refl (fun _ => False) _) (fun k _ hk => ⟨id, by omega⟩)⟩
  · refine (run_go A _ _ 0 _ _ w ha).mono ?_
    rintro e w' ⟨s, t, rfl, hs, ht, d1, d2, hb⟩
    have lA := ha.lt
    refine ⟨_, i, rfl, Nat.le_refl _, fun k h1 h2 => by omega, he.below hb, .inr ⟨hi, h0, ⟨s, t, A, ib, _, 0, rfl, ⟨by omega, by omega, hib2.1, hA⟩, ⟨by omega, by omega, hib2.2⟩, d1, d2, (hb.cell (p := ⟨ib, 0, none⟩) (lt_of_cell hib)).trans hib, ha.of_block (hb.block A lA), ⟨by omega, by omega⟩, ?_⟩⟩, Touch.of_below hb _⟩
    exact (NextIs.move (ok := fun k => B ≤ k ∧ k ≠ A) (.inr ⟨h0, b1, b2, b3, rfl, ho, c1, c2, c3⟩) (fun k hk _ => hb.block k hk) (fun k _ hk => hk))
set_option maxHeartbeats 2000000 in
theorem chain_step (base : Nat) (V : Vars) (ns : List Nat) (i : Nat) (xs : List Int) (row : Option Nat) (hc : ChainOk base V ns (i + 1) xs row) (hi : i < ns.length) : ChainOk base V ns i xs row := by
  intro w he
  obtain ⟨A, c, hn, hk⟩ := he.n
  obtain ⟨rfl, hcell⟩ := hk i hi
  obtain ⟨hsm, hsm2⟩ := he.small
  have hni := hsm2 i
  have l1 := lt_of_cell hn
  have l2 := lt_of_cell hcell
  have hca := lt_of_cell he.called
  obtain ⟨a1, a2, _⟩ := he.apart
  have hlo : (0 : Int) ≤ (i : Int) := by omega
  have hhi : (i : Int) < (ns.length : Int) := by omega
  have hb : Below w.heap.size w (w.alloc (.cells #[.int .i64 i] 3)) := (Below.refl _ w).alloc (Nat.le_refl _) _
  have HE : Hd (EnvAt (w.alloc (.cells #[.int .i64 i] 3)).drew base V ns i xs row) := ⟨he.below hb.drew⟩
  have HC : Hd _ := ⟨hc⟩
  clear he hc hk
  go_enter Try.func10, Try.ntmps10
  go_wp2
  go_cut [6] (fun v wx => Hd (ChainPost base V ns i xs row w (.returned v) wx))
  case first =>
    go_region_held3 (fun w' => w'.cell? ⟨V.nv, 0, none⟩ = some (.slice (some ⟨V.nr, 0, none⟩) ns.length c) ∧ w'.cell? ⟨V.nr, i, none⟩ = some (.int .i64 (nthN ns i : Int)) ∧ w'.cell? ⟨w.heap.size, 0, none⟩ = some (.int .i64 i))
      (simp [go_sem, *])
      (first
        | (go_at_call 12; refine (steps_any V.lg 0 i (nthN ns i) _).mono ?_; rintro e w1 ⟨A, nx, rfl, hbA, ha, hnx, hb1⟩; have k1 := (hb1.cell (p := ⟨V.nv, 0, none⟩) (by simp; omega)); have k2 := (hb1.cell (p := ⟨V.nr, i, none⟩) (by simp; omega)); have k3 := (hb1.cell (p := ⟨w.heap.size, 0, none⟩) (by simp));
           have HE1 : Hd _ := ⟨HE.out.below hb1⟩; have HA : Hd _ := ⟨ha⟩; have HN : Hd _ := ⟨hnx⟩; have hs1 := hb1.size; simp only [World.size_drew, World.size_alloc] at hbA hs1; clear ha hnx)
        | (go_at_call 11; refine (run_any base V ns i w.heap.size A w.heap.size nx xs row HC.out hi _ HE1.out HA.out (HN.out.move (fun _ _ _ => rfl) (fun k _ hk => by simp at hk; omega)) (by omega) (by omega) (k3.trans (by simp [go_sem])) (by omega) (by omega)).mono ?_;
           rintro e w2 ⟨v, i', rfl, hle, hz, hE2, hS2, hT2⟩; have m1 := (hT2.cell (p := ⟨V.nv, 0, none⟩) (by simp; omega) a1); have m2 := (hT2.cell (p := ⟨V.nr, i, none⟩) (by simp; omega) a2); have m3 := (hT2.cell (p := ⟨w.heap.size, 0, none⟩) (by simp; omega) (by simp; omega)); have HF : Hd (ChainPost base V ns i xs row w (.returned v) w2) := ⟨⟨v, i', rfl, hle, hz, hE2, hS2, (Touch.of_below ((hb.drew).trans (hb1.mono (by simp))) _).step hT2 (fun k _ h => h)⟩⟩; clear hle hz hE2 hS2 hT2))
    all_goals (try go_wp2_with fail)
    all_goals go_meet
    all_goals exact HF
  case rest =>
    go_wp2
    go_ret
    exact hcut.out
end Go.Proofs.Ythghndjfghdnnaa
