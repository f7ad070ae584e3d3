/- The law ActRuns: Run, its closure, the chain and its closure. No condition but those that each contract bears. -/
import Derived.Test.YthghndjfghdnnaaActLaw
import Derived.Deep.RegionHeld3
namespace Go.Proofs.Ythghndjfghdnnaa
open Go.RowKit
def nthN (ns : List Nat) (k : Nat) : Nat := ns.getD k 0
/-- The blocks of the law's variables: n, its numbers, the log, called, chain. -/
structure Vars where
  nv : Nat
  nr : Nat
  lg : Nat
  ca : Nat
  ch : Nat
def Vars.apart (V : Vars) : Prop := V.nv ≠ V.ca ∧ V.nr ≠ V.ca ∧ V.lg ≠ V.ca ∧ V.ch ≠ V.ca ∧ V.nv ≠ V.lg ∧ V.nr ≠ V.lg ∧ V.ch ≠ V.lg
def Vars.mine (V : Vars) (k : Nat) : Prop := k = V.nv ∨ k = V.nr ∨ k = V.lg ∨ k = V.ca ∨ k = V.ch
structure EnvAt (w : World) (base : Nat) (V : Vars) (ns : List Nat) (i : Nat) (xs : List Int) (row : Option Nat) : Prop where
  n : ∃ A c, w.cell? ⟨V.nv, 0, none⟩ = some (.slice A ns.length c) ∧ ∀ k, k < ns.length → A = some ⟨V.nr, 0, none⟩ ∧ w.cell? ⟨V.nr, k, none⟩ = some (.int .i64 (nthN ns k : Int))
  log : LogAt w base V.lg 0 xs row
  called : w.cell? ⟨V.ca, 0, none⟩ = some (.int .i64 i)
  free : w.frozen? ⟨V.ca, 0, none⟩ = false
  chain : w.cell? ⟨V.ch, 0, none⟩ = some (.func (.func 10) #[] #[.pointer (some ⟨V.nv, 0, none⟩), .pointer (some ⟨V.lg, 0, none⟩), .pointer (some ⟨V.ca, 0, none⟩), .pointer (some ⟨V.ch, 0, none⟩)])
  small : ns.length ≤ 10 ∧ ∀ k, nthN ns k ≤ 19
  apart : V.apart
  base : base ≤ w.heap.size
  row : ∀ k, row = some k → ¬ V.mine k ∧ k < w.heap.size
  nrlt : V.nr < w.heap.size
theorem EnvAt.touch {w w' : World} {base : Nat} {V : Vars} {ns : List Nat} {i : Nat} {xs : List Int} {row : Option Nat} {S : Nat → Prop} (h : EnvAt w base V ns i xs row) (t : Touch S w w') (hS : ∀ k, k < w.heap.size → S k → ¬ V.mine k ∧ some k ≠ row) : EnvAt w' base V ns i xs row := by
  have no : ∀ k, V.mine k → k < w.heap.size → ¬ S k := fun k hm hk hs => (hS k hk hs).1 hm
  have cl : ∀ b o v, V.mine b → w.cell? ⟨b, o, none⟩ = some v → w'.cell? ⟨b, o, none⟩ = some v := fun b o v hm hc => (t.cell (p := ⟨b, o, none⟩) (lt_of_cell hc) (no b hm (lt_of_cell hc))).trans hc
  obtain ⟨A, c, hn, hk⟩ := h.n
  have hca := lt_of_cell h.called
  have hlg : V.lg < w.heap.size := by obtain ⟨v, hv, _⟩ := h.log; exact lt_of_cell hv
  exact ⟨⟨A, c, cl _ _ _ (.inl rfl) hn, fun k hlt => ⟨(hk k hlt).1, cl _ _ _ (.inr (.inl rfl)) (hk k hlt).2⟩⟩, h.log.touch t (no _ (.inr (.inr (.inl rfl))) hlg) (fun k hr hs => (hS k (h.row k hr).2 hs).2 hr.symm),
    cl _ _ _ (.inr (.inr (.inr (.inl rfl)))) h.called, (t.frozen (p := ⟨V.ca, 0, none⟩) hca (no _ (.inr (.inr (.inr (.inl rfl)))) hca)).trans h.free, cl _ _ _ (.inr (.inr (.inr (.inr rfl)))) h.chain, h.small, h.apart,
    Nat.le_trans h.base t.size, fun k hr => ⟨(h.row k hr).1, Nat.lt_of_lt_of_le (h.row k hr).2 t.size⟩, Nat.lt_of_lt_of_le h.nrlt t.size⟩
theorem EnvAt.below {w w' : World} {base : Nat} {V : Vars} {ns : List Nat} {i : Nat} {xs : List Int} {row : Option Nat} (h : EnvAt w base V ns i xs row) (t : Below w.heap.size w w') : EnvAt w' base V ns i xs row :=
  h.touch (Touch.of_below t (fun _ => False)) (fun _ _ e => e.elim)
/-- The act of number i has j steps left, and what comes behind it is the chain's closure at i. -/
structure PosAt (w : World) (V : Vars) (i j : Nat) (v : Value) (ok : Nat → Prop) : Prop where
  out : ∃ s t A ib nx c, v = .func (.func 40) #[] #[.pointer (some ⟨s, 0, none⟩), .pointer (some ⟨t, 0, none⟩)] ∧ (ok s ∧ ok t ∧ ok ib ∧ ok A) ∧ (s ≠ A ∧ t ≠ A ∧ ib ≠ A) ∧
    w.cell? ⟨s, 0, none⟩ = some (.pointer (some ⟨A, 0, none⟩)) ∧ w.cell? ⟨t, 0, none⟩ = some (.func (.func 13) #[] #[.pointer (some ⟨V.ca, 0, none⟩), .pointer (some ⟨V.ch, 0, none⟩), .pointer (some ⟨ib, 0, none⟩)]) ∧
    w.cell? ⟨ib, 0, none⟩ = some (.int .i64 i) ∧ ActAt w A nx c ∧ (0 ≤ c ∧ c + j ≤ 100) ∧ NextIs w V.lg 0 i j nx (fun k => ok k ∧ k ≠ A)
theorem PosAt.touch {w w' : World} {V : Vars} {i j : Nat} {v : Value} {ok ok' : Nat → Prop} {S : Nat → Prop} (h : PosAt w V i j v ok) (t : Touch S w w') (hS : ∀ k, k < w.heap.size → ok k → ¬ S k ∧ ok' k) : PosAt w' V i j v ok' := by
  obtain ⟨s, tt, A, ib, nx, c, hv, ⟨o1, o2, o3, o4⟩, hne, c1, c2, c3, ha, hc, hn⟩ := h.out
  have l1 := lt_of_cell c1
  have l2 := lt_of_cell c2
  have l3 := lt_of_cell c3
  have l4 := ha.lt
  exact ⟨s, tt, A, ib, nx, c, hv, ⟨(hS _ l1 o1).2, (hS _ l2 o2).2, (hS _ l3 o3).2, (hS _ l4 o4).2⟩, hne, (t.cell (p := ⟨s, 0, none⟩) l1 (hS _ l1 o1).1).trans c1, (t.cell (p := ⟨tt, 0, none⟩) l2 (hS _ l2 o2).1).trans c2, (t.cell (p := ⟨ib, 0, none⟩) l3 (hS _ l3 o3).1).trans c3,
    ha.touch t (hS _ l4 o4).1, hc, hn.move (fun k hk ho => t.block k hk (hS k hk ho.1).1) (fun k hk ho => ⟨(hS k hk ho.1).2, ho.2⟩)⟩
/-- Where the chain stands: at its end, or at an act that has steps. -/
def Stands (w : World) (V : Vars) (ns : List Nat) (i : Nat) (v : Value) (ok : Nat → Prop) : Prop :=
  (i = ns.length ∧ v = .nilFunc) ∨ (i < ns.length ∧ 0 < nthN ns i ∧ PosAt w V i (nthN ns i) v ok)
def ChainPost (base : Nat) (V : Vars) (ns : List Nat) (i : Nat) (xs : List Int) (row : Option Nat) (w : World) (e : Ending) (w' : World) : Prop :=
  ∃ v i', e = .returned v ∧ i ≤ i' ∧ (∀ k, i ≤ k → k < i' → nthN ns k = 0) ∧ EnvAt w' base V ns i' xs row ∧ Stands w' V ns i' v (fun k => w.heap.size ≤ k) ∧ Touch (fun k => k = V.ca) w w'
def ChainOk (base : Nat) (V : Vars) (ns : List Nat) (i : Nat) (xs : List Int) (row : Option Nat) : Prop :=
  ∀ w, EnvAt w base V ns i xs row → Calls Try.prog 10 #[.int .i64 i, .pointer (some ⟨V.nv, 0, none⟩), .pointer (some ⟨V.lg, 0, none⟩), .pointer (some ⟨V.ca, 0, none⟩), .pointer (some ⟨V.ch, 0, none⟩)] w (ChainPost base V ns i xs row w)
/-- The end of the chain. -/
theorem chain_end (base : Nat) (V : Vars) (ns : List Nat) (xs : List Int) (row : Option Nat) : ChainOk base V ns ns.length xs row := by
  intro w he
  obtain ⟨A, c, hn, _⟩ := he.n
  have hnl := lt_of_cell hn
  have HE : Hd _ := ⟨he⟩
  clear he
  go_enter Try.func10, Try.ntmps10
  go_wp2
  go_ret
  have hb : Below w.heap.size w (w.alloc (.cells #[.int .i64 ns.length] 3)) := (Below.refl _ w).alloc (Nat.le_refl _) _
  exact ⟨_, _, rfl, Nat.le_refl _, fun k h1 h2 => by omega, HE.out.below hb, .inl ⟨rfl, rfl⟩, Touch.of_below hb _⟩
/-- The chain's closure at i. -/
theorem then_any (base : Nat) (V : Vars) (ns : List Nat) (i ib : Nat) (xs : List Int) (row : Option Nat) (hc : ChainOk base V ns (i + 1) xs row) (hi : i < 10) (w : World) (he : EnvAt w base V ns i xs row) (hib : w.cell? ⟨ib, 0, none⟩ = some (.int .i64 i)) (hne : ib ≠ V.ca) :
    Calls Try.prog 13 #[.pointer (some ⟨V.ca, 0, none⟩), .pointer (some ⟨V.ch, 0, none⟩), .pointer (some ⟨ib, 0, none⟩)] w (ChainPost base V ns (i + 1) xs row w) := by
  have c1 := he.called
  have f1 := he.free
  have c2 := he.chain
  have hch : V.ch ≠ V.ca := he.apart.2.2.2.1
  have t1 := touch_set w V.ca 0 (.int .i64 ((i : Int) + 1))
  have he2 : EnvAt (w.setCell ⟨V.ca, 0, none⟩ (.int .i64 ((i : Int) + 1))) base V ns (i + 1) xs row := by
    obtain ⟨a1, a2, a3, a4, a5, a6, a7⟩ := he.apart
    have cl : ∀ b o v, b ≠ V.ca → w.cell? ⟨b, o, none⟩ = some v → (w.setCell ⟨V.ca, 0, none⟩ (.int .i64 ((i : Int) + 1))).cell? ⟨b, o, none⟩ = some v := fun b o v hm hc => (t1.cell (p := ⟨b, o, none⟩) (lt_of_cell hc) hm).trans hc
    obtain ⟨A, c, hn, hk⟩ := he.n
    refine ⟨⟨A, c, cl _ _ _ a1 hn, fun k hlt => ⟨(hk k hlt).1, cl _ _ _ a2 (hk k hlt).2⟩⟩, he.log.touch t1 a3 (fun k hr e => (he.row k hr).1 (.inr (.inr (.inr (.inl e))))), ?_, ?_, cl _ _ _ a4 c2, he.small, he.apart, by simpa using he.base, fun k hr => ⟨(he.row k hr).1, by simpa using (he.row k hr).2⟩, by simpa using he.nrlt⟩
    · rw [setCell_get _ _ _ _ _ _ c1, if_pos rfl]; simp
    · rw [World.frozen?_setCell]; exact f1
  have hcall := hc _ he2
  have d2 : (w.setCell ⟨V.ca, 0, none⟩ (.int .i64 ((i : Int) + 1))).cell? ⟨V.ch, 0, none⟩ = _ := he2.chain
  have d3 : (w.setCell ⟨V.ca, 0, none⟩ (.int .i64 ((i : Int) + 1))).cell? ⟨ib, 0, none⟩ = some (.int .i64 i) := (t1.cell (p := ⟨ib, 0, none⟩) (lt_of_cell hib) hne).trans hib
  have HC : Hd _ := ⟨hcall⟩
  clear hcall he2 he hc c2 hib
  go_enter Try.func13, Try.ntmps13
  go_wp2_with fail
  refine HC.out.mono ?_
  rintro e w' ⟨v, i', rfl, hle, hz, hE, hS, hT⟩
  have HE : Hd _ := ⟨hE⟩
  have HS : Hd _ := ⟨hS⟩
  have HZ : Hd _ := ⟨hz⟩
  clear hE hS hz
  go_wp2_with fail
  go_ret
  refine ⟨_, i', rfl, hle, HZ.out, HE.out, ?_, (t1.step hT (fun k _ h => h))⟩
  rcases HS.out with h | ⟨h1, h2, h3⟩
  · exact .inl h
  · exact .inr ⟨h1, h2, h3.touch (Touch.refl (fun _ => False) _) (fun k _ hk => ⟨id, by simpa using hk⟩)⟩
end Go.Proofs.Ythghndjfghdnnaa
