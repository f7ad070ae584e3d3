/- Opening a slice of flat structs, strings or numbers that came in as an argument: general lemmas, no program in sight. No condition. -/
import Derived.Test.YtkcnakaneiocjaaTouch
import Derived.ProofKit
import Derived.WalkKit
import Derived.Deep.Slices
import Derived.Deep.Strs
import Derived.SizedLaws
set_option linter.unusedVariables false
set_option linter.unusedSimpArgs false
namespace Go.Proofs.Ytkcnakaneiocjaa
open Go.RowKit Go.ChangeShapes Go.WideShapes
/-- A row of elements of 'size' cells each, each as R says. (The same as the print's ReadsRow.) -/
def Recs {α : Type} (R : α → List Value → Prop) (size : Nat) (w : World) (A : Option Addr) (n : Nat) (ps : List α) : Prop :=
  ps.length = n ∧ n ≤ 9223372036854775807 ∧ (0 < n → ∃ ad, A = some ad ∧ ∀ j p, ps[j]? = some p → ∃ c, c.length = size ∧ R p c ∧ ∀ i u, c[i]? = some u → w.cell? (ad.add (j * size + i)) = some u)
def RInt (k : IntKind) : Int → List Value → Prop := fun n cs => cs = [.int k n] ∧ (Lit.int k n).wf = true
def RBool : Bool → List Value → Prop := fun b cs => cs = [.bool b]
def RStr : ByteArray → List Value → Prop := fun s cs => cs = [.string s] ∧ s.size ≤ maxLen
theorem rint_open {H : Type} {enc : TypeId × Value → H} {P : Program} {w : World} {spare : Nat → Bool} {held : Bool} {e : TypeId} {k : IntKind} (he : P.underlying e = some (.int k)) :
    ∀ fuel cs x, DataW.trod enc P w 0 spare held fuel e cs = some x → cs.length = 1 → ∃ p, RInt k p cs := by
  intro fuel cs x h _
  obtain ⟨n, rfl, _, hw⟩ := DataW.trod_int he h
  exact ⟨n, rfl, hw⟩
theorem rstr_open {H : Type} {enc : TypeId × Value → H} {P : Program} {w : World} {spare : Nat → Bool} {held : Bool} {e : TypeId} (he : P.underlying e = some .string) :
    ∀ fuel cs x, DataW.trod enc P w 0 spare held fuel e cs = some x → cs.length = 1 → ∃ p, RStr p cs := by
  intro fuel cs x h _
  obtain ⟨n, rfl, _, hw⟩ := DataW.trod_string he h
  exact ⟨n, rfl, hw⟩
/-- A row's slice is no longer than its weight allows. -/
theorem sized_recs {H : Type} {enc : TypeId × Value → H} {P : Program} {W : World} {t e : TypeId} {a : Option Addr} {len cap : Nat} {d : DataW H} {ps : List MemPlace} {ts : List TypeId} {ds : List (DataW H)} {j : Nat} {held : Bool} {spare : Nat → Bool}
    (hsz : (DataW.weightsEach P ts ds).all (· ≤ reachBytes) = true) (ht : ts[j]? = some t) (hd : ds[j]? = some d) (hu : P.underlying t = some (.slice e)) {B : Nat} (hB : P.bytesOf e = B)
    (h : DataW.Trod enc P W 0 spare held t (.slice a len cap) d ps) : len * B ≤ 140737488351232 := by
  obtain ⟨fuel, hf⟩ := h
  rcases Go.Deep.open_slice hu hf with ⟨hcs, _⟩ | ⟨x, l, c, m, n, D, Pl, hcs, _, hl, hm, hme, hx, _⟩
  · simp [Value.cells] at hcs
    obtain ⟨rfl, rfl, rfl⟩ := hcs
    simp
  · simp [Value.cells] at hcs
    obtain ⟨rfl, rfl, rfl⟩ := hcs
    obtain ⟨hx, _⟩ := Prod.mk.inj hx
    subst hx
    have z := sized_slice hsz ht hd hu
    rw [hB] at z
    refine Nat.le_trans (Nat.mul_le_mul_right _ ?_) z
    simp
theorem open_recs {α H : Type} {enc : TypeId × Value → H} {P : Program} {w : World} {spare : Nat → Bool} {held : Bool} {t e : TypeId} {a : Option Addr} {len cap : Nat} {d : DataW H} {ps : List MemPlace} {size : Nat} (R : α → List Value → Prop)
    (ht : P.underlying t = some (.slice e)) (hc : P.cellsOf e = size) (h : DataW.Trod enc P w 0 spare held t (.slice a len cap) d ps)
    (hR : ∀ fuel cs x, DataW.trod enc P w 0 spare held fuel e cs = some x → cs.length = size → ∃ p, R p cs) :
    ∃ l : List α, len ≤ cap ∧ cap ≤ maxLen ∧ Recs R size w a len l := by
  obtain ⟨fuel, hf⟩ := h
  rcases Go.Deep.open_slice ht hf with ⟨hcs, _⟩ | ⟨x, l, c, m, n, D, Pl, hcs, _, hl, hm, hme, _, hel⟩
  · simp [Value.cells] at hcs
    obtain ⟨rfl, rfl, rfl⟩ := hcs
    exact ⟨[], Nat.le_refl _, by unfold maxLen; omega, rfl, by omega, fun h => absurd h (Nat.lt_irrefl _)⟩
  · simp [Value.cells] at hcs
    obtain ⟨rfl, rfl, rfl⟩ := hcs
    have hlm : len ≤ m := by rw [hme]; split <;> omega
    have each : ∀ i, i < len → ∃ p, ∃ c, c.length = size ∧ R p c ∧ ∀ j u, c[j]? = some u → w.cell? (x.add (i * size + j)) = some u := by
      intro i hi
      obtain ⟨cs', hcs', htr⟩ := hel i (by omega)
      rw [hc] at hcs'
      obtain ⟨_, hlen, hcell0⟩ := World.cells?_some hcs'
      have hcell : ∀ j u, cs'[j]? = some u → w.cell? ((x.add (i * size)).add j) = some u := fun j u hu => by
        have hj := (List.getElem?_eq_some_iff.1 hu).1
        rw [hcell0 j (by omega), hu]
      obtain ⟨p, hp⟩ := hR _ _ _ htr hlen
      refine ⟨p, cs', hlen, hp, fun j u hu => ?_⟩
      rw [← Go.Deep.add_add]
      exact hcell j u hu
    by_cases hz : len = 0
    · subst hz
      exact ⟨[], hl, hm, rfl, by omega, fun h => absurd h (Nat.lt_irrefl _)⟩
    · obtain ⟨p0, _⟩ := each 0 (by omega)
      haveI : Inhabited α := ⟨p0⟩
      obtain ⟨f, hf⟩ := Go.Deep.choose_lt each
      refine ⟨(List.range len).map f, hl, hm, by simp, by unfold maxLen at hm; omega, fun _ => ⟨x, rfl, fun j p hj => ?_⟩⟩
      have hj' : j < len := by
        have := (List.getElem?_eq_some_iff.1 hj).1
        simpa using this
      have e : f j = p := by simpa [hj'] using hj
      rw [← e]
      exact hf j hj'
theorem recs_ints {w : World} {k : IntKind} {A : Option Addr} {n : Nat} {zs : List Int} (h : Recs (RInt k) 1 w A n zs) (hn : 0 < n) :
    ∃ bx ox, A = some ⟨bx, ox, none⟩ ∧ bx < w.heap.size ∧ ∀ i, i < zs.length → w.cell? ⟨bx, ox + i, none⟩ = some (.int k (nth zs i)) := by
  obtain ⟨hl, _, h⟩ := h
  obtain ⟨ad, rfl, hc⟩ := h hn
  have each : ∀ i, i < zs.length → w.cell? (ad.add i) = some (.int k (nth zs i)) := by
    intro i hi
    obtain ⟨c, _, ⟨rfl, _⟩, hcell⟩ := hc i _ (List.getElem?_eq_getElem hi)
    have := hcell 0 _ rfl
    rw [Nat.mul_one, Nat.add_zero] at this
    rw [this]; unfold nth; rw [List.getD_eq_getElem?_getD, List.getElem?_eq_getElem hi]; rfl
  have h0 := each 0 (by omega)
  have hp := plain_of_cell (a := ad) (by simpa [Addr.add] using h0)
  have hb : ad.block < w.heap.size := lt_of_cell (a := ad) (by simpa [Addr.add] using h0)
  refine ⟨ad.block, ad.off, congrArg some hp, hb, fun i hi => ?_⟩
  rw [← add_off, ← hp]
  exact each i hi
end Go.Proofs.Ytkcnakaneiocjaa
