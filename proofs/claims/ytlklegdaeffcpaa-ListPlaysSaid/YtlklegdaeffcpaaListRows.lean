/- Entries in rows as the row's proof hands them. No condition but those that each bears. -/
import Derived.Test.YtlklegdaeffcpaaQList0
import Derived.Test.YtlklegdaeffcpaaOpen
namespace Go.Proofs.Ytlklegdaeffcpaa
open Go.RowKit Go.Proofs.YtlklegdaeffcpaaW.PrintWords Go.Proofs.Ytlklegdaeffcpaa.PList
def REnt (p : Int × Int) (cs : List Value) : Prop := cs = [.int .u32 p.1, .int .u8 p.2] ∧ (Lit.int .u32 p.1).wf = true ∧ (Lit.int .u8 p.2).wf = true
def toR (p : Int × Int) : S40 := ⟨p.1, p.2⟩
theorem c_ent {w : World} {A : Option Addr} {n : Nat} {ps : List (Int × Int)} (h : Recs REnt 2 w A n ps) : Kd.C k40 w A n (ps.map toR) := by
  obtain ⟨h1, h2, h3⟩ := h
  refine ⟨by simpa using h1, h2, fun hn => ?_⟩
  obtain ⟨ad, e, hc⟩ := h3 hn
  refine ⟨ad, e, fun j p hj => ?_⟩
  rw [List.getElem?_map] at hj
  obtain ⟨q, hq, rfl⟩ := Option.map_eq_some_iff.1 hj
  obtain ⟨c, a1, a2, a3⟩ := hc j q hq
  have e2 := a2.1
  subst e2
  exact ⟨_, a1, k40_mk w (toR q), a3⟩
theorem ent_wf {w : World} {A : Option Addr} {n : Nat} {ps : List (Int × Int)} (h : Recs REnt 2 w A n ps) : ∀ e ∈ ps.map toR, 0 ≤ e.f0 := by
  intro e he
  obtain ⟨q, hq, rfl⟩ := List.mem_map.1 he
  obtain ⟨j, hj⟩ := List.mem_iff_getElem?.1 hq
  obtain ⟨h1, _, h3⟩ := h
  have hlt := (List.getElem?_eq_some_iff.1 hj).1
  obtain ⟨ad, _, hc⟩ := h3 (by omega)
  obtain ⟨c, _, a2, _⟩ := hc j q hj
  have hw := a2.2.1
  have hmin : IntKind.u32.min = 0 := rfl
  simp [Lit.wf, hmin] at hw
  show 0 ≤ q.1
  omega
end Go.Proofs.Ytlklegdaeffcpaa
