/- The law ListPlays over rows as the row's proof hands them. No condition but those that it bears. -/
import Derived.Test.YtlklegdaeffcpaaListRows
import Derived.Test.YtlklegdaeffcpaaListPure6
namespace Go.Proofs.Ytlklegdaeffcpaa
open Go.RowKit Go.Proofs.YtlklegdaeffcpaaW.PrintWords Go.Proofs.Ytlklegdaeffcpaa.PList
def RNot (p : Int × Int × Int × Int) (cs : List Value) : Prop := cs = [.int .i64 p.1, .int .i64 p.2.1, .int .u32 p.2.2.1, .int .u8 p.2.2.2] ∧ (Lit.int .i64 p.1).wf = true ∧ (Lit.int .i64 p.2.1).wf = true ∧ (Lit.int .u32 p.2.2.1).wf = true ∧ (Lit.int .u8 p.2.2.2).wf = true
def toM (p : Int × Int × Int × Int) : S42 := ⟨p.1, p.2.1, ⟨p.2.2.1, p.2.2.2⟩⟩
theorem c_not {w : World} {A : Option Addr} {n : Nat} {ps : List (Int × Int × Int × Int)} (h : Recs RNot 4 w A n ps) : Kd.C k42 w A n (ps.map toM) := by
  obtain ⟨h1, h2, h3⟩ := h
  refine ⟨by simpa using h1, h2, fun hn => ?_⟩
  obtain ⟨ad, e, hc⟩ := h3 hn
  refine ⟨ad, e, fun j p hj => ?_⟩
  rw [List.getElem?_map] at hj
  obtain ⟨q, hq, rfl⟩ := Option.map_eq_some_iff.1 hj
  obtain ⟨c, a1, a2, a3⟩ := hc j q hq
  have e2 := a2.1
  subst e2
  exact ⟨_, a1, k42_mk w (toM q), a3⟩
theorem not_wf {w : World} {A : Option Addr} {n : Nat} {ps : List (Int × Int × Int × Int)} (h : Recs RNot 4 w A n ps) : ∀ e ∈ ps.map toM, e.f1 ≤ 9223372036854775807 := by
  intro e he
  obtain ⟨q, hq, rfl⟩ := List.mem_map.1 he
  obtain ⟨j, hj⟩ := List.mem_iff_getElem?.1 hq
  obtain ⟨h1, _, h3⟩ := h
  have hlt := (List.getElem?_eq_some_iff.1 hj).1
  obtain ⟨ad, _, hc⟩ := h3 (by omega)
  obtain ⟨c, _, a2, _⟩ := hc j q hj
  have hw := a2.2.2.1
  have hmax : IntKind.i64.max = 9223372036854775807 := rfl
  simp [Lit.wf, hmax] at hw
  show q.2.1 ≤ _
  omega
theorem listPlays_any (w : World) (A : Option Addr) (len cap : Nat) (l : List (Int × Int)) (h : Recs REnt 2 w A len l) (hc : len ≤ cap) (_hz : len * 8 ≤ 140737488351232) (B : Option Addr) (n capn : Nat) (ns : List (Int × Int × Int × Int)) (hn : Recs RNot 4 w B n ns) (hcn : n ≤ capn) (hzn : n * 24 ≤ 140737488351232)
    (u : Int) (_hu : (Lit.int .u32 u).wf = true) :
    Calls Try.prog 4 #[.slice A len cap, .slice B n capn, .int .u32 u] w fun e w' => e = .returned (.bool true) ∧ Below w.heap.size w w' := by
  have e1 : (l.map toR).length = len := by simpa using h.1
  have e2 : (ns.map toM).length = n := by simpa using hn.1
  have hk := postchaiselaw11_ListPlays.calls 500000000 A cap (l.map toR) B capn (ns.map toM) u true w (by rw [e1]; exact c_ent h) (by rw [e1]; exact hc) (by rw [e2]; exact c_not hn) (by rw [e2]; exact hcn) (listPlays_f _ _ u (not_wf hn) (by omega))
  rw [e1, e2] at hk
  exact hk
end Go.Proofs.Ytlklegdaeffcpaa
