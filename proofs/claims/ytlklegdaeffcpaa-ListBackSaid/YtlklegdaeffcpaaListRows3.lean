/- The law ListBack over rows as the row's proof hands them. No condition but those that it bears. -/
import Derived.Test.YtlklegdaeffcpaaListRows
import Derived.Test.YtlklegdaeffcpaaListPure8
namespace Go.Proofs.Ytlklegdaeffcpaa
open Go.RowKit Go.Proofs.YtlklegdaeffcpaaW.PrintWords Go.Proofs.Ytlklegdaeffcpaa.PList
theorem listBack_any (w : World) (A : Option Addr) (len cap : Nat) (l : List (Int × Int)) (h : Recs REnt 2 w A len l) (hc : len ≤ cap) (_hz : len * 8 ≤ 140737488351232) (B : Option Addr) (n capn : Nat) (now : List (Int × Int)) (hn : Recs REnt 2 w B n now) (hcn : n ≤ capn) (_hzn : n * 8 ≤ 140737488351232) :
    Calls Try.prog 5 #[.slice A len cap, .slice B n capn] w fun e w' => e = .returned (.bool true) ∧ Below w.heap.size w w' := by
  have e1 : (l.map toR).length = len := by simpa using h.1
  have e2 : (now.map toR).length = n := by simpa using hn.1
  have hk := postchaiselaw11_ListBack.calls 2000 A cap (l.map toR) B capn (now.map toR) true w (by rw [e1]; exact c_ent h) (by rw [e1]; exact hc) (by rw [e2]; exact c_ent hn) (by rw [e2]; exact hcn) (listBack_f _ _ (ent_wf hn) (ent_wf h))
  rw [e1, e2] at hk
  exact hk
end Go.Proofs.Ytlklegdaeffcpaa
