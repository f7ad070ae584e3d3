/- Contracts of plain functions, written by the kit's print for this claim (key Tr), of which this text keeps those that are used. -/
import Derived.Test.YtkcnakaneiocjaaProg
import Derived.Below
import Derived.Deep.Draws
import Derived.Deep.AppendLies
import Derived.Maps.AppendAt
import Derived.OwnWalk
import Derived.Laws.BytesArg
import Derived.Laws.MakeOwn
import Derived.Laws.OwnMore
import Derived.Deep.OwnRows
import Derived.Tactics
import Derived.Lib.ConvBytes
import Derived.Laws.Slices
import Derived.WalkKit
import Derived.KernelRfl
import Derived.RowKit3
import Derived.Deep.LoopGhost
import Derived.Deep.QuietTactic
import Derived.BigQuiet
import Derived.WideLaws
import Derived.Deep.DeepCutAuto
import Derived.Deep.CutBlock
import Derived.Deep.RegionHeld3
import Derived.Laws.Rows
import Derived.Lib.AppendStr
import Derived.ArgAppend
import Derived.Laws.IdiomCopy
import Derived.OrdersHeld
import Derived.Laws.BitsLemmas
import Derived.RowKit
import Derived.Test.YtkcnakaneiocjaaWWords
import Derived.Test.YtkcnakaneiocjaaWLast
import Derived.Test.YtkcnakaneiocjaaWTab
import Derived.Test.YtkcnakaneiocjaaWFour
import Derived.Test.YtkcnakaneiocjaaWQPut
import Derived.Test.YtkcnakaneiocjaaWApart
import Derived.Test.YtkcnakaneiocjaaWArr
import Derived.Test.YtkcnakaneiocjaaWZeros
import Derived.Test.YtkcnakaneiocjaaWFoot
import Derived.Test.YtkcnakaneiocjaaWKept
import Derived.Test.YtkcnakaneiocjaaWShare
import Derived.Test.YtkcnakaneiocjaaWN
import Derived.Test.YtkcnakaneiocjaaWFootNe
import Derived.Test.YtkcnakaneiocjaaWAt
import Derived.Test.YtkcnakaneiocjaaWEqStruct
import Derived.Test.YtkcnakaneiocjaaWRepsOne
import Derived.Test.YtkcnakaneiocjaaWInv
import Derived.Test.YtkcnakaneiocjaaWInvWords
import Derived.Test.YtkcnakaneiocjaaWGuard
import Derived.Test.YtkcnakaneiocjaaWNEv
import Derived.Test.YtkcnakaneiocjaaWMore
namespace Go.Proofs.Ytkcnakaneiocjaa.PTr
open Go.RowKit Go.Proofs.YtkcnakaneiocjaaW.PrintWords Go.Proofs.YtkcnakaneiocjaaW.PrintLast Go.Proofs.YtkcnakaneiocjaaW.PrintMore
attribute [local go_sem] max2_int min2_int max_two min_two max_three min_three max_four min_four   -- for this text's walks alone
set_option linter.unusedVariables false
set_option linter.unusedSimpArgs false



def errW : Option Int → Value
  | none => .nilIface
  | some c => .iface 0 (.int .i64 c)
theorem errW_none : errW none = .nilIface := rfl
theorem errW_some (c : Int) : errW (some c) = .iface 0 (.int .i64 c) := rfl

-- the values' own types
/-! #### struct type 41 -/
structure S41 where
  f0 : Int
  f1 : Int
  f2 : ByteArray
def z41 : S41 := ⟨(0 : Int), (0 : Int), (⟨#[]⟩ : ByteArray)⟩
def k41 : Kd S41 := Kd.iso (Kd.pair (Kd.int .u32) (Kd.pair (Kd.int .u8) Kd.string)) (fun x : S41 => (x.f0, x.f1, x.f2))
theorem k41_open {w : World} {x : S41} {cs : List Value} (h : k41.K w x cs) : cs = [.int .u32 x.f0, .int .u8 x.f1, .string x.f2] := by
  obtain ⟨_, _, rfl, rfl, ⟨_, _, rfl, rfl, rfl⟩⟩ := h
  exact rfl
theorem k41_openM {w : World} {base : Nat} {ok : Nat → Prop} {x : S41} {cs : List Value} (h : k41.M w base ok x cs) : cs = [.int .u32 x.f0, .int .u8 x.f1, .string x.f2] := by
  obtain ⟨_, _, rfl, rfl, ⟨_, _, rfl, rfl, rfl⟩⟩ := h
  exact rfl
theorem k41_mk (w : World) (x : S41)  : k41.K w x [.int .u32 x.f0, .int .u8 x.f1, .string x.f2] := ⟨[.int .u32 x.f0], [.int .u8 x.f1, .string x.f2], rfl, rfl, ⟨[.int .u8 x.f1], [.string x.f2], rfl, rfl, rfl⟩⟩
theorem k41_mkM (w : World) (base : Nat) (ok : Nat → Prop) (x : S41)  : k41.M w base ok x [.int .u32 x.f0, .int .u8 x.f1, .string x.f2] := ⟨[.int .u32 x.f0], [.int .u8 x.f1, .string x.f2], rfl, rfl, ⟨[.int .u8 x.f1], [.string x.f2], rfl, rfl, rfl⟩⟩
def rd_T41 (xs : List S41) (i : Int) : S41 := xs.getD i.toNat z41
theorem at_T41 {w : World} {A : Option Addr} {n : Nat} {xs : List S41} (h : Kd.C k41 w A n xs) (i : Int) (h0 : 0 ≤ i) (h1 : i < n) : ∃ ad , A = some ad ∧ w.cell? (ad.add (i.toNat * 3)) = some (.int .u32 (rd_T41 xs i).f0) ∧ w.cell? ⟨(ad.add (i.toNat * 3)).block, (ad.add (i.toNat * 3)).off + 1, none⟩ = some (.int .u8 (rd_T41 xs i).f1) ∧ w.cell? ⟨(ad.add (i.toNat * 3)).block, (ad.add (i.toNat * 3)).off + 2, none⟩ = some (.string (rd_T41 xs i).f2) := by
  obtain ⟨ad, c, e, _, hK, hc0⟩ := Kd.C_get h z41 i h0 h1
  have hc : ∀ j u, c[j]? = some u → w.cell? (ad.add (i.toNat * 3 + j)) = some u := hc0
  obtain rfl := k41_open hK
  exact ⟨ad, e, hc 0 _ rfl, by rw [← add_field _ _ 1 (by omega)]; exact hc 1 _ rfl, by rw [← add_field _ _ 2 (by omega)]; exact hc 2 _ rfl⟩


end Go.Proofs.Ytkcnakaneiocjaa.PTr
