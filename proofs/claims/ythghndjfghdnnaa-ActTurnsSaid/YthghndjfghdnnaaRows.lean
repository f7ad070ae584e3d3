/-
  No cell of these rows narrows 'for every input' (looked for: loops, veiled, ifaces, maps, wideKeys, modest, calm, conditions, laid).
  DERIVED. THE GIVEN ROWS OF THIS SEAT. 6 by the template 'for every input the law returns true; each argument reads behind the call as it read before'; 0 by the template 'total and deterministic' (their statements: YthghndjfghdnnaaTotals.lean).
  GIVEN WITH THE SEED: the statements are not yours to turn. If you find one false, say at which input.
  Laid BY PROGRAM, IN A SANDBOX (cutbox-rows.mjs): the forced cells as the released guide's own fill.sh prints them over the translation 659f965783cfb6c8… (all of the seat's roots in one cut). By AI agents, Wed Nov 11 2026. No macro, syntax, notation, axiom, sorry.
-/
import Derived.Test.YthghndjfghdnnaaChecked
import GoSem.Claim
import GoSem.ClaimJoined
import GoSem.ClaimMapViews
import Derived.JoinedTies
import Derived.KernelRfl
namespace Go.Proofs.Ythghndjfghdnnaa
/- THE CELL 'sum', in the pinned program and in every row, IS THE sha256 OF THE DUMP (.gsa) THAT YthghndjfghdnnaaProg.lean LOADS. Nothing in Lean hashes anything: it is a label: what it is worth is what the hold of that sum in a sandbox is worth. -/
noncomputable def Try.pinned : Pinned := { name := "ythghndjfghdnnaa", sum := "659f965783cfb6c8c575138286a31641bd3df8366af66111dea0100b67fad48b", checked := Try.checked }
namespace Rows
def none {H : Type} : Left H := { results := [], args := [] }

/-- 'postchaiselaw04.ActRuns': WHATEVER THE INPUT: true; the input reads as it did. -/
def actRunsSpec : ChangeSpec := { name := "actRuns", fn := fun _ => fun
  | [d] => { results := [.lit (.bool true)], args := [d] }
  | _ => none }
def actRunsRow : OpenClaim := { program := "ythghndjfghdnnaa", sum := "659f965783cfb6c8c575138286a31641bd3df8366af66111dea0100b67fad48b", func := "postchaise/postchaiselaw04.ActRuns", spec := "actRuns", unfollowed := true, recurses := true, apart := false }
def ActRunsSaid : Prop := actRunsRow.holds Try.pinned (OpenSpec.ofChange actRunsSpec)

/-- ITS FALSE NEIGHBOUR: 'it returns false'. Refute it at one input. -/
def actRunsWrong : ChangeSpec := { name := "actRuns", fn := fun _ => fun
  | [d] => { results := [.lit (.bool false)], args := [d] }
  | _ => none }
def ActRunsWrongFalsely : Prop := actRunsRow.holds Try.pinned (OpenSpec.ofChange actRunsWrong)

/-- 'postchaiselaw03.MemPacks': WHATEVER THE INPUT: true; the input reads as it did. -/
def memPacksSpec : ChangeSpec := { name := "memPacks", fn := fun _ => fun
  | [d1, d2, d3] => { results := [.lit (.bool true)], args := [d1, d2, d3] }
  | _ => none }
def memPacksRow : OpenClaim := { program := "ythghndjfghdnnaa", sum := "659f965783cfb6c8c575138286a31641bd3df8366af66111dea0100b67fad48b", func := "postchaise/postchaiselaw03.MemPacks", spec := "memPacks", apart := false }
def MemPacksSaid : Prop := memPacksRow.holds Try.pinned (OpenSpec.ofChange memPacksSpec)

/-- ITS FALSE NEIGHBOUR: 'it returns false'. Refute it at one input. -/
def memPacksWrong : ChangeSpec := { name := "memPacks", fn := fun _ => fun
  | [d1, d2, d3] => { results := [.lit (.bool false)], args := [d1, d2, d3] }
  | _ => none }
def MemPacksWrongFalsely : Prop := memPacksRow.holds Try.pinned (OpenSpec.ofChange memPacksWrong)

/-- 'postchaiselaw03.MemApart': WHATEVER THE INPUT: true; the input reads as it did. -/
def memApartSpec : ChangeSpec := { name := "memApart", fn := fun _ => fun
  | [d1, d2, d3] => { results := [.lit (.bool true)], args := [d1, d2, d3] }
  | _ => none }
def memApartRow : OpenClaim := { program := "ythghndjfghdnnaa", sum := "659f965783cfb6c8c575138286a31641bd3df8366af66111dea0100b67fad48b", func := "postchaise/postchaiselaw03.MemApart", spec := "memApart", apart := false }
def MemApartSaid : Prop := memApartRow.holds Try.pinned (OpenSpec.ofChange memApartSpec)

/-- ITS FALSE NEIGHBOUR: 'it returns false'. Refute it at one input. -/
def memApartWrong : ChangeSpec := { name := "memApart", fn := fun _ => fun
  | [d1, d2, d3] => { results := [.lit (.bool false)], args := [d1, d2, d3] }
  | _ => none }
def MemApartWrongFalsely : Prop := memApartRow.holds Try.pinned (OpenSpec.ofChange memApartWrong)

/-- 'postchaiselaw03.MemRuns': WHATEVER THE INPUT: true; the input reads as it did. -/
def memRunsSpec : ChangeSpec := { name := "memRuns", fn := fun _ => fun
  | [d1, d2] => { results := [.lit (.bool true)], args := [d1, d2] }
  | _ => none }
def memRunsRow : OpenClaim := { program := "ythghndjfghdnnaa", sum := "659f965783cfb6c8c575138286a31641bd3df8366af66111dea0100b67fad48b", func := "postchaise/postchaiselaw03.MemRuns", spec := "memRuns", apart := false }
def MemRunsSaid : Prop := memRunsRow.holds Try.pinned (OpenSpec.ofChange memRunsSpec)

/-- ITS FALSE NEIGHBOUR: 'it returns false'. Refute it at one input. -/
def memRunsWrong : ChangeSpec := { name := "memRuns", fn := fun _ => fun
  | [d1, d2] => { results := [.lit (.bool false)], args := [d1, d2] }
  | _ => none }
def MemRunsWrongFalsely : Prop := memRunsRow.holds Try.pinned (OpenSpec.ofChange memRunsWrong)

/-- 'postchaiselaw04.ActTurns': WHATEVER THE INPUT: true; the input reads as it did. -/
def actTurnsSpec : ChangeSpec := { name := "actTurns", fn := fun _ => fun
  | [d1, d2, d3] => { results := [.lit (.bool true)], args := [d1, d2, d3] }
  | _ => none }
def actTurnsRow : OpenClaim := { program := "ythghndjfghdnnaa", sum := "659f965783cfb6c8c575138286a31641bd3df8366af66111dea0100b67fad48b", func := "postchaise/postchaiselaw04.ActTurns", spec := "actTurns", unfollowed := true, recurses := true, apart := false }
def ActTurnsSaid : Prop := actTurnsRow.holds Try.pinned (OpenSpec.ofChange actTurnsSpec)

/-- ITS FALSE NEIGHBOUR: 'it returns false'. Refute it at one input. -/
def actTurnsWrong : ChangeSpec := { name := "actTurns", fn := fun _ => fun
  | [d1, d2, d3] => { results := [.lit (.bool false)], args := [d1, d2, d3] }
  | _ => none }
def ActTurnsWrongFalsely : Prop := actTurnsRow.holds Try.pinned (OpenSpec.ofChange actTurnsWrong)

/-- 'postchaiselaw04.ActApart': WHATEVER THE INPUT: true; the input reads as it did. -/
def actApartSpec : ChangeSpec := { name := "actApart", fn := fun _ => fun
  | [d1, d2, d3] => { results := [.lit (.bool true)], args := [d1, d2, d3] }
  | _ => none }
def actApartRow : OpenClaim := { program := "ythghndjfghdnnaa", sum := "659f965783cfb6c8c575138286a31641bd3df8366af66111dea0100b67fad48b", func := "postchaise/postchaiselaw04.ActApart", spec := "actApart", unfollowed := true, recurses := true, apart := false }
def ActApartSaid : Prop := actApartRow.holds Try.pinned (OpenSpec.ofChange actApartSpec)

/-- ITS FALSE NEIGHBOUR: 'it returns false'. Refute it at one input. -/
def actApartWrong : ChangeSpec := { name := "actApart", fn := fun _ => fun
  | [d1, d2, d3] => { results := [.lit (.bool false)], args := [d1, d2, d3] }
  | _ => none }
def ActApartWrongFalsely : Prop := actApartRow.holds Try.pinned (OpenSpec.ofChange actApartWrong)

/- THE SECOND FORM. 'bulk': how many values and letters a reading holds, each counted each time it is reached (what is shared counts as often as it is met; a slice's spare places count too). A statement '..UptoSaid' is the law's where the arguments, and the package variables that the reading takes, are together of bulk at most 1048576: NARROWER than '..Said'. Prove '..Said' where nothing that the law and all that it calls make is longer than what came in: it says more and counts as full. Else prove '..UptoSaid'. A law counts once. -/
mutual
def uptoBulk {H : Type} : DataW H → Nat
  | .lit (.string bytes) => bytes.length + 1
  | .lit _ => 1
  | .nil => 1
  | .ptr d => uptoBulk d + 1
  | .slice elems spare => uptoBulkAll elems + uptoBulkAll spare + 1
  | .agg parts => uptoBulkAll parts + 1
  | .iface _ d => uptoBulk d + 1
  | .map entries => uptoBulkEntries entries + 1
  | .held _ => 1
def uptoBulkAll {H : Type} : List (DataW H) → Nat
  | [] => 0
  | d :: r => uptoBulk d + uptoBulkAll r
def uptoBulkEntries {H : Type} : List (Lit × DataW H) → Nat
  | [] => 0
  | x :: r => uptoBulkEntry x + uptoBulkEntries r
def uptoBulkEntry {H : Type} : Lit × DataW H → Nat
  | (.string bytes, d) => bytes.length + uptoBulk d + 1
  | (_, d) => uptoBulk d + 1
 end
def uptoSmall : (H : Type) → List (DataW H) → Bool := fun _ ds => decide (uptoBulkAll ds ≤ 1048576)
def OpenSpec.upto (s : _root_.Go.ChangeSpec) : _root_.Go.OpenSpec := { _root_.Go.OpenSpec.ofChange s with cond := some uptoSmall }

/-- 'postchaiselaw04.ActRuns', WHERE WHAT IT READS IS OF BULK AT MOST 1048576: true; the input reads as it did. -/
def actRunsUptoRow : OpenClaim := { program := "ythghndjfghdnnaa", sum := "659f965783cfb6c8c575138286a31641bd3df8366af66111dea0100b67fad48b", func := "postchaise/postchaiselaw04.ActRuns", spec := "actRuns", unfollowed := true, recurses := true, apart := false, narrowed := true }
def ActRunsUptoSaid : Prop := actRunsUptoRow.holds Try.pinned (OpenSpec.upto actRunsSpec)

/-- 'postchaiselaw03.MemPacks', WHERE WHAT IT READS IS OF BULK AT MOST 1048576: true; the input reads as it did. -/
def memPacksUptoRow : OpenClaim := { program := "ythghndjfghdnnaa", sum := "659f965783cfb6c8c575138286a31641bd3df8366af66111dea0100b67fad48b", func := "postchaise/postchaiselaw03.MemPacks", spec := "memPacks", apart := false, narrowed := true }
def MemPacksUptoSaid : Prop := memPacksUptoRow.holds Try.pinned (OpenSpec.upto memPacksSpec)

/-- 'postchaiselaw03.MemApart', WHERE WHAT IT READS IS OF BULK AT MOST 1048576: true; the input reads as it did. -/
def memApartUptoRow : OpenClaim := { program := "ythghndjfghdnnaa", sum := "659f965783cfb6c8c575138286a31641bd3df8366af66111dea0100b67fad48b", func := "postchaise/postchaiselaw03.MemApart", spec := "memApart", apart := false, narrowed := true }
def MemApartUptoSaid : Prop := memApartUptoRow.holds Try.pinned (OpenSpec.upto memApartSpec)

/-- 'postchaiselaw03.MemRuns', WHERE WHAT IT READS IS OF BULK AT MOST 1048576: true; the input reads as it did. -/
def memRunsUptoRow : OpenClaim := { program := "ythghndjfghdnnaa", sum := "659f965783cfb6c8c575138286a31641bd3df8366af66111dea0100b67fad48b", func := "postchaise/postchaiselaw03.MemRuns", spec := "memRuns", apart := false, narrowed := true }
def MemRunsUptoSaid : Prop := memRunsUptoRow.holds Try.pinned (OpenSpec.upto memRunsSpec)

/-- 'postchaiselaw04.ActTurns', WHERE WHAT IT READS IS OF BULK AT MOST 1048576: true; the input reads as it did. -/
def actTurnsUptoRow : OpenClaim := { program := "ythghndjfghdnnaa", sum := "659f965783cfb6c8c575138286a31641bd3df8366af66111dea0100b67fad48b", func := "postchaise/postchaiselaw04.ActTurns", spec := "actTurns", unfollowed := true, recurses := true, apart := false, narrowed := true }
def ActTurnsUptoSaid : Prop := actTurnsUptoRow.holds Try.pinned (OpenSpec.upto actTurnsSpec)

/-- 'postchaiselaw04.ActApart', WHERE WHAT IT READS IS OF BULK AT MOST 1048576: true; the input reads as it did. -/
def actApartUptoRow : OpenClaim := { program := "ythghndjfghdnnaa", sum := "659f965783cfb6c8c575138286a31641bd3df8366af66111dea0100b67fad48b", func := "postchaise/postchaiselaw04.ActApart", spec := "actApart", unfollowed := true, recurses := true, apart := false, narrowed := true }
def ActApartUptoSaid : Prop := actApartUptoRow.holds Try.pinned (OpenSpec.upto actApartSpec)

end Rows
end Go.Proofs.Ythghndjfghdnnaa
