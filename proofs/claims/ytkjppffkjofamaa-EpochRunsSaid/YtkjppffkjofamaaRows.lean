/-
  No cell of these rows narrows 'for every input' (looked for: loops, veiled, ifaces, maps, wideKeys, modest, calm, conditions, laid).
  DERIVED. THE GIVEN ROWS OF THIS SEAT. 5 by the template 'for every input the law returns true; each argument reads behind the call as it read before'; 0 by the template 'total and deterministic' (their statements: YtkjppffkjofamaaTotals.lean).
  GIVEN WITH THE SEED: the statements are not yours to turn. If you find one false, say at which input.
  Laid BY PROGRAM, IN A SANDBOX (cutbox-rows.mjs): the forced cells as the released guide's own fill.sh prints them over the translation 1f2780450651922e… (all of the seat's roots in one cut). By AI agents, Wed Nov 11 2026. No macro, syntax, notation, axiom, sorry.
-/
import Derived.Test.YtkjppffkjofamaaChecked
import GoSem.Claim
import GoSem.ClaimJoined
import GoSem.ClaimMapViews
import Derived.JoinedTies
import Derived.KernelRfl
namespace Go.Proofs.Ytkjppffkjofamaa
/- THE CELL 'sum', in the pinned program and in every row, IS THE sha256 OF THE DUMP (.gsa) THAT YtkjppffkjofamaaProg.lean LOADS. Nothing in Lean hashes anything: it is a label: what it is worth is what the hold of that sum in a sandbox is worth. -/
noncomputable def Try.pinned : Pinned := { name := "ytkjppffkjofamaa", sum := "1f2780450651922e1737325a2ad3df037ae41d49f52d9566be3b69a01543303f", checked := Try.checked }
namespace Rows
def none {H : Type} : Left H := { results := [], args := [] }

/-- 'postchaiselaw06.EpochLimbo': WHATEVER THE INPUT: true; the input reads as it did. -/
def epochLimboSpec : ChangeSpec := { name := "epochLimbo", fn := fun _ => fun
  | [d] => { results := [.lit (.bool true)], args := [d] }
  | _ => none }
def epochLimboRow : OpenClaim := { program := "ytkjppffkjofamaa", sum := "1f2780450651922e1737325a2ad3df037ae41d49f52d9566be3b69a01543303f", func := "postchaise/postchaiselaw06.EpochLimbo", spec := "epochLimbo", unfollowed := true, recurses := true, apart := false }
def EpochLimboSaid : Prop := epochLimboRow.holds Try.pinned (OpenSpec.ofChange epochLimboSpec)

/-- ITS FALSE NEIGHBOUR: 'it returns false'. Refute it at one input. -/
def epochLimboWrong : ChangeSpec := { name := "epochLimbo", fn := fun _ => fun
  | [d] => { results := [.lit (.bool false)], args := [d] }
  | _ => none }
def EpochLimboWrongFalsely : Prop := epochLimboRow.holds Try.pinned (OpenSpec.ofChange epochLimboWrong)

/-- 'postchaiselaw06.EpochRuns': WHATEVER THE INPUT: true; the input reads as it did. -/
def epochRunsSpec : ChangeSpec := { name := "epochRuns", fn := fun _ => fun
  | [d] => { results := [.lit (.bool true)], args := [d] }
  | _ => none }
def epochRunsRow : OpenClaim := { program := "ytkjppffkjofamaa", sum := "1f2780450651922e1737325a2ad3df037ae41d49f52d9566be3b69a01543303f", func := "postchaise/postchaiselaw06.EpochRuns", spec := "epochRuns", unfollowed := true, recurses := true, apart := false }
def EpochRunsSaid : Prop := epochRunsRow.holds Try.pinned (OpenSpec.ofChange epochRunsSpec)

/-- ITS FALSE NEIGHBOUR: 'it returns false'. Refute it at one input. -/
def epochRunsWrong : ChangeSpec := { name := "epochRuns", fn := fun _ => fun
  | [d] => { results := [.lit (.bool false)], args := [d] }
  | _ => none }
def EpochRunsWrongFalsely : Prop := epochRunsRow.holds Try.pinned (OpenSpec.ofChange epochRunsWrong)

/-- 'postchaiselaw06.EpochMakes': WHATEVER THE INPUT: true; the input reads as it did. -/
def epochMakesSpec : ChangeSpec := { name := "epochMakes", fn := fun _ => fun
  | [d1, d2, d3] => { results := [.lit (.bool true)], args := [d1, d2, d3] }
  | _ => none }
def epochMakesRow : OpenClaim := { program := "ytkjppffkjofamaa", sum := "1f2780450651922e1737325a2ad3df037ae41d49f52d9566be3b69a01543303f", func := "postchaise/postchaiselaw06.EpochMakes", spec := "epochMakes", unfollowed := true, recurses := true, apart := false }
def EpochMakesSaid : Prop := epochMakesRow.holds Try.pinned (OpenSpec.ofChange epochMakesSpec)

/-- ITS FALSE NEIGHBOUR: 'it returns false'. Refute it at one input. -/
def epochMakesWrong : ChangeSpec := { name := "epochMakes", fn := fun _ => fun
  | [d1, d2, d3] => { results := [.lit (.bool false)], args := [d1, d2, d3] }
  | _ => none }
def EpochMakesWrongFalsely : Prop := epochMakesRow.holds Try.pinned (OpenSpec.ofChange epochMakesWrong)

/-- 'postchaiselaw06.EpochAlone': WHATEVER THE INPUT: true; the input reads as it did. -/
def epochAloneSpec : ChangeSpec := { name := "epochAlone", fn := fun _ => fun
  | [d1, d2] => { results := [.lit (.bool true)], args := [d1, d2] }
  | _ => none }
def epochAloneRow : OpenClaim := { program := "ytkjppffkjofamaa", sum := "1f2780450651922e1737325a2ad3df037ae41d49f52d9566be3b69a01543303f", func := "postchaise/postchaiselaw06.EpochAlone", spec := "epochAlone", unfollowed := true, recurses := true, apart := false }
def EpochAloneSaid : Prop := epochAloneRow.holds Try.pinned (OpenSpec.ofChange epochAloneSpec)

/-- ITS FALSE NEIGHBOUR: 'it returns false'. Refute it at one input. -/
def epochAloneWrong : ChangeSpec := { name := "epochAlone", fn := fun _ => fun
  | [d1, d2] => { results := [.lit (.bool false)], args := [d1, d2] }
  | _ => none }
def EpochAloneWrongFalsely : Prop := epochAloneRow.holds Try.pinned (OpenSpec.ofChange epochAloneWrong)

/-- 'postchaiselaw06.EpochQuick': WHATEVER THE INPUT: true; the input reads as it did. -/
def epochQuickSpec : ChangeSpec := { name := "epochQuick", fn := fun _ => fun
  | [d1, d2] => { results := [.lit (.bool true)], args := [d1, d2] }
  | _ => none }
def epochQuickRow : OpenClaim := { program := "ytkjppffkjofamaa", sum := "1f2780450651922e1737325a2ad3df037ae41d49f52d9566be3b69a01543303f", func := "postchaise/postchaiselaw06.EpochQuick", spec := "epochQuick", unfollowed := true, recurses := true, apart := false }
def EpochQuickSaid : Prop := epochQuickRow.holds Try.pinned (OpenSpec.ofChange epochQuickSpec)

/-- ITS FALSE NEIGHBOUR: 'it returns false'. Refute it at one input. -/
def epochQuickWrong : ChangeSpec := { name := "epochQuick", fn := fun _ => fun
  | [d1, d2] => { results := [.lit (.bool false)], args := [d1, d2] }
  | _ => none }
def EpochQuickWrongFalsely : Prop := epochQuickRow.holds Try.pinned (OpenSpec.ofChange epochQuickWrong)

/- THE SECOND FORM. 'bulk': how many values and letters a reading holds, each counted each time it is reached (what is shared counts as often as it is met; a slice's spare places count too). A statement '..UptoSaid' is the law's where the arguments, and the package variables that the reading takes, are together of bulk at most 1048576: NARROWER than '..Said'. Prove '..Said' where nothing that the law and all that it calls make is longer than what came in: it says more and counts as full. Else prove '..UptoSaid'. A law counts once. -/
mutual
def uptoBulk {H : Type} : DataW H → Nat
  | .lit (.string bytes) => bytes.length + 1
  | .lit _ => 1
  | .nil => 1
  | .ptr d => uptoBulk d + 1
  | .slice elems spare => uptoBulkAll elems + uptoBulkAll spare + 1
  | .agg parts => uptoBulkAll parts + 1
  | .iface _ d => uptoBulk d + 1
  | .map entries => uptoBulkEntries entries + 1
  | .held _ => 1
def uptoBulkAll {H : Type} : List (DataW H) → Nat
  | [] => 0
  | d :: r => uptoBulk d + uptoBulkAll r
def uptoBulkEntries {H : Type} : List (Lit × DataW H) → Nat
  | [] => 0
  | x :: r => uptoBulkEntry x + uptoBulkEntries r
def uptoBulkEntry {H : Type} : Lit × DataW H → Nat
  | (.string bytes, d) => bytes.length + uptoBulk d + 1
  | (_, d) => uptoBulk d + 1
 end
def uptoSmall : (H : Type) → List (DataW H) → Bool := fun _ ds => decide (uptoBulkAll ds ≤ 1048576)
def OpenSpec.upto (s : _root_.Go.ChangeSpec) : _root_.Go.OpenSpec := { _root_.Go.OpenSpec.ofChange s with cond := some uptoSmall }

/-- 'postchaiselaw06.EpochLimbo', WHERE WHAT IT READS IS OF BULK AT MOST 1048576: true; the input reads as it did. -/
def epochLimboUptoRow : OpenClaim := { program := "ytkjppffkjofamaa", sum := "1f2780450651922e1737325a2ad3df037ae41d49f52d9566be3b69a01543303f", func := "postchaise/postchaiselaw06.EpochLimbo", spec := "epochLimbo", unfollowed := true, recurses := true, apart := false, narrowed := true }
def EpochLimboUptoSaid : Prop := epochLimboUptoRow.holds Try.pinned (OpenSpec.upto epochLimboSpec)

/-- 'postchaiselaw06.EpochRuns', WHERE WHAT IT READS IS OF BULK AT MOST 1048576: true; the input reads as it did. -/
def epochRunsUptoRow : OpenClaim := { program := "ytkjppffkjofamaa", sum := "1f2780450651922e1737325a2ad3df037ae41d49f52d9566be3b69a01543303f", func := "postchaise/postchaiselaw06.EpochRuns", spec := "epochRuns", unfollowed := true, recurses := true, apart := false, narrowed := true }
def EpochRunsUptoSaid : Prop := epochRunsUptoRow.holds Try.pinned (OpenSpec.upto epochRunsSpec)

/-- 'postchaiselaw06.EpochMakes', WHERE WHAT IT READS IS OF BULK AT MOST 1048576: true; the input reads as it did. -/
def epochMakesUptoRow : OpenClaim := { program := "ytkjppffkjofamaa", sum := "1f2780450651922e1737325a2ad3df037ae41d49f52d9566be3b69a01543303f", func := "postchaise/postchaiselaw06.EpochMakes", spec := "epochMakes", unfollowed := true, recurses := true, apart := false, narrowed := true }
def EpochMakesUptoSaid : Prop := epochMakesUptoRow.holds Try.pinned (OpenSpec.upto epochMakesSpec)

/-- 'postchaiselaw06.EpochAlone', WHERE WHAT IT READS IS OF BULK AT MOST 1048576: true; the input reads as it did. -/
def epochAloneUptoRow : OpenClaim := { program := "ytkjppffkjofamaa", sum := "1f2780450651922e1737325a2ad3df037ae41d49f52d9566be3b69a01543303f", func := "postchaise/postchaiselaw06.EpochAlone", spec := "epochAlone", unfollowed := true, recurses := true, apart := false, narrowed := true }
def EpochAloneUptoSaid : Prop := epochAloneUptoRow.holds Try.pinned (OpenSpec.upto epochAloneSpec)

/-- 'postchaiselaw06.EpochQuick', WHERE WHAT IT READS IS OF BULK AT MOST 1048576: true; the input reads as it did. -/
def epochQuickUptoRow : OpenClaim := { program := "ytkjppffkjofamaa", sum := "1f2780450651922e1737325a2ad3df037ae41d49f52d9566be3b69a01543303f", func := "postchaise/postchaiselaw06.EpochQuick", spec := "epochQuick", unfollowed := true, recurses := true, apart := false, narrowed := true }
def EpochQuickUptoSaid : Prop := epochQuickUptoRow.holds Try.pinned (OpenSpec.upto epochQuickSpec)

end Rows
end Go.Proofs.Ytkjppffkjofamaa
