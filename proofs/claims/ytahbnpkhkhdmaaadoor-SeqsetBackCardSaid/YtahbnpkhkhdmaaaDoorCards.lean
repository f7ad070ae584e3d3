/-
  DERIVED. GIVEN WITH THE SEED: THE CARDS: each row of YtahbnpkhkhdmaaaDoorRows.lean that lists a variable, with what it lists TIED to the program's text (the seventh form; the later family's looks); each row that meets fmt, with fmt's text TOLD by the authors' own Lean function (tested against real Go, not proved from fmt's source: count such statements apart). THE CARD IS WHAT COUNTS. Prove the row's statement (the work); the ties are given (YtahbnpkhkhdmaaaDoorTie.lean); close each card by the builder's one call (the guide's Derived/Test/ToyasCard.lean, 'card_holds'). Laid BY PROGRAM, IN A SANDBOX (cutbox-door.mjs). By AI agents, Wed Nov 11 2026. No macro, syntax, notation, axiom, sorry.
-/
import Derived.Test.YtahbnpkhkhdmaaaDoorRows
import GoSem.ClaimSeven
namespace Go.Proofs.YtahbnpkhkhdmaaaDoor
namespace Rows

/-- THE TIED CARD OF 'postchaiselaw01.FlagsParses'. -/
def flagsParsesCard : Claim7 := { stood := { row := flagsParsesRow, standIns := [], harness := (true, "a05e9ec925f6a43409b70bf8f0e6ae7d1c44d97a77606053f5dea31443dda426"), looks := true }, kinds := [], alts := [], laidByText := true, laidKinds := [.data, .data, .pinned], laidTests := true, laidLooks := .later }
def FlagsParsesCardSaid : Prop := Claim7.holds Tryd.pinned (.plain (OpenSpec.ofChange flagsParsesSpec)) flagsParsesCard

/-- THE TIED CARD OF 'postchaiselaw01.FlagsTells'. -/
def flagsTellsCard : Claim7 := { stood := { row := flagsTellsRow, standIns := [], harness := (true, "a05e9ec925f6a43409b70bf8f0e6ae7d1c44d97a77606053f5dea31443dda426"), looks := true }, kinds := [], alts := [], laidByText := true, laidKinds := [.data, .data, .pinned], laidTests := true, laidLooks := .later }
def FlagsTellsCardSaid : Prop := Claim7.holds Tryd.pinned (.plain (OpenSpec.ofChange flagsTellsSpec)) flagsTellsCard

/-- THE TIED CARD OF 'postchaiselaw01.FlagsBack'. -/
def flagsBackCard : Claim7 := { stood := { row := flagsBackRow, standIns := [], harness := (true, "a05e9ec925f6a43409b70bf8f0e6ae7d1c44d97a77606053f5dea31443dda426"), looks := true }, kinds := [], alts := [], laidByText := true, laidKinds := [.data, .data, .pinned], laidTests := true, laidLooks := .later }
def FlagsBackCardSaid : Prop := Claim7.holds Tryd.pinned (.plain (OpenSpec.ofChange flagsBackSpec)) flagsBackCard

/-- THE TIED CARD OF 'postchaiselaw02.SeqsetParses'. -/
def seqsetParsesCard : Claim7 := { stood := { row := seqsetParsesRow, standIns := [], harness := (true, "a05e9ec925f6a43409b70bf8f0e6ae7d1c44d97a77606053f5dea31443dda426"), looks := true }, kinds := [], alts := [], laidByText := true, laidKinds := [.data, .data, .data, .data, .sentinel, .sentinel, .pinned], laidTests := true, laidLooks := .later }
def SeqsetParsesCardSaid : Prop := Claim7.holds Tryd.pinned (.plain (OpenSpec.ofChange seqsetParsesSpec)) seqsetParsesCard

/-- THE TIED CARD OF 'postchaiselaw02.SeqsetWalks'. -/
def seqsetWalksCard : Claim7 := { stood := { row := seqsetWalksRow, standIns := [], harness := (true, "a05e9ec925f6a43409b70bf8f0e6ae7d1c44d97a77606053f5dea31443dda426"), looks := true }, kinds := [], alts := [], laidByText := true, laidKinds := [.data, .data, .data, .data, .sentinel, .sentinel, .pinned], laidTests := true, laidLooks := .later }
def SeqsetWalksCardSaid : Prop := Claim7.holds Tryd.pinned (.plain (OpenSpec.ofChange seqsetWalksSpec)) seqsetWalksCard

/-- THE TIED CARD OF 'postchaiselaw02.SeqsetBack'. -/
def seqsetBackCard : Claim7 := { stood := { row := seqsetBackRow, standIns := [], harness := (true, "a05e9ec925f6a43409b70bf8f0e6ae7d1c44d97a77606053f5dea31443dda426"), looks := true }, kinds := [], alts := [], laidByText := true, laidKinds := [.data, .data, .data, .data, .sentinel, .sentinel, .pinned], laidTests := true, laidLooks := .later }
def SeqsetBackCardSaid : Prop := Claim7.holds Tryd.pinned (.plain (OpenSpec.ofChange seqsetBackSpec)) seqsetBackCard

/-- THE SECOND FORM's CARD OF 'postchaiselaw01.FlagsParses'. -/
def flagsParsesUptoCard : Claim7 := { stood := { row := flagsParsesUptoRow, standIns := [], harness := (true, "a05e9ec925f6a43409b70bf8f0e6ae7d1c44d97a77606053f5dea31443dda426"), looks := true }, kinds := [], alts := [], laidByText := true, laidKinds := [.data, .data, .pinned], laidTests := true, laidLooks := .later }
def FlagsParsesUptoCardSaid : Prop := Claim7.holds Tryd.pinned (.plain (OpenSpec.upto flagsParsesSpec)) flagsParsesUptoCard

/-- THE SECOND FORM's CARD OF 'postchaiselaw01.FlagsTells'. -/
def flagsTellsUptoCard : Claim7 := { stood := { row := flagsTellsUptoRow, standIns := [], harness := (true, "a05e9ec925f6a43409b70bf8f0e6ae7d1c44d97a77606053f5dea31443dda426"), looks := true }, kinds := [], alts := [], laidByText := true, laidKinds := [.data, .data, .pinned], laidTests := true, laidLooks := .later }
def FlagsTellsUptoCardSaid : Prop := Claim7.holds Tryd.pinned (.plain (OpenSpec.upto flagsTellsSpec)) flagsTellsUptoCard

/-- THE SECOND FORM's CARD OF 'postchaiselaw01.FlagsBack'. -/
def flagsBackUptoCard : Claim7 := { stood := { row := flagsBackUptoRow, standIns := [], harness := (true, "a05e9ec925f6a43409b70bf8f0e6ae7d1c44d97a77606053f5dea31443dda426"), looks := true }, kinds := [], alts := [], laidByText := true, laidKinds := [.data, .data, .pinned], laidTests := true, laidLooks := .later }
def FlagsBackUptoCardSaid : Prop := Claim7.holds Tryd.pinned (.plain (OpenSpec.upto flagsBackSpec)) flagsBackUptoCard

/-- THE SECOND FORM's CARD OF 'postchaiselaw02.SeqsetParses'. -/
def seqsetParsesUptoCard : Claim7 := { stood := { row := seqsetParsesUptoRow, standIns := [], harness := (true, "a05e9ec925f6a43409b70bf8f0e6ae7d1c44d97a77606053f5dea31443dda426"), looks := true }, kinds := [], alts := [], laidByText := true, laidKinds := [.data, .data, .data, .data, .sentinel, .sentinel, .pinned], laidTests := true, laidLooks := .later }
def SeqsetParsesUptoCardSaid : Prop := Claim7.holds Tryd.pinned (.plain (OpenSpec.upto seqsetParsesSpec)) seqsetParsesUptoCard

/-- THE SECOND FORM's CARD OF 'postchaiselaw02.SeqsetWalks'. -/
def seqsetWalksUptoCard : Claim7 := { stood := { row := seqsetWalksUptoRow, standIns := [], harness := (true, "a05e9ec925f6a43409b70bf8f0e6ae7d1c44d97a77606053f5dea31443dda426"), looks := true }, kinds := [], alts := [], laidByText := true, laidKinds := [.data, .data, .data, .data, .sentinel, .sentinel, .pinned], laidTests := true, laidLooks := .later }
def SeqsetWalksUptoCardSaid : Prop := Claim7.holds Tryd.pinned (.plain (OpenSpec.upto seqsetWalksSpec)) seqsetWalksUptoCard

/-- THE SECOND FORM's CARD OF 'postchaiselaw02.SeqsetBack'. -/
def seqsetBackUptoCard : Claim7 := { stood := { row := seqsetBackUptoRow, standIns := [], harness := (true, "a05e9ec925f6a43409b70bf8f0e6ae7d1c44d97a77606053f5dea31443dda426"), looks := true }, kinds := [], alts := [], laidByText := true, laidKinds := [.data, .data, .data, .data, .sentinel, .sentinel, .pinned], laidTests := true, laidLooks := .later }
def SeqsetBackUptoCardSaid : Prop := Claim7.holds Tryd.pinned (.plain (OpenSpec.upto seqsetBackSpec)) seqsetBackUptoCard
end Rows
end Go.Proofs.YtahbnpkhkhdmaaaDoor
