/-
  DERIVED. GIVEN WITH THE SEED: THE CARDS: each row of YtfelbecofbdeaaaDoorRows.lean that lists a variable, with what it lists TIED to the program's text (the seventh form; the later family's looks); each row that meets fmt, with fmt's text TOLD by the authors' own Lean function (tested against real Go, not proved from fmt's source: count such statements apart). THE CARD IS WHAT COUNTS. Prove the row's statement (the work); the ties are given (YtfelbecofbdeaaaDoorTie.lean); close each card by the builder's one call (the guide's Derived/Test/ToyasCard.lean, 'card_holds'). Laid BY PROGRAM, IN A SANDBOX (cutbox-door.mjs). By AI agents, Wed Nov 11 2026. No macro, syntax, notation, axiom, sorry.
-/
import Derived.Test.YtfelbecofbdeaaaDoorRows
import GoSem.ClaimSeven
namespace Go.Proofs.YtfelbecofbdeaaaDoor
namespace Rows

/-- THE TIED CARD OF 'undertonelaw02.CodeWrites'. -/
def codeWritesCard : Claim7 := { stood := { row := codeWritesRow, standIns := [], harness := (true, "bbddde99be4c275b71a1a57d314b54cfb62e1413c551f2e5aaecf59bd0b6bd04"), looks := true }, kinds := [], alts := [], laidByText := true, laidKinds := [.data, .data, .data, .data, .sentinel, .sentinel, .pinned], laidTests := true, laidLooks := .later }
def CodeWritesCardSaid : Prop := Claim7.holds Tryd.pinned (.plain (OpenSpec.ofChange codeWritesSpec)) codeWritesCard

/-- THE TIED CARD OF 'undertonelaw02.CodeBack'. -/
def codeBackCard : Claim7 := { stood := { row := codeBackRow, standIns := [], harness := (true, "bbddde99be4c275b71a1a57d314b54cfb62e1413c551f2e5aaecf59bd0b6bd04"), looks := true }, kinds := [], alts := [], laidByText := true, laidKinds := [.data, .data, .data, .data, .sentinel, .sentinel, .pinned], laidTests := true, laidLooks := .later }
def CodeBackCardSaid : Prop := Claim7.holds Tryd.pinned (.plain (OpenSpec.ofChange codeBackSpec)) codeBackCard

/-- THE TIED CARD OF 'undertonelaw02.CodeApart'. -/
def codeApartCard : Claim7 := { stood := { row := codeApartRow, standIns := [], harness := (true, "bbddde99be4c275b71a1a57d314b54cfb62e1413c551f2e5aaecf59bd0b6bd04"), looks := true }, kinds := [], alts := [], laidByText := true, laidKinds := [.data, .data, .data, .data, .sentinel, .sentinel, .pinned], laidTests := true, laidLooks := .later }
def CodeApartCardSaid : Prop := Claim7.holds Tryd.pinned (.plain (OpenSpec.ofChange codeApartSpec)) codeApartCard

/-- THE TIED CARD OF 'undertonelaw02.CodeRows'. -/
def codeRowsCard : Claim7 := { stood := { row := codeRowsRow, standIns := [], harness := (true, "bbddde99be4c275b71a1a57d314b54cfb62e1413c551f2e5aaecf59bd0b6bd04"), looks := true }, kinds := [], alts := [], laidByText := true, laidKinds := [.data, .data, .data, .data, .sentinel, .sentinel, .pinned], laidTests := true, laidLooks := .later }
def CodeRowsCardSaid : Prop := Claim7.holds Tryd.pinned (.plain (OpenSpec.ofChange codeRowsSpec)) codeRowsCard

/-- THE TIED CARD OF 'undertonelaw02.CodeTwice'. -/
def codeTwiceCard : Claim7 := { stood := { row := codeTwiceRow, standIns := [], harness := (true, "bbddde99be4c275b71a1a57d314b54cfb62e1413c551f2e5aaecf59bd0b6bd04"), looks := true }, kinds := [], alts := [], laidByText := true, laidKinds := [.data, .data, .data, .data, .sentinel, .sentinel, .pinned], laidTests := true, laidLooks := .later }
def CodeTwiceCardSaid : Prop := Claim7.holds Tryd.pinned (.plain (OpenSpec.ofChange codeTwiceSpec)) codeTwiceCard

/-- THE TIED CARD OF 'undertonelaw02.CodeSizes'. -/
def codeSizesCard : Claim7 := { stood := { row := codeSizesRow, standIns := [], harness := (true, "bbddde99be4c275b71a1a57d314b54cfb62e1413c551f2e5aaecf59bd0b6bd04"), looks := true }, kinds := [], alts := [], laidByText := true, laidKinds := [.data, .data, .data, .data, .sentinel, .sentinel, .pinned], laidTests := true, laidLooks := .later }
def CodeSizesCardSaid : Prop := Claim7.holds Tryd.pinned (.plain (OpenSpec.ofChange codeSizesSpec)) codeSizesCard

/-- THE SECOND FORM's CARD OF 'undertonelaw02.CodeWrites'. -/
def codeWritesUptoCard : Claim7 := { stood := { row := codeWritesUptoRow, standIns := [], harness := (true, "bbddde99be4c275b71a1a57d314b54cfb62e1413c551f2e5aaecf59bd0b6bd04"), looks := true }, kinds := [], alts := [], laidByText := true, laidKinds := [.data, .data, .data, .data, .sentinel, .sentinel, .pinned], laidTests := true, laidLooks := .later }
def CodeWritesUptoCardSaid : Prop := Claim7.holds Tryd.pinned (.plain (OpenSpec.upto codeWritesSpec)) codeWritesUptoCard

/-- THE SECOND FORM's CARD OF 'undertonelaw02.CodeBack'. -/
def codeBackUptoCard : Claim7 := { stood := { row := codeBackUptoRow, standIns := [], harness := (true, "bbddde99be4c275b71a1a57d314b54cfb62e1413c551f2e5aaecf59bd0b6bd04"), looks := true }, kinds := [], alts := [], laidByText := true, laidKinds := [.data, .data, .data, .data, .sentinel, .sentinel, .pinned], laidTests := true, laidLooks := .later }
def CodeBackUptoCardSaid : Prop := Claim7.holds Tryd.pinned (.plain (OpenSpec.upto codeBackSpec)) codeBackUptoCard

/-- THE SECOND FORM's CARD OF 'undertonelaw02.CodeApart'. -/
def codeApartUptoCard : Claim7 := { stood := { row := codeApartUptoRow, standIns := [], harness := (true, "bbddde99be4c275b71a1a57d314b54cfb62e1413c551f2e5aaecf59bd0b6bd04"), looks := true }, kinds := [], alts := [], laidByText := true, laidKinds := [.data, .data, .data, .data, .sentinel, .sentinel, .pinned], laidTests := true, laidLooks := .later }
def CodeApartUptoCardSaid : Prop := Claim7.holds Tryd.pinned (.plain (OpenSpec.upto codeApartSpec)) codeApartUptoCard

/-- THE SECOND FORM's CARD OF 'undertonelaw02.CodeRows'. -/
def codeRowsUptoCard : Claim7 := { stood := { row := codeRowsUptoRow, standIns := [], harness := (true, "bbddde99be4c275b71a1a57d314b54cfb62e1413c551f2e5aaecf59bd0b6bd04"), looks := true }, kinds := [], alts := [], laidByText := true, laidKinds := [.data, .data, .data, .data, .sentinel, .sentinel, .pinned], laidTests := true, laidLooks := .later }
def CodeRowsUptoCardSaid : Prop := Claim7.holds Tryd.pinned (.plain (OpenSpec.upto codeRowsSpec)) codeRowsUptoCard

/-- THE SECOND FORM's CARD OF 'undertonelaw02.CodeTwice'. -/
def codeTwiceUptoCard : Claim7 := { stood := { row := codeTwiceUptoRow, standIns := [], harness := (true, "bbddde99be4c275b71a1a57d314b54cfb62e1413c551f2e5aaecf59bd0b6bd04"), looks := true }, kinds := [], alts := [], laidByText := true, laidKinds := [.data, .data, .data, .data, .sentinel, .sentinel, .pinned], laidTests := true, laidLooks := .later }
def CodeTwiceUptoCardSaid : Prop := Claim7.holds Tryd.pinned (.plain (OpenSpec.upto codeTwiceSpec)) codeTwiceUptoCard

/-- THE SECOND FORM's CARD OF 'undertonelaw02.CodeSizes'. -/
def codeSizesUptoCard : Claim7 := { stood := { row := codeSizesUptoRow, standIns := [], harness := (true, "bbddde99be4c275b71a1a57d314b54cfb62e1413c551f2e5aaecf59bd0b6bd04"), looks := true }, kinds := [], alts := [], laidByText := true, laidKinds := [.data, .data, .data, .data, .sentinel, .sentinel, .pinned], laidTests := true, laidLooks := .later }
def CodeSizesUptoCardSaid : Prop := Claim7.holds Tryd.pinned (.plain (OpenSpec.upto codeSizesSpec)) codeSizesUptoCard
end Rows
end Go.Proofs.YtfelbecofbdeaaaDoor
