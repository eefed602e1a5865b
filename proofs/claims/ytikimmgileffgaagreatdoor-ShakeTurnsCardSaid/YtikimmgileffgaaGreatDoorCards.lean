/-
  DERIVED. GIVEN WITH THE SEED: THE CARDS: each row of YtikimmgileffgaaGreatDoorRows.lean that lists a variable, with what it lists TIED to the program's text (the seventh form; the later family's looks); each row that meets fmt, with fmt's text TOLD by the authors' own Lean function (tested against real Go, not proved from fmt's source: count such statements apart). THE CARD IS WHAT COUNTS. Prove the row's statement (the work); the ties are given (YtikimmgileffgaaGreatDoorTie.lean); close each card by the builder's one call (the guide's Derived/Test/ToyasCard.lean, 'card_holds'). Laid BY PROGRAM, IN A SANDBOX (cutbox-door.mjs). By AI agents, Wed Nov 11 2026. No macro, syntax, notation, axiom, sorry.
-/
import Derived.Test.YtikimmgileffgaaGreatDoorRows
import GoSem.ClaimSeven
namespace Go.Proofs.YtikimmgileffgaaGreatDoor
namespace Rows

/-- THE TIED CARD OF 'undertonelaw13.TransOf'. -/
def transOfCard : Claim7 := { stood := { row := transOfRow, standIns := [], harness := (true, "9c8d2ffca967bd67aea5637b5d1b5e1923a42c30d05d87a91e8424a6a6657626"), looks := true }, kinds := [], alts := [], laidByText := true, laidKinds := [.data, .listed, .data, .pinned], laidTests := true, laidLooks := .later }
def TransOfCardSaid : Prop := Claim7.holds Tryz.pinned (.plain (OpenSpec.ofChange transOfSpec)) transOfCard

/-- THE TIED CARD OF 'undertonelaw12.ShakeOthers'. -/
def shakeOthersCard : Claim7 := { stood := { row := shakeOthersRow, standIns := [], harness := (true, "9c8d2ffca967bd67aea5637b5d1b5e1923a42c30d05d87a91e8424a6a6657626"), looks := true }, kinds := [], alts := [], laidByText := true, laidKinds := [.data, .listed, .data, .pinned], laidTests := true, laidLooks := .later }
def ShakeOthersCardSaid : Prop := Claim7.holds Tryz.pinned (.plain (OpenSpec.ofChange shakeOthersSpec)) shakeOthersCard

/-- THE TIED CARD OF 'undertonelaw12.ShakeBoth'. -/
def shakeBothCard : Claim7 := { stood := { row := shakeBothRow, standIns := [], harness := (true, "9c8d2ffca967bd67aea5637b5d1b5e1923a42c30d05d87a91e8424a6a6657626"), looks := true }, kinds := [], alts := [], laidByText := true, laidKinds := [.data, .listed, .data, .pinned], laidTests := true, laidLooks := .later }
def ShakeBothCardSaid : Prop := Claim7.holds Tryz.pinned (.plain (OpenSpec.ofChange shakeBothSpec)) shakeBothCard

/-- THE TIED CARD OF 'undertonelaw12.ShakeTurns'. -/
def shakeTurnsCard : Claim7 := { stood := { row := shakeTurnsRow, standIns := [], harness := (true, "9c8d2ffca967bd67aea5637b5d1b5e1923a42c30d05d87a91e8424a6a6657626"), looks := true }, kinds := [], alts := [], laidByText := true, laidKinds := [.data, .listed, .data, .pinned], laidTests := true, laidLooks := .later }
def ShakeTurnsCardSaid : Prop := Claim7.holds Tryz.pinned (.plain (OpenSpec.ofChange shakeTurnsSpec)) shakeTurnsCard

/-- THE TIED CARD OF 'undertonelaw17.SessPolicy'. -/
def sessPolicyCard : Claim7 := { stood := { row := sessPolicyRow, standIns := [], harness := (true, "9c8d2ffca967bd67aea5637b5d1b5e1923a42c30d05d87a91e8424a6a6657626"), looks := true }, kinds := [], alts := [], laidByText := true, laidKinds := [.data, .listed, .data, .pinned], laidTests := true, laidLooks := .later }
def SessPolicyCardSaid : Prop := Claim7.holds Tryz.pinned (.plain (OpenSpec.ofChange sessPolicySpec)) sessPolicyCard

/-- THE TIED CARD OF 'undertonelaw17.SessReplays'. -/
def sessReplaysCard : Claim7 := { stood := { row := sessReplaysRow, standIns := [], harness := (true, "9c8d2ffca967bd67aea5637b5d1b5e1923a42c30d05d87a91e8424a6a6657626"), looks := true }, kinds := [], alts := [], laidByText := true, laidKinds := [.data, .listed, .data, .pinned], laidTests := true, laidLooks := .later }
def SessReplaysCardSaid : Prop := Claim7.holds Tryz.pinned (.plain (OpenSpec.ofChange sessReplaysSpec)) sessReplaysCard

/-- THE TIED CARD OF 'undertonelaw17.SessNotes'. -/
def sessNotesCard : Claim7 := { stood := { row := sessNotesRow, standIns := [], harness := (true, "9c8d2ffca967bd67aea5637b5d1b5e1923a42c30d05d87a91e8424a6a6657626"), looks := true }, kinds := [], alts := [], laidByText := true, laidKinds := [.data, .listed, .data, .pinned], laidTests := true, laidLooks := .later }
def SessNotesCardSaid : Prop := Claim7.holds Tryz.pinned (.plain (OpenSpec.ofChange sessNotesSpec)) sessNotesCard

/-- THE TIED CARD OF 'undertonelaw17.SessCopies'. -/
def sessCopiesCard : Claim7 := { stood := { row := sessCopiesRow, standIns := [], harness := (true, "9c8d2ffca967bd67aea5637b5d1b5e1923a42c30d05d87a91e8424a6a6657626"), looks := true }, kinds := [], alts := [], laidByText := true, laidKinds := [.data, .listed, .data, .pinned], laidTests := true, laidLooks := .later }
def SessCopiesCardSaid : Prop := Claim7.holds Tryz.pinned (.plain (OpenSpec.ofChange sessCopiesSpec)) sessCopiesCard

/-- THE TIED CARD OF 'undertonelaw17.SessWhole'. -/
def sessWholeCard : Claim7 := { stood := { row := sessWholeRow, standIns := [], harness := (true, "9c8d2ffca967bd67aea5637b5d1b5e1923a42c30d05d87a91e8424a6a6657626"), looks := true }, kinds := [], alts := [], laidByText := true, laidKinds := [.data, .listed, .data, .pinned], laidTests := true, laidLooks := .later }
def SessWholeCardSaid : Prop := Claim7.holds Tryz.pinned (.plain (OpenSpec.ofChange sessWholeSpec)) sessWholeCard

/-- THE TIED CARD OF 'undertonelaw17.SessRuns'. -/
def sessRunsCard : Claim7 := { stood := { row := sessRunsRow, standIns := [], harness := (true, "9c8d2ffca967bd67aea5637b5d1b5e1923a42c30d05d87a91e8424a6a6657626"), looks := true }, kinds := [], alts := [], laidByText := true, laidKinds := [.data, .listed, .data, .pinned], laidTests := true, laidLooks := .later }
def SessRunsCardSaid : Prop := Claim7.holds Tryz.pinned (.plain (OpenSpec.ofChange sessRunsSpec)) sessRunsCard

/-- THE SECOND FORM's CARD OF 'undertonelaw13.TransOf'. -/
def transOfUptoCard : Claim7 := { stood := { row := transOfUptoRow, standIns := [], harness := (true, "9c8d2ffca967bd67aea5637b5d1b5e1923a42c30d05d87a91e8424a6a6657626"), looks := true }, kinds := [], alts := [], laidByText := true, laidKinds := [.data, .listed, .data, .pinned], laidTests := true, laidLooks := .later }
def TransOfUptoCardSaid : Prop := Claim7.holds Tryz.pinned (.plain (OpenSpec.upto transOfSpec)) transOfUptoCard

/-- THE SECOND FORM's CARD OF 'undertonelaw12.ShakeOthers'. -/
def shakeOthersUptoCard : Claim7 := { stood := { row := shakeOthersUptoRow, standIns := [], harness := (true, "9c8d2ffca967bd67aea5637b5d1b5e1923a42c30d05d87a91e8424a6a6657626"), looks := true }, kinds := [], alts := [], laidByText := true, laidKinds := [.data, .listed, .data, .pinned], laidTests := true, laidLooks := .later }
def ShakeOthersUptoCardSaid : Prop := Claim7.holds Tryz.pinned (.plain (OpenSpec.upto shakeOthersSpec)) shakeOthersUptoCard

/-- THE SECOND FORM's CARD OF 'undertonelaw12.ShakeBoth'. -/
def shakeBothUptoCard : Claim7 := { stood := { row := shakeBothUptoRow, standIns := [], harness := (true, "9c8d2ffca967bd67aea5637b5d1b5e1923a42c30d05d87a91e8424a6a6657626"), looks := true }, kinds := [], alts := [], laidByText := true, laidKinds := [.data, .listed, .data, .pinned], laidTests := true, laidLooks := .later }
def ShakeBothUptoCardSaid : Prop := Claim7.holds Tryz.pinned (.plain (OpenSpec.upto shakeBothSpec)) shakeBothUptoCard

/-- THE SECOND FORM's CARD OF 'undertonelaw12.ShakeTurns'. -/
def shakeTurnsUptoCard : Claim7 := { stood := { row := shakeTurnsUptoRow, standIns := [], harness := (true, "9c8d2ffca967bd67aea5637b5d1b5e1923a42c30d05d87a91e8424a6a6657626"), looks := true }, kinds := [], alts := [], laidByText := true, laidKinds := [.data, .listed, .data, .pinned], laidTests := true, laidLooks := .later }
def ShakeTurnsUptoCardSaid : Prop := Claim7.holds Tryz.pinned (.plain (OpenSpec.upto shakeTurnsSpec)) shakeTurnsUptoCard

/-- THE SECOND FORM's CARD OF 'undertonelaw17.SessPolicy'. -/
def sessPolicyUptoCard : Claim7 := { stood := { row := sessPolicyUptoRow, standIns := [], harness := (true, "9c8d2ffca967bd67aea5637b5d1b5e1923a42c30d05d87a91e8424a6a6657626"), looks := true }, kinds := [], alts := [], laidByText := true, laidKinds := [.data, .listed, .data, .pinned], laidTests := true, laidLooks := .later }
def SessPolicyUptoCardSaid : Prop := Claim7.holds Tryz.pinned (.plain (OpenSpec.upto sessPolicySpec)) sessPolicyUptoCard

/-- THE SECOND FORM's CARD OF 'undertonelaw17.SessReplays'. -/
def sessReplaysUptoCard : Claim7 := { stood := { row := sessReplaysUptoRow, standIns := [], harness := (true, "9c8d2ffca967bd67aea5637b5d1b5e1923a42c30d05d87a91e8424a6a6657626"), looks := true }, kinds := [], alts := [], laidByText := true, laidKinds := [.data, .listed, .data, .pinned], laidTests := true, laidLooks := .later }
def SessReplaysUptoCardSaid : Prop := Claim7.holds Tryz.pinned (.plain (OpenSpec.upto sessReplaysSpec)) sessReplaysUptoCard

/-- THE SECOND FORM's CARD OF 'undertonelaw17.SessNotes'. -/
def sessNotesUptoCard : Claim7 := { stood := { row := sessNotesUptoRow, standIns := [], harness := (true, "9c8d2ffca967bd67aea5637b5d1b5e1923a42c30d05d87a91e8424a6a6657626"), looks := true }, kinds := [], alts := [], laidByText := true, laidKinds := [.data, .listed, .data, .pinned], laidTests := true, laidLooks := .later }
def SessNotesUptoCardSaid : Prop := Claim7.holds Tryz.pinned (.plain (OpenSpec.upto sessNotesSpec)) sessNotesUptoCard

/-- THE SECOND FORM's CARD OF 'undertonelaw17.SessCopies'. -/
def sessCopiesUptoCard : Claim7 := { stood := { row := sessCopiesUptoRow, standIns := [], harness := (true, "9c8d2ffca967bd67aea5637b5d1b5e1923a42c30d05d87a91e8424a6a6657626"), looks := true }, kinds := [], alts := [], laidByText := true, laidKinds := [.data, .listed, .data, .pinned], laidTests := true, laidLooks := .later }
def SessCopiesUptoCardSaid : Prop := Claim7.holds Tryz.pinned (.plain (OpenSpec.upto sessCopiesSpec)) sessCopiesUptoCard

/-- THE SECOND FORM's CARD OF 'undertonelaw17.SessWhole'. -/
def sessWholeUptoCard : Claim7 := { stood := { row := sessWholeUptoRow, standIns := [], harness := (true, "9c8d2ffca967bd67aea5637b5d1b5e1923a42c30d05d87a91e8424a6a6657626"), looks := true }, kinds := [], alts := [], laidByText := true, laidKinds := [.data, .listed, .data, .pinned], laidTests := true, laidLooks := .later }
def SessWholeUptoCardSaid : Prop := Claim7.holds Tryz.pinned (.plain (OpenSpec.upto sessWholeSpec)) sessWholeUptoCard

/-- THE SECOND FORM's CARD OF 'undertonelaw17.SessRuns'. -/
def sessRunsUptoCard : Claim7 := { stood := { row := sessRunsUptoRow, standIns := [], harness := (true, "9c8d2ffca967bd67aea5637b5d1b5e1923a42c30d05d87a91e8424a6a6657626"), looks := true }, kinds := [], alts := [], laidByText := true, laidKinds := [.data, .listed, .data, .pinned], laidTests := true, laidLooks := .later }
def SessRunsUptoCardSaid : Prop := Claim7.holds Tryz.pinned (.plain (OpenSpec.upto sessRunsSpec)) sessRunsUptoCard
end Rows
end Go.Proofs.YtikimmgileffgaaGreatDoor
