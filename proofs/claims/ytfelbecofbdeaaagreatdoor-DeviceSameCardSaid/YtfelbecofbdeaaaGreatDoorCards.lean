/-
  DERIVED. GIVEN WITH THE SEED: THE CARDS: each row of YtfelbecofbdeaaaGreatDoorRows.lean that lists a variable, with what it lists TIED to the program's text (the seventh form; the later family's looks); each row that meets fmt, with fmt's text TOLD by the authors' own Lean function (tested against real Go, not proved from fmt's source: count such statements apart). THE CARD IS WHAT COUNTS. Prove the row's statement (the work); the ties are given (YtfelbecofbdeaaaGreatDoorTie.lean); close each card by the builder's one call (the guide's Derived/Test/ToyasCard.lean, 'card_holds'). Laid BY PROGRAM, IN A SANDBOX (cutbox-door.mjs). By AI agents, Wed Nov 11 2026. No macro, syntax, notation, axiom, sorry.
-/
import Derived.Test.YtfelbecofbdeaaaGreatDoorRows
import GoSem.ClaimSeven
namespace Go.Proofs.YtfelbecofbdeaaaGreatDoor
namespace Rows

/-- THE TIED CARD OF 'undertonelaw02.CodeReads'. -/
def codeReadsCard : Claim7 := { stood := { row := codeReadsRow, standIns := [], harness := (true, "4152fe491162a6c4e034c320075e0014458baf8fd814d7e591fb5e2d9272a508"), looks := true }, kinds := [], alts := [], laidByText := true, laidKinds := [.data, .data, .data, .data, .sentinel, .sentinel, .pinned], laidTests := true, laidLooks := .later }
def CodeReadsCardSaid : Prop := Claim7.holds Tryz.pinned (.plain (OpenSpec.ofChange codeReadsSpec)) codeReadsCard

/-- THE TIED CARD OF 'undertonelaw15.DeviceSame'. -/
def deviceSameCard : Claim7 := { stood := { row := deviceSameRow, standIns := [], harness := (true, "4152fe491162a6c4e034c320075e0014458baf8fd814d7e591fb5e2d9272a508"), looks := true }, kinds := [], alts := [], laidByText := true, laidKinds := [.data, .data, .data, .data, .sentinel, .sentinel, .pinned], laidTests := true, laidLooks := .later }
def DeviceSameCardSaid : Prop := Claim7.holds Tryz.pinned (.plain (OpenSpec.ofChange deviceSameSpec)) deviceSameCard

/-- THE TIED CARD OF 'undertonelaw15.DeviceTexts'. -/
def deviceTextsCard : Claim7 := { stood := { row := deviceTextsRow, standIns := [], harness := (true, "4152fe491162a6c4e034c320075e0014458baf8fd814d7e591fb5e2d9272a508"), looks := true }, kinds := [], alts := [], laidByText := true, laidKinds := [.data, .data, .data, .data, .sentinel, .sentinel, .pinned], laidTests := true, laidLooks := .later }
def DeviceTextsCardSaid : Prop := Claim7.holds Tryz.pinned (.plain (OpenSpec.ofChange deviceTextsSpec)) deviceTextsCard

/-- THE SECOND FORM's CARD OF 'undertonelaw02.CodeReads'. -/
def codeReadsUptoCard : Claim7 := { stood := { row := codeReadsUptoRow, standIns := [], harness := (true, "4152fe491162a6c4e034c320075e0014458baf8fd814d7e591fb5e2d9272a508"), looks := true }, kinds := [], alts := [], laidByText := true, laidKinds := [.data, .data, .data, .data, .sentinel, .sentinel, .pinned], laidTests := true, laidLooks := .later }
def CodeReadsUptoCardSaid : Prop := Claim7.holds Tryz.pinned (.plain (OpenSpec.upto codeReadsSpec)) codeReadsUptoCard

/-- THE SECOND FORM's CARD OF 'undertonelaw15.DeviceSame'. -/
def deviceSameUptoCard : Claim7 := { stood := { row := deviceSameUptoRow, standIns := [], harness := (true, "4152fe491162a6c4e034c320075e0014458baf8fd814d7e591fb5e2d9272a508"), looks := true }, kinds := [], alts := [], laidByText := true, laidKinds := [.data, .data, .data, .data, .sentinel, .sentinel, .pinned], laidTests := true, laidLooks := .later }
def DeviceSameUptoCardSaid : Prop := Claim7.holds Tryz.pinned (.plain (OpenSpec.upto deviceSameSpec)) deviceSameUptoCard

/-- THE SECOND FORM's CARD OF 'undertonelaw15.DeviceTexts'. -/
def deviceTextsUptoCard : Claim7 := { stood := { row := deviceTextsUptoRow, standIns := [], harness := (true, "4152fe491162a6c4e034c320075e0014458baf8fd814d7e591fb5e2d9272a508"), looks := true }, kinds := [], alts := [], laidByText := true, laidKinds := [.data, .data, .data, .data, .sentinel, .sentinel, .pinned], laidTests := true, laidLooks := .later }
def DeviceTextsUptoCardSaid : Prop := Claim7.holds Tryz.pinned (.plain (OpenSpec.upto deviceTextsSpec)) deviceTextsUptoCard
end Rows
end Go.Proofs.YtfelbecofbdeaaaGreatDoor
