/-
  DERIVED. GIVEN WITH THE SEED: THE CARDS: each row of YtgndakgggfbanaaGreatDoorRows.lean that lists a variable, with what it lists TIED to the program's text (the seventh form; the later family's looks); each row that meets fmt, with fmt's text TOLD by the authors' own Lean function (tested against real Go, not proved from fmt's source: count such statements apart). THE CARD IS WHAT COUNTS. Prove the row's statement (the work); the ties are given (YtgndakgggfbanaaGreatDoorTie.lean); close each card by the builder's one call (the guide's Derived/Test/ToyasCard.lean, 'card_holds'). Laid BY PROGRAM, IN A SANDBOX (cutbox-door.mjs). By AI agents, Wed Nov 11 2026. No macro, syntax, notation, axiom, sorry.
-/
import Derived.Test.YtgndakgggfbanaaGreatDoorRows
import GoSem.ClaimSeven
namespace Go.Proofs.YtgndakgggfbanaaGreatDoor
namespace Rows

/-- THE TIED CARD OF 'codendlaw05.BaleChecks'. -/
def baleChecksCard : Claim7 := { stood := { row := baleChecksRow, standIns := [], harness := (true, "ca955d50b3fa918918618fde020628a82948f20dfbef8cd749ce1545e204e2b7"), looks := true }, kinds := [], alts := [], laidByText := true, laidKinds := [.data, .data, .data, .data, .sentinel, .sentinel, .widerDeep, .pinned], laidTests := true, laidLooks := .later }
def BaleChecksCardSaid : Prop := Claim7.holds Tryz.pinned (.plain (OpenSpec.ofChange baleChecksSpec)) baleChecksCard

/-- THE TIED CARD OF 'codendlaw05.BaleGaps'. -/
def baleGapsCard : Claim7 := { stood := { row := baleGapsRow, standIns := [], harness := (true, "ca955d50b3fa918918618fde020628a82948f20dfbef8cd749ce1545e204e2b7"), looks := true }, kinds := [], alts := [], laidByText := true, laidKinds := [.data, .data, .data, .data, .sentinel, .sentinel, .widerDeep, .pinned], laidTests := true, laidLooks := .later }
def BaleGapsCardSaid : Prop := Claim7.holds Tryz.pinned (.plain (OpenSpec.ofChange baleGapsSpec)) baleGapsCard

/-- THE TIED CARD OF 'codendlaw05.BaleTight'. -/
def baleTightCard : Claim7 := { stood := { row := baleTightRow, standIns := [], harness := (true, "ca955d50b3fa918918618fde020628a82948f20dfbef8cd749ce1545e204e2b7"), looks := true }, kinds := [], alts := [], laidByText := true, laidKinds := [.data, .data, .data, .data, .sentinel, .sentinel, .widerDeep, .pinned], laidTests := true, laidLooks := .later }
def BaleTightCardSaid : Prop := Claim7.holds Tryz.pinned (.plain (OpenSpec.ofChange baleTightSpec)) baleTightCard

/-- THE TIED CARD OF 'codendlaw05.BalePrints'. -/
def balePrintsCard : Claim7 := { stood := { row := balePrintsRow, standIns := [], harness := (true, "ca955d50b3fa918918618fde020628a82948f20dfbef8cd749ce1545e204e2b7"), looks := true }, kinds := [], alts := [], laidByText := true, laidKinds := [.data, .data, .data, .data, .sentinel, .sentinel, .widerDeep, .pinned], laidTests := true, laidLooks := .later }
def BalePrintsCardSaid : Prop := Claim7.holds Tryz.pinned (.plain (OpenSpec.ofChange balePrintsSpec)) balePrintsCard

/-- THE SECOND FORM's CARD OF 'codendlaw05.BaleChecks'. -/
def baleChecksUptoCard : Claim7 := { stood := { row := baleChecksUptoRow, standIns := [], harness := (true, "ca955d50b3fa918918618fde020628a82948f20dfbef8cd749ce1545e204e2b7"), looks := true }, kinds := [], alts := [], laidByText := true, laidKinds := [.data, .data, .data, .data, .sentinel, .sentinel, .widerDeep, .pinned], laidTests := true, laidLooks := .later }
def BaleChecksUptoCardSaid : Prop := Claim7.holds Tryz.pinned (.plain (OpenSpec.upto baleChecksSpec)) baleChecksUptoCard

/-- THE SECOND FORM's CARD OF 'codendlaw05.BaleGaps'. -/
def baleGapsUptoCard : Claim7 := { stood := { row := baleGapsUptoRow, standIns := [], harness := (true, "ca955d50b3fa918918618fde020628a82948f20dfbef8cd749ce1545e204e2b7"), looks := true }, kinds := [], alts := [], laidByText := true, laidKinds := [.data, .data, .data, .data, .sentinel, .sentinel, .widerDeep, .pinned], laidTests := true, laidLooks := .later }
def BaleGapsUptoCardSaid : Prop := Claim7.holds Tryz.pinned (.plain (OpenSpec.upto baleGapsSpec)) baleGapsUptoCard

/-- THE SECOND FORM's CARD OF 'codendlaw05.BaleTight'. -/
def baleTightUptoCard : Claim7 := { stood := { row := baleTightUptoRow, standIns := [], harness := (true, "ca955d50b3fa918918618fde020628a82948f20dfbef8cd749ce1545e204e2b7"), looks := true }, kinds := [], alts := [], laidByText := true, laidKinds := [.data, .data, .data, .data, .sentinel, .sentinel, .widerDeep, .pinned], laidTests := true, laidLooks := .later }
def BaleTightUptoCardSaid : Prop := Claim7.holds Tryz.pinned (.plain (OpenSpec.upto baleTightSpec)) baleTightUptoCard

/-- THE SECOND FORM's CARD OF 'codendlaw05.BalePrints'. -/
def balePrintsUptoCard : Claim7 := { stood := { row := balePrintsUptoRow, standIns := [], harness := (true, "ca955d50b3fa918918618fde020628a82948f20dfbef8cd749ce1545e204e2b7"), looks := true }, kinds := [], alts := [], laidByText := true, laidKinds := [.data, .data, .data, .data, .sentinel, .sentinel, .widerDeep, .pinned], laidTests := true, laidLooks := .later }
def BalePrintsUptoCardSaid : Prop := Claim7.holds Tryz.pinned (.plain (OpenSpec.upto balePrintsSpec)) balePrintsUptoCard
end Rows
end Go.Proofs.YtgndakgggfbanaaGreatDoor
