/-
  DERIVED. GIVEN WITH THE SEED: THE CARDS: each row of YtpcgeihemkhkjaaGreatDoorRows.lean that lists a variable, with what it lists TIED to the program's text (the seventh form; the later family's looks); each row that meets fmt, with fmt's text TOLD by the authors' own Lean function (tested against real Go, not proved from fmt's source: count such statements apart). THE CARD IS WHAT COUNTS. Prove the row's statement (the work); the ties are given (YtpcgeihemkhkjaaGreatDoorTie.lean); close each card by the builder's one call (the guide's Derived/Test/ToyasCard.lean, 'card_holds'). Laid BY PROGRAM, IN A SANDBOX (cutbox-door.mjs). By AI agents, Wed Nov 11 2026. No macro, syntax, notation, axiom, sorry.
-/
import Derived.Test.YtpcgeihemkhkjaaGreatDoorRows
import GoSem.ClaimSeven
namespace Go.Proofs.YtpcgeihemkhkjaaGreatDoor
namespace Rows

/-- THE TIED CARD OF 'codendlaw05.BaleShortest'. -/
def baleShortestCard : Claim7 := { stood := { row := baleShortestRow, standIns := [], harness := (true, "3da20f59901f6bc20089874a21517bae1878a1d2eefccfcf189cc32b77eb0fd1"), looks := true }, kinds := [], alts := [], laidByText := true, laidKinds := [.data, .data, .data, .data, .sentinel, .sentinel, .widerDeep, .pinned], laidTests := true, laidLooks := .later }
def BaleShortestCardSaid : Prop := Claim7.holds Tryz.pinned (.plain (OpenSpec.ofChange baleShortestSpec)) baleShortestCard

/-- THE TIED CARD OF 'codendlaw05.BalePlans'. -/
def balePlansCard : Claim7 := { stood := { row := balePlansRow, standIns := [], harness := (true, "3da20f59901f6bc20089874a21517bae1878a1d2eefccfcf189cc32b77eb0fd1"), looks := true }, kinds := [], alts := [], laidByText := true, laidKinds := [.data, .data, .data, .data, .sentinel, .sentinel, .widerDeep, .pinned], laidTests := true, laidLooks := .later }
def BalePlansCardSaid : Prop := Claim7.holds Tryz.pinned (.plain (OpenSpec.ofChange balePlansSpec)) balePlansCard

/-- THE TIED CARD OF 'codendlaw05.BaleWastes'. -/
def baleWastesCard : Claim7 := { stood := { row := baleWastesRow, standIns := [], harness := (true, "3da20f59901f6bc20089874a21517bae1878a1d2eefccfcf189cc32b77eb0fd1"), looks := true }, kinds := [], alts := [], laidByText := true, laidKinds := [.data, .data, .data, .data, .sentinel, .sentinel, .widerDeep, .pinned], laidTests := true, laidLooks := .later }
def BaleWastesCardSaid : Prop := Claim7.holds Tryz.pinned (.plain (OpenSpec.ofChange baleWastesSpec)) baleWastesCard

/-- THE TIED CARD OF 'codendlaw05.BaleBests'. -/
def baleBestsCard : Claim7 := { stood := { row := baleBestsRow, standIns := [], harness := (true, "3da20f59901f6bc20089874a21517bae1878a1d2eefccfcf189cc32b77eb0fd1"), looks := true }, kinds := [], alts := [], laidByText := true, laidKinds := [.data, .data, .data, .data, .sentinel, .sentinel, .widerDeep, .pinned], laidTests := true, laidLooks := .later }
def BaleBestsCardSaid : Prop := Claim7.holds Tryz.pinned (.plain (OpenSpec.ofChange baleBestsSpec)) baleBestsCard

/-- THE TIED CARD OF 'codendlaw05.BaleTiles'. -/
def baleTilesCard : Claim7 := { stood := { row := baleTilesRow, standIns := [], harness := (true, "3da20f59901f6bc20089874a21517bae1878a1d2eefccfcf189cc32b77eb0fd1"), looks := true }, kinds := [], alts := [], laidByText := true, laidKinds := [.data, .data, .data, .data, .sentinel, .sentinel, .widerDeep, .pinned], laidTests := true, laidLooks := .later }
def BaleTilesCardSaid : Prop := Claim7.holds Tryz.pinned (.plain (OpenSpec.ofChange baleTilesSpec)) baleTilesCard

/-- THE SECOND FORM's CARD OF 'codendlaw05.BaleShortest'. -/
def baleShortestUptoCard : Claim7 := { stood := { row := baleShortestUptoRow, standIns := [], harness := (true, "3da20f59901f6bc20089874a21517bae1878a1d2eefccfcf189cc32b77eb0fd1"), looks := true }, kinds := [], alts := [], laidByText := true, laidKinds := [.data, .data, .data, .data, .sentinel, .sentinel, .widerDeep, .pinned], laidTests := true, laidLooks := .later }
def BaleShortestUptoCardSaid : Prop := Claim7.holds Tryz.pinned (.plain (OpenSpec.upto baleShortestSpec)) baleShortestUptoCard

/-- THE SECOND FORM's CARD OF 'codendlaw05.BalePlans'. -/
def balePlansUptoCard : Claim7 := { stood := { row := balePlansUptoRow, standIns := [], harness := (true, "3da20f59901f6bc20089874a21517bae1878a1d2eefccfcf189cc32b77eb0fd1"), looks := true }, kinds := [], alts := [], laidByText := true, laidKinds := [.data, .data, .data, .data, .sentinel, .sentinel, .widerDeep, .pinned], laidTests := true, laidLooks := .later }
def BalePlansUptoCardSaid : Prop := Claim7.holds Tryz.pinned (.plain (OpenSpec.upto balePlansSpec)) balePlansUptoCard

/-- THE SECOND FORM's CARD OF 'codendlaw05.BaleWastes'. -/
def baleWastesUptoCard : Claim7 := { stood := { row := baleWastesUptoRow, standIns := [], harness := (true, "3da20f59901f6bc20089874a21517bae1878a1d2eefccfcf189cc32b77eb0fd1"), looks := true }, kinds := [], alts := [], laidByText := true, laidKinds := [.data, .data, .data, .data, .sentinel, .sentinel, .widerDeep, .pinned], laidTests := true, laidLooks := .later }
def BaleWastesUptoCardSaid : Prop := Claim7.holds Tryz.pinned (.plain (OpenSpec.upto baleWastesSpec)) baleWastesUptoCard

/-- THE SECOND FORM's CARD OF 'codendlaw05.BaleBests'. -/
def baleBestsUptoCard : Claim7 := { stood := { row := baleBestsUptoRow, standIns := [], harness := (true, "3da20f59901f6bc20089874a21517bae1878a1d2eefccfcf189cc32b77eb0fd1"), looks := true }, kinds := [], alts := [], laidByText := true, laidKinds := [.data, .data, .data, .data, .sentinel, .sentinel, .widerDeep, .pinned], laidTests := true, laidLooks := .later }
def BaleBestsUptoCardSaid : Prop := Claim7.holds Tryz.pinned (.plain (OpenSpec.upto baleBestsSpec)) baleBestsUptoCard

/-- THE SECOND FORM's CARD OF 'codendlaw05.BaleTiles'. -/
def baleTilesUptoCard : Claim7 := { stood := { row := baleTilesUptoRow, standIns := [], harness := (true, "3da20f59901f6bc20089874a21517bae1878a1d2eefccfcf189cc32b77eb0fd1"), looks := true }, kinds := [], alts := [], laidByText := true, laidKinds := [.data, .data, .data, .data, .sentinel, .sentinel, .widerDeep, .pinned], laidTests := true, laidLooks := .later }
def BaleTilesUptoCardSaid : Prop := Claim7.holds Tryz.pinned (.plain (OpenSpec.upto baleTilesSpec)) baleTilesUptoCard
end Rows
end Go.Proofs.YtpcgeihemkhkjaaGreatDoor
