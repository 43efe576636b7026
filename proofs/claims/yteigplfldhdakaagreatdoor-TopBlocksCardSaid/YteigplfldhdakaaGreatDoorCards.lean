/-
  DERIVED. GIVEN WITH THE SEED: THE CARDS: each row of YteigplfldhdakaaGreatDoorRows.lean that lists a variable, with what it lists TIED to the program's text (the seventh form; the later family's looks); each row that meets fmt, with fmt's text TOLD by the authors' own Lean function (tested against real Go, not proved from fmt's source: count such statements apart). THE CARD IS WHAT COUNTS. Prove the row's statement (the work); the ties are given (YteigplfldhdakaaGreatDoorTie.lean); close each card by the builder's one call (the guide's Derived/Test/ToyasCard.lean, 'card_holds'). Laid BY PROGRAM, IN A SANDBOX (cutbox-door.mjs). By AI agents, Wed Nov 11 2026. No macro, syntax, notation, axiom, sorry.
-/
import Derived.Test.YteigplfldhdakaaGreatDoorRows
import GoSem.ClaimSeven
namespace Go.Proofs.YteigplfldhdakaaGreatDoor
namespace Rows

/-- THE TIED CARD OF 'erratatop.TopPowers'. -/
def topPowersCard : Claim7 := { stood := { row := topPowersRow, standIns := [], harness := (true, "60bb4f799fe88877600f316cb93ca3e95b761f41bb70087a10bd1cd9b68feeb0"), looks := false }, kinds := [], alts := [], laidByText := true, laidKinds := [.data, .pinned], laidTests := true, laidLooks := .later }
def TopPowersCardSaid : Prop := Claim7.holds Tryz.pinned (.plain (OpenSpec.ofChange topPowersSpec)) topPowersCard

/-- THE TIED CARD OF 'erratatop.TopDocs'. -/
def topDocsCard : Claim7 := { stood := { row := topDocsRow, standIns := [], harness := (true, "60bb4f799fe88877600f316cb93ca3e95b761f41bb70087a10bd1cd9b68feeb0"), looks := false }, kinds := [], alts := [], laidByText := true, laidKinds := [.data, .pinned], laidTests := true, laidLooks := .later }
def TopDocsCardSaid : Prop := Claim7.holds Tryz.pinned (.plain (OpenSpec.ofChange topDocsSpec)) topDocsCard

/-- THE TIED CARD OF 'erratatop.TopBlocks'. -/
def topBlocksCard : Claim7 := { stood := { row := topBlocksRow, standIns := [], harness := (true, "60bb4f799fe88877600f316cb93ca3e95b761f41bb70087a10bd1cd9b68feeb0"), looks := false }, kinds := [], alts := [], laidByText := true, laidKinds := [.data, .pinned], laidTests := true, laidLooks := .later }
def TopBlocksCardSaid : Prop := Claim7.holds Tryz.pinned (.plain (OpenSpec.ofChange topBlocksSpec)) topBlocksCard

/-- THE TIED CARD OF 'erratatop.TopClean'. -/
def topCleanCard : Claim7 := { stood := { row := topCleanRow, standIns := [], harness := (true, "60bb4f799fe88877600f316cb93ca3e95b761f41bb70087a10bd1cd9b68feeb0"), looks := false }, kinds := [], alts := [], laidByText := true, laidKinds := [.data, .pinned], laidTests := true, laidLooks := .later }
def TopCleanCardSaid : Prop := Claim7.holds Tryz.pinned (.plain (OpenSpec.ofChange topCleanSpec)) topCleanCard

/-- THE SECOND FORM's CARD OF 'erratatop.TopPowers'. -/
def topPowersUptoCard : Claim7 := { stood := { row := topPowersUptoRow, standIns := [], harness := (true, "60bb4f799fe88877600f316cb93ca3e95b761f41bb70087a10bd1cd9b68feeb0"), looks := false }, kinds := [], alts := [], laidByText := true, laidKinds := [.data, .pinned], laidTests := true, laidLooks := .later }
def TopPowersUptoCardSaid : Prop := Claim7.holds Tryz.pinned (.plain (OpenSpec.upto topPowersSpec)) topPowersUptoCard

/-- THE SECOND FORM's CARD OF 'erratatop.TopDocs'. -/
def topDocsUptoCard : Claim7 := { stood := { row := topDocsUptoRow, standIns := [], harness := (true, "60bb4f799fe88877600f316cb93ca3e95b761f41bb70087a10bd1cd9b68feeb0"), looks := false }, kinds := [], alts := [], laidByText := true, laidKinds := [.data, .pinned], laidTests := true, laidLooks := .later }
def TopDocsUptoCardSaid : Prop := Claim7.holds Tryz.pinned (.plain (OpenSpec.upto topDocsSpec)) topDocsUptoCard

/-- THE SECOND FORM's CARD OF 'erratatop.TopBlocks'. -/
def topBlocksUptoCard : Claim7 := { stood := { row := topBlocksUptoRow, standIns := [], harness := (true, "60bb4f799fe88877600f316cb93ca3e95b761f41bb70087a10bd1cd9b68feeb0"), looks := false }, kinds := [], alts := [], laidByText := true, laidKinds := [.data, .pinned], laidTests := true, laidLooks := .later }
def TopBlocksUptoCardSaid : Prop := Claim7.holds Tryz.pinned (.plain (OpenSpec.upto topBlocksSpec)) topBlocksUptoCard

/-- THE SECOND FORM's CARD OF 'erratatop.TopClean'. -/
def topCleanUptoCard : Claim7 := { stood := { row := topCleanUptoRow, standIns := [], harness := (true, "60bb4f799fe88877600f316cb93ca3e95b761f41bb70087a10bd1cd9b68feeb0"), looks := false }, kinds := [], alts := [], laidByText := true, laidKinds := [.data, .pinned], laidTests := true, laidLooks := .later }
def TopCleanUptoCardSaid : Prop := Claim7.holds Tryz.pinned (.plain (OpenSpec.upto topCleanSpec)) topCleanUptoCard
end Rows
end Go.Proofs.YteigplfldhdakaaGreatDoor
