/-
  DERIVED. GIVEN WITH THE SEED: THE CARDS: each row of YtoaiamgcegnjjaaGreatDoorRows.lean that lists a variable, with what it lists TIED to the program's text (the seventh form; the later family's looks); each row that meets fmt, with fmt's text TOLD by the authors' own Lean function (tested against real Go, not proved from fmt's source: count such statements apart). THE CARD IS WHAT COUNTS. Prove the row's statement (the work); the ties are given (YtoaiamgcegnjjaaGreatDoorTie.lean); close each card by the builder's one call (the guide's Derived/Test/ToyasCard.lean, 'card_holds'). Laid BY PROGRAM, IN A SANDBOX (cutbox-door.mjs). By AI agents, Wed Nov 11 2026. No macro, syntax, notation, axiom, sorry.
-/
import Derived.Test.YtoaiamgcegnjjaaGreatDoorRows
import GoSem.ClaimSeven
namespace Go.Proofs.YtoaiamgcegnjjaaGreatDoor
namespace Rows

/-- THE TIED CARD OF 'mandolinelaw42.EntryPlays'. -/
def entryPlaysCard : Claim7 := { stood := { row := entryPlaysRow, standIns := [], harness := (true, "5b0aef3aa69949918db60e91b18e6b7676cc05876b04350682325e20c0d092c1"), looks := true }, kinds := [], alts := [], laidByText := true, laidKinds := [.data, .data, .data], laidTests := true, laidLooks := .later }
def EntryPlaysCardSaid : Prop := Claim7.holds Tryz.pinned (.plain (OpenSpec.ofChange entryPlaysSpec)) entryPlaysCard

/-- THE TIED CARD OF 'mandolinelaw42.EntryLoads'. -/
def entryLoadsCard : Claim7 := { stood := { row := entryLoadsRow, standIns := [], harness := (true, "5b0aef3aa69949918db60e91b18e6b7676cc05876b04350682325e20c0d092c1"), looks := true }, kinds := [], alts := [], laidByText := true, laidKinds := [.data, .data, .data], laidTests := true, laidLooks := .later }
def EntryLoadsCardSaid : Prop := Claim7.holds Tryz.pinned (.plain (OpenSpec.ofChange entryLoadsSpec)) entryLoadsCard

/-- THE TIED CARD OF 'mandolinelaw42.EntryCovers'. -/
def entryCoversCard : Claim7 := { stood := { row := entryCoversRow, standIns := [], harness := (true, "5b0aef3aa69949918db60e91b18e6b7676cc05876b04350682325e20c0d092c1"), looks := true }, kinds := [], alts := [], laidByText := true, laidKinds := [.data, .data, .data], laidTests := true, laidLooks := .later }
def EntryCoversCardSaid : Prop := Claim7.holds Tryz.pinned (.plain (OpenSpec.ofChange entryCoversSpec)) entryCoversCard

/-- THE TIED CARD OF 'mandolinelaw42.EntryOne'. -/
def entryOneCard : Claim7 := { stood := { row := entryOneRow, standIns := [], harness := (true, "5b0aef3aa69949918db60e91b18e6b7676cc05876b04350682325e20c0d092c1"), looks := true }, kinds := [], alts := [], laidByText := true, laidKinds := [.data, .data, .data], laidTests := true, laidLooks := .later }
def EntryOneCardSaid : Prop := Claim7.holds Tryz.pinned (.plain (OpenSpec.ofChange entryOneSpec)) entryOneCard

/-- THE TIED CARD OF 'mandolinelaw42.EntryUses'. -/
def entryUsesCard : Claim7 := { stood := { row := entryUsesRow, standIns := [], harness := (true, "5b0aef3aa69949918db60e91b18e6b7676cc05876b04350682325e20c0d092c1"), looks := true }, kinds := [], alts := [], laidByText := true, laidKinds := [.data, .data, .data], laidTests := true, laidLooks := .later }
def EntryUsesCardSaid : Prop := Claim7.holds Tryz.pinned (.plain (OpenSpec.ofChange entryUsesSpec)) entryUsesCard

/-- THE TIED CARD OF 'mandolinelaw42.EntryNil'. -/
def entryNilCard : Claim7 := { stood := { row := entryNilRow, standIns := [], harness := (true, "5b0aef3aa69949918db60e91b18e6b7676cc05876b04350682325e20c0d092c1"), looks := true }, kinds := [], alts := [], laidByText := true, laidKinds := [.data, .data, .data], laidTests := true, laidLooks := .later }
def EntryNilCardSaid : Prop := Claim7.holds Tryz.pinned (.plain (OpenSpec.ofChange entryNilSpec)) entryNilCard

/-- THE TIED CARD OF 'mandolinelaw42.EntryTexts'. -/
def entryTextsCard : Claim7 := { stood := { row := entryTextsRow, standIns := [], harness := (true, "5b0aef3aa69949918db60e91b18e6b7676cc05876b04350682325e20c0d092c1"), looks := true }, kinds := [], alts := [], laidByText := true, laidKinds := [.data, .data, .data, .data, .sentinel, .sentinel, .pinned], laidTests := true, laidLooks := .later }
def EntryTextsCardSaid : Prop := Claim7.holds Tryz.pinned (.plain (OpenSpec.ofChange entryTextsSpec)) entryTextsCard

/-- THE TIED CARD OF 'mandolinelaw42.EntryParses'. -/
def entryParsesCard : Claim7 := { stood := { row := entryParsesRow, standIns := [], harness := (true, "5b0aef3aa69949918db60e91b18e6b7676cc05876b04350682325e20c0d092c1"), looks := true }, kinds := [], alts := [], laidByText := true, laidKinds := [.data, .data, .data, .data, .sentinel, .sentinel, .pinned], laidTests := true, laidLooks := .later }
def EntryParsesCardSaid : Prop := Claim7.holds Tryz.pinned (.plain (OpenSpec.ofChange entryParsesSpec)) entryParsesCard

/-- THE SECOND FORM's CARD OF 'mandolinelaw42.EntryPlays'. -/
def entryPlaysUptoCard : Claim7 := { stood := { row := entryPlaysUptoRow, standIns := [], harness := (true, "5b0aef3aa69949918db60e91b18e6b7676cc05876b04350682325e20c0d092c1"), looks := true }, kinds := [], alts := [], laidByText := true, laidKinds := [.data, .data, .data], laidTests := true, laidLooks := .later }
def EntryPlaysUptoCardSaid : Prop := Claim7.holds Tryz.pinned (.plain (OpenSpec.upto entryPlaysSpec)) entryPlaysUptoCard

/-- THE SECOND FORM's CARD OF 'mandolinelaw42.EntryLoads'. -/
def entryLoadsUptoCard : Claim7 := { stood := { row := entryLoadsUptoRow, standIns := [], harness := (true, "5b0aef3aa69949918db60e91b18e6b7676cc05876b04350682325e20c0d092c1"), looks := true }, kinds := [], alts := [], laidByText := true, laidKinds := [.data, .data, .data], laidTests := true, laidLooks := .later }
def EntryLoadsUptoCardSaid : Prop := Claim7.holds Tryz.pinned (.plain (OpenSpec.upto entryLoadsSpec)) entryLoadsUptoCard

/-- THE SECOND FORM's CARD OF 'mandolinelaw42.EntryCovers'. -/
def entryCoversUptoCard : Claim7 := { stood := { row := entryCoversUptoRow, standIns := [], harness := (true, "5b0aef3aa69949918db60e91b18e6b7676cc05876b04350682325e20c0d092c1"), looks := true }, kinds := [], alts := [], laidByText := true, laidKinds := [.data, .data, .data], laidTests := true, laidLooks := .later }
def EntryCoversUptoCardSaid : Prop := Claim7.holds Tryz.pinned (.plain (OpenSpec.upto entryCoversSpec)) entryCoversUptoCard

/-- THE SECOND FORM's CARD OF 'mandolinelaw42.EntryOne'. -/
def entryOneUptoCard : Claim7 := { stood := { row := entryOneUptoRow, standIns := [], harness := (true, "5b0aef3aa69949918db60e91b18e6b7676cc05876b04350682325e20c0d092c1"), looks := true }, kinds := [], alts := [], laidByText := true, laidKinds := [.data, .data, .data], laidTests := true, laidLooks := .later }
def EntryOneUptoCardSaid : Prop := Claim7.holds Tryz.pinned (.plain (OpenSpec.upto entryOneSpec)) entryOneUptoCard

/-- THE SECOND FORM's CARD OF 'mandolinelaw42.EntryUses'. -/
def entryUsesUptoCard : Claim7 := { stood := { row := entryUsesUptoRow, standIns := [], harness := (true, "5b0aef3aa69949918db60e91b18e6b7676cc05876b04350682325e20c0d092c1"), looks := true }, kinds := [], alts := [], laidByText := true, laidKinds := [.data, .data, .data], laidTests := true, laidLooks := .later }
def EntryUsesUptoCardSaid : Prop := Claim7.holds Tryz.pinned (.plain (OpenSpec.upto entryUsesSpec)) entryUsesUptoCard

/-- THE SECOND FORM's CARD OF 'mandolinelaw42.EntryNil'. -/
def entryNilUptoCard : Claim7 := { stood := { row := entryNilUptoRow, standIns := [], harness := (true, "5b0aef3aa69949918db60e91b18e6b7676cc05876b04350682325e20c0d092c1"), looks := true }, kinds := [], alts := [], laidByText := true, laidKinds := [.data, .data, .data], laidTests := true, laidLooks := .later }
def EntryNilUptoCardSaid : Prop := Claim7.holds Tryz.pinned (.plain (OpenSpec.upto entryNilSpec)) entryNilUptoCard

/-- THE SECOND FORM's CARD OF 'mandolinelaw42.EntryTexts'. -/
def entryTextsUptoCard : Claim7 := { stood := { row := entryTextsUptoRow, standIns := [], harness := (true, "5b0aef3aa69949918db60e91b18e6b7676cc05876b04350682325e20c0d092c1"), looks := true }, kinds := [], alts := [], laidByText := true, laidKinds := [.data, .data, .data, .data, .sentinel, .sentinel, .pinned], laidTests := true, laidLooks := .later }
def EntryTextsUptoCardSaid : Prop := Claim7.holds Tryz.pinned (.plain (OpenSpec.upto entryTextsSpec)) entryTextsUptoCard

/-- THE SECOND FORM's CARD OF 'mandolinelaw42.EntryParses'. -/
def entryParsesUptoCard : Claim7 := { stood := { row := entryParsesUptoRow, standIns := [], harness := (true, "5b0aef3aa69949918db60e91b18e6b7676cc05876b04350682325e20c0d092c1"), looks := true }, kinds := [], alts := [], laidByText := true, laidKinds := [.data, .data, .data, .data, .sentinel, .sentinel, .pinned], laidTests := true, laidLooks := .later }
def EntryParsesUptoCardSaid : Prop := Claim7.holds Tryz.pinned (.plain (OpenSpec.upto entryParsesSpec)) entryParsesUptoCard
end Rows
end Go.Proofs.YtoaiamgcegnjjaaGreatDoor
