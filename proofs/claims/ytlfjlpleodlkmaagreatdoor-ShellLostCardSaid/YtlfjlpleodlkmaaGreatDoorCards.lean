/-
  DERIVED. GIVEN WITH THE SEED: THE CARDS: each row of YtlfjlpleodlkmaaGreatDoorRows.lean that lists a variable, with what it lists TIED to the program's text (the seventh form; the later family's looks); each row that meets fmt, with fmt's text TOLD by the authors' own Lean function (tested against real Go, not proved from fmt's source: count such statements apart). THE CARD IS WHAT COUNTS. Prove the row's statement (the work); the ties are given (YtlfjlpleodlkmaaGreatDoorTie.lean); close each card by the builder's one call (the guide's Derived/Test/ToyasCard.lean, 'card_holds'). Laid BY PROGRAM, IN A SANDBOX (cutbox-door.mjs). By AI agents, Wed Nov 11 2026. No macro, syntax, notation, axiom, sorry.
-/
import Derived.Test.YtlfjlpleodlkmaaGreatDoorRows
import GoSem.ClaimSeven
namespace Go.Proofs.YtlfjlpleodlkmaaGreatDoor
namespace Rows

/-- THE TIED CARD OF 'switchboardlaw20.ShellRuns'. -/
def shellRunsCard : Claim7 := { stood := { row := shellRunsRow, standIns := [], harness := (true, "3ef4d59dd483027e971385723fb7099d9012283faa601e3fd49c937257012f3b"), looks := true }, kinds := [], alts := [], laidByText := true, laidKinds := [.data, .data, .data, .data, .sentinel, .sentinel, .pinned], laidTests := true, laidLooks := .later }
def ShellRunsCardSaid : Prop := Claim7.holds Tryz.pinned (.plain (OpenSpec.ofChange shellRunsSpec)) shellRunsCard

/-- THE TIED CARD OF 'switchboardlaw20.ShellGoes'. -/
def shellGoesCard : Claim7 := { stood := { row := shellGoesRow, standIns := [], harness := (true, "3ef4d59dd483027e971385723fb7099d9012283faa601e3fd49c937257012f3b"), looks := true }, kinds := [], alts := [], laidByText := true, laidKinds := [.data, .data, .data, .data, .sentinel, .sentinel, .pinned], laidTests := true, laidLooks := .later }
def ShellGoesCardSaid : Prop := Claim7.holds Tryz.pinned (.plain (OpenSpec.ofChange shellGoesSpec)) shellGoesCard

/-- THE TIED CARD OF 'switchboardlaw20.ShellLines'. -/
def shellLinesCard : Claim7 := { stood := { row := shellLinesRow, standIns := [], harness := (true, "3ef4d59dd483027e971385723fb7099d9012283faa601e3fd49c937257012f3b"), looks := true }, kinds := [], alts := [], laidByText := true, laidKinds := [.data, .data, .data, .data, .sentinel, .sentinel, .pinned], laidTests := true, laidLooks := .later }
def ShellLinesCardSaid : Prop := Claim7.holds Tryz.pinned (.plain (OpenSpec.ofChange shellLinesSpec)) shellLinesCard

/-- THE TIED CARD OF 'switchboardlaw20.ShellEnds'. -/
def shellEndsCard : Claim7 := { stood := { row := shellEndsRow, standIns := [], harness := (true, "3ef4d59dd483027e971385723fb7099d9012283faa601e3fd49c937257012f3b"), looks := true }, kinds := [], alts := [], laidByText := true, laidKinds := [.data, .data, .data, .data, .sentinel, .sentinel, .pinned], laidTests := true, laidLooks := .later }
def ShellEndsCardSaid : Prop := Claim7.holds Tryz.pinned (.plain (OpenSpec.ofChange shellEndsSpec)) shellEndsCard

/-- THE TIED CARD OF 'switchboardlaw20.ShellWrong'. -/
def shellWrongCard : Claim7 := { stood := { row := shellWrongRow, standIns := [], harness := (true, "3ef4d59dd483027e971385723fb7099d9012283faa601e3fd49c937257012f3b"), looks := true }, kinds := [], alts := [], laidByText := true, laidKinds := [.data, .data, .data, .data, .sentinel, .sentinel, .pinned], laidTests := true, laidLooks := .later }
def ShellWrongCardSaid : Prop := Claim7.holds Tryz.pinned (.plain (OpenSpec.ofChange shellWrongSpec)) shellWrongCard

/-- THE TIED CARD OF 'switchboardlaw20.ShellLost'. -/
def shellLostCard : Claim7 := { stood := { row := shellLostRow, standIns := [], harness := (true, "3ef4d59dd483027e971385723fb7099d9012283faa601e3fd49c937257012f3b"), looks := true }, kinds := [], alts := [], laidByText := true, laidKinds := [.data, .data, .data, .data, .sentinel, .sentinel, .pinned], laidTests := true, laidLooks := .later }
def ShellLostCardSaid : Prop := Claim7.holds Tryz.pinned (.plain (OpenSpec.ofChange shellLostSpec)) shellLostCard

/-- THE SECOND FORM's CARD OF 'switchboardlaw20.ShellRuns'. -/
def shellRunsUptoCard : Claim7 := { stood := { row := shellRunsUptoRow, standIns := [], harness := (true, "3ef4d59dd483027e971385723fb7099d9012283faa601e3fd49c937257012f3b"), looks := true }, kinds := [], alts := [], laidByText := true, laidKinds := [.data, .data, .data, .data, .sentinel, .sentinel, .pinned], laidTests := true, laidLooks := .later }
def ShellRunsUptoCardSaid : Prop := Claim7.holds Tryz.pinned (.plain (OpenSpec.upto shellRunsSpec)) shellRunsUptoCard

/-- THE SECOND FORM's CARD OF 'switchboardlaw20.ShellGoes'. -/
def shellGoesUptoCard : Claim7 := { stood := { row := shellGoesUptoRow, standIns := [], harness := (true, "3ef4d59dd483027e971385723fb7099d9012283faa601e3fd49c937257012f3b"), looks := true }, kinds := [], alts := [], laidByText := true, laidKinds := [.data, .data, .data, .data, .sentinel, .sentinel, .pinned], laidTests := true, laidLooks := .later }
def ShellGoesUptoCardSaid : Prop := Claim7.holds Tryz.pinned (.plain (OpenSpec.upto shellGoesSpec)) shellGoesUptoCard

/-- THE SECOND FORM's CARD OF 'switchboardlaw20.ShellLines'. -/
def shellLinesUptoCard : Claim7 := { stood := { row := shellLinesUptoRow, standIns := [], harness := (true, "3ef4d59dd483027e971385723fb7099d9012283faa601e3fd49c937257012f3b"), looks := true }, kinds := [], alts := [], laidByText := true, laidKinds := [.data, .data, .data, .data, .sentinel, .sentinel, .pinned], laidTests := true, laidLooks := .later }
def ShellLinesUptoCardSaid : Prop := Claim7.holds Tryz.pinned (.plain (OpenSpec.upto shellLinesSpec)) shellLinesUptoCard

/-- THE SECOND FORM's CARD OF 'switchboardlaw20.ShellEnds'. -/
def shellEndsUptoCard : Claim7 := { stood := { row := shellEndsUptoRow, standIns := [], harness := (true, "3ef4d59dd483027e971385723fb7099d9012283faa601e3fd49c937257012f3b"), looks := true }, kinds := [], alts := [], laidByText := true, laidKinds := [.data, .data, .data, .data, .sentinel, .sentinel, .pinned], laidTests := true, laidLooks := .later }
def ShellEndsUptoCardSaid : Prop := Claim7.holds Tryz.pinned (.plain (OpenSpec.upto shellEndsSpec)) shellEndsUptoCard

/-- THE SECOND FORM's CARD OF 'switchboardlaw20.ShellWrong'. -/
def shellWrongUptoCard : Claim7 := { stood := { row := shellWrongUptoRow, standIns := [], harness := (true, "3ef4d59dd483027e971385723fb7099d9012283faa601e3fd49c937257012f3b"), looks := true }, kinds := [], alts := [], laidByText := true, laidKinds := [.data, .data, .data, .data, .sentinel, .sentinel, .pinned], laidTests := true, laidLooks := .later }
def ShellWrongUptoCardSaid : Prop := Claim7.holds Tryz.pinned (.plain (OpenSpec.upto shellWrongSpec)) shellWrongUptoCard

/-- THE SECOND FORM's CARD OF 'switchboardlaw20.ShellLost'. -/
def shellLostUptoCard : Claim7 := { stood := { row := shellLostUptoRow, standIns := [], harness := (true, "3ef4d59dd483027e971385723fb7099d9012283faa601e3fd49c937257012f3b"), looks := true }, kinds := [], alts := [], laidByText := true, laidKinds := [.data, .data, .data, .data, .sentinel, .sentinel, .pinned], laidTests := true, laidLooks := .later }
def ShellLostUptoCardSaid : Prop := Claim7.holds Tryz.pinned (.plain (OpenSpec.upto shellLostSpec)) shellLostUptoCard
end Rows
end Go.Proofs.YtlfjlpleodlkmaaGreatDoor
