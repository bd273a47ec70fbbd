/-
  DERIVED. GIVEN WITH THE SEED: THE CARDS: each row of YtmebolbjidjajaaDoorRows.lean that lists a variable, with what it lists TIED to the program's text (the seventh form; the later family's looks); each row that meets fmt, with fmt's text TOLD by the authors' own Lean function (tested against real Go, not proved from fmt's source: count such statements apart). THE CARD IS WHAT COUNTS. Prove the row's statement (the work); the ties are given (YtmebolbjidjajaaDoorTie.lean); close each card by the builder's one call (the guide's Derived/Test/ToyasCard.lean, 'card_holds'). Laid BY PROGRAM, IN A SANDBOX (cutbox-door.mjs). By AI agents, Wed Nov 11 2026. No macro, syntax, notation, axiom, sorry.
-/
import Derived.Test.YtmebolbjidjajaaDoorRows
import GoSem.ClaimSeven
namespace Go.Proofs.YtmebolbjidjajaaDoor
namespace Rows

/-- THE TIED CARD OF 'punnetlaw23.CmdPrints'. -/
def cmdPrintsCard : Claim7 := { stood := { row := cmdPrintsRow, standIns := [], harness := (true, "56e16ffd3df55d3e7ed0830332a2739f379fa19bc683b7ce0427c02b9238e352"), looks := true }, kinds := [], alts := [], laidByText := true, laidKinds := [.data, .data, .data, .data, .sentinel, .sentinel, .pinned], laidTests := true, laidLooks := .later }
def CmdPrintsCardSaid : Prop := Claim7.holds Tryd.pinned (.plain (OpenSpec.ofChange cmdPrintsSpec)) cmdPrintsCard

/-- THE TIED CARD OF 'punnetlaw23.CmdBack'. -/
def cmdBackCard : Claim7 := { stood := { row := cmdBackRow, standIns := [], harness := (true, "56e16ffd3df55d3e7ed0830332a2739f379fa19bc683b7ce0427c02b9238e352"), looks := true }, kinds := [], alts := [], laidByText := true, laidKinds := [.data, .data, .data, .data, .sentinel, .sentinel, .pinned], laidTests := true, laidLooks := .later }
def CmdBackCardSaid : Prop := Claim7.holds Tryd.pinned (.plain (OpenSpec.ofChange cmdBackSpec)) cmdBackCard

/-- THE TIED CARD OF 'punnetlaw23.CmdMore'. -/
def cmdMoreCard : Claim7 := { stood := { row := cmdMoreRow, standIns := [], harness := (true, "56e16ffd3df55d3e7ed0830332a2739f379fa19bc683b7ce0427c02b9238e352"), looks := true }, kinds := [], alts := [], laidByText := true, laidKinds := [.data, .data, .data, .data, .sentinel, .sentinel, .pinned], laidTests := true, laidLooks := .later }
def CmdMoreCardSaid : Prop := Claim7.holds Tryd.pinned (.plain (OpenSpec.ofChange cmdMoreSpec)) cmdMoreCard

/-- THE TIED CARD OF 'punnetlaw23.CmdLong'. -/
def cmdLongCard : Claim7 := { stood := { row := cmdLongRow, standIns := [], harness := (true, "56e16ffd3df55d3e7ed0830332a2739f379fa19bc683b7ce0427c02b9238e352"), looks := true }, kinds := [], alts := [], laidByText := true, laidKinds := [.data, .data, .data, .data, .sentinel, .sentinel, .pinned], laidTests := true, laidLooks := .later }
def CmdLongCardSaid : Prop := Claim7.holds Tryd.pinned (.plain (OpenSpec.ofChange cmdLongSpec)) cmdLongCard

/-- THE SECOND FORM's CARD OF 'punnetlaw23.CmdPrints'. -/
def cmdPrintsUptoCard : Claim7 := { stood := { row := cmdPrintsUptoRow, standIns := [], harness := (true, "56e16ffd3df55d3e7ed0830332a2739f379fa19bc683b7ce0427c02b9238e352"), looks := true }, kinds := [], alts := [], laidByText := true, laidKinds := [.data, .data, .data, .data, .sentinel, .sentinel, .pinned], laidTests := true, laidLooks := .later }
def CmdPrintsUptoCardSaid : Prop := Claim7.holds Tryd.pinned (.plain (OpenSpec.upto cmdPrintsSpec)) cmdPrintsUptoCard

/-- THE SECOND FORM's CARD OF 'punnetlaw23.CmdBack'. -/
def cmdBackUptoCard : Claim7 := { stood := { row := cmdBackUptoRow, standIns := [], harness := (true, "56e16ffd3df55d3e7ed0830332a2739f379fa19bc683b7ce0427c02b9238e352"), looks := true }, kinds := [], alts := [], laidByText := true, laidKinds := [.data, .data, .data, .data, .sentinel, .sentinel, .pinned], laidTests := true, laidLooks := .later }
def CmdBackUptoCardSaid : Prop := Claim7.holds Tryd.pinned (.plain (OpenSpec.upto cmdBackSpec)) cmdBackUptoCard

/-- THE SECOND FORM's CARD OF 'punnetlaw23.CmdMore'. -/
def cmdMoreUptoCard : Claim7 := { stood := { row := cmdMoreUptoRow, standIns := [], harness := (true, "56e16ffd3df55d3e7ed0830332a2739f379fa19bc683b7ce0427c02b9238e352"), looks := true }, kinds := [], alts := [], laidByText := true, laidKinds := [.data, .data, .data, .data, .sentinel, .sentinel, .pinned], laidTests := true, laidLooks := .later }
def CmdMoreUptoCardSaid : Prop := Claim7.holds Tryd.pinned (.plain (OpenSpec.upto cmdMoreSpec)) cmdMoreUptoCard

/-- THE SECOND FORM's CARD OF 'punnetlaw23.CmdLong'. -/
def cmdLongUptoCard : Claim7 := { stood := { row := cmdLongUptoRow, standIns := [], harness := (true, "56e16ffd3df55d3e7ed0830332a2739f379fa19bc683b7ce0427c02b9238e352"), looks := true }, kinds := [], alts := [], laidByText := true, laidKinds := [.data, .data, .data, .data, .sentinel, .sentinel, .pinned], laidTests := true, laidLooks := .later }
def CmdLongUptoCardSaid : Prop := Claim7.holds Tryd.pinned (.plain (OpenSpec.upto cmdLongSpec)) cmdLongUptoCard
end Rows
end Go.Proofs.YtmebolbjidjajaaDoor
