/-
  DERIVED. GIVEN WITH THE SEED: THE CARDS: each row of YtcghnbochnejoaaGreatDoorRows.lean that lists a variable, with what it lists TIED to the program's text (the seventh form; the later family's looks); each row that meets fmt, with fmt's text TOLD by the authors' own Lean function (tested against real Go, not proved from fmt's source: count such statements apart). THE CARD IS WHAT COUNTS. Prove the row's statement (the work); the ties are given (YtcghnbochnejoaaGreatDoorTie.lean); close each card by the builder's one call (the guide's Derived/Test/ToyasCard.lean, 'card_holds'). Laid BY PROGRAM, IN A SANDBOX (cutbox-door.mjs). By AI agents, Wed Nov 11 2026. No macro, syntax, notation, axiom, sorry.
-/
import Derived.Test.YtcghnbochnejoaaGreatDoorRows
import GoSem.ClaimSeven
namespace Go.Proofs.YtcghnbochnejoaaGreatDoor
namespace Rows

/-- THE TIED CARD OF 'glyphiclaw18.CompileErrors'. -/
def compileErrorsCard : Claim7 := { stood := { row := compileErrorsRow, standIns := [], harness := (true, "a7d20adb1d10cfa8e2ac50c40656b1dda60d9d9e9b35b2e4eb7caa91882641fb"), looks := true }, kinds := [], alts := [], laidByText := true, laidKinds := [.data, .data, .data, .sentinel, .sentinel, .sentinel, .sentinel, .sentinel, .sentinel, .sentinel, .sentinel, .sentinel, .sentinel, .sentinel, .sentinel, .sentinel, .sentinel, .sentinel, .listed, .data], laidTests := true, laidLooks := .later }
def CompileErrorsCardSaid : Prop := Claim7.holds Tryz.pinned (.plain (OpenSpec.ofChange compileErrorsSpec)) compileErrorsCard

/-- THE SECOND FORM's CARD OF 'glyphiclaw18.CompileErrors'. -/
def compileErrorsUptoCard : Claim7 := { stood := { row := compileErrorsUptoRow, standIns := [], harness := (true, "a7d20adb1d10cfa8e2ac50c40656b1dda60d9d9e9b35b2e4eb7caa91882641fb"), looks := true }, kinds := [], alts := [], laidByText := true, laidKinds := [.data, .data, .data, .sentinel, .sentinel, .sentinel, .sentinel, .sentinel, .sentinel, .sentinel, .sentinel, .sentinel, .sentinel, .sentinel, .sentinel, .sentinel, .sentinel, .sentinel, .listed, .data], laidTests := true, laidLooks := .later }
def CompileErrorsUptoCardSaid : Prop := Claim7.holds Tryz.pinned (.plain (OpenSpec.upto compileErrorsSpec)) compileErrorsUptoCard
end Rows
end Go.Proofs.YtcghnbochnejoaaGreatDoor
