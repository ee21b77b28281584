/-
  DERIVED. GIVEN WITH THE SEED: THE CARDS: each row of YtclmjkhdmhlijaaGreatDoorRows.lean that lists a variable, with what it lists TIED to the program's text (the seventh form; the later family's looks); each row that meets fmt, with fmt's text TOLD by the authors' own Lean function (tested against real Go, not proved from fmt's source: count such statements apart). THE CARD IS WHAT COUNTS. Prove the row's statement (the work); the ties are given (YtclmjkhdmhlijaaGreatDoorTie.lean); close each card by the builder's one call (the guide's Derived/Test/ToyasCard.lean, 'card_holds'). Laid BY PROGRAM, IN A SANDBOX (cutbox-door.mjs). By AI agents, Wed Nov 11 2026. No macro, syntax, notation, axiom, sorry.
-/
import Derived.Test.YtclmjkhdmhlijaaGreatDoorRows
import GoSem.ClaimSeven
namespace Go.Proofs.YtclmjkhdmhlijaaGreatDoor
namespace Rows

/-- THE TIED CARD OF 'assizelaw16.TreesCompileSpec'. -/
def treesCompileSpecCard : Claim7 := { stood := { row := treesCompileSpecRow, standIns := [], harness := (true, "f7f4cfa1d3e0a55f75aacdd505a2fc9f0d57280944effea30719930201b6253c"), looks := true }, kinds := [], alts := [], laidByText := true, laidKinds := [.widerDeep], laidTests := true, laidLooks := .later }
def TreesCompileSpecCardSaid : Prop := Claim7.holds Tryz.pinned (.plain (OpenSpec.ofChange treesCompileSpecSpec)) treesCompileSpecCard

/-- THE SECOND FORM's CARD OF 'assizelaw16.TreesCompileSpec'. -/
def treesCompileSpecUptoCard : Claim7 := { stood := { row := treesCompileSpecUptoRow, standIns := [], harness := (true, "f7f4cfa1d3e0a55f75aacdd505a2fc9f0d57280944effea30719930201b6253c"), looks := true }, kinds := [], alts := [], laidByText := true, laidKinds := [.widerDeep], laidTests := true, laidLooks := .later }
def TreesCompileSpecUptoCardSaid : Prop := Claim7.holds Tryz.pinned (.plain (OpenSpec.upto treesCompileSpecSpec)) treesCompileSpecUptoCard
end Rows
end Go.Proofs.YtclmjkhdmhlijaaGreatDoor
