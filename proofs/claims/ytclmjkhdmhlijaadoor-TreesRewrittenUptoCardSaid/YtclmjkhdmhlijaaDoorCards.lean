/-
  DERIVED. GIVEN WITH THE SEED: THE CARDS: each row of YtclmjkhdmhlijaaDoorRows.lean that lists a variable, with what it lists TIED to the program's text (the seventh form; the later family's looks); each row that meets fmt, with fmt's text TOLD by the authors' own Lean function (tested against real Go, not proved from fmt's source: count such statements apart). THE CARD IS WHAT COUNTS. Prove the row's statement (the work); the ties are given (YtclmjkhdmhlijaaDoorTie.lean); close each card by the builder's one call (the guide's Derived/Test/ToyasCard.lean, 'card_holds'). Laid BY PROGRAM, IN A SANDBOX (cutbox-door.mjs). By AI agents, Wed Nov 11 2026. No macro, syntax, notation, axiom, sorry.
-/
import Derived.Test.YtclmjkhdmhlijaaDoorRows
import GoSem.ClaimSeven
namespace Go.Proofs.YtclmjkhdmhlijaaDoor
namespace Rows

/-- THE TIED CARD OF 'assizelaw16.TreesCheckSpec'. -/
def treesCheckSpecCard : Claim7 := { stood := { row := treesCheckSpecRow, standIns := [], harness := (true, "519e2f215e0377946082dc1e088d39896774984a59b0963ce3933f7ff1d17b02"), looks := true }, kinds := [], alts := [], laidByText := true, laidKinds := [.widerDeep], laidTests := true, laidLooks := .later }
def TreesCheckSpecCardSaid : Prop := Claim7.holds Tryd.pinned (.plain (OpenSpec.ofChange treesCheckSpecSpec)) treesCheckSpecCard

/-- THE TIED CARD OF 'assizelaw16.TreesEvalSpec'. -/
def treesEvalSpecCard : Claim7 := { stood := { row := treesEvalSpecRow, standIns := [], harness := (true, "519e2f215e0377946082dc1e088d39896774984a59b0963ce3933f7ff1d17b02"), looks := true }, kinds := [], alts := [], laidByText := true, laidKinds := [.widerDeep], laidTests := true, laidLooks := .later }
def TreesEvalSpecCardSaid : Prop := Claim7.holds Tryd.pinned (.plain (OpenSpec.ofChange treesEvalSpecSpec)) treesEvalSpecCard

/-- THE TIED CARD OF 'assizelaw16.TreesMeaning'. -/
def treesMeaningCard : Claim7 := { stood := { row := treesMeaningRow, standIns := [], harness := (true, "519e2f215e0377946082dc1e088d39896774984a59b0963ce3933f7ff1d17b02"), looks := true }, kinds := [], alts := [], laidByText := true, laidKinds := [.widerDeep], laidTests := true, laidLooks := .later }
def TreesMeaningCardSaid : Prop := Claim7.holds Tryd.pinned (.plain (OpenSpec.ofChange treesMeaningSpec)) treesMeaningCard

/-- THE TIED CARD OF 'assizelaw16.TreesUnique'. -/
def treesUniqueCard : Claim7 := { stood := { row := treesUniqueRow, standIns := [], harness := (true, "519e2f215e0377946082dc1e088d39896774984a59b0963ce3933f7ff1d17b02"), looks := true }, kinds := [], alts := [], laidByText := true, laidKinds := [.widerDeep], laidTests := true, laidLooks := .later }
def TreesUniqueCardSaid : Prop := Claim7.holds Tryd.pinned (.plain (OpenSpec.ofChange treesUniqueSpec)) treesUniqueCard

/-- THE TIED CARD OF 'assizelaw16.TreesRewritten'. -/
def treesRewrittenCard : Claim7 := { stood := { row := treesRewrittenRow, standIns := [], harness := (true, "519e2f215e0377946082dc1e088d39896774984a59b0963ce3933f7ff1d17b02"), looks := true }, kinds := [], alts := [], laidByText := true, laidKinds := [.widerDeep], laidTests := true, laidLooks := .later }
def TreesRewrittenCardSaid : Prop := Claim7.holds Tryd.pinned (.plain (OpenSpec.ofChange treesRewrittenSpec)) treesRewrittenCard

/-- THE TIED CARD OF 'assizelaw16.TreesReached'. -/
def treesReachedCard : Claim7 := { stood := { row := treesReachedRow, standIns := [], harness := (true, "519e2f215e0377946082dc1e088d39896774984a59b0963ce3933f7ff1d17b02"), looks := true }, kinds := [], alts := [], laidByText := true, laidKinds := [.widerDeep], laidTests := true, laidLooks := .later }
def TreesReachedCardSaid : Prop := Claim7.holds Tryd.pinned (.plain (OpenSpec.ofChange treesReachedSpec)) treesReachedCard

/-- THE SECOND FORM's CARD OF 'assizelaw16.TreesCheckSpec'. -/
def treesCheckSpecUptoCard : Claim7 := { stood := { row := treesCheckSpecUptoRow, standIns := [], harness := (true, "519e2f215e0377946082dc1e088d39896774984a59b0963ce3933f7ff1d17b02"), looks := true }, kinds := [], alts := [], laidByText := true, laidKinds := [.widerDeep], laidTests := true, laidLooks := .later }
def TreesCheckSpecUptoCardSaid : Prop := Claim7.holds Tryd.pinned (.plain (OpenSpec.upto treesCheckSpecSpec)) treesCheckSpecUptoCard

/-- THE SECOND FORM's CARD OF 'assizelaw16.TreesEvalSpec'. -/
def treesEvalSpecUptoCard : Claim7 := { stood := { row := treesEvalSpecUptoRow, standIns := [], harness := (true, "519e2f215e0377946082dc1e088d39896774984a59b0963ce3933f7ff1d17b02"), looks := true }, kinds := [], alts := [], laidByText := true, laidKinds := [.widerDeep], laidTests := true, laidLooks := .later }
def TreesEvalSpecUptoCardSaid : Prop := Claim7.holds Tryd.pinned (.plain (OpenSpec.upto treesEvalSpecSpec)) treesEvalSpecUptoCard

/-- THE SECOND FORM's CARD OF 'assizelaw16.TreesMeaning'. -/
def treesMeaningUptoCard : Claim7 := { stood := { row := treesMeaningUptoRow, standIns := [], harness := (true, "519e2f215e0377946082dc1e088d39896774984a59b0963ce3933f7ff1d17b02"), looks := true }, kinds := [], alts := [], laidByText := true, laidKinds := [.widerDeep], laidTests := true, laidLooks := .later }
def TreesMeaningUptoCardSaid : Prop := Claim7.holds Tryd.pinned (.plain (OpenSpec.upto treesMeaningSpec)) treesMeaningUptoCard

/-- THE SECOND FORM's CARD OF 'assizelaw16.TreesUnique'. -/
def treesUniqueUptoCard : Claim7 := { stood := { row := treesUniqueUptoRow, standIns := [], harness := (true, "519e2f215e0377946082dc1e088d39896774984a59b0963ce3933f7ff1d17b02"), looks := true }, kinds := [], alts := [], laidByText := true, laidKinds := [.widerDeep], laidTests := true, laidLooks := .later }
def TreesUniqueUptoCardSaid : Prop := Claim7.holds Tryd.pinned (.plain (OpenSpec.upto treesUniqueSpec)) treesUniqueUptoCard

/-- THE SECOND FORM's CARD OF 'assizelaw16.TreesRewritten'. -/
def treesRewrittenUptoCard : Claim7 := { stood := { row := treesRewrittenUptoRow, standIns := [], harness := (true, "519e2f215e0377946082dc1e088d39896774984a59b0963ce3933f7ff1d17b02"), looks := true }, kinds := [], alts := [], laidByText := true, laidKinds := [.widerDeep], laidTests := true, laidLooks := .later }
def TreesRewrittenUptoCardSaid : Prop := Claim7.holds Tryd.pinned (.plain (OpenSpec.upto treesRewrittenSpec)) treesRewrittenUptoCard

/-- THE SECOND FORM's CARD OF 'assizelaw16.TreesReached'. -/
def treesReachedUptoCard : Claim7 := { stood := { row := treesReachedUptoRow, standIns := [], harness := (true, "519e2f215e0377946082dc1e088d39896774984a59b0963ce3933f7ff1d17b02"), looks := true }, kinds := [], alts := [], laidByText := true, laidKinds := [.widerDeep], laidTests := true, laidLooks := .later }
def TreesReachedUptoCardSaid : Prop := Claim7.holds Tryd.pinned (.plain (OpenSpec.upto treesReachedSpec)) treesReachedUptoCard
end Rows
end Go.Proofs.YtclmjkhdmhlijaaDoor
