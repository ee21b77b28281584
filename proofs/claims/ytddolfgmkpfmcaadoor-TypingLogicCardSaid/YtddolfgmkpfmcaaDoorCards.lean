/-
  DERIVED. GIVEN WITH THE SEED: THE CARDS: each row of YtddolfgmkpfmcaaDoorRows.lean that lists a variable, with what it lists TIED to the program's text (the seventh form; the later family's looks); each row that meets fmt, with fmt's text TOLD by the authors' own Lean function (tested against real Go, not proved from fmt's source: count such statements apart). THE CARD IS WHAT COUNTS. Prove the row's statement (the work); the ties are given (YtddolfgmkpfmcaaDoorTie.lean); close each card by the builder's one call (the guide's Derived/Test/ToyasCard.lean, 'card_holds'). Laid BY PROGRAM, IN A SANDBOX (cutbox-door.mjs). By AI agents, Wed Nov 11 2026. No macro, syntax, notation, axiom, sorry.
-/
import Derived.Test.YtddolfgmkpfmcaaDoorRows
import GoSem.ClaimSeven
namespace Go.Proofs.YtddolfgmkpfmcaaDoor
namespace Rows

/-- THE TIED CARD OF 'assizelaw14.TypingRulesSpec'. -/
def typingRulesSpecCard : Claim7 := { stood := { row := typingRulesSpecRow, standIns := [], harness := (true, "2ab24f6e7ca2794dbc0d04c7a623858b5415371580a512057f4643a7d5a16ca7"), looks := true }, kinds := [], alts := [], laidByText := true, laidKinds := [.widerDeep], laidTests := true, laidLooks := .later }
def TypingRulesSpecCardSaid : Prop := Claim7.holds Tryd.pinned (.plain (OpenSpec.ofChange typingRulesSpecSpec)) typingRulesSpecCard

/-- THE TIED CARD OF 'assizelaw14.TypingEnvSpec'. -/
def typingEnvSpecCard : Claim7 := { stood := { row := typingEnvSpecRow, standIns := [], harness := (true, "2ab24f6e7ca2794dbc0d04c7a623858b5415371580a512057f4643a7d5a16ca7"), looks := true }, kinds := [], alts := [], laidByText := true, laidKinds := [.widerDeep], laidTests := true, laidLooks := .later }
def TypingEnvSpecCardSaid : Prop := Claim7.holds Tryd.pinned (.plain (OpenSpec.ofChange typingEnvSpecSpec)) typingEnvSpecCard

/-- THE TIED CARD OF 'assizelaw14.TypingNumbers'. -/
def typingNumbersCard : Claim7 := { stood := { row := typingNumbersRow, standIns := [], harness := (true, "2ab24f6e7ca2794dbc0d04c7a623858b5415371580a512057f4643a7d5a16ca7"), looks := true }, kinds := [], alts := [], laidByText := true, laidKinds := [.widerDeep], laidTests := true, laidLooks := .later }
def TypingNumbersCardSaid : Prop := Claim7.holds Tryd.pinned (.plain (OpenSpec.ofChange typingNumbersSpec)) typingNumbersCard

/-- THE TIED CARD OF 'assizelaw14.TypingOnce'. -/
def typingOnceCard : Claim7 := { stood := { row := typingOnceRow, standIns := [], harness := (true, "2ab24f6e7ca2794dbc0d04c7a623858b5415371580a512057f4643a7d5a16ca7"), looks := true }, kinds := [], alts := [], laidByText := true, laidKinds := [.widerDeep], laidTests := true, laidLooks := .later }
def TypingOnceCardSaid : Prop := Claim7.holds Tryd.pinned (.plain (OpenSpec.ofChange typingOnceSpec)) typingOnceCard

/-- THE TIED CARD OF 'assizelaw14.TypingDirectSpec'. -/
def typingDirectSpecCard : Claim7 := { stood := { row := typingDirectSpecRow, standIns := [], harness := (true, "2ab24f6e7ca2794dbc0d04c7a623858b5415371580a512057f4643a7d5a16ca7"), looks := true }, kinds := [], alts := [], laidByText := true, laidKinds := [.widerDeep], laidTests := true, laidLooks := .later }
def TypingDirectSpecCardSaid : Prop := Claim7.holds Tryd.pinned (.plain (OpenSpec.ofChange typingDirectSpecSpec)) typingDirectSpecCard

/-- THE TIED CARD OF 'assizelaw14.TypingLogic'. -/
def typingLogicCard : Claim7 := { stood := { row := typingLogicRow, standIns := [], harness := (true, "2ab24f6e7ca2794dbc0d04c7a623858b5415371580a512057f4643a7d5a16ca7"), looks := true }, kinds := [], alts := [], laidByText := true, laidKinds := [.widerDeep], laidTests := true, laidLooks := .later }
def TypingLogicCardSaid : Prop := Claim7.holds Tryd.pinned (.plain (OpenSpec.ofChange typingLogicSpec)) typingLogicCard

/-- THE TIED CARD OF 'assizelaw14.TypingBranches'. -/
def typingBranchesCard : Claim7 := { stood := { row := typingBranchesRow, standIns := [], harness := (true, "2ab24f6e7ca2794dbc0d04c7a623858b5415371580a512057f4643a7d5a16ca7"), looks := true }, kinds := [], alts := [], laidByText := true, laidKinds := [.widerDeep], laidTests := true, laidLooks := .later }
def TypingBranchesCardSaid : Prop := Claim7.holds Tryd.pinned (.plain (OpenSpec.ofChange typingBranchesSpec)) typingBranchesCard

/-- THE SECOND FORM's CARD OF 'assizelaw14.TypingRulesSpec'. -/
def typingRulesSpecUptoCard : Claim7 := { stood := { row := typingRulesSpecUptoRow, standIns := [], harness := (true, "2ab24f6e7ca2794dbc0d04c7a623858b5415371580a512057f4643a7d5a16ca7"), looks := true }, kinds := [], alts := [], laidByText := true, laidKinds := [.widerDeep], laidTests := true, laidLooks := .later }
def TypingRulesSpecUptoCardSaid : Prop := Claim7.holds Tryd.pinned (.plain (OpenSpec.upto typingRulesSpecSpec)) typingRulesSpecUptoCard

/-- THE SECOND FORM's CARD OF 'assizelaw14.TypingEnvSpec'. -/
def typingEnvSpecUptoCard : Claim7 := { stood := { row := typingEnvSpecUptoRow, standIns := [], harness := (true, "2ab24f6e7ca2794dbc0d04c7a623858b5415371580a512057f4643a7d5a16ca7"), looks := true }, kinds := [], alts := [], laidByText := true, laidKinds := [.widerDeep], laidTests := true, laidLooks := .later }
def TypingEnvSpecUptoCardSaid : Prop := Claim7.holds Tryd.pinned (.plain (OpenSpec.upto typingEnvSpecSpec)) typingEnvSpecUptoCard

/-- THE SECOND FORM's CARD OF 'assizelaw14.TypingNumbers'. -/
def typingNumbersUptoCard : Claim7 := { stood := { row := typingNumbersUptoRow, standIns := [], harness := (true, "2ab24f6e7ca2794dbc0d04c7a623858b5415371580a512057f4643a7d5a16ca7"), looks := true }, kinds := [], alts := [], laidByText := true, laidKinds := [.widerDeep], laidTests := true, laidLooks := .later }
def TypingNumbersUptoCardSaid : Prop := Claim7.holds Tryd.pinned (.plain (OpenSpec.upto typingNumbersSpec)) typingNumbersUptoCard

/-- THE SECOND FORM's CARD OF 'assizelaw14.TypingOnce'. -/
def typingOnceUptoCard : Claim7 := { stood := { row := typingOnceUptoRow, standIns := [], harness := (true, "2ab24f6e7ca2794dbc0d04c7a623858b5415371580a512057f4643a7d5a16ca7"), looks := true }, kinds := [], alts := [], laidByText := true, laidKinds := [.widerDeep], laidTests := true, laidLooks := .later }
def TypingOnceUptoCardSaid : Prop := Claim7.holds Tryd.pinned (.plain (OpenSpec.upto typingOnceSpec)) typingOnceUptoCard

/-- THE SECOND FORM's CARD OF 'assizelaw14.TypingDirectSpec'. -/
def typingDirectSpecUptoCard : Claim7 := { stood := { row := typingDirectSpecUptoRow, standIns := [], harness := (true, "2ab24f6e7ca2794dbc0d04c7a623858b5415371580a512057f4643a7d5a16ca7"), looks := true }, kinds := [], alts := [], laidByText := true, laidKinds := [.widerDeep], laidTests := true, laidLooks := .later }
def TypingDirectSpecUptoCardSaid : Prop := Claim7.holds Tryd.pinned (.plain (OpenSpec.upto typingDirectSpecSpec)) typingDirectSpecUptoCard

/-- THE SECOND FORM's CARD OF 'assizelaw14.TypingLogic'. -/
def typingLogicUptoCard : Claim7 := { stood := { row := typingLogicUptoRow, standIns := [], harness := (true, "2ab24f6e7ca2794dbc0d04c7a623858b5415371580a512057f4643a7d5a16ca7"), looks := true }, kinds := [], alts := [], laidByText := true, laidKinds := [.widerDeep], laidTests := true, laidLooks := .later }
def TypingLogicUptoCardSaid : Prop := Claim7.holds Tryd.pinned (.plain (OpenSpec.upto typingLogicSpec)) typingLogicUptoCard

/-- THE SECOND FORM's CARD OF 'assizelaw14.TypingBranches'. -/
def typingBranchesUptoCard : Claim7 := { stood := { row := typingBranchesUptoRow, standIns := [], harness := (true, "2ab24f6e7ca2794dbc0d04c7a623858b5415371580a512057f4643a7d5a16ca7"), looks := true }, kinds := [], alts := [], laidByText := true, laidKinds := [.widerDeep], laidTests := true, laidLooks := .later }
def TypingBranchesUptoCardSaid : Prop := Claim7.holds Tryd.pinned (.plain (OpenSpec.upto typingBranchesSpec)) typingBranchesUptoCard
end Rows
end Go.Proofs.YtddolfgmkpfmcaaDoor
