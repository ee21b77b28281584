/-
  DERIVED. GIVEN WITH THE SEED: THE CARDS: each row of YtihibgcojdfndaaGreatDoorRows.lean that lists a variable, with what it lists TIED to the program's text (the seventh form; the later family's looks); each row that meets fmt, with fmt's text TOLD by the authors' own Lean function (tested against real Go, not proved from fmt's source: count such statements apart). THE CARD IS WHAT COUNTS. Prove the row's statement (the work); the ties are given (YtihibgcojdfndaaGreatDoorTie.lean); close each card by the builder's one call (the guide's Derived/Test/ToyasCard.lean, 'card_holds'). Laid BY PROGRAM, IN A SANDBOX (cutbox-door.mjs). By AI agents, Wed Nov 11 2026. No macro, syntax, notation, axiom, sorry.
-/
import Derived.Test.YtihibgcojdfndaaGreatDoorRows
import GoSem.ClaimSeven
namespace Go.Proofs.YtihibgcojdfndaaGreatDoor
namespace Rows

/-- THE TIED CARD OF 'assizelaw19.OrderRanks'. -/
def orderRanksCard : Claim7 := { stood := { row := orderRanksRow, standIns := [], harness := (true, "e9ccecd3572dd1e88adc1f3d71666d33c08114ef348b0f07f308390441b09001"), looks := true }, kinds := [], alts := [], laidByText := true, laidKinds := [.widerDeep], laidTests := true, laidLooks := .later }
def OrderRanksCardSaid : Prop := Claim7.holds Tryz.pinned (.plain (OpenSpec.ofChange orderRanksSpec)) orderRanksCard

/-- THE TIED CARD OF 'assizelaw19.OrderSplits'. -/
def orderSplitsCard : Claim7 := { stood := { row := orderSplitsRow, standIns := [], harness := (true, "e9ccecd3572dd1e88adc1f3d71666d33c08114ef348b0f07f308390441b09001"), looks := true }, kinds := [], alts := [], laidByText := true, laidKinds := [.widerDeep], laidTests := true, laidLooks := .later }
def OrderSplitsCardSaid : Prop := Claim7.holds Tryz.pinned (.plain (OpenSpec.ofChange orderSplitsSpec)) orderSplitsCard

/-- THE TIED CARD OF 'assizelaw19.OrderPartition'. -/
def orderPartitionCard : Claim7 := { stood := { row := orderPartitionRow, standIns := [], harness := (true, "e9ccecd3572dd1e88adc1f3d71666d33c08114ef348b0f07f308390441b09001"), looks := true }, kinds := [], alts := [], laidByText := true, laidKinds := [.widerDeep], laidTests := true, laidLooks := .later }
def OrderPartitionCardSaid : Prop := Claim7.holds Tryz.pinned (.plain (OpenSpec.ofChange orderPartitionSpec)) orderPartitionCard

/-- THE TIED CARD OF 'assizelaw19.OrderPoints'. -/
def orderPointsCard : Claim7 := { stood := { row := orderPointsRow, standIns := [], harness := (true, "e9ccecd3572dd1e88adc1f3d71666d33c08114ef348b0f07f308390441b09001"), looks := true }, kinds := [], alts := [], laidByText := true, laidKinds := [.widerDeep], laidTests := true, laidLooks := .later }
def OrderPointsCardSaid : Prop := Claim7.holds Tryz.pinned (.plain (OpenSpec.ofChange orderPointsSpec)) orderPointsCard

/-- THE TIED CARD OF 'assizelaw19.OrderLots'. -/
def orderLotsCard : Claim7 := { stood := { row := orderLotsRow, standIns := [], harness := (true, "e9ccecd3572dd1e88adc1f3d71666d33c08114ef348b0f07f308390441b09001"), looks := true }, kinds := [], alts := [], laidByText := true, laidKinds := [.widerDeep], laidTests := true, laidLooks := .later }
def OrderLotsCardSaid : Prop := Claim7.holds Tryz.pinned (.plain (OpenSpec.ofChange orderLotsSpec)) orderLotsCard

/-- THE TIED CARD OF 'assizelaw19.OrderResults'. -/
def orderResultsCard : Claim7 := { stood := { row := orderResultsRow, standIns := [], harness := (true, "e9ccecd3572dd1e88adc1f3d71666d33c08114ef348b0f07f308390441b09001"), looks := true }, kinds := [], alts := [], laidByText := true, laidKinds := [.widerDeep], laidTests := true, laidLooks := .later }
def OrderResultsCardSaid : Prop := Claim7.holds Tryz.pinned (.plain (OpenSpec.ofChange orderResultsSpec)) orderResultsCard

/-- THE TIED CARD OF 'assizelaw19.OrderBetween'. -/
def orderBetweenCard : Claim7 := { stood := { row := orderBetweenRow, standIns := [], harness := (true, "e9ccecd3572dd1e88adc1f3d71666d33c08114ef348b0f07f308390441b09001"), looks := true }, kinds := [], alts := [], laidByText := true, laidKinds := [.widerDeep], laidTests := true, laidLooks := .later }
def OrderBetweenCardSaid : Prop := Claim7.holds Tryz.pinned (.plain (OpenSpec.ofChange orderBetweenSpec)) orderBetweenCard

/-- THE TIED CARD OF 'assizelaw19.OrderTree'. -/
def orderTreeCard : Claim7 := { stood := { row := orderTreeRow, standIns := [], harness := (true, "e9ccecd3572dd1e88adc1f3d71666d33c08114ef348b0f07f308390441b09001"), looks := true }, kinds := [], alts := [], laidByText := true, laidKinds := [.widerDeep], laidTests := true, laidLooks := .later }
def OrderTreeCardSaid : Prop := Claim7.holds Tryz.pinned (.plain (OpenSpec.ofChange orderTreeSpec)) orderTreeCard

/-- THE SECOND FORM's CARD OF 'assizelaw19.OrderRanks'. -/
def orderRanksUptoCard : Claim7 := { stood := { row := orderRanksUptoRow, standIns := [], harness := (true, "e9ccecd3572dd1e88adc1f3d71666d33c08114ef348b0f07f308390441b09001"), looks := true }, kinds := [], alts := [], laidByText := true, laidKinds := [.widerDeep], laidTests := true, laidLooks := .later }
def OrderRanksUptoCardSaid : Prop := Claim7.holds Tryz.pinned (.plain (OpenSpec.upto orderRanksSpec)) orderRanksUptoCard

/-- THE SECOND FORM's CARD OF 'assizelaw19.OrderSplits'. -/
def orderSplitsUptoCard : Claim7 := { stood := { row := orderSplitsUptoRow, standIns := [], harness := (true, "e9ccecd3572dd1e88adc1f3d71666d33c08114ef348b0f07f308390441b09001"), looks := true }, kinds := [], alts := [], laidByText := true, laidKinds := [.widerDeep], laidTests := true, laidLooks := .later }
def OrderSplitsUptoCardSaid : Prop := Claim7.holds Tryz.pinned (.plain (OpenSpec.upto orderSplitsSpec)) orderSplitsUptoCard

/-- THE SECOND FORM's CARD OF 'assizelaw19.OrderPartition'. -/
def orderPartitionUptoCard : Claim7 := { stood := { row := orderPartitionUptoRow, standIns := [], harness := (true, "e9ccecd3572dd1e88adc1f3d71666d33c08114ef348b0f07f308390441b09001"), looks := true }, kinds := [], alts := [], laidByText := true, laidKinds := [.widerDeep], laidTests := true, laidLooks := .later }
def OrderPartitionUptoCardSaid : Prop := Claim7.holds Tryz.pinned (.plain (OpenSpec.upto orderPartitionSpec)) orderPartitionUptoCard

/-- THE SECOND FORM's CARD OF 'assizelaw19.OrderPoints'. -/
def orderPointsUptoCard : Claim7 := { stood := { row := orderPointsUptoRow, standIns := [], harness := (true, "e9ccecd3572dd1e88adc1f3d71666d33c08114ef348b0f07f308390441b09001"), looks := true }, kinds := [], alts := [], laidByText := true, laidKinds := [.widerDeep], laidTests := true, laidLooks := .later }
def OrderPointsUptoCardSaid : Prop := Claim7.holds Tryz.pinned (.plain (OpenSpec.upto orderPointsSpec)) orderPointsUptoCard

/-- THE SECOND FORM's CARD OF 'assizelaw19.OrderLots'. -/
def orderLotsUptoCard : Claim7 := { stood := { row := orderLotsUptoRow, standIns := [], harness := (true, "e9ccecd3572dd1e88adc1f3d71666d33c08114ef348b0f07f308390441b09001"), looks := true }, kinds := [], alts := [], laidByText := true, laidKinds := [.widerDeep], laidTests := true, laidLooks := .later }
def OrderLotsUptoCardSaid : Prop := Claim7.holds Tryz.pinned (.plain (OpenSpec.upto orderLotsSpec)) orderLotsUptoCard

/-- THE SECOND FORM's CARD OF 'assizelaw19.OrderResults'. -/
def orderResultsUptoCard : Claim7 := { stood := { row := orderResultsUptoRow, standIns := [], harness := (true, "e9ccecd3572dd1e88adc1f3d71666d33c08114ef348b0f07f308390441b09001"), looks := true }, kinds := [], alts := [], laidByText := true, laidKinds := [.widerDeep], laidTests := true, laidLooks := .later }
def OrderResultsUptoCardSaid : Prop := Claim7.holds Tryz.pinned (.plain (OpenSpec.upto orderResultsSpec)) orderResultsUptoCard

/-- THE SECOND FORM's CARD OF 'assizelaw19.OrderBetween'. -/
def orderBetweenUptoCard : Claim7 := { stood := { row := orderBetweenUptoRow, standIns := [], harness := (true, "e9ccecd3572dd1e88adc1f3d71666d33c08114ef348b0f07f308390441b09001"), looks := true }, kinds := [], alts := [], laidByText := true, laidKinds := [.widerDeep], laidTests := true, laidLooks := .later }
def OrderBetweenUptoCardSaid : Prop := Claim7.holds Tryz.pinned (.plain (OpenSpec.upto orderBetweenSpec)) orderBetweenUptoCard

/-- THE SECOND FORM's CARD OF 'assizelaw19.OrderTree'. -/
def orderTreeUptoCard : Claim7 := { stood := { row := orderTreeUptoRow, standIns := [], harness := (true, "e9ccecd3572dd1e88adc1f3d71666d33c08114ef348b0f07f308390441b09001"), looks := true }, kinds := [], alts := [], laidByText := true, laidKinds := [.widerDeep], laidTests := true, laidLooks := .later }
def OrderTreeUptoCardSaid : Prop := Claim7.holds Tryz.pinned (.plain (OpenSpec.upto orderTreeSpec)) orderTreeUptoCard
end Rows
end Go.Proofs.YtihibgcojdfndaaGreatDoor
