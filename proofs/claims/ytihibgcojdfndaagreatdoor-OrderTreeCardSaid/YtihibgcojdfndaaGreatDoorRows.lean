/-
  NARROWER THAN 'FOR EVERY INPUT', by the rows' own cells (each row's printed sentence says how): OrderRanks: loops, laid · OrderSplits: loops, laid · OrderPartition: loops, laid · OrderPoints: loops, laid · OrderLots: loops, laid · OrderResults: loops, laid · OrderBetween: loops, laid · OrderTree: loops, laid.
  DERIVED. THE GIVEN ROWS OF THIS SEAT. 8 by the template 'for every input the law returns true; each argument reads behind the call as it read before'; 0 by the template 'total and deterministic' (their statements: YtihibgcojdfndaaGreatDoorTotals.lean).
  GIVEN WITH THE SEED: the statements are not yours to turn. If you find one false, say at which input.
  Laid BY PROGRAM, IN A SANDBOX (cutbox-rows.mjs): the forced cells as the released guide's own fill.sh prints them over the translation 6886fc88b75dfb22… (all of the seat's roots in one cut). By AI agents, Wed Nov 11 2026. No macro, syntax, notation, axiom, sorry.
-/
import Derived.Test.YtihibgcojdfndaaGreatDoorChecked
import GoSem.Claim
import GoSem.ClaimJoined
import GoSem.ClaimMapViews
import Derived.JoinedTies
import Derived.KernelRfl
namespace Go.Proofs.YtihibgcojdfndaaGreatDoor
/- THE CELL 'sum', in the pinned program and in every row, IS THE sha256 OF THE DUMP (.gsa) THAT YtihibgcojdfndaaGreatDoorProg.lean LOADS. Nothing in Lean hashes anything: it is a label: what it is worth is what the hold of that sum in a sandbox is worth. -/
noncomputable def Tryz.pinned : Pinned := { name := "ytihibgcojdfndaagreatdoor", sum := "6886fc88b75dfb22d8f5eabaed8a0ba6099d023e54c3935820c35e8bb73a699b", checked := Tryz.checked }
namespace Rows
def none {H : Type} : Left H := { results := [], args := [] }

/- WHAT THE LISTED PACKAGE-LEVEL VARIABLES READ AS WHEN THE CALL BEGINS. Each datum BY PROGRAM (the guide's laid-datum.mjs) off the statement by which the dump's own 'gosem.cut.vars' lays the variable. In a bare row this is a premise. The card (YtihibgcojdfndaaGreatDoorCards.lean) ties it to the program's text. -/
def laid_assize_typing_spans {H : Type} : DataW H := .agg [.agg [.lit (.int .i64 0), .lit (.int .i64 0)], .agg [.lit (.int .i64 2), .lit (.int .i64 24)], .agg [.lit (.int .i64 0), .lit (.int .i64 46)], .agg [.lit (.int .i64 0), .lit (.int .i64 1)], .agg [.lit (.int .i64 2), .lit (.int .i64 24)]]

/-- 'assizelaw19.OrderRanks': WHATEVER THE INPUT: true; the input reads as it did. -/
def orderRanksSpec : ChangeSpec := { name := "orderRanks", fn := fun _ => fun
  | [d1, d2, d3, d4, d5, d6] => { results := [.lit (.bool true)], args := [d1, d2, d3, d4, d5, d6] }
  | _ => none }
def orderRanksRow : OpenClaim := { program := "ytihibgcojdfndaagreatdoor", sum := "6886fc88b75dfb22d8f5eabaed8a0ba6099d023e54c3935820c35e8bb73a699b", func := "assize/assizelaw19.OrderRanks", spec := "orderRanks", unfollowed := true, recurses := true, named := ["assize/typing.spans"], loops := true, plainKeys := false, apart := false, laid := [("assize/typing.spans", laid_assize_typing_spans)] }
def OrderRanksSaid : Prop := orderRanksRow.holds Tryz.pinned (OpenSpec.ofChange orderRanksSpec)

/-- ITS FALSE NEIGHBOUR: 'it returns false'. Refute it at one input. -/
def orderRanksWrong : ChangeSpec := { name := "orderRanks", fn := fun _ => fun
  | [d1, d2, d3, d4, d5, d6] => { results := [.lit (.bool false)], args := [d1, d2, d3, d4, d5, d6] }
  | _ => none }
def OrderRanksWrongFalsely : Prop := orderRanksRow.holds Tryz.pinned (OpenSpec.ofChange orderRanksWrong)

/-- 'assizelaw19.OrderSplits': WHATEVER THE INPUT: true; the input reads as it did. -/
def orderSplitsSpec : ChangeSpec := { name := "orderSplits", fn := fun _ => fun
  | [d1, d2, d3, d4, d5, d6, d7, d8, d9] => { results := [.lit (.bool true)], args := [d1, d2, d3, d4, d5, d6, d7, d8, d9] }
  | _ => none }
def orderSplitsRow : OpenClaim := { program := "ytihibgcojdfndaagreatdoor", sum := "6886fc88b75dfb22d8f5eabaed8a0ba6099d023e54c3935820c35e8bb73a699b", func := "assize/assizelaw19.OrderSplits", spec := "orderSplits", unfollowed := true, recurses := true, named := ["assize/typing.spans"], loops := true, plainKeys := false, apart := false, laid := [("assize/typing.spans", laid_assize_typing_spans)] }
def OrderSplitsSaid : Prop := orderSplitsRow.holds Tryz.pinned (OpenSpec.ofChange orderSplitsSpec)

/-- ITS FALSE NEIGHBOUR: 'it returns false'. Refute it at one input. -/
def orderSplitsWrong : ChangeSpec := { name := "orderSplits", fn := fun _ => fun
  | [d1, d2, d3, d4, d5, d6, d7, d8, d9] => { results := [.lit (.bool false)], args := [d1, d2, d3, d4, d5, d6, d7, d8, d9] }
  | _ => none }
def OrderSplitsWrongFalsely : Prop := orderSplitsRow.holds Tryz.pinned (OpenSpec.ofChange orderSplitsWrong)

/-- 'assizelaw19.OrderPartition': WHATEVER THE INPUT: true; the input reads as it did. -/
def orderPartitionSpec : ChangeSpec := { name := "orderPartition", fn := fun _ => fun
  | [d1, d2, d3, d4, d5, d6] => { results := [.lit (.bool true)], args := [d1, d2, d3, d4, d5, d6] }
  | _ => none }
def orderPartitionRow : OpenClaim := { program := "ytihibgcojdfndaagreatdoor", sum := "6886fc88b75dfb22d8f5eabaed8a0ba6099d023e54c3935820c35e8bb73a699b", func := "assize/assizelaw19.OrderPartition", spec := "orderPartition", unfollowed := true, recurses := true, named := ["assize/typing.spans"], loops := true, plainKeys := false, apart := false, laid := [("assize/typing.spans", laid_assize_typing_spans)] }
def OrderPartitionSaid : Prop := orderPartitionRow.holds Tryz.pinned (OpenSpec.ofChange orderPartitionSpec)

/-- ITS FALSE NEIGHBOUR: 'it returns false'. Refute it at one input. -/
def orderPartitionWrong : ChangeSpec := { name := "orderPartition", fn := fun _ => fun
  | [d1, d2, d3, d4, d5, d6] => { results := [.lit (.bool false)], args := [d1, d2, d3, d4, d5, d6] }
  | _ => none }
def OrderPartitionWrongFalsely : Prop := orderPartitionRow.holds Tryz.pinned (OpenSpec.ofChange orderPartitionWrong)

/-- 'assizelaw19.OrderPoints': WHATEVER THE INPUT: true; the input reads as it did. -/
def orderPointsSpec : ChangeSpec := { name := "orderPoints", fn := fun _ => fun
  | [d1, d2, d3, d4, d5, d6] => { results := [.lit (.bool true)], args := [d1, d2, d3, d4, d5, d6] }
  | _ => none }
def orderPointsRow : OpenClaim := { program := "ytihibgcojdfndaagreatdoor", sum := "6886fc88b75dfb22d8f5eabaed8a0ba6099d023e54c3935820c35e8bb73a699b", func := "assize/assizelaw19.OrderPoints", spec := "orderPoints", unfollowed := true, recurses := true, named := ["assize/typing.spans"], loops := true, plainKeys := false, apart := false, laid := [("assize/typing.spans", laid_assize_typing_spans)] }
def OrderPointsSaid : Prop := orderPointsRow.holds Tryz.pinned (OpenSpec.ofChange orderPointsSpec)

/-- ITS FALSE NEIGHBOUR: 'it returns false'. Refute it at one input. -/
def orderPointsWrong : ChangeSpec := { name := "orderPoints", fn := fun _ => fun
  | [d1, d2, d3, d4, d5, d6] => { results := [.lit (.bool false)], args := [d1, d2, d3, d4, d5, d6] }
  | _ => none }
def OrderPointsWrongFalsely : Prop := orderPointsRow.holds Tryz.pinned (OpenSpec.ofChange orderPointsWrong)

/-- 'assizelaw19.OrderLots': WHATEVER THE INPUT: true; the input reads as it did. -/
def orderLotsSpec : ChangeSpec := { name := "orderLots", fn := fun _ => fun
  | [d1, d2, d3, d4, d5, d6] => { results := [.lit (.bool true)], args := [d1, d2, d3, d4, d5, d6] }
  | _ => none }
def orderLotsRow : OpenClaim := { program := "ytihibgcojdfndaagreatdoor", sum := "6886fc88b75dfb22d8f5eabaed8a0ba6099d023e54c3935820c35e8bb73a699b", func := "assize/assizelaw19.OrderLots", spec := "orderLots", unfollowed := true, recurses := true, named := ["assize/typing.spans"], loops := true, plainKeys := false, apart := false, laid := [("assize/typing.spans", laid_assize_typing_spans)] }
def OrderLotsSaid : Prop := orderLotsRow.holds Tryz.pinned (OpenSpec.ofChange orderLotsSpec)

/-- ITS FALSE NEIGHBOUR: 'it returns false'. Refute it at one input. -/
def orderLotsWrong : ChangeSpec := { name := "orderLots", fn := fun _ => fun
  | [d1, d2, d3, d4, d5, d6] => { results := [.lit (.bool false)], args := [d1, d2, d3, d4, d5, d6] }
  | _ => none }
def OrderLotsWrongFalsely : Prop := orderLotsRow.holds Tryz.pinned (OpenSpec.ofChange orderLotsWrong)

/-- 'assizelaw19.OrderResults': WHATEVER THE INPUT: true; the input reads as it did. -/
def orderResultsSpec : ChangeSpec := { name := "orderResults", fn := fun _ => fun
  | [d1, d2, d3, d4, d5, d6, d7] => { results := [.lit (.bool true)], args := [d1, d2, d3, d4, d5, d6, d7] }
  | _ => none }
def orderResultsRow : OpenClaim := { program := "ytihibgcojdfndaagreatdoor", sum := "6886fc88b75dfb22d8f5eabaed8a0ba6099d023e54c3935820c35e8bb73a699b", func := "assize/assizelaw19.OrderResults", spec := "orderResults", unfollowed := true, recurses := true, named := ["assize/typing.spans"], loops := true, plainKeys := false, apart := false, laid := [("assize/typing.spans", laid_assize_typing_spans)] }
def OrderResultsSaid : Prop := orderResultsRow.holds Tryz.pinned (OpenSpec.ofChange orderResultsSpec)

/-- ITS FALSE NEIGHBOUR: 'it returns false'. Refute it at one input. -/
def orderResultsWrong : ChangeSpec := { name := "orderResults", fn := fun _ => fun
  | [d1, d2, d3, d4, d5, d6, d7] => { results := [.lit (.bool false)], args := [d1, d2, d3, d4, d5, d6, d7] }
  | _ => none }
def OrderResultsWrongFalsely : Prop := orderResultsRow.holds Tryz.pinned (OpenSpec.ofChange orderResultsWrong)

/-- 'assizelaw19.OrderBetween': WHATEVER THE INPUT: true; the input reads as it did. -/
def orderBetweenSpec : ChangeSpec := { name := "orderBetween", fn := fun _ => fun
  | [d1, d2, d3, d4, d5, d6, d7, d8, d9] => { results := [.lit (.bool true)], args := [d1, d2, d3, d4, d5, d6, d7, d8, d9] }
  | _ => none }
def orderBetweenRow : OpenClaim := { program := "ytihibgcojdfndaagreatdoor", sum := "6886fc88b75dfb22d8f5eabaed8a0ba6099d023e54c3935820c35e8bb73a699b", func := "assize/assizelaw19.OrderBetween", spec := "orderBetween", unfollowed := true, recurses := true, named := ["assize/typing.spans"], loops := true, plainKeys := false, apart := false, laid := [("assize/typing.spans", laid_assize_typing_spans)] }
def OrderBetweenSaid : Prop := orderBetweenRow.holds Tryz.pinned (OpenSpec.ofChange orderBetweenSpec)

/-- ITS FALSE NEIGHBOUR: 'it returns false'. Refute it at one input. -/
def orderBetweenWrong : ChangeSpec := { name := "orderBetween", fn := fun _ => fun
  | [d1, d2, d3, d4, d5, d6, d7, d8, d9] => { results := [.lit (.bool false)], args := [d1, d2, d3, d4, d5, d6, d7, d8, d9] }
  | _ => none }
def OrderBetweenWrongFalsely : Prop := orderBetweenRow.holds Tryz.pinned (OpenSpec.ofChange orderBetweenWrong)

/-- 'assizelaw19.OrderTree': WHATEVER THE INPUT: true; the input reads as it did. -/
def orderTreeSpec : ChangeSpec := { name := "orderTree", fn := fun _ => fun
  | [d1, d2, d3, d4, d5, d6] => { results := [.lit (.bool true)], args := [d1, d2, d3, d4, d5, d6] }
  | _ => none }
def orderTreeRow : OpenClaim := { program := "ytihibgcojdfndaagreatdoor", sum := "6886fc88b75dfb22d8f5eabaed8a0ba6099d023e54c3935820c35e8bb73a699b", func := "assize/assizelaw19.OrderTree", spec := "orderTree", unfollowed := true, recurses := true, named := ["assize/typing.spans"], loops := true, plainKeys := false, apart := false, laid := [("assize/typing.spans", laid_assize_typing_spans)] }
def OrderTreeSaid : Prop := orderTreeRow.holds Tryz.pinned (OpenSpec.ofChange orderTreeSpec)

/-- ITS FALSE NEIGHBOUR: 'it returns false'. Refute it at one input. -/
def orderTreeWrong : ChangeSpec := { name := "orderTree", fn := fun _ => fun
  | [d1, d2, d3, d4, d5, d6] => { results := [.lit (.bool false)], args := [d1, d2, d3, d4, d5, d6] }
  | _ => none }
def OrderTreeWrongFalsely : Prop := orderTreeRow.holds Tryz.pinned (OpenSpec.ofChange orderTreeWrong)

/- THE SECOND FORM. 'bulk': how many values and letters a reading holds, each counted each time it is reached (what is shared counts as often as it is met; a slice's spare places count too). A statement '..UptoSaid' is the law's where the arguments, and the package variables that the reading takes, are together of bulk at most 1048576: NARROWER than '..Said'. Prove '..Said' where nothing that the law and all that it calls make is longer than what came in: it says more and counts as full. Else prove '..UptoSaid'. A law counts once. -/
mutual
def uptoBulk {H : Type} : DataW H → Nat
  | .lit (.string bytes) => bytes.length + 1
  | .lit _ => 1
  | .nil => 1
  | .ptr d => uptoBulk d + 1
  | .slice elems spare => uptoBulkAll elems + uptoBulkAll spare + 1
  | .agg parts => uptoBulkAll parts + 1
  | .iface _ d => uptoBulk d + 1
  | .map entries => uptoBulkEntries entries + 1
  | .held _ => 1
def uptoBulkAll {H : Type} : List (DataW H) → Nat
  | [] => 0
  | d :: r => uptoBulk d + uptoBulkAll r
def uptoBulkEntries {H : Type} : List (Lit × DataW H) → Nat
  | [] => 0
  | x :: r => uptoBulkEntry x + uptoBulkEntries r
def uptoBulkEntry {H : Type} : Lit × DataW H → Nat
  | (.string bytes, d) => bytes.length + uptoBulk d + 1
  | (_, d) => uptoBulk d + 1
 end
def uptoSmall : (H : Type) → List (DataW H) → Bool := fun _ ds => decide (uptoBulkAll ds ≤ 1048576)
def OpenSpec.upto (s : _root_.Go.ChangeSpec) : _root_.Go.OpenSpec := { _root_.Go.OpenSpec.ofChange s with cond := some uptoSmall }

/-- 'assizelaw19.OrderRanks', WHERE WHAT IT READS IS OF BULK AT MOST 1048576: true; the input reads as it did. -/
def orderRanksUptoRow : OpenClaim := { program := "ytihibgcojdfndaagreatdoor", sum := "6886fc88b75dfb22d8f5eabaed8a0ba6099d023e54c3935820c35e8bb73a699b", func := "assize/assizelaw19.OrderRanks", spec := "orderRanks", unfollowed := true, recurses := true, named := ["assize/typing.spans"], loops := true, plainKeys := false, apart := false, laid := [("assize/typing.spans", laid_assize_typing_spans)], narrowed := true }
def OrderRanksUptoSaid : Prop := orderRanksUptoRow.holds Tryz.pinned (OpenSpec.upto orderRanksSpec)

/-- 'assizelaw19.OrderSplits', WHERE WHAT IT READS IS OF BULK AT MOST 1048576: true; the input reads as it did. -/
def orderSplitsUptoRow : OpenClaim := { program := "ytihibgcojdfndaagreatdoor", sum := "6886fc88b75dfb22d8f5eabaed8a0ba6099d023e54c3935820c35e8bb73a699b", func := "assize/assizelaw19.OrderSplits", spec := "orderSplits", unfollowed := true, recurses := true, named := ["assize/typing.spans"], loops := true, plainKeys := false, apart := false, laid := [("assize/typing.spans", laid_assize_typing_spans)], narrowed := true }
def OrderSplitsUptoSaid : Prop := orderSplitsUptoRow.holds Tryz.pinned (OpenSpec.upto orderSplitsSpec)

/-- 'assizelaw19.OrderPartition', WHERE WHAT IT READS IS OF BULK AT MOST 1048576: true; the input reads as it did. -/
def orderPartitionUptoRow : OpenClaim := { program := "ytihibgcojdfndaagreatdoor", sum := "6886fc88b75dfb22d8f5eabaed8a0ba6099d023e54c3935820c35e8bb73a699b", func := "assize/assizelaw19.OrderPartition", spec := "orderPartition", unfollowed := true, recurses := true, named := ["assize/typing.spans"], loops := true, plainKeys := false, apart := false, laid := [("assize/typing.spans", laid_assize_typing_spans)], narrowed := true }
def OrderPartitionUptoSaid : Prop := orderPartitionUptoRow.holds Tryz.pinned (OpenSpec.upto orderPartitionSpec)

/-- 'assizelaw19.OrderPoints', WHERE WHAT IT READS IS OF BULK AT MOST 1048576: true; the input reads as it did. -/
def orderPointsUptoRow : OpenClaim := { program := "ytihibgcojdfndaagreatdoor", sum := "6886fc88b75dfb22d8f5eabaed8a0ba6099d023e54c3935820c35e8bb73a699b", func := "assize/assizelaw19.OrderPoints", spec := "orderPoints", unfollowed := true, recurses := true, named := ["assize/typing.spans"], loops := true, plainKeys := false, apart := false, laid := [("assize/typing.spans", laid_assize_typing_spans)], narrowed := true }
def OrderPointsUptoSaid : Prop := orderPointsUptoRow.holds Tryz.pinned (OpenSpec.upto orderPointsSpec)

/-- 'assizelaw19.OrderLots', WHERE WHAT IT READS IS OF BULK AT MOST 1048576: true; the input reads as it did. -/
def orderLotsUptoRow : OpenClaim := { program := "ytihibgcojdfndaagreatdoor", sum := "6886fc88b75dfb22d8f5eabaed8a0ba6099d023e54c3935820c35e8bb73a699b", func := "assize/assizelaw19.OrderLots", spec := "orderLots", unfollowed := true, recurses := true, named := ["assize/typing.spans"], loops := true, plainKeys := false, apart := false, laid := [("assize/typing.spans", laid_assize_typing_spans)], narrowed := true }
def OrderLotsUptoSaid : Prop := orderLotsUptoRow.holds Tryz.pinned (OpenSpec.upto orderLotsSpec)

/-- 'assizelaw19.OrderResults', WHERE WHAT IT READS IS OF BULK AT MOST 1048576: true; the input reads as it did. -/
def orderResultsUptoRow : OpenClaim := { program := "ytihibgcojdfndaagreatdoor", sum := "6886fc88b75dfb22d8f5eabaed8a0ba6099d023e54c3935820c35e8bb73a699b", func := "assize/assizelaw19.OrderResults", spec := "orderResults", unfollowed := true, recurses := true, named := ["assize/typing.spans"], loops := true, plainKeys := false, apart := false, laid := [("assize/typing.spans", laid_assize_typing_spans)], narrowed := true }
def OrderResultsUptoSaid : Prop := orderResultsUptoRow.holds Tryz.pinned (OpenSpec.upto orderResultsSpec)

/-- 'assizelaw19.OrderBetween', WHERE WHAT IT READS IS OF BULK AT MOST 1048576: true; the input reads as it did. -/
def orderBetweenUptoRow : OpenClaim := { program := "ytihibgcojdfndaagreatdoor", sum := "6886fc88b75dfb22d8f5eabaed8a0ba6099d023e54c3935820c35e8bb73a699b", func := "assize/assizelaw19.OrderBetween", spec := "orderBetween", unfollowed := true, recurses := true, named := ["assize/typing.spans"], loops := true, plainKeys := false, apart := false, laid := [("assize/typing.spans", laid_assize_typing_spans)], narrowed := true }
def OrderBetweenUptoSaid : Prop := orderBetweenUptoRow.holds Tryz.pinned (OpenSpec.upto orderBetweenSpec)

/-- 'assizelaw19.OrderTree', WHERE WHAT IT READS IS OF BULK AT MOST 1048576: true; the input reads as it did. -/
def orderTreeUptoRow : OpenClaim := { program := "ytihibgcojdfndaagreatdoor", sum := "6886fc88b75dfb22d8f5eabaed8a0ba6099d023e54c3935820c35e8bb73a699b", func := "assize/assizelaw19.OrderTree", spec := "orderTree", unfollowed := true, recurses := true, named := ["assize/typing.spans"], loops := true, plainKeys := false, apart := false, laid := [("assize/typing.spans", laid_assize_typing_spans)], narrowed := true }
def OrderTreeUptoSaid : Prop := orderTreeUptoRow.holds Tryz.pinned (OpenSpec.upto orderTreeSpec)

end Rows
end Go.Proofs.YtihibgcojdfndaaGreatDoor
