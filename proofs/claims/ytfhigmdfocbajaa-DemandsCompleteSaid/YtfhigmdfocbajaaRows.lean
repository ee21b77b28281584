/-
  No cell of these rows narrows 'for every input' (looked for: loops, veiled, ifaces, maps, wideKeys, modest, calm, conditions, laid).
  DERIVED. THE GIVEN ROWS OF THIS SEAT. 8 by the template 'for every input the law returns true; each argument reads behind the call as it read before'; 0 by the template 'total and deterministic' (their statements: YtfhigmdfocbajaaTotals.lean).
  GIVEN WITH THE SEED: the statements are not yours to turn. If you find one false, say at which input.
  Laid BY PROGRAM, IN A SANDBOX (cutbox-rows.mjs): the forced cells as the released guide's own fill.sh prints them over the translation f5856f9d1a33a0e6… (all of the seat's roots in one cut). By AI agents, Wed Nov 11 2026. No macro, syntax, notation, axiom, sorry.
-/
import Derived.Test.YtfhigmdfocbajaaChecked
import GoSem.Claim
import GoSem.ClaimJoined
import GoSem.ClaimMapViews
import Derived.JoinedTies
import Derived.KernelRfl
namespace Go.Proofs.Ytfhigmdfocbajaa
/- THE CELL 'sum', in the pinned program and in every row, IS THE sha256 OF THE DUMP (.gsa) THAT YtfhigmdfocbajaaProg.lean LOADS. Nothing in Lean hashes anything: it is a label: what it is worth is what the hold of that sum in a sandbox is worth. -/
noncomputable def Try.pinned : Pinned := { name := "ytfhigmdfocbajaa", sum := "f5856f9d1a33a0e6937b3598e343bb09d4be94a5b4d1398389c55c092f933e26", checked := Try.checked }
namespace Rows
def none {H : Type} : Left H := { results := [], args := [] }

/-- 'assizelaw31.DemandsCheckSpec': WHATEVER THE INPUT: true; the input reads as it did. -/
def demandsCheckSpecSpec : ChangeSpec := { name := "demandsCheckSpec", fn := fun _ => fun
  | [d] => { results := [.lit (.bool true)], args := [d] }
  | _ => none }
def demandsCheckSpecRow : OpenClaim := { program := "ytfhigmdfocbajaa", sum := "f5856f9d1a33a0e6937b3598e343bb09d4be94a5b4d1398389c55c092f933e26", func := "assize/assizelaw31.DemandsCheckSpec", spec := "demandsCheckSpec", unfollowed := true, recurses := true, plainKeys := false, apart := false }
def DemandsCheckSpecSaid : Prop := demandsCheckSpecRow.holds Try.pinned (OpenSpec.ofChange demandsCheckSpecSpec)

/-- ITS FALSE NEIGHBOUR: 'it returns false'. Refute it at one input. -/
def demandsCheckSpecWrong : ChangeSpec := { name := "demandsCheckSpec", fn := fun _ => fun
  | [d] => { results := [.lit (.bool false)], args := [d] }
  | _ => none }
def DemandsCheckSpecWrongFalsely : Prop := demandsCheckSpecRow.holds Try.pinned (OpenSpec.ofChange demandsCheckSpecWrong)

/-- 'assizelaw31.DemandsHoldsSpec': WHATEVER THE INPUT: true; the input reads as it did. -/
def demandsHoldsSpecSpec : ChangeSpec := { name := "demandsHoldsSpec", fn := fun _ => fun
  | [d1, d2, d3] => { results := [.lit (.bool true)], args := [d1, d2, d3] }
  | _ => none }
def demandsHoldsSpecRow : OpenClaim := { program := "ytfhigmdfocbajaa", sum := "f5856f9d1a33a0e6937b3598e343bb09d4be94a5b4d1398389c55c092f933e26", func := "assize/assizelaw31.DemandsHoldsSpec", spec := "demandsHoldsSpec", unfollowed := true, recurses := true, plainKeys := false, apart := false }
def DemandsHoldsSpecSaid : Prop := demandsHoldsSpecRow.holds Try.pinned (OpenSpec.ofChange demandsHoldsSpecSpec)

/-- ITS FALSE NEIGHBOUR: 'it returns false'. Refute it at one input. -/
def demandsHoldsSpecWrong : ChangeSpec := { name := "demandsHoldsSpec", fn := fun _ => fun
  | [d1, d2, d3] => { results := [.lit (.bool false)], args := [d1, d2, d3] }
  | _ => none }
def DemandsHoldsSpecWrongFalsely : Prop := demandsHoldsSpecRow.holds Try.pinned (OpenSpec.ofChange demandsHoldsSpecWrong)

/-- 'assizelaw31.DemandsDoomedSpec': WHATEVER THE INPUT: true; the input reads as it did. -/
def demandsDoomedSpecSpec : ChangeSpec := { name := "demandsDoomedSpec", fn := fun _ => fun
  | [d1, d2] => { results := [.lit (.bool true)], args := [d1, d2] }
  | _ => none }
def demandsDoomedSpecRow : OpenClaim := { program := "ytfhigmdfocbajaa", sum := "f5856f9d1a33a0e6937b3598e343bb09d4be94a5b4d1398389c55c092f933e26", func := "assize/assizelaw31.DemandsDoomedSpec", spec := "demandsDoomedSpec", unfollowed := true, recurses := true, plainKeys := false, apart := false }
def DemandsDoomedSpecSaid : Prop := demandsDoomedSpecRow.holds Try.pinned (OpenSpec.ofChange demandsDoomedSpecSpec)

/-- ITS FALSE NEIGHBOUR: 'it returns false'. Refute it at one input. -/
def demandsDoomedSpecWrong : ChangeSpec := { name := "demandsDoomedSpec", fn := fun _ => fun
  | [d1, d2] => { results := [.lit (.bool false)], args := [d1, d2] }
  | _ => none }
def DemandsDoomedSpecWrongFalsely : Prop := demandsDoomedSpecRow.holds Try.pinned (OpenSpec.ofChange demandsDoomedSpecWrong)

/-- 'assizelaw31.DemandsSound': WHATEVER THE INPUT: true; the input reads as it did. -/
def demandsSoundSpec : ChangeSpec := { name := "demandsSound", fn := fun _ => fun
  | [d1, d2, d3, d4] => { results := [.lit (.bool true)], args := [d1, d2, d3, d4] }
  | _ => none }
def demandsSoundRow : OpenClaim := { program := "ytfhigmdfocbajaa", sum := "f5856f9d1a33a0e6937b3598e343bb09d4be94a5b4d1398389c55c092f933e26", func := "assize/assizelaw31.DemandsSound", spec := "demandsSound", unfollowed := true, recurses := true, plainKeys := false, apart := false }
def DemandsSoundSaid : Prop := demandsSoundRow.holds Try.pinned (OpenSpec.ofChange demandsSoundSpec)

/-- ITS FALSE NEIGHBOUR: 'it returns false'. Refute it at one input. -/
def demandsSoundWrong : ChangeSpec := { name := "demandsSound", fn := fun _ => fun
  | [d1, d2, d3, d4] => { results := [.lit (.bool false)], args := [d1, d2, d3, d4] }
  | _ => none }
def DemandsSoundWrongFalsely : Prop := demandsSoundRow.holds Try.pinned (OpenSpec.ofChange demandsSoundWrong)

/-- 'assizelaw31.DemandsGoesOn': WHATEVER THE INPUT: true; the input reads as it did. -/
def demandsGoesOnSpec : ChangeSpec := { name := "demandsGoesOn", fn := fun _ => fun
  | [d1, d2, d3, d4, d5] => { results := [.lit (.bool true)], args := [d1, d2, d3, d4, d5] }
  | _ => none }
def demandsGoesOnRow : OpenClaim := { program := "ytfhigmdfocbajaa", sum := "f5856f9d1a33a0e6937b3598e343bb09d4be94a5b4d1398389c55c092f933e26", func := "assize/assizelaw31.DemandsGoesOn", spec := "demandsGoesOn", unfollowed := true, recurses := true, plainKeys := false, apart := false }
def DemandsGoesOnSaid : Prop := demandsGoesOnRow.holds Try.pinned (OpenSpec.ofChange demandsGoesOnSpec)

/-- ITS FALSE NEIGHBOUR: 'it returns false'. Refute it at one input. -/
def demandsGoesOnWrong : ChangeSpec := { name := "demandsGoesOn", fn := fun _ => fun
  | [d1, d2, d3, d4, d5] => { results := [.lit (.bool false)], args := [d1, d2, d3, d4, d5] }
  | _ => none }
def DemandsGoesOnWrongFalsely : Prop := demandsGoesOnRow.holds Try.pinned (OpenSpec.ofChange demandsGoesOnWrong)

/-- 'assizelaw31.DemandsTurned': WHATEVER THE INPUT: true; the input reads as it did. -/
def demandsTurnedSpec : ChangeSpec := { name := "demandsTurned", fn := fun _ => fun
  | [d1, d2, d3] => { results := [.lit (.bool true)], args := [d1, d2, d3] }
  | _ => none }
def demandsTurnedRow : OpenClaim := { program := "ytfhigmdfocbajaa", sum := "f5856f9d1a33a0e6937b3598e343bb09d4be94a5b4d1398389c55c092f933e26", func := "assize/assizelaw31.DemandsTurned", spec := "demandsTurned", unfollowed := true, recurses := true, plainKeys := false, apart := false }
def DemandsTurnedSaid : Prop := demandsTurnedRow.holds Try.pinned (OpenSpec.ofChange demandsTurnedSpec)

/-- ITS FALSE NEIGHBOUR: 'it returns false'. Refute it at one input. -/
def demandsTurnedWrong : ChangeSpec := { name := "demandsTurned", fn := fun _ => fun
  | [d1, d2, d3] => { results := [.lit (.bool false)], args := [d1, d2, d3] }
  | _ => none }
def DemandsTurnedWrongFalsely : Prop := demandsTurnedRow.holds Try.pinned (OpenSpec.ofChange demandsTurnedWrong)

/-- 'assizelaw31.DemandsBreaks': WHATEVER THE INPUT: true; the input reads as it did. -/
def demandsBreaksSpec : ChangeSpec := { name := "demandsBreaks", fn := fun _ => fun
  | [d1, d2, d3] => { results := [.lit (.bool true)], args := [d1, d2, d3] }
  | _ => none }
def demandsBreaksRow : OpenClaim := { program := "ytfhigmdfocbajaa", sum := "f5856f9d1a33a0e6937b3598e343bb09d4be94a5b4d1398389c55c092f933e26", func := "assize/assizelaw31.DemandsBreaks", spec := "demandsBreaks", unfollowed := true, recurses := true, plainKeys := false, apart := false }
def DemandsBreaksSaid : Prop := demandsBreaksRow.holds Try.pinned (OpenSpec.ofChange demandsBreaksSpec)

/-- ITS FALSE NEIGHBOUR: 'it returns false'. Refute it at one input. -/
def demandsBreaksWrong : ChangeSpec := { name := "demandsBreaks", fn := fun _ => fun
  | [d1, d2, d3] => { results := [.lit (.bool false)], args := [d1, d2, d3] }
  | _ => none }
def DemandsBreaksWrongFalsely : Prop := demandsBreaksRow.holds Try.pinned (OpenSpec.ofChange demandsBreaksWrong)

/-- 'assizelaw31.DemandsComplete': WHATEVER THE INPUT: true; the input reads as it did. -/
def demandsCompleteSpec : ChangeSpec := { name := "demandsComplete", fn := fun _ => fun
  | [d1, d2] => { results := [.lit (.bool true)], args := [d1, d2] }
  | _ => none }
def demandsCompleteRow : OpenClaim := { program := "ytfhigmdfocbajaa", sum := "f5856f9d1a33a0e6937b3598e343bb09d4be94a5b4d1398389c55c092f933e26", func := "assize/assizelaw31.DemandsComplete", spec := "demandsComplete", unfollowed := true, recurses := true, plainKeys := false, apart := false }
def DemandsCompleteSaid : Prop := demandsCompleteRow.holds Try.pinned (OpenSpec.ofChange demandsCompleteSpec)

/-- ITS FALSE NEIGHBOUR: 'it returns false'. Refute it at one input. -/
def demandsCompleteWrong : ChangeSpec := { name := "demandsComplete", fn := fun _ => fun
  | [d1, d2] => { results := [.lit (.bool false)], args := [d1, d2] }
  | _ => none }
def DemandsCompleteWrongFalsely : Prop := demandsCompleteRow.holds Try.pinned (OpenSpec.ofChange demandsCompleteWrong)

/- THE SECOND FORM. 'bulk': how many values and letters a reading holds, each counted each time it is reached (what is shared counts as often as it is met; a slice's spare places count too). A statement '..UptoSaid' is the law's where the arguments, and the package variables that the reading takes, are together of bulk at most 1048576: NARROWER than '..Said'. Prove '..Said' where nothing that the law and all that it calls make is longer than what came in: it says more and counts as full. Else prove '..UptoSaid'. A law counts once. -/
mutual
def uptoBulk {H : Type} : DataW H → Nat
  | .lit (.string bytes) => bytes.length + 1
  | .lit _ => 1
  | .nil => 1
  | .ptr d => uptoBulk d + 1
  | .slice elems spare => uptoBulkAll elems + uptoBulkAll spare + 1
  | .agg parts => uptoBulkAll parts + 1
  | .iface _ d => uptoBulk d + 1
  | .map entries => uptoBulkEntries entries + 1
  | .held _ => 1
def uptoBulkAll {H : Type} : List (DataW H) → Nat
  | [] => 0
  | d :: r => uptoBulk d + uptoBulkAll r
def uptoBulkEntries {H : Type} : List (Lit × DataW H) → Nat
  | [] => 0
  | x :: r => uptoBulkEntry x + uptoBulkEntries r
def uptoBulkEntry {H : Type} : Lit × DataW H → Nat
  | (.string bytes, d) => bytes.length + uptoBulk d + 1
  | (_, d) => uptoBulk d + 1
 end
def uptoSmall : (H : Type) → List (DataW H) → Bool := fun _ ds => decide (uptoBulkAll ds ≤ 1048576)
def OpenSpec.upto (s : _root_.Go.ChangeSpec) : _root_.Go.OpenSpec := { _root_.Go.OpenSpec.ofChange s with cond := some uptoSmall }

/-- 'assizelaw31.DemandsCheckSpec', WHERE WHAT IT READS IS OF BULK AT MOST 1048576: true; the input reads as it did. -/
def demandsCheckSpecUptoRow : OpenClaim := { program := "ytfhigmdfocbajaa", sum := "f5856f9d1a33a0e6937b3598e343bb09d4be94a5b4d1398389c55c092f933e26", func := "assize/assizelaw31.DemandsCheckSpec", spec := "demandsCheckSpec", unfollowed := true, recurses := true, plainKeys := false, apart := false, narrowed := true }
def DemandsCheckSpecUptoSaid : Prop := demandsCheckSpecUptoRow.holds Try.pinned (OpenSpec.upto demandsCheckSpecSpec)

/-- 'assizelaw31.DemandsHoldsSpec', WHERE WHAT IT READS IS OF BULK AT MOST 1048576: true; the input reads as it did. -/
def demandsHoldsSpecUptoRow : OpenClaim := { program := "ytfhigmdfocbajaa", sum := "f5856f9d1a33a0e6937b3598e343bb09d4be94a5b4d1398389c55c092f933e26", func := "assize/assizelaw31.DemandsHoldsSpec", spec := "demandsHoldsSpec", unfollowed := true, recurses := true, plainKeys := false, apart := false, narrowed := true }
def DemandsHoldsSpecUptoSaid : Prop := demandsHoldsSpecUptoRow.holds Try.pinned (OpenSpec.upto demandsHoldsSpecSpec)

/-- 'assizelaw31.DemandsDoomedSpec', WHERE WHAT IT READS IS OF BULK AT MOST 1048576: true; the input reads as it did. -/
def demandsDoomedSpecUptoRow : OpenClaim := { program := "ytfhigmdfocbajaa", sum := "f5856f9d1a33a0e6937b3598e343bb09d4be94a5b4d1398389c55c092f933e26", func := "assize/assizelaw31.DemandsDoomedSpec", spec := "demandsDoomedSpec", unfollowed := true, recurses := true, plainKeys := false, apart := false, narrowed := true }
def DemandsDoomedSpecUptoSaid : Prop := demandsDoomedSpecUptoRow.holds Try.pinned (OpenSpec.upto demandsDoomedSpecSpec)

/-- 'assizelaw31.DemandsSound', WHERE WHAT IT READS IS OF BULK AT MOST 1048576: true; the input reads as it did. -/
def demandsSoundUptoRow : OpenClaim := { program := "ytfhigmdfocbajaa", sum := "f5856f9d1a33a0e6937b3598e343bb09d4be94a5b4d1398389c55c092f933e26", func := "assize/assizelaw31.DemandsSound", spec := "demandsSound", unfollowed := true, recurses := true, plainKeys := false, apart := false, narrowed := true }
def DemandsSoundUptoSaid : Prop := demandsSoundUptoRow.holds Try.pinned (OpenSpec.upto demandsSoundSpec)

/-- 'assizelaw31.DemandsGoesOn', WHERE WHAT IT READS IS OF BULK AT MOST 1048576: true; the input reads as it did. -/
def demandsGoesOnUptoRow : OpenClaim := { program := "ytfhigmdfocbajaa", sum := "f5856f9d1a33a0e6937b3598e343bb09d4be94a5b4d1398389c55c092f933e26", func := "assize/assizelaw31.DemandsGoesOn", spec := "demandsGoesOn", unfollowed := true, recurses := true, plainKeys := false, apart := false, narrowed := true }
def DemandsGoesOnUptoSaid : Prop := demandsGoesOnUptoRow.holds Try.pinned (OpenSpec.upto demandsGoesOnSpec)

/-- 'assizelaw31.DemandsTurned', WHERE WHAT IT READS IS OF BULK AT MOST 1048576: true; the input reads as it did. -/
def demandsTurnedUptoRow : OpenClaim := { program := "ytfhigmdfocbajaa", sum := "f5856f9d1a33a0e6937b3598e343bb09d4be94a5b4d1398389c55c092f933e26", func := "assize/assizelaw31.DemandsTurned", spec := "demandsTurned", unfollowed := true, recurses := true, plainKeys := false, apart := false, narrowed := true }
def DemandsTurnedUptoSaid : Prop := demandsTurnedUptoRow.holds Try.pinned (OpenSpec.upto demandsTurnedSpec)

/-- 'assizelaw31.DemandsBreaks', WHERE WHAT IT READS IS OF BULK AT MOST 1048576: true; the input reads as it did. -/
def demandsBreaksUptoRow : OpenClaim := { program := "ytfhigmdfocbajaa", sum := "f5856f9d1a33a0e6937b3598e343bb09d4be94a5b4d1398389c55c092f933e26", func := "assize/assizelaw31.DemandsBreaks", spec := "demandsBreaks", unfollowed := true, recurses := true, plainKeys := false, apart := false, narrowed := true }
def DemandsBreaksUptoSaid : Prop := demandsBreaksUptoRow.holds Try.pinned (OpenSpec.upto demandsBreaksSpec)

/-- 'assizelaw31.DemandsComplete', WHERE WHAT IT READS IS OF BULK AT MOST 1048576: true; the input reads as it did. -/
def demandsCompleteUptoRow : OpenClaim := { program := "ytfhigmdfocbajaa", sum := "f5856f9d1a33a0e6937b3598e343bb09d4be94a5b4d1398389c55c092f933e26", func := "assize/assizelaw31.DemandsComplete", spec := "demandsComplete", unfollowed := true, recurses := true, plainKeys := false, apart := false, narrowed := true }
def DemandsCompleteUptoSaid : Prop := demandsCompleteUptoRow.holds Try.pinned (OpenSpec.upto demandsCompleteSpec)

end Rows
end Go.Proofs.Ytfhigmdfocbajaa
