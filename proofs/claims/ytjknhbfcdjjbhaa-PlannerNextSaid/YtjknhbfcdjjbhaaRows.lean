/-
  No cell of these rows narrows 'for every input' (looked for: loops, veiled, ifaces, maps, wideKeys, modest, calm, conditions, laid).
  DERIVED. THE GIVEN ROWS OF THIS SEAT. 7 by the template 'for every input the law returns true; each argument reads behind the call as it read before'; 0 by the template 'total and deterministic' (their statements: YtjknhbfcdjjbhaaTotals.lean).
  GIVEN WITH THE SEED: the statements are not yours to turn. If you find one false, say at which input.
  Laid BY PROGRAM, IN A SANDBOX (cutbox-rows.mjs): the forced cells as the released guide's own fill.sh prints them over the translation d147fdd48ee61d02… (all of the seat's roots in one cut). By AI agents, Wed Nov 11 2026. No macro, syntax, notation, axiom, sorry.
-/
import Derived.Test.YtjknhbfcdjjbhaaChecked
import GoSem.Claim
import GoSem.ClaimJoined
import GoSem.ClaimMapViews
import Derived.JoinedTies
import Derived.KernelRfl
namespace Go.Proofs.Ytjknhbfcdjjbhaa
/- THE CELL 'sum', in the pinned program and in every row, IS THE sha256 OF THE DUMP (.gsa) THAT YtjknhbfcdjjbhaaProg.lean LOADS. Nothing in Lean hashes anything: it is a label: what it is worth is what the hold of that sum in a sandbox is worth. -/
noncomputable def Try.pinned : Pinned := { name := "ytjknhbfcdjjbhaa", sum := "d147fdd48ee61d024efddd85c85c1215a54ac8c49869b7c2a7c2888ab75906a6", checked := Try.checked }
namespace Rows
def none {H : Type} : Left H := { results := [], args := [] }

/-- 'assizelaw32.PlannerChoicesSpec': WHATEVER THE INPUT: true; the input reads as it did. -/
def plannerChoicesSpecSpec : ChangeSpec := { name := "plannerChoicesSpec", fn := fun _ => fun
  | [d1, d2] => { results := [.lit (.bool true)], args := [d1, d2] }
  | _ => none }
def plannerChoicesSpecRow : OpenClaim := { program := "ytjknhbfcdjjbhaa", sum := "d147fdd48ee61d024efddd85c85c1215a54ac8c49869b7c2a7c2888ab75906a6", func := "assize/assizelaw32.PlannerChoicesSpec", spec := "plannerChoicesSpec", unfollowed := true, recurses := true, plainKeys := false, apart := false }
def PlannerChoicesSpecSaid : Prop := plannerChoicesSpecRow.holds Try.pinned (OpenSpec.ofChange plannerChoicesSpecSpec)

/-- ITS FALSE NEIGHBOUR: 'it returns false'. Refute it at one input. -/
def plannerChoicesSpecWrong : ChangeSpec := { name := "plannerChoicesSpec", fn := fun _ => fun
  | [d1, d2] => { results := [.lit (.bool false)], args := [d1, d2] }
  | _ => none }
def PlannerChoicesSpecWrongFalsely : Prop := plannerChoicesSpecRow.holds Try.pinned (OpenSpec.ofChange plannerChoicesSpecWrong)

/-- 'assizelaw32.PlannerPlanSpec': WHATEVER THE INPUT: true; the input reads as it did. -/
def plannerPlanSpecSpec : ChangeSpec := { name := "plannerPlanSpec", fn := fun _ => fun
  | [d1, d2] => { results := [.lit (.bool true)], args := [d1, d2] }
  | _ => none }
def plannerPlanSpecRow : OpenClaim := { program := "ytjknhbfcdjjbhaa", sum := "d147fdd48ee61d024efddd85c85c1215a54ac8c49869b7c2a7c2888ab75906a6", func := "assize/assizelaw32.PlannerPlanSpec", spec := "plannerPlanSpec", unfollowed := true, recurses := true, plainKeys := false, apart := false }
def PlannerPlanSpecSaid : Prop := plannerPlanSpecRow.holds Try.pinned (OpenSpec.ofChange plannerPlanSpecSpec)

/-- ITS FALSE NEIGHBOUR: 'it returns false'. Refute it at one input. -/
def plannerPlanSpecWrong : ChangeSpec := { name := "plannerPlanSpec", fn := fun _ => fun
  | [d1, d2] => { results := [.lit (.bool false)], args := [d1, d2] }
  | _ => none }
def PlannerPlanSpecWrongFalsely : Prop := plannerPlanSpecRow.holds Try.pinned (OpenSpec.ofChange plannerPlanSpecWrong)

/-- 'assizelaw32.PlannerFewer': WHATEVER THE INPUT: true; the input reads as it did. -/
def plannerFewerSpec : ChangeSpec := { name := "plannerFewer", fn := fun _ => fun
  | [d] => { results := [.lit (.bool true)], args := [d] }
  | _ => none }
def plannerFewerRow : OpenClaim := { program := "ytjknhbfcdjjbhaa", sum := "d147fdd48ee61d024efddd85c85c1215a54ac8c49869b7c2a7c2888ab75906a6", func := "assize/assizelaw32.PlannerFewer", spec := "plannerFewer", unfollowed := true, recurses := true, plainKeys := false, apart := false }
def PlannerFewerSaid : Prop := plannerFewerRow.holds Try.pinned (OpenSpec.ofChange plannerFewerSpec)

/-- ITS FALSE NEIGHBOUR: 'it returns false'. Refute it at one input. -/
def plannerFewerWrong : ChangeSpec := { name := "plannerFewer", fn := fun _ => fun
  | [d] => { results := [.lit (.bool false)], args := [d] }
  | _ => none }
def PlannerFewerWrongFalsely : Prop := plannerFewerRow.holds Try.pinned (OpenSpec.ofChange plannerFewerWrong)

/-- 'assizelaw32.PlannerTurned': WHATEVER THE INPUT: true; the input reads as it did. -/
def plannerTurnedSpec : ChangeSpec := { name := "plannerTurned", fn := fun _ => fun
  | [d1, d2] => { results := [.lit (.bool true)], args := [d1, d2] }
  | _ => none }
def plannerTurnedRow : OpenClaim := { program := "ytjknhbfcdjjbhaa", sum := "d147fdd48ee61d024efddd85c85c1215a54ac8c49869b7c2a7c2888ab75906a6", func := "assize/assizelaw32.PlannerTurned", spec := "plannerTurned", unfollowed := true, recurses := true, plainKeys := false, apart := false }
def PlannerTurnedSaid : Prop := plannerTurnedRow.holds Try.pinned (OpenSpec.ofChange plannerTurnedSpec)

/-- ITS FALSE NEIGHBOUR: 'it returns false'. Refute it at one input. -/
def plannerTurnedWrong : ChangeSpec := { name := "plannerTurned", fn := fun _ => fun
  | [d1, d2] => { results := [.lit (.bool false)], args := [d1, d2] }
  | _ => none }
def PlannerTurnedWrongFalsely : Prop := plannerTurnedRow.holds Try.pinned (OpenSpec.ofChange plannerTurnedWrong)

/-- 'assizelaw32.PlannerSplits': WHATEVER THE INPUT: true; the input reads as it did. -/
def plannerSplitsSpec : ChangeSpec := { name := "plannerSplits", fn := fun _ => fun
  | [d1, d2, d3] => { results := [.lit (.bool true)], args := [d1, d2, d3] }
  | _ => none }
def plannerSplitsRow : OpenClaim := { program := "ytjknhbfcdjjbhaa", sum := "d147fdd48ee61d024efddd85c85c1215a54ac8c49869b7c2a7c2888ab75906a6", func := "assize/assizelaw32.PlannerSplits", spec := "plannerSplits", unfollowed := true, recurses := true, plainKeys := false, apart := false }
def PlannerSplitsSaid : Prop := plannerSplitsRow.holds Try.pinned (OpenSpec.ofChange plannerSplitsSpec)

/-- ITS FALSE NEIGHBOUR: 'it returns false'. Refute it at one input. -/
def plannerSplitsWrong : ChangeSpec := { name := "plannerSplits", fn := fun _ => fun
  | [d1, d2, d3] => { results := [.lit (.bool false)], args := [d1, d2, d3] }
  | _ => none }
def PlannerSplitsWrongFalsely : Prop := plannerSplitsRow.holds Try.pinned (OpenSpec.ofChange plannerSplitsWrong)

/-- 'assizelaw32.PlannerNext': WHATEVER THE INPUT: true; the input reads as it did. -/
def plannerNextSpec : ChangeSpec := { name := "plannerNext", fn := fun _ => fun
  | [d1, d2] => { results := [.lit (.bool true)], args := [d1, d2] }
  | _ => none }
def plannerNextRow : OpenClaim := { program := "ytjknhbfcdjjbhaa", sum := "d147fdd48ee61d024efddd85c85c1215a54ac8c49869b7c2a7c2888ab75906a6", func := "assize/assizelaw32.PlannerNext", spec := "plannerNext", unfollowed := true, recurses := true, plainKeys := false, apart := false }
def PlannerNextSaid : Prop := plannerNextRow.holds Try.pinned (OpenSpec.ofChange plannerNextSpec)

/-- ITS FALSE NEIGHBOUR: 'it returns false'. Refute it at one input. -/
def plannerNextWrong : ChangeSpec := { name := "plannerNext", fn := fun _ => fun
  | [d1, d2] => { results := [.lit (.bool false)], args := [d1, d2] }
  | _ => none }
def PlannerNextWrongFalsely : Prop := plannerNextRow.holds Try.pinned (OpenSpec.ofChange plannerNextWrong)

/-- 'assizelaw32.PlannerMeets': WHATEVER THE INPUT: true; the input reads as it did. -/
def plannerMeetsSpec : ChangeSpec := { name := "plannerMeets", fn := fun _ => fun
  | [d] => { results := [.lit (.bool true)], args := [d] }
  | _ => none }
def plannerMeetsRow : OpenClaim := { program := "ytjknhbfcdjjbhaa", sum := "d147fdd48ee61d024efddd85c85c1215a54ac8c49869b7c2a7c2888ab75906a6", func := "assize/assizelaw32.PlannerMeets", spec := "plannerMeets", unfollowed := true, recurses := true, plainKeys := false, apart := false }
def PlannerMeetsSaid : Prop := plannerMeetsRow.holds Try.pinned (OpenSpec.ofChange plannerMeetsSpec)

/-- ITS FALSE NEIGHBOUR: 'it returns false'. Refute it at one input. -/
def plannerMeetsWrong : ChangeSpec := { name := "plannerMeets", fn := fun _ => fun
  | [d] => { results := [.lit (.bool false)], args := [d] }
  | _ => none }
def PlannerMeetsWrongFalsely : Prop := plannerMeetsRow.holds Try.pinned (OpenSpec.ofChange plannerMeetsWrong)

/- THE SECOND FORM. 'bulk': how many values and letters a reading holds, each counted each time it is reached (what is shared counts as often as it is met; a slice's spare places count too). A statement '..UptoSaid' is the law's where the arguments, and the package variables that the reading takes, are together of bulk at most 1048576: NARROWER than '..Said'. Prove '..Said' where nothing that the law and all that it calls make is longer than what came in: it says more and counts as full. Else prove '..UptoSaid'. A law counts once. -/
mutual
def uptoBulk {H : Type} : DataW H → Nat
  | .lit (.string bytes) => bytes.length + 1
  | .lit _ => 1
  | .nil => 1
  | .ptr d => uptoBulk d + 1
  | .slice elems spare => uptoBulkAll elems + uptoBulkAll spare + 1
  | .agg parts => uptoBulkAll parts + 1
  | .iface _ d => uptoBulk d + 1
  | .map entries => uptoBulkEntries entries + 1
  | .held _ => 1
def uptoBulkAll {H : Type} : List (DataW H) → Nat
  | [] => 0
  | d :: r => uptoBulk d + uptoBulkAll r
def uptoBulkEntries {H : Type} : List (Lit × DataW H) → Nat
  | [] => 0
  | x :: r => uptoBulkEntry x + uptoBulkEntries r
def uptoBulkEntry {H : Type} : Lit × DataW H → Nat
  | (.string bytes, d) => bytes.length + uptoBulk d + 1
  | (_, d) => uptoBulk d + 1
 end
def uptoSmall : (H : Type) → List (DataW H) → Bool := fun _ ds => decide (uptoBulkAll ds ≤ 1048576)
def OpenSpec.upto (s : _root_.Go.ChangeSpec) : _root_.Go.OpenSpec := { _root_.Go.OpenSpec.ofChange s with cond := some uptoSmall }

/-- 'assizelaw32.PlannerChoicesSpec', WHERE WHAT IT READS IS OF BULK AT MOST 1048576: true; the input reads as it did. -/
def plannerChoicesSpecUptoRow : OpenClaim := { program := "ytjknhbfcdjjbhaa", sum := "d147fdd48ee61d024efddd85c85c1215a54ac8c49869b7c2a7c2888ab75906a6", func := "assize/assizelaw32.PlannerChoicesSpec", spec := "plannerChoicesSpec", unfollowed := true, recurses := true, plainKeys := false, apart := false, narrowed := true }
def PlannerChoicesSpecUptoSaid : Prop := plannerChoicesSpecUptoRow.holds Try.pinned (OpenSpec.upto plannerChoicesSpecSpec)

/-- 'assizelaw32.PlannerPlanSpec', WHERE WHAT IT READS IS OF BULK AT MOST 1048576: true; the input reads as it did. -/
def plannerPlanSpecUptoRow : OpenClaim := { program := "ytjknhbfcdjjbhaa", sum := "d147fdd48ee61d024efddd85c85c1215a54ac8c49869b7c2a7c2888ab75906a6", func := "assize/assizelaw32.PlannerPlanSpec", spec := "plannerPlanSpec", unfollowed := true, recurses := true, plainKeys := false, apart := false, narrowed := true }
def PlannerPlanSpecUptoSaid : Prop := plannerPlanSpecUptoRow.holds Try.pinned (OpenSpec.upto plannerPlanSpecSpec)

/-- 'assizelaw32.PlannerFewer', WHERE WHAT IT READS IS OF BULK AT MOST 1048576: true; the input reads as it did. -/
def plannerFewerUptoRow : OpenClaim := { program := "ytjknhbfcdjjbhaa", sum := "d147fdd48ee61d024efddd85c85c1215a54ac8c49869b7c2a7c2888ab75906a6", func := "assize/assizelaw32.PlannerFewer", spec := "plannerFewer", unfollowed := true, recurses := true, plainKeys := false, apart := false, narrowed := true }
def PlannerFewerUptoSaid : Prop := plannerFewerUptoRow.holds Try.pinned (OpenSpec.upto plannerFewerSpec)

/-- 'assizelaw32.PlannerTurned', WHERE WHAT IT READS IS OF BULK AT MOST 1048576: true; the input reads as it did. -/
def plannerTurnedUptoRow : OpenClaim := { program := "ytjknhbfcdjjbhaa", sum := "d147fdd48ee61d024efddd85c85c1215a54ac8c49869b7c2a7c2888ab75906a6", func := "assize/assizelaw32.PlannerTurned", spec := "plannerTurned", unfollowed := true, recurses := true, plainKeys := false, apart := false, narrowed := true }
def PlannerTurnedUptoSaid : Prop := plannerTurnedUptoRow.holds Try.pinned (OpenSpec.upto plannerTurnedSpec)

/-- 'assizelaw32.PlannerSplits', WHERE WHAT IT READS IS OF BULK AT MOST 1048576: true; the input reads as it did. -/
def plannerSplitsUptoRow : OpenClaim := { program := "ytjknhbfcdjjbhaa", sum := "d147fdd48ee61d024efddd85c85c1215a54ac8c49869b7c2a7c2888ab75906a6", func := "assize/assizelaw32.PlannerSplits", spec := "plannerSplits", unfollowed := true, recurses := true, plainKeys := false, apart := false, narrowed := true }
def PlannerSplitsUptoSaid : Prop := plannerSplitsUptoRow.holds Try.pinned (OpenSpec.upto plannerSplitsSpec)

/-- 'assizelaw32.PlannerNext', WHERE WHAT IT READS IS OF BULK AT MOST 1048576: true; the input reads as it did. -/
def plannerNextUptoRow : OpenClaim := { program := "ytjknhbfcdjjbhaa", sum := "d147fdd48ee61d024efddd85c85c1215a54ac8c49869b7c2a7c2888ab75906a6", func := "assize/assizelaw32.PlannerNext", spec := "plannerNext", unfollowed := true, recurses := true, plainKeys := false, apart := false, narrowed := true }
def PlannerNextUptoSaid : Prop := plannerNextUptoRow.holds Try.pinned (OpenSpec.upto plannerNextSpec)

/-- 'assizelaw32.PlannerMeets', WHERE WHAT IT READS IS OF BULK AT MOST 1048576: true; the input reads as it did. -/
def plannerMeetsUptoRow : OpenClaim := { program := "ytjknhbfcdjjbhaa", sum := "d147fdd48ee61d024efddd85c85c1215a54ac8c49869b7c2a7c2888ab75906a6", func := "assize/assizelaw32.PlannerMeets", spec := "plannerMeets", unfollowed := true, recurses := true, plainKeys := false, apart := false, narrowed := true }
def PlannerMeetsUptoSaid : Prop := plannerMeetsUptoRow.holds Try.pinned (OpenSpec.upto plannerMeetsSpec)

end Rows
end Go.Proofs.Ytjknhbfcdjjbhaa
