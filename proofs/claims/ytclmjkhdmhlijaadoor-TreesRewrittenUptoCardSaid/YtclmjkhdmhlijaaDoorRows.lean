/-
  NARROWER THAN 'FOR EVERY INPUT', by the rows' own cells (each row's printed sentence says how): TreesCheckSpec: laid · TreesEvalSpec: laid · TreesMeaning: loops, laid · TreesUnique: loops, laid · TreesRewritten: loops, laid · TreesReached: loops, laid.
  DERIVED. THE GIVEN ROWS OF THIS SEAT. 6 by the template 'for every input the law returns true; each argument reads behind the call as it read before'; 0 by the template 'total and deterministic' (their statements: YtclmjkhdmhlijaaDoorTotals.lean).
  GIVEN WITH THE SEED: the statements are not yours to turn. If you find one false, say at which input.
  Laid BY PROGRAM, IN A SANDBOX (cutbox-rows.mjs): the forced cells as the released guide's own fill.sh prints them over the translation d4377ae3c7b3e03d… (all of the seat's roots in one cut). By AI agents, Wed Nov 11 2026. No macro, syntax, notation, axiom, sorry.
-/
import Derived.Test.YtclmjkhdmhlijaaDoorChecked
import GoSem.Claim
import GoSem.ClaimJoined
import GoSem.ClaimMapViews
import Derived.JoinedTies
import Derived.KernelRfl
namespace Go.Proofs.YtclmjkhdmhlijaaDoor
/- THE CELL 'sum', in the pinned program and in every row, IS THE sha256 OF THE DUMP (.gsa) THAT YtclmjkhdmhlijaaDoorProg.lean LOADS. Nothing in Lean hashes anything: it is a label: what it is worth is what the hold of that sum in a sandbox is worth. -/
noncomputable def Tryd.pinned : Pinned := { name := "ytclmjkhdmhlijaadoor", sum := "d4377ae3c7b3e03de450efd965e60704824fb1f9f41e60bf9fc650aebed3882b", checked := Tryd.checked }
namespace Rows
def none {H : Type} : Left H := { results := [], args := [] }

/- WHAT THE LISTED PACKAGE-LEVEL VARIABLES READ AS WHEN THE CALL BEGINS. Each datum BY PROGRAM (the guide's laid-datum.mjs) off the statement by which the dump's own 'gosem.cut.vars' lays the variable. In a bare row this is a premise. The card (YtclmjkhdmhlijaaDoorCards.lean) ties it to the program's text. -/
def laid_assize_typing_spans {H : Type} : DataW H := .agg [.agg [.lit (.int .i64 0), .lit (.int .i64 0)], .agg [.lit (.int .i64 2), .lit (.int .i64 24)], .agg [.lit (.int .i64 0), .lit (.int .i64 46)], .agg [.lit (.int .i64 0), .lit (.int .i64 1)], .agg [.lit (.int .i64 2), .lit (.int .i64 24)]]

/-- 'assizelaw16.TreesCheckSpec': WHATEVER THE INPUT: true; the input reads as it did. -/
def treesCheckSpecSpec : ChangeSpec := { name := "treesCheckSpec", fn := fun _ => fun
  | [d1, d2] => { results := [.lit (.bool true)], args := [d1, d2] }
  | _ => none }
def treesCheckSpecRow : OpenClaim := { program := "ytclmjkhdmhlijaadoor", sum := "d4377ae3c7b3e03de450efd965e60704824fb1f9f41e60bf9fc650aebed3882b", func := "assize/assizelaw16.TreesCheckSpec", spec := "treesCheckSpec", unfollowed := true, recurses := true, named := ["assize/typing.spans"], plainKeys := false, apart := false, laid := [("assize/typing.spans", laid_assize_typing_spans)] }
def TreesCheckSpecSaid : Prop := treesCheckSpecRow.holds Tryd.pinned (OpenSpec.ofChange treesCheckSpecSpec)

/-- ITS FALSE NEIGHBOUR: 'it returns false'. Refute it at one input. -/
def treesCheckSpecWrong : ChangeSpec := { name := "treesCheckSpec", fn := fun _ => fun
  | [d1, d2] => { results := [.lit (.bool false)], args := [d1, d2] }
  | _ => none }
def TreesCheckSpecWrongFalsely : Prop := treesCheckSpecRow.holds Tryd.pinned (OpenSpec.ofChange treesCheckSpecWrong)

/-- 'assizelaw16.TreesEvalSpec': WHATEVER THE INPUT: true; the input reads as it did. -/
def treesEvalSpecSpec : ChangeSpec := { name := "treesEvalSpec", fn := fun _ => fun
  | [d1, d2, d3, d4] => { results := [.lit (.bool true)], args := [d1, d2, d3, d4] }
  | _ => none }
def treesEvalSpecRow : OpenClaim := { program := "ytclmjkhdmhlijaadoor", sum := "d4377ae3c7b3e03de450efd965e60704824fb1f9f41e60bf9fc650aebed3882b", func := "assize/assizelaw16.TreesEvalSpec", spec := "treesEvalSpec", unfollowed := true, recurses := true, named := ["assize/typing.spans"], plainKeys := false, apart := false, laid := [("assize/typing.spans", laid_assize_typing_spans)] }
def TreesEvalSpecSaid : Prop := treesEvalSpecRow.holds Tryd.pinned (OpenSpec.ofChange treesEvalSpecSpec)

/-- ITS FALSE NEIGHBOUR: 'it returns false'. Refute it at one input. -/
def treesEvalSpecWrong : ChangeSpec := { name := "treesEvalSpec", fn := fun _ => fun
  | [d1, d2, d3, d4] => { results := [.lit (.bool false)], args := [d1, d2, d3, d4] }
  | _ => none }
def TreesEvalSpecWrongFalsely : Prop := treesEvalSpecRow.holds Tryd.pinned (OpenSpec.ofChange treesEvalSpecWrong)

/-- 'assizelaw16.TreesMeaning': WHATEVER THE INPUT: true; the input reads as it did. -/
def treesMeaningSpec : ChangeSpec := { name := "treesMeaning", fn := fun _ => fun
  | [d1, d2, d3] => { results := [.lit (.bool true)], args := [d1, d2, d3] }
  | _ => none }
def treesMeaningRow : OpenClaim := { program := "ytclmjkhdmhlijaadoor", sum := "d4377ae3c7b3e03de450efd965e60704824fb1f9f41e60bf9fc650aebed3882b", func := "assize/assizelaw16.TreesMeaning", spec := "treesMeaning", unfollowed := true, recurses := true, named := ["assize/typing.spans"], loops := true, plainKeys := false, apart := false, laid := [("assize/typing.spans", laid_assize_typing_spans)] }
def TreesMeaningSaid : Prop := treesMeaningRow.holds Tryd.pinned (OpenSpec.ofChange treesMeaningSpec)

/-- ITS FALSE NEIGHBOUR: 'it returns false'. Refute it at one input. -/
def treesMeaningWrong : ChangeSpec := { name := "treesMeaning", fn := fun _ => fun
  | [d1, d2, d3] => { results := [.lit (.bool false)], args := [d1, d2, d3] }
  | _ => none }
def TreesMeaningWrongFalsely : Prop := treesMeaningRow.holds Tryd.pinned (OpenSpec.ofChange treesMeaningWrong)

/-- 'assizelaw16.TreesUnique': WHATEVER THE INPUT: true; the input reads as it did. -/
def treesUniqueSpec : ChangeSpec := { name := "treesUnique", fn := fun _ => fun
  | [d1, d2] => { results := [.lit (.bool true)], args := [d1, d2] }
  | _ => none }
def treesUniqueRow : OpenClaim := { program := "ytclmjkhdmhlijaadoor", sum := "d4377ae3c7b3e03de450efd965e60704824fb1f9f41e60bf9fc650aebed3882b", func := "assize/assizelaw16.TreesUnique", spec := "treesUnique", unfollowed := true, recurses := true, named := ["assize/typing.spans"], loops := true, plainKeys := false, apart := false, laid := [("assize/typing.spans", laid_assize_typing_spans)] }
def TreesUniqueSaid : Prop := treesUniqueRow.holds Tryd.pinned (OpenSpec.ofChange treesUniqueSpec)

/-- ITS FALSE NEIGHBOUR: 'it returns false'. Refute it at one input. -/
def treesUniqueWrong : ChangeSpec := { name := "treesUnique", fn := fun _ => fun
  | [d1, d2] => { results := [.lit (.bool false)], args := [d1, d2] }
  | _ => none }
def TreesUniqueWrongFalsely : Prop := treesUniqueRow.holds Tryd.pinned (OpenSpec.ofChange treesUniqueWrong)

/-- 'assizelaw16.TreesRewritten': WHATEVER THE INPUT: true; the input reads as it did. -/
def treesRewrittenSpec : ChangeSpec := { name := "treesRewritten", fn := fun _ => fun
  | [d1, d2, d3] => { results := [.lit (.bool true)], args := [d1, d2, d3] }
  | _ => none }
def treesRewrittenRow : OpenClaim := { program := "ytclmjkhdmhlijaadoor", sum := "d4377ae3c7b3e03de450efd965e60704824fb1f9f41e60bf9fc650aebed3882b", func := "assize/assizelaw16.TreesRewritten", spec := "treesRewritten", unfollowed := true, recurses := true, named := ["assize/typing.spans"], loops := true, plainKeys := false, apart := false, laid := [("assize/typing.spans", laid_assize_typing_spans)] }
def TreesRewrittenSaid : Prop := treesRewrittenRow.holds Tryd.pinned (OpenSpec.ofChange treesRewrittenSpec)

/-- ITS FALSE NEIGHBOUR: 'it returns false'. Refute it at one input. -/
def treesRewrittenWrong : ChangeSpec := { name := "treesRewritten", fn := fun _ => fun
  | [d1, d2, d3] => { results := [.lit (.bool false)], args := [d1, d2, d3] }
  | _ => none }
def TreesRewrittenWrongFalsely : Prop := treesRewrittenRow.holds Tryd.pinned (OpenSpec.ofChange treesRewrittenWrong)

/-- 'assizelaw16.TreesReached': WHATEVER THE INPUT: true; the input reads as it did. -/
def treesReachedSpec : ChangeSpec := { name := "treesReached", fn := fun _ => fun
  | [d1, d2] => { results := [.lit (.bool true)], args := [d1, d2] }
  | _ => none }
def treesReachedRow : OpenClaim := { program := "ytclmjkhdmhlijaadoor", sum := "d4377ae3c7b3e03de450efd965e60704824fb1f9f41e60bf9fc650aebed3882b", func := "assize/assizelaw16.TreesReached", spec := "treesReached", unfollowed := true, recurses := true, named := ["assize/typing.spans"], loops := true, plainKeys := false, apart := false, laid := [("assize/typing.spans", laid_assize_typing_spans)] }
def TreesReachedSaid : Prop := treesReachedRow.holds Tryd.pinned (OpenSpec.ofChange treesReachedSpec)

/-- ITS FALSE NEIGHBOUR: 'it returns false'. Refute it at one input. -/
def treesReachedWrong : ChangeSpec := { name := "treesReached", fn := fun _ => fun
  | [d1, d2] => { results := [.lit (.bool false)], args := [d1, d2] }
  | _ => none }
def TreesReachedWrongFalsely : Prop := treesReachedRow.holds Tryd.pinned (OpenSpec.ofChange treesReachedWrong)

/- THE SECOND FORM. 'bulk': how many values and letters a reading holds, each counted each time it is reached (what is shared counts as often as it is met; a slice's spare places count too). A statement '..UptoSaid' is the law's where the arguments, and the package variables that the reading takes, are together of bulk at most 1048576: NARROWER than '..Said'. Prove '..Said' where nothing that the law and all that it calls make is longer than what came in: it says more and counts as full. Else prove '..UptoSaid'. A law counts once. -/
mutual
def uptoBulk {H : Type} : DataW H → Nat
  | .lit (.string bytes) => bytes.length + 1
  | .lit _ => 1
  | .nil => 1
  | .ptr d => uptoBulk d + 1
  | .slice elems spare => uptoBulkAll elems + uptoBulkAll spare + 1
  | .agg parts => uptoBulkAll parts + 1
  | .iface _ d => uptoBulk d + 1
  | .map entries => uptoBulkEntries entries + 1
  | .held _ => 1
def uptoBulkAll {H : Type} : List (DataW H) → Nat
  | [] => 0
  | d :: r => uptoBulk d + uptoBulkAll r
def uptoBulkEntries {H : Type} : List (Lit × DataW H) → Nat
  | [] => 0
  | x :: r => uptoBulkEntry x + uptoBulkEntries r
def uptoBulkEntry {H : Type} : Lit × DataW H → Nat
  | (.string bytes, d) => bytes.length + uptoBulk d + 1
  | (_, d) => uptoBulk d + 1
 end
def uptoSmall : (H : Type) → List (DataW H) → Bool := fun _ ds => decide (uptoBulkAll ds ≤ 1048576)
def OpenSpec.upto (s : _root_.Go.ChangeSpec) : _root_.Go.OpenSpec := { _root_.Go.OpenSpec.ofChange s with cond := some uptoSmall }

/-- 'assizelaw16.TreesCheckSpec', WHERE WHAT IT READS IS OF BULK AT MOST 1048576: true; the input reads as it did. -/
def treesCheckSpecUptoRow : OpenClaim := { program := "ytclmjkhdmhlijaadoor", sum := "d4377ae3c7b3e03de450efd965e60704824fb1f9f41e60bf9fc650aebed3882b", func := "assize/assizelaw16.TreesCheckSpec", spec := "treesCheckSpec", unfollowed := true, recurses := true, named := ["assize/typing.spans"], plainKeys := false, apart := false, laid := [("assize/typing.spans", laid_assize_typing_spans)], narrowed := true }
def TreesCheckSpecUptoSaid : Prop := treesCheckSpecUptoRow.holds Tryd.pinned (OpenSpec.upto treesCheckSpecSpec)

/-- 'assizelaw16.TreesEvalSpec', WHERE WHAT IT READS IS OF BULK AT MOST 1048576: true; the input reads as it did. -/
def treesEvalSpecUptoRow : OpenClaim := { program := "ytclmjkhdmhlijaadoor", sum := "d4377ae3c7b3e03de450efd965e60704824fb1f9f41e60bf9fc650aebed3882b", func := "assize/assizelaw16.TreesEvalSpec", spec := "treesEvalSpec", unfollowed := true, recurses := true, named := ["assize/typing.spans"], plainKeys := false, apart := false, laid := [("assize/typing.spans", laid_assize_typing_spans)], narrowed := true }
def TreesEvalSpecUptoSaid : Prop := treesEvalSpecUptoRow.holds Tryd.pinned (OpenSpec.upto treesEvalSpecSpec)

/-- 'assizelaw16.TreesMeaning', WHERE WHAT IT READS IS OF BULK AT MOST 1048576: true; the input reads as it did. -/
def treesMeaningUptoRow : OpenClaim := { program := "ytclmjkhdmhlijaadoor", sum := "d4377ae3c7b3e03de450efd965e60704824fb1f9f41e60bf9fc650aebed3882b", func := "assize/assizelaw16.TreesMeaning", spec := "treesMeaning", unfollowed := true, recurses := true, named := ["assize/typing.spans"], loops := true, plainKeys := false, apart := false, laid := [("assize/typing.spans", laid_assize_typing_spans)], narrowed := true }
def TreesMeaningUptoSaid : Prop := treesMeaningUptoRow.holds Tryd.pinned (OpenSpec.upto treesMeaningSpec)

/-- 'assizelaw16.TreesUnique', WHERE WHAT IT READS IS OF BULK AT MOST 1048576: true; the input reads as it did. -/
def treesUniqueUptoRow : OpenClaim := { program := "ytclmjkhdmhlijaadoor", sum := "d4377ae3c7b3e03de450efd965e60704824fb1f9f41e60bf9fc650aebed3882b", func := "assize/assizelaw16.TreesUnique", spec := "treesUnique", unfollowed := true, recurses := true, named := ["assize/typing.spans"], loops := true, plainKeys := false, apart := false, laid := [("assize/typing.spans", laid_assize_typing_spans)], narrowed := true }
def TreesUniqueUptoSaid : Prop := treesUniqueUptoRow.holds Tryd.pinned (OpenSpec.upto treesUniqueSpec)

/-- 'assizelaw16.TreesRewritten', WHERE WHAT IT READS IS OF BULK AT MOST 1048576: true; the input reads as it did. -/
def treesRewrittenUptoRow : OpenClaim := { program := "ytclmjkhdmhlijaadoor", sum := "d4377ae3c7b3e03de450efd965e60704824fb1f9f41e60bf9fc650aebed3882b", func := "assize/assizelaw16.TreesRewritten", spec := "treesRewritten", unfollowed := true, recurses := true, named := ["assize/typing.spans"], loops := true, plainKeys := false, apart := false, laid := [("assize/typing.spans", laid_assize_typing_spans)], narrowed := true }
def TreesRewrittenUptoSaid : Prop := treesRewrittenUptoRow.holds Tryd.pinned (OpenSpec.upto treesRewrittenSpec)

/-- 'assizelaw16.TreesReached', WHERE WHAT IT READS IS OF BULK AT MOST 1048576: true; the input reads as it did. -/
def treesReachedUptoRow : OpenClaim := { program := "ytclmjkhdmhlijaadoor", sum := "d4377ae3c7b3e03de450efd965e60704824fb1f9f41e60bf9fc650aebed3882b", func := "assize/assizelaw16.TreesReached", spec := "treesReached", unfollowed := true, recurses := true, named := ["assize/typing.spans"], loops := true, plainKeys := false, apart := false, laid := [("assize/typing.spans", laid_assize_typing_spans)], narrowed := true }
def TreesReachedUptoSaid : Prop := treesReachedUptoRow.holds Tryd.pinned (OpenSpec.upto treesReachedSpec)

end Rows
end Go.Proofs.YtclmjkhdmhlijaaDoor
