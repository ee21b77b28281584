/-
  NARROWER THAN 'FOR EVERY INPUT', by the rows' own cells (each row's printed sentence says how): TypingRulesSpec: loops, laid · TypingEnvSpec: laid · TypingNumbers: laid · TypingOnce: loops, laid · TypingDirectSpec: loops, laid · TypingLogic: loops, laid · TypingBranches: loops, laid.
  DERIVED. THE GIVEN ROWS OF THIS SEAT. 7 by the template 'for every input the law returns true; each argument reads behind the call as it read before'; 0 by the template 'total and deterministic' (their statements: YtddolfgmkpfmcaaDoorTotals.lean).
  GIVEN WITH THE SEED: the statements are not yours to turn. If you find one false, say at which input.
  Laid BY PROGRAM, IN A SANDBOX (cutbox-rows.mjs): the forced cells as the released guide's own fill.sh prints them over the translation 37ccd82158fb511f… (all of the seat's roots in one cut). By AI agents, Wed Nov 11 2026. No macro, syntax, notation, axiom, sorry.
-/
import Derived.Test.YtddolfgmkpfmcaaDoorChecked
import GoSem.Claim
import GoSem.ClaimJoined
import GoSem.ClaimMapViews
import Derived.JoinedTies
import Derived.KernelRfl
namespace Go.Proofs.YtddolfgmkpfmcaaDoor
/- THE CELL 'sum', in the pinned program and in every row, IS THE sha256 OF THE DUMP (.gsa) THAT YtddolfgmkpfmcaaDoorProg.lean LOADS. Nothing in Lean hashes anything: it is a label: what it is worth is what the hold of that sum in a sandbox is worth. -/
noncomputable def Tryd.pinned : Pinned := { name := "ytddolfgmkpfmcaadoor", sum := "37ccd82158fb511fc5e04504b830f651fe35ee8ab55e4898d62f3a8e7f46f898", checked := Tryd.checked }
namespace Rows
def none {H : Type} : Left H := { results := [], args := [] }

/- WHAT THE LISTED PACKAGE-LEVEL VARIABLES READ AS WHEN THE CALL BEGINS. Each datum BY PROGRAM (the guide's laid-datum.mjs) off the statement by which the dump's own 'gosem.cut.vars' lays the variable. In a bare row this is a premise. The card (YtddolfgmkpfmcaaDoorCards.lean) ties it to the program's text. -/
def laid_assize_typing_spans {H : Type} : DataW H := .agg [.agg [.lit (.int .i64 0), .lit (.int .i64 0)], .agg [.lit (.int .i64 2), .lit (.int .i64 24)], .agg [.lit (.int .i64 0), .lit (.int .i64 46)], .agg [.lit (.int .i64 0), .lit (.int .i64 1)], .agg [.lit (.int .i64 2), .lit (.int .i64 24)]]

/-- 'assizelaw14.TypingRulesSpec': WHATEVER THE INPUT: true; the input reads as it did. -/
def typingRulesSpecSpec : ChangeSpec := { name := "typingRulesSpec", fn := fun _ => fun
  | [d1, d2] => { results := [.lit (.bool true)], args := [d1, d2] }
  | _ => none }
def typingRulesSpecRow : OpenClaim := { program := "ytddolfgmkpfmcaadoor", sum := "37ccd82158fb511fc5e04504b830f651fe35ee8ab55e4898d62f3a8e7f46f898", func := "assize/assizelaw14.TypingRulesSpec", spec := "typingRulesSpec", unfollowed := true, recurses := true, named := ["assize/typing.spans"], loops := true, apart := false, laid := [("assize/typing.spans", laid_assize_typing_spans)] }
def TypingRulesSpecSaid : Prop := typingRulesSpecRow.holds Tryd.pinned (OpenSpec.ofChange typingRulesSpecSpec)

/-- ITS FALSE NEIGHBOUR: 'it returns false'. Refute it at one input. -/
def typingRulesSpecWrong : ChangeSpec := { name := "typingRulesSpec", fn := fun _ => fun
  | [d1, d2] => { results := [.lit (.bool false)], args := [d1, d2] }
  | _ => none }
def TypingRulesSpecWrongFalsely : Prop := typingRulesSpecRow.holds Tryd.pinned (OpenSpec.ofChange typingRulesSpecWrong)

/-- 'assizelaw14.TypingEnvSpec': WHATEVER THE INPUT: true; the input reads as it did. -/
def typingEnvSpecSpec : ChangeSpec := { name := "typingEnvSpec", fn := fun _ => fun
  | [d1, d2] => { results := [.lit (.bool true)], args := [d1, d2] }
  | _ => none }
def typingEnvSpecRow : OpenClaim := { program := "ytddolfgmkpfmcaadoor", sum := "37ccd82158fb511fc5e04504b830f651fe35ee8ab55e4898d62f3a8e7f46f898", func := "assize/assizelaw14.TypingEnvSpec", spec := "typingEnvSpec", unfollowed := true, recurses := true, named := ["assize/typing.spans"], apart := false, laid := [("assize/typing.spans", laid_assize_typing_spans)] }
def TypingEnvSpecSaid : Prop := typingEnvSpecRow.holds Tryd.pinned (OpenSpec.ofChange typingEnvSpecSpec)

/-- ITS FALSE NEIGHBOUR: 'it returns false'. Refute it at one input. -/
def typingEnvSpecWrong : ChangeSpec := { name := "typingEnvSpec", fn := fun _ => fun
  | [d1, d2] => { results := [.lit (.bool false)], args := [d1, d2] }
  | _ => none }
def TypingEnvSpecWrongFalsely : Prop := typingEnvSpecRow.holds Tryd.pinned (OpenSpec.ofChange typingEnvSpecWrong)

/-- 'assizelaw14.TypingNumbers': WHATEVER THE INPUT: true; the input reads as it did. -/
def typingNumbersSpec : ChangeSpec := { name := "typingNumbers", fn := fun _ => fun
  | [d1, d2] => { results := [.lit (.bool true)], args := [d1, d2] }
  | _ => none }
def typingNumbersRow : OpenClaim := { program := "ytddolfgmkpfmcaadoor", sum := "37ccd82158fb511fc5e04504b830f651fe35ee8ab55e4898d62f3a8e7f46f898", func := "assize/assizelaw14.TypingNumbers", spec := "typingNumbers", unfollowed := true, recurses := true, named := ["assize/typing.spans"], apart := false, laid := [("assize/typing.spans", laid_assize_typing_spans)] }
def TypingNumbersSaid : Prop := typingNumbersRow.holds Tryd.pinned (OpenSpec.ofChange typingNumbersSpec)

/-- ITS FALSE NEIGHBOUR: 'it returns false'. Refute it at one input. -/
def typingNumbersWrong : ChangeSpec := { name := "typingNumbers", fn := fun _ => fun
  | [d1, d2] => { results := [.lit (.bool false)], args := [d1, d2] }
  | _ => none }
def TypingNumbersWrongFalsely : Prop := typingNumbersRow.holds Tryd.pinned (OpenSpec.ofChange typingNumbersWrong)

/-- 'assizelaw14.TypingOnce': WHATEVER THE INPUT: true; the input reads as it did. -/
def typingOnceSpec : ChangeSpec := { name := "typingOnce", fn := fun _ => fun
  | [d1, d2, d3] => { results := [.lit (.bool true)], args := [d1, d2, d3] }
  | _ => none }
def typingOnceRow : OpenClaim := { program := "ytddolfgmkpfmcaadoor", sum := "37ccd82158fb511fc5e04504b830f651fe35ee8ab55e4898d62f3a8e7f46f898", func := "assize/assizelaw14.TypingOnce", spec := "typingOnce", unfollowed := true, recurses := true, named := ["assize/typing.spans"], loops := true, apart := false, laid := [("assize/typing.spans", laid_assize_typing_spans)] }
def TypingOnceSaid : Prop := typingOnceRow.holds Tryd.pinned (OpenSpec.ofChange typingOnceSpec)

/-- ITS FALSE NEIGHBOUR: 'it returns false'. Refute it at one input. -/
def typingOnceWrong : ChangeSpec := { name := "typingOnce", fn := fun _ => fun
  | [d1, d2, d3] => { results := [.lit (.bool false)], args := [d1, d2, d3] }
  | _ => none }
def TypingOnceWrongFalsely : Prop := typingOnceRow.holds Tryd.pinned (OpenSpec.ofChange typingOnceWrong)

/-- 'assizelaw14.TypingDirectSpec': WHATEVER THE INPUT: true; the input reads as it did. -/
def typingDirectSpecSpec : ChangeSpec := { name := "typingDirectSpec", fn := fun _ => fun
  | [d1, d2, d3, d4] => { results := [.lit (.bool true)], args := [d1, d2, d3, d4] }
  | _ => none }
def typingDirectSpecRow : OpenClaim := { program := "ytddolfgmkpfmcaadoor", sum := "37ccd82158fb511fc5e04504b830f651fe35ee8ab55e4898d62f3a8e7f46f898", func := "assize/assizelaw14.TypingDirectSpec", spec := "typingDirectSpec", unfollowed := true, recurses := true, named := ["assize/typing.spans"], loops := true, apart := false, laid := [("assize/typing.spans", laid_assize_typing_spans)] }
def TypingDirectSpecSaid : Prop := typingDirectSpecRow.holds Tryd.pinned (OpenSpec.ofChange typingDirectSpecSpec)

/-- ITS FALSE NEIGHBOUR: 'it returns false'. Refute it at one input. -/
def typingDirectSpecWrong : ChangeSpec := { name := "typingDirectSpec", fn := fun _ => fun
  | [d1, d2, d3, d4] => { results := [.lit (.bool false)], args := [d1, d2, d3, d4] }
  | _ => none }
def TypingDirectSpecWrongFalsely : Prop := typingDirectSpecRow.holds Tryd.pinned (OpenSpec.ofChange typingDirectSpecWrong)

/-- 'assizelaw14.TypingLogic': WHATEVER THE INPUT: true; the input reads as it did. -/
def typingLogicSpec : ChangeSpec := { name := "typingLogic", fn := fun _ => fun
  | [d1, d2, d3] => { results := [.lit (.bool true)], args := [d1, d2, d3] }
  | _ => none }
def typingLogicRow : OpenClaim := { program := "ytddolfgmkpfmcaadoor", sum := "37ccd82158fb511fc5e04504b830f651fe35ee8ab55e4898d62f3a8e7f46f898", func := "assize/assizelaw14.TypingLogic", spec := "typingLogic", unfollowed := true, recurses := true, named := ["assize/typing.spans"], loops := true, apart := false, laid := [("assize/typing.spans", laid_assize_typing_spans)] }
def TypingLogicSaid : Prop := typingLogicRow.holds Tryd.pinned (OpenSpec.ofChange typingLogicSpec)

/-- ITS FALSE NEIGHBOUR: 'it returns false'. Refute it at one input. -/
def typingLogicWrong : ChangeSpec := { name := "typingLogic", fn := fun _ => fun
  | [d1, d2, d3] => { results := [.lit (.bool false)], args := [d1, d2, d3] }
  | _ => none }
def TypingLogicWrongFalsely : Prop := typingLogicRow.holds Tryd.pinned (OpenSpec.ofChange typingLogicWrong)

/-- 'assizelaw14.TypingBranches': WHATEVER THE INPUT: true; the input reads as it did. -/
def typingBranchesSpec : ChangeSpec := { name := "typingBranches", fn := fun _ => fun
  | [d1, d2, d3, d4] => { results := [.lit (.bool true)], args := [d1, d2, d3, d4] }
  | _ => none }
def typingBranchesRow : OpenClaim := { program := "ytddolfgmkpfmcaadoor", sum := "37ccd82158fb511fc5e04504b830f651fe35ee8ab55e4898d62f3a8e7f46f898", func := "assize/assizelaw14.TypingBranches", spec := "typingBranches", unfollowed := true, recurses := true, named := ["assize/typing.spans"], loops := true, apart := false, laid := [("assize/typing.spans", laid_assize_typing_spans)] }
def TypingBranchesSaid : Prop := typingBranchesRow.holds Tryd.pinned (OpenSpec.ofChange typingBranchesSpec)

/-- ITS FALSE NEIGHBOUR: 'it returns false'. Refute it at one input. -/
def typingBranchesWrong : ChangeSpec := { name := "typingBranches", fn := fun _ => fun
  | [d1, d2, d3, d4] => { results := [.lit (.bool false)], args := [d1, d2, d3, d4] }
  | _ => none }
def TypingBranchesWrongFalsely : Prop := typingBranchesRow.holds Tryd.pinned (OpenSpec.ofChange typingBranchesWrong)

/- THE SECOND FORM. 'bulk': how many values and letters a reading holds, each counted each time it is reached (what is shared counts as often as it is met; a slice's spare places count too). A statement '..UptoSaid' is the law's where the arguments, and the package variables that the reading takes, are together of bulk at most 1048576: NARROWER than '..Said'. Prove '..Said' where nothing that the law and all that it calls make is longer than what came in: it says more and counts as full. Else prove '..UptoSaid'. A law counts once. -/
mutual
def uptoBulk {H : Type} : DataW H → Nat
  | .lit (.string bytes) => bytes.length + 1
  | .lit _ => 1
  | .nil => 1
  | .ptr d => uptoBulk d + 1
  | .slice elems spare => uptoBulkAll elems + uptoBulkAll spare + 1
  | .agg parts => uptoBulkAll parts + 1
  | .iface _ d => uptoBulk d + 1
  | .map entries => uptoBulkEntries entries + 1
  | .held _ => 1
def uptoBulkAll {H : Type} : List (DataW H) → Nat
  | [] => 0
  | d :: r => uptoBulk d + uptoBulkAll r
def uptoBulkEntries {H : Type} : List (Lit × DataW H) → Nat
  | [] => 0
  | x :: r => uptoBulkEntry x + uptoBulkEntries r
def uptoBulkEntry {H : Type} : Lit × DataW H → Nat
  | (.string bytes, d) => bytes.length + uptoBulk d + 1
  | (_, d) => uptoBulk d + 1
 end
def uptoSmall : (H : Type) → List (DataW H) → Bool := fun _ ds => decide (uptoBulkAll ds ≤ 1048576)
def OpenSpec.upto (s : _root_.Go.ChangeSpec) : _root_.Go.OpenSpec := { _root_.Go.OpenSpec.ofChange s with cond := some uptoSmall }

/-- 'assizelaw14.TypingRulesSpec', WHERE WHAT IT READS IS OF BULK AT MOST 1048576: true; the input reads as it did. -/
def typingRulesSpecUptoRow : OpenClaim := { program := "ytddolfgmkpfmcaadoor", sum := "37ccd82158fb511fc5e04504b830f651fe35ee8ab55e4898d62f3a8e7f46f898", func := "assize/assizelaw14.TypingRulesSpec", spec := "typingRulesSpec", unfollowed := true, recurses := true, named := ["assize/typing.spans"], loops := true, apart := false, laid := [("assize/typing.spans", laid_assize_typing_spans)], narrowed := true }
def TypingRulesSpecUptoSaid : Prop := typingRulesSpecUptoRow.holds Tryd.pinned (OpenSpec.upto typingRulesSpecSpec)

/-- 'assizelaw14.TypingEnvSpec', WHERE WHAT IT READS IS OF BULK AT MOST 1048576: true; the input reads as it did. -/
def typingEnvSpecUptoRow : OpenClaim := { program := "ytddolfgmkpfmcaadoor", sum := "37ccd82158fb511fc5e04504b830f651fe35ee8ab55e4898d62f3a8e7f46f898", func := "assize/assizelaw14.TypingEnvSpec", spec := "typingEnvSpec", unfollowed := true, recurses := true, named := ["assize/typing.spans"], apart := false, laid := [("assize/typing.spans", laid_assize_typing_spans)], narrowed := true }
def TypingEnvSpecUptoSaid : Prop := typingEnvSpecUptoRow.holds Tryd.pinned (OpenSpec.upto typingEnvSpecSpec)

/-- 'assizelaw14.TypingNumbers', WHERE WHAT IT READS IS OF BULK AT MOST 1048576: true; the input reads as it did. -/
def typingNumbersUptoRow : OpenClaim := { program := "ytddolfgmkpfmcaadoor", sum := "37ccd82158fb511fc5e04504b830f651fe35ee8ab55e4898d62f3a8e7f46f898", func := "assize/assizelaw14.TypingNumbers", spec := "typingNumbers", unfollowed := true, recurses := true, named := ["assize/typing.spans"], apart := false, laid := [("assize/typing.spans", laid_assize_typing_spans)], narrowed := true }
def TypingNumbersUptoSaid : Prop := typingNumbersUptoRow.holds Tryd.pinned (OpenSpec.upto typingNumbersSpec)

/-- 'assizelaw14.TypingOnce', WHERE WHAT IT READS IS OF BULK AT MOST 1048576: true; the input reads as it did. -/
def typingOnceUptoRow : OpenClaim := { program := "ytddolfgmkpfmcaadoor", sum := "37ccd82158fb511fc5e04504b830f651fe35ee8ab55e4898d62f3a8e7f46f898", func := "assize/assizelaw14.TypingOnce", spec := "typingOnce", unfollowed := true, recurses := true, named := ["assize/typing.spans"], loops := true, apart := false, laid := [("assize/typing.spans", laid_assize_typing_spans)], narrowed := true }
def TypingOnceUptoSaid : Prop := typingOnceUptoRow.holds Tryd.pinned (OpenSpec.upto typingOnceSpec)

/-- 'assizelaw14.TypingDirectSpec', WHERE WHAT IT READS IS OF BULK AT MOST 1048576: true; the input reads as it did. -/
def typingDirectSpecUptoRow : OpenClaim := { program := "ytddolfgmkpfmcaadoor", sum := "37ccd82158fb511fc5e04504b830f651fe35ee8ab55e4898d62f3a8e7f46f898", func := "assize/assizelaw14.TypingDirectSpec", spec := "typingDirectSpec", unfollowed := true, recurses := true, named := ["assize/typing.spans"], loops := true, apart := false, laid := [("assize/typing.spans", laid_assize_typing_spans)], narrowed := true }
def TypingDirectSpecUptoSaid : Prop := typingDirectSpecUptoRow.holds Tryd.pinned (OpenSpec.upto typingDirectSpecSpec)

/-- 'assizelaw14.TypingLogic', WHERE WHAT IT READS IS OF BULK AT MOST 1048576: true; the input reads as it did. -/
def typingLogicUptoRow : OpenClaim := { program := "ytddolfgmkpfmcaadoor", sum := "37ccd82158fb511fc5e04504b830f651fe35ee8ab55e4898d62f3a8e7f46f898", func := "assize/assizelaw14.TypingLogic", spec := "typingLogic", unfollowed := true, recurses := true, named := ["assize/typing.spans"], loops := true, apart := false, laid := [("assize/typing.spans", laid_assize_typing_spans)], narrowed := true }
def TypingLogicUptoSaid : Prop := typingLogicUptoRow.holds Tryd.pinned (OpenSpec.upto typingLogicSpec)

/-- 'assizelaw14.TypingBranches', WHERE WHAT IT READS IS OF BULK AT MOST 1048576: true; the input reads as it did. -/
def typingBranchesUptoRow : OpenClaim := { program := "ytddolfgmkpfmcaadoor", sum := "37ccd82158fb511fc5e04504b830f651fe35ee8ab55e4898d62f3a8e7f46f898", func := "assize/assizelaw14.TypingBranches", spec := "typingBranches", unfollowed := true, recurses := true, named := ["assize/typing.spans"], loops := true, apart := false, laid := [("assize/typing.spans", laid_assize_typing_spans)], narrowed := true }
def TypingBranchesUptoSaid : Prop := typingBranchesUptoRow.holds Tryd.pinned (OpenSpec.upto typingBranchesSpec)

end Rows
end Go.Proofs.YtddolfgmkpfmcaaDoor
