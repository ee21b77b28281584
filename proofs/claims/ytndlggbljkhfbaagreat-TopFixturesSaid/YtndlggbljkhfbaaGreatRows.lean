/-
  NARROWER THAN 'FOR EVERY INPUT', by the rows' own cells (each row's printed sentence says how): RefusalCheckSpec: loops · RefusalShows: loops.
  DERIVED. THE GIVEN ROWS OF THIS SEAT. 8 by the template 'for every input the law returns true; each argument reads behind the call as it read before'; 0 by the template 'total and deterministic' (their statements: YtndlggbljkhfbaaGreatTotals.lean).
  GIVEN WITH THE SEED: the statements are not yours to turn. If you find one false, say at which input.
  Laid BY PROGRAM, IN A SANDBOX (cutbox-rows.mjs): the forced cells as the released guide's own fill.sh prints them over the translation 6fcca5806385e09e… (all of the seat's roots in one cut). By AI agents, Wed Nov 11 2026. No macro, syntax, notation, axiom, sorry.
-/
import Derived.Test.YtndlggbljkhfbaaGreatChecked
import GoSem.Claim
import GoSem.ClaimJoined
import GoSem.ClaimMapViews
import Derived.JoinedTies
import Derived.KernelRfl
namespace Go.Proofs.YtndlggbljkhfbaaGreat
/- THE CELL 'sum', in the pinned program and in every row, IS THE sha256 OF THE DUMP (.gsa) THAT YtndlggbljkhfbaaGreatProg.lean LOADS. Nothing in Lean hashes anything: it is a label: what it is worth is what the hold of that sum in a sandbox is worth. -/
noncomputable def Tryz.pinned : Pinned := { name := "ytndlggbljkhfbaagreat", sum := "6fcca5806385e09e15a8dd9fc4530da8e375e872505564c1ce73c9fd84d7f62a", checked := Tryz.checked }
namespace Rows
def none {H : Type} : Left H := { results := [], args := [] }

/-- 'assizetop.TopFixtures': WHATEVER THE INPUT: true; the input reads as it did. -/
def topFixturesSpec : ChangeSpec := { name := "topFixtures", fn := fun _ => fun
  | [d] => { results := [.lit (.bool true)], args := [d] }
  | _ => none }
def topFixturesRow : OpenClaim := { program := "ytndlggbljkhfbaagreat", sum := "6fcca5806385e09e15a8dd9fc4530da8e375e872505564c1ce73c9fd84d7f62a", func := "assize/assizetop.TopFixtures", spec := "topFixtures", unfollowed := true, recurses := true, plainKeys := false, apart := false }
def TopFixturesSaid : Prop := topFixturesRow.holds Tryz.pinned (OpenSpec.ofChange topFixturesSpec)

/-- ITS FALSE NEIGHBOUR: 'it returns false'. Refute it at one input. -/
def topFixturesWrong : ChangeSpec := { name := "topFixtures", fn := fun _ => fun
  | [d] => { results := [.lit (.bool false)], args := [d] }
  | _ => none }
def TopFixturesWrongFalsely : Prop := topFixturesRow.holds Tryz.pinned (OpenSpec.ofChange topFixturesWrong)

/-- 'assizelaw33.RefusalProveSpec': WHATEVER THE INPUT: true; the input reads as it did. -/
def refusalProveSpecSpec : ChangeSpec := { name := "refusalProveSpec", fn := fun _ => fun
  | [d1, d2, d3] => { results := [.lit (.bool true)], args := [d1, d2, d3] }
  | _ => none }
def refusalProveSpecRow : OpenClaim := { program := "ytndlggbljkhfbaagreat", sum := "6fcca5806385e09e15a8dd9fc4530da8e375e872505564c1ce73c9fd84d7f62a", func := "assize/assizelaw33.RefusalProveSpec", spec := "refusalProveSpec", unfollowed := true, recurses := true, plainKeys := false, apart := false }
def RefusalProveSpecSaid : Prop := refusalProveSpecRow.holds Tryz.pinned (OpenSpec.ofChange refusalProveSpecSpec)

/-- ITS FALSE NEIGHBOUR: 'it returns false'. Refute it at one input. -/
def refusalProveSpecWrong : ChangeSpec := { name := "refusalProveSpec", fn := fun _ => fun
  | [d1, d2, d3] => { results := [.lit (.bool false)], args := [d1, d2, d3] }
  | _ => none }
def RefusalProveSpecWrongFalsely : Prop := refusalProveSpecRow.holds Tryz.pinned (OpenSpec.ofChange refusalProveSpecWrong)

/-- 'assizelaw33.RefusalCheckSpec': WHATEVER THE INPUT: true; the input reads as it did. -/
def refusalCheckSpecSpec : ChangeSpec := { name := "refusalCheckSpec", fn := fun _ => fun
  | [d1, d2] => { results := [.lit (.bool true)], args := [d1, d2] }
  | _ => none }
def refusalCheckSpecRow : OpenClaim := { program := "ytndlggbljkhfbaagreat", sum := "6fcca5806385e09e15a8dd9fc4530da8e375e872505564c1ce73c9fd84d7f62a", func := "assize/assizelaw33.RefusalCheckSpec", spec := "refusalCheckSpec", unfollowed := true, recurses := true, loops := true, plainKeys := false, apart := false }
def RefusalCheckSpecSaid : Prop := refusalCheckSpecRow.holds Tryz.pinned (OpenSpec.ofChange refusalCheckSpecSpec)

/-- ITS FALSE NEIGHBOUR: 'it returns false'. Refute it at one input. -/
def refusalCheckSpecWrong : ChangeSpec := { name := "refusalCheckSpec", fn := fun _ => fun
  | [d1, d2] => { results := [.lit (.bool false)], args := [d1, d2] }
  | _ => none }
def RefusalCheckSpecWrongFalsely : Prop := refusalCheckSpecRow.holds Tryz.pinned (OpenSpec.ofChange refusalCheckSpecWrong)

/-- 'assizelaw33.RefusalLeastSpec': WHATEVER THE INPUT: true; the input reads as it did. -/
def refusalLeastSpecSpec : ChangeSpec := { name := "refusalLeastSpec", fn := fun _ => fun
  | [d1, d2] => { results := [.lit (.bool true)], args := [d1, d2] }
  | _ => none }
def refusalLeastSpecRow : OpenClaim := { program := "ytndlggbljkhfbaagreat", sum := "6fcca5806385e09e15a8dd9fc4530da8e375e872505564c1ce73c9fd84d7f62a", func := "assize/assizelaw33.RefusalLeastSpec", spec := "refusalLeastSpec", unfollowed := true, recurses := true, plainKeys := false, apart := false }
def RefusalLeastSpecSaid : Prop := refusalLeastSpecRow.holds Tryz.pinned (OpenSpec.ofChange refusalLeastSpecSpec)

/-- ITS FALSE NEIGHBOUR: 'it returns false'. Refute it at one input. -/
def refusalLeastSpecWrong : ChangeSpec := { name := "refusalLeastSpec", fn := fun _ => fun
  | [d1, d2] => { results := [.lit (.bool false)], args := [d1, d2] }
  | _ => none }
def RefusalLeastSpecWrongFalsely : Prop := refusalLeastSpecRow.holds Tryz.pinned (OpenSpec.ofChange refusalLeastSpecWrong)

/-- 'assizelaw33.RefusalLeast': WHATEVER THE INPUT: true; the input reads as it did. -/
def refusalLeastSpec : ChangeSpec := { name := "refusalLeast", fn := fun _ => fun
  | [d1, d2] => { results := [.lit (.bool true)], args := [d1, d2] }
  | _ => none }
def refusalLeastRow : OpenClaim := { program := "ytndlggbljkhfbaagreat", sum := "6fcca5806385e09e15a8dd9fc4530da8e375e872505564c1ce73c9fd84d7f62a", func := "assize/assizelaw33.RefusalLeast", spec := "refusalLeast", unfollowed := true, recurses := true, plainKeys := false, apart := false }
def RefusalLeastSaid : Prop := refusalLeastRow.holds Tryz.pinned (OpenSpec.ofChange refusalLeastSpec)

/-- ITS FALSE NEIGHBOUR: 'it returns false'. Refute it at one input. -/
def refusalLeastWrong : ChangeSpec := { name := "refusalLeast", fn := fun _ => fun
  | [d1, d2] => { results := [.lit (.bool false)], args := [d1, d2] }
  | _ => none }
def RefusalLeastWrongFalsely : Prop := refusalLeastRow.holds Tryz.pinned (OpenSpec.ofChange refusalLeastWrong)

/-- 'assizelaw33.RefusalMore': WHATEVER THE INPUT: true; the input reads as it did. -/
def refusalMoreSpec : ChangeSpec := { name := "refusalMore", fn := fun _ => fun
  | [d1, d2, d3, d4] => { results := [.lit (.bool true)], args := [d1, d2, d3, d4] }
  | _ => none }
def refusalMoreRow : OpenClaim := { program := "ytndlggbljkhfbaagreat", sum := "6fcca5806385e09e15a8dd9fc4530da8e375e872505564c1ce73c9fd84d7f62a", func := "assize/assizelaw33.RefusalMore", spec := "refusalMore", unfollowed := true, recurses := true, plainKeys := false, apart := false }
def RefusalMoreSaid : Prop := refusalMoreRow.holds Tryz.pinned (OpenSpec.ofChange refusalMoreSpec)

/-- ITS FALSE NEIGHBOUR: 'it returns false'. Refute it at one input. -/
def refusalMoreWrong : ChangeSpec := { name := "refusalMore", fn := fun _ => fun
  | [d1, d2, d3, d4] => { results := [.lit (.bool false)], args := [d1, d2, d3, d4] }
  | _ => none }
def RefusalMoreWrongFalsely : Prop := refusalMoreRow.holds Tryz.pinned (OpenSpec.ofChange refusalMoreWrong)

/-- 'assizelaw33.RefusalOrList': WHATEVER THE INPUT: true; the input reads as it did. -/
def refusalOrListSpec : ChangeSpec := { name := "refusalOrList", fn := fun _ => fun
  | [d1, d2] => { results := [.lit (.bool true)], args := [d1, d2] }
  | _ => none }
def refusalOrListRow : OpenClaim := { program := "ytndlggbljkhfbaagreat", sum := "6fcca5806385e09e15a8dd9fc4530da8e375e872505564c1ce73c9fd84d7f62a", func := "assize/assizelaw33.RefusalOrList", spec := "refusalOrList", unfollowed := true, recurses := true, plainKeys := false, apart := false }
def RefusalOrListSaid : Prop := refusalOrListRow.holds Tryz.pinned (OpenSpec.ofChange refusalOrListSpec)

/-- ITS FALSE NEIGHBOUR: 'it returns false'. Refute it at one input. -/
def refusalOrListWrong : ChangeSpec := { name := "refusalOrList", fn := fun _ => fun
  | [d1, d2] => { results := [.lit (.bool false)], args := [d1, d2] }
  | _ => none }
def RefusalOrListWrongFalsely : Prop := refusalOrListRow.holds Tryz.pinned (OpenSpec.ofChange refusalOrListWrong)

/-- 'assizelaw33.RefusalShows': WHATEVER THE INPUT: true; the input reads as it did. -/
def refusalShowsSpec : ChangeSpec := { name := "refusalShows", fn := fun _ => fun
  | [d1, d2, d3] => { results := [.lit (.bool true)], args := [d1, d2, d3] }
  | _ => none }
def refusalShowsRow : OpenClaim := { program := "ytndlggbljkhfbaagreat", sum := "6fcca5806385e09e15a8dd9fc4530da8e375e872505564c1ce73c9fd84d7f62a", func := "assize/assizelaw33.RefusalShows", spec := "refusalShows", unfollowed := true, recurses := true, loops := true, plainKeys := false, apart := false }
def RefusalShowsSaid : Prop := refusalShowsRow.holds Tryz.pinned (OpenSpec.ofChange refusalShowsSpec)

/-- ITS FALSE NEIGHBOUR: 'it returns false'. Refute it at one input. -/
def refusalShowsWrong : ChangeSpec := { name := "refusalShows", fn := fun _ => fun
  | [d1, d2, d3] => { results := [.lit (.bool false)], args := [d1, d2, d3] }
  | _ => none }
def RefusalShowsWrongFalsely : Prop := refusalShowsRow.holds Tryz.pinned (OpenSpec.ofChange refusalShowsWrong)

/- THE SECOND FORM. 'bulk': how many values and letters a reading holds, each counted each time it is reached (what is shared counts as often as it is met; a slice's spare places count too). A statement '..UptoSaid' is the law's where the arguments, and the package variables that the reading takes, are together of bulk at most 1048576: NARROWER than '..Said'. Prove '..Said' where nothing that the law and all that it calls make is longer than what came in: it says more and counts as full. Else prove '..UptoSaid'. A law counts once. -/
mutual
def uptoBulk {H : Type} : DataW H → Nat
  | .lit (.string bytes) => bytes.length + 1
  | .lit _ => 1
  | .nil => 1
  | .ptr d => uptoBulk d + 1
  | .slice elems spare => uptoBulkAll elems + uptoBulkAll spare + 1
  | .agg parts => uptoBulkAll parts + 1
  | .iface _ d => uptoBulk d + 1
  | .map entries => uptoBulkEntries entries + 1
  | .held _ => 1
def uptoBulkAll {H : Type} : List (DataW H) → Nat
  | [] => 0
  | d :: r => uptoBulk d + uptoBulkAll r
def uptoBulkEntries {H : Type} : List (Lit × DataW H) → Nat
  | [] => 0
  | x :: r => uptoBulkEntry x + uptoBulkEntries r
def uptoBulkEntry {H : Type} : Lit × DataW H → Nat
  | (.string bytes, d) => bytes.length + uptoBulk d + 1
  | (_, d) => uptoBulk d + 1
 end
def uptoSmall : (H : Type) → List (DataW H) → Bool := fun _ ds => decide (uptoBulkAll ds ≤ 1048576)
def OpenSpec.upto (s : _root_.Go.ChangeSpec) : _root_.Go.OpenSpec := { _root_.Go.OpenSpec.ofChange s with cond := some uptoSmall }

/-- 'assizetop.TopFixtures', WHERE WHAT IT READS IS OF BULK AT MOST 1048576: true; the input reads as it did. -/
def topFixturesUptoRow : OpenClaim := { program := "ytndlggbljkhfbaagreat", sum := "6fcca5806385e09e15a8dd9fc4530da8e375e872505564c1ce73c9fd84d7f62a", func := "assize/assizetop.TopFixtures", spec := "topFixtures", unfollowed := true, recurses := true, plainKeys := false, apart := false, narrowed := true }
def TopFixturesUptoSaid : Prop := topFixturesUptoRow.holds Tryz.pinned (OpenSpec.upto topFixturesSpec)

/-- 'assizelaw33.RefusalProveSpec', WHERE WHAT IT READS IS OF BULK AT MOST 1048576: true; the input reads as it did. -/
def refusalProveSpecUptoRow : OpenClaim := { program := "ytndlggbljkhfbaagreat", sum := "6fcca5806385e09e15a8dd9fc4530da8e375e872505564c1ce73c9fd84d7f62a", func := "assize/assizelaw33.RefusalProveSpec", spec := "refusalProveSpec", unfollowed := true, recurses := true, plainKeys := false, apart := false, narrowed := true }
def RefusalProveSpecUptoSaid : Prop := refusalProveSpecUptoRow.holds Tryz.pinned (OpenSpec.upto refusalProveSpecSpec)

/-- 'assizelaw33.RefusalCheckSpec', WHERE WHAT IT READS IS OF BULK AT MOST 1048576: true; the input reads as it did. -/
def refusalCheckSpecUptoRow : OpenClaim := { program := "ytndlggbljkhfbaagreat", sum := "6fcca5806385e09e15a8dd9fc4530da8e375e872505564c1ce73c9fd84d7f62a", func := "assize/assizelaw33.RefusalCheckSpec", spec := "refusalCheckSpec", unfollowed := true, recurses := true, loops := true, plainKeys := false, apart := false, narrowed := true }
def RefusalCheckSpecUptoSaid : Prop := refusalCheckSpecUptoRow.holds Tryz.pinned (OpenSpec.upto refusalCheckSpecSpec)

/-- 'assizelaw33.RefusalLeastSpec', WHERE WHAT IT READS IS OF BULK AT MOST 1048576: true; the input reads as it did. -/
def refusalLeastSpecUptoRow : OpenClaim := { program := "ytndlggbljkhfbaagreat", sum := "6fcca5806385e09e15a8dd9fc4530da8e375e872505564c1ce73c9fd84d7f62a", func := "assize/assizelaw33.RefusalLeastSpec", spec := "refusalLeastSpec", unfollowed := true, recurses := true, plainKeys := false, apart := false, narrowed := true }
def RefusalLeastSpecUptoSaid : Prop := refusalLeastSpecUptoRow.holds Tryz.pinned (OpenSpec.upto refusalLeastSpecSpec)

/-- 'assizelaw33.RefusalLeast', WHERE WHAT IT READS IS OF BULK AT MOST 1048576: true; the input reads as it did. -/
def refusalLeastUptoRow : OpenClaim := { program := "ytndlggbljkhfbaagreat", sum := "6fcca5806385e09e15a8dd9fc4530da8e375e872505564c1ce73c9fd84d7f62a", func := "assize/assizelaw33.RefusalLeast", spec := "refusalLeast", unfollowed := true, recurses := true, plainKeys := false, apart := false, narrowed := true }
def RefusalLeastUptoSaid : Prop := refusalLeastUptoRow.holds Tryz.pinned (OpenSpec.upto refusalLeastSpec)

/-- 'assizelaw33.RefusalMore', WHERE WHAT IT READS IS OF BULK AT MOST 1048576: true; the input reads as it did. -/
def refusalMoreUptoRow : OpenClaim := { program := "ytndlggbljkhfbaagreat", sum := "6fcca5806385e09e15a8dd9fc4530da8e375e872505564c1ce73c9fd84d7f62a", func := "assize/assizelaw33.RefusalMore", spec := "refusalMore", unfollowed := true, recurses := true, plainKeys := false, apart := false, narrowed := true }
def RefusalMoreUptoSaid : Prop := refusalMoreUptoRow.holds Tryz.pinned (OpenSpec.upto refusalMoreSpec)

/-- 'assizelaw33.RefusalOrList', WHERE WHAT IT READS IS OF BULK AT MOST 1048576: true; the input reads as it did. -/
def refusalOrListUptoRow : OpenClaim := { program := "ytndlggbljkhfbaagreat", sum := "6fcca5806385e09e15a8dd9fc4530da8e375e872505564c1ce73c9fd84d7f62a", func := "assize/assizelaw33.RefusalOrList", spec := "refusalOrList", unfollowed := true, recurses := true, plainKeys := false, apart := false, narrowed := true }
def RefusalOrListUptoSaid : Prop := refusalOrListUptoRow.holds Tryz.pinned (OpenSpec.upto refusalOrListSpec)

/-- 'assizelaw33.RefusalShows', WHERE WHAT IT READS IS OF BULK AT MOST 1048576: true; the input reads as it did. -/
def refusalShowsUptoRow : OpenClaim := { program := "ytndlggbljkhfbaagreat", sum := "6fcca5806385e09e15a8dd9fc4530da8e375e872505564c1ce73c9fd84d7f62a", func := "assize/assizelaw33.RefusalShows", spec := "refusalShows", unfollowed := true, recurses := true, loops := true, plainKeys := false, apart := false, narrowed := true }
def RefusalShowsUptoSaid : Prop := refusalShowsUptoRow.holds Tryz.pinned (OpenSpec.upto refusalShowsSpec)

end Rows
end Go.Proofs.YtndlggbljkhfbaaGreat
