/-
  No cell of these rows narrows 'for every input' (looked for: loops, veiled, ifaces, maps, wideKeys, modest, calm, conditions, laid).
  DERIVED. THE GIVEN ROWS OF THIS SEAT. 8 by the template 'for every input the law returns true; each argument reads behind the call as it read before'; 0 by the template 'total and deterministic' (their statements: YtnkfifkgbkgcjaaTotals.lean).
  GIVEN WITH THE SEED: the statements are not yours to turn. If you find one false, say at which input.
  Laid BY PROGRAM, IN A SANDBOX (cutbox-rows.mjs): the forced cells as the released guide's own fill.sh prints them over the translation f75faf987639676f… (all of the seat's roots in one cut). By AI agents, Wed Nov 11 2026. No macro, syntax, notation, axiom, sorry.
-/
import Derived.Test.YtnkfifkgbkgcjaaChecked
import GoSem.Claim
import GoSem.ClaimJoined
import GoSem.ClaimMapViews
import Derived.JoinedTies
import Derived.KernelRfl
namespace Go.Proofs.Ytnkfifkgbkgcjaa
/- THE CELL 'sum', in the pinned program and in every row, IS THE sha256 OF THE DUMP (.gsa) THAT YtnkfifkgbkgcjaaProg.lean LOADS. Nothing in Lean hashes anything: it is a label: what it is worth is what the hold of that sum in a sandbox is worth. -/
noncomputable def Try.pinned : Pinned := { name := "ytnkfifkgbkgcjaa", sum := "f75faf987639676f987301748e3666a2a3c7fc8270b8ddd4d5d508a30a81c705", checked := Try.checked }
namespace Rows
def none {H : Type} : Left H := { results := [], args := [] }

/-- 'assizelaw18.StatsRowsSpec': WHATEVER THE INPUT: true; the input reads as it did. -/
def statsRowsSpecSpec : ChangeSpec := { name := "statsRowsSpec", fn := fun _ => fun
  | [d1, d2, d3, d4, d5] => { results := [.lit (.bool true)], args := [d1, d2, d3, d4, d5] }
  | _ => none }
def statsRowsSpecRow : OpenClaim := { program := "ytnkfifkgbkgcjaa", sum := "f75faf987639676f987301748e3666a2a3c7fc8270b8ddd4d5d508a30a81c705", func := "assize/assizelaw18.StatsRowsSpec", spec := "statsRowsSpec", unfollowed := true, recurses := true, apart := false }
def StatsRowsSpecSaid : Prop := statsRowsSpecRow.holds Try.pinned (OpenSpec.ofChange statsRowsSpecSpec)

/-- ITS FALSE NEIGHBOUR: 'it returns false'. Refute it at one input. -/
def statsRowsSpecWrong : ChangeSpec := { name := "statsRowsSpec", fn := fun _ => fun
  | [d1, d2, d3, d4, d5] => { results := [.lit (.bool false)], args := [d1, d2, d3, d4, d5] }
  | _ => none }
def StatsRowsSpecWrongFalsely : Prop := statsRowsSpecRow.holds Try.pinned (OpenSpec.ofChange statsRowsSpecWrong)

/-- 'assizelaw18.StatsRowSpec': WHATEVER THE INPUT: true; the input reads as it did. -/
def statsRowSpecSpec : ChangeSpec := { name := "statsRowSpec", fn := fun _ => fun
  | [d1, d2, d3] => { results := [.lit (.bool true)], args := [d1, d2, d3] }
  | _ => none }
def statsRowSpecRow : OpenClaim := { program := "ytnkfifkgbkgcjaa", sum := "f75faf987639676f987301748e3666a2a3c7fc8270b8ddd4d5d508a30a81c705", func := "assize/assizelaw18.StatsRowSpec", spec := "statsRowSpec", unfollowed := true, recurses := true, apart := false }
def StatsRowSpecSaid : Prop := statsRowSpecRow.holds Try.pinned (OpenSpec.ofChange statsRowSpecSpec)

/-- ITS FALSE NEIGHBOUR: 'it returns false'. Refute it at one input. -/
def statsRowSpecWrong : ChangeSpec := { name := "statsRowSpec", fn := fun _ => fun
  | [d1, d2, d3] => { results := [.lit (.bool false)], args := [d1, d2, d3] }
  | _ => none }
def StatsRowSpecWrongFalsely : Prop := statsRowSpecRow.holds Try.pinned (OpenSpec.ofChange statsRowSpecWrong)

/-- 'assizelaw18.StatsTotals': WHATEVER THE INPUT: true; the input reads as it did. -/
def statsTotalsSpec : ChangeSpec := { name := "statsTotals", fn := fun _ => fun
  | [d1, d2, d3, d4, d5] => { results := [.lit (.bool true)], args := [d1, d2, d3, d4, d5] }
  | _ => none }
def statsTotalsRow : OpenClaim := { program := "ytnkfifkgbkgcjaa", sum := "f75faf987639676f987301748e3666a2a3c7fc8270b8ddd4d5d508a30a81c705", func := "assize/assizelaw18.StatsTotals", spec := "statsTotals", unfollowed := true, recurses := true, apart := false }
def StatsTotalsSaid : Prop := statsTotalsRow.holds Try.pinned (OpenSpec.ofChange statsTotalsSpec)

/-- ITS FALSE NEIGHBOUR: 'it returns false'. Refute it at one input. -/
def statsTotalsWrong : ChangeSpec := { name := "statsTotals", fn := fun _ => fun
  | [d1, d2, d3, d4, d5] => { results := [.lit (.bool false)], args := [d1, d2, d3, d4, d5] }
  | _ => none }
def StatsTotalsWrongFalsely : Prop := statsTotalsRow.holds Try.pinned (OpenSpec.ofChange statsTotalsWrong)

/-- 'assizelaw18.StatsSums': WHATEVER THE INPUT: true; the input reads as it did. -/
def statsSumsSpec : ChangeSpec := { name := "statsSums", fn := fun _ => fun
  | [d1, d2, d3, d4, d5, d6] => { results := [.lit (.bool true)], args := [d1, d2, d3, d4, d5, d6] }
  | _ => none }
def statsSumsRow : OpenClaim := { program := "ytnkfifkgbkgcjaa", sum := "f75faf987639676f987301748e3666a2a3c7fc8270b8ddd4d5d508a30a81c705", func := "assize/assizelaw18.StatsSums", spec := "statsSums", unfollowed := true, recurses := true, apart := false }
def StatsSumsSaid : Prop := statsSumsRow.holds Try.pinned (OpenSpec.ofChange statsSumsSpec)

/-- ITS FALSE NEIGHBOUR: 'it returns false'. Refute it at one input. -/
def statsSumsWrong : ChangeSpec := { name := "statsSums", fn := fun _ => fun
  | [d1, d2, d3, d4, d5, d6] => { results := [.lit (.bool false)], args := [d1, d2, d3, d4, d5, d6] }
  | _ => none }
def StatsSumsWrongFalsely : Prop := statsSumsRow.holds Try.pinned (OpenSpec.ofChange statsSumsWrong)

/-- 'assizelaw18.StatsSides': WHATEVER THE INPUT: true; the input reads as it did. -/
def statsSidesSpec : ChangeSpec := { name := "statsSides", fn := fun _ => fun
  | [d1, d2, d3, d4, d5] => { results := [.lit (.bool true)], args := [d1, d2, d3, d4, d5] }
  | _ => none }
def statsSidesRow : OpenClaim := { program := "ytnkfifkgbkgcjaa", sum := "f75faf987639676f987301748e3666a2a3c7fc8270b8ddd4d5d508a30a81c705", func := "assize/assizelaw18.StatsSides", spec := "statsSides", unfollowed := true, recurses := true, apart := false }
def StatsSidesSaid : Prop := statsSidesRow.holds Try.pinned (OpenSpec.ofChange statsSidesSpec)

/-- ITS FALSE NEIGHBOUR: 'it returns false'. Refute it at one input. -/
def statsSidesWrong : ChangeSpec := { name := "statsSides", fn := fun _ => fun
  | [d1, d2, d3, d4, d5] => { results := [.lit (.bool false)], args := [d1, d2, d3, d4, d5] }
  | _ => none }
def StatsSidesWrongFalsely : Prop := statsSidesRow.holds Try.pinned (OpenSpec.ofChange statsSidesWrong)

/-- 'assizelaw18.StatsValues': WHATEVER THE INPUT: true; the input reads as it did. -/
def statsValuesSpec : ChangeSpec := { name := "statsValues", fn := fun _ => fun
  | [d1, d2, d3] => { results := [.lit (.bool true)], args := [d1, d2, d3] }
  | _ => none }
def statsValuesRow : OpenClaim := { program := "ytnkfifkgbkgcjaa", sum := "f75faf987639676f987301748e3666a2a3c7fc8270b8ddd4d5d508a30a81c705", func := "assize/assizelaw18.StatsValues", spec := "statsValues", unfollowed := true, recurses := true, apart := false }
def StatsValuesSaid : Prop := statsValuesRow.holds Try.pinned (OpenSpec.ofChange statsValuesSpec)

/-- ITS FALSE NEIGHBOUR: 'it returns false'. Refute it at one input. -/
def statsValuesWrong : ChangeSpec := { name := "statsValues", fn := fun _ => fun
  | [d1, d2, d3] => { results := [.lit (.bool false)], args := [d1, d2, d3] }
  | _ => none }
def StatsValuesWrongFalsely : Prop := statsValuesRow.holds Try.pinned (OpenSpec.ofChange statsValuesWrong)

/-- 'assizelaw18.StatsMiniSpec': WHATEVER THE INPUT: true; the input reads as it did. -/
def statsMiniSpecSpec : ChangeSpec := { name := "statsMiniSpec", fn := fun _ => fun
  | [d1, d2, d3, d4, d5] => { results := [.lit (.bool true)], args := [d1, d2, d3, d4, d5] }
  | _ => none }
def statsMiniSpecRow : OpenClaim := { program := "ytnkfifkgbkgcjaa", sum := "f75faf987639676f987301748e3666a2a3c7fc8270b8ddd4d5d508a30a81c705", func := "assize/assizelaw18.StatsMiniSpec", spec := "statsMiniSpec", unfollowed := true, recurses := true, apart := false }
def StatsMiniSpecSaid : Prop := statsMiniSpecRow.holds Try.pinned (OpenSpec.ofChange statsMiniSpecSpec)

/-- ITS FALSE NEIGHBOUR: 'it returns false'. Refute it at one input. -/
def statsMiniSpecWrong : ChangeSpec := { name := "statsMiniSpec", fn := fun _ => fun
  | [d1, d2, d3, d4, d5] => { results := [.lit (.bool false)], args := [d1, d2, d3, d4, d5] }
  | _ => none }
def StatsMiniSpecWrongFalsely : Prop := statsMiniSpecRow.holds Try.pinned (OpenSpec.ofChange statsMiniSpecWrong)

/-- 'assizelaw18.StatsMiniTables': WHATEVER THE INPUT: true; the input reads as it did. -/
def statsMiniTablesSpec : ChangeSpec := { name := "statsMiniTables", fn := fun _ => fun
  | [d1, d2, d3, d4, d5, d6] => { results := [.lit (.bool true)], args := [d1, d2, d3, d4, d5, d6] }
  | _ => none }
def statsMiniTablesRow : OpenClaim := { program := "ytnkfifkgbkgcjaa", sum := "f75faf987639676f987301748e3666a2a3c7fc8270b8ddd4d5d508a30a81c705", func := "assize/assizelaw18.StatsMiniTables", spec := "statsMiniTables", unfollowed := true, recurses := true, apart := false }
def StatsMiniTablesSaid : Prop := statsMiniTablesRow.holds Try.pinned (OpenSpec.ofChange statsMiniTablesSpec)

/-- ITS FALSE NEIGHBOUR: 'it returns false'. Refute it at one input. -/
def statsMiniTablesWrong : ChangeSpec := { name := "statsMiniTables", fn := fun _ => fun
  | [d1, d2, d3, d4, d5, d6] => { results := [.lit (.bool false)], args := [d1, d2, d3, d4, d5, d6] }
  | _ => none }
def StatsMiniTablesWrongFalsely : Prop := statsMiniTablesRow.holds Try.pinned (OpenSpec.ofChange statsMiniTablesWrong)

/- THE SECOND FORM. 'bulk': how many values and letters a reading holds, each counted each time it is reached (what is shared counts as often as it is met; a slice's spare places count too). A statement '..UptoSaid' is the law's where the arguments, and the package variables that the reading takes, are together of bulk at most 1048576: NARROWER than '..Said'. Prove '..Said' where nothing that the law and all that it calls make is longer than what came in: it says more and counts as full. Else prove '..UptoSaid'. A law counts once. -/
mutual
def uptoBulk {H : Type} : DataW H → Nat
  | .lit (.string bytes) => bytes.length + 1
  | .lit _ => 1
  | .nil => 1
  | .ptr d => uptoBulk d + 1
  | .slice elems spare => uptoBulkAll elems + uptoBulkAll spare + 1
  | .agg parts => uptoBulkAll parts + 1
  | .iface _ d => uptoBulk d + 1
  | .map entries => uptoBulkEntries entries + 1
  | .held _ => 1
def uptoBulkAll {H : Type} : List (DataW H) → Nat
  | [] => 0
  | d :: r => uptoBulk d + uptoBulkAll r
def uptoBulkEntries {H : Type} : List (Lit × DataW H) → Nat
  | [] => 0
  | x :: r => uptoBulkEntry x + uptoBulkEntries r
def uptoBulkEntry {H : Type} : Lit × DataW H → Nat
  | (.string bytes, d) => bytes.length + uptoBulk d + 1
  | (_, d) => uptoBulk d + 1
 end
def uptoSmall : (H : Type) → List (DataW H) → Bool := fun _ ds => decide (uptoBulkAll ds ≤ 1048576)
def OpenSpec.upto (s : _root_.Go.ChangeSpec) : _root_.Go.OpenSpec := { _root_.Go.OpenSpec.ofChange s with cond := some uptoSmall }

/-- 'assizelaw18.StatsRowsSpec', WHERE WHAT IT READS IS OF BULK AT MOST 1048576: true; the input reads as it did. -/
def statsRowsSpecUptoRow : OpenClaim := { program := "ytnkfifkgbkgcjaa", sum := "f75faf987639676f987301748e3666a2a3c7fc8270b8ddd4d5d508a30a81c705", func := "assize/assizelaw18.StatsRowsSpec", spec := "statsRowsSpec", unfollowed := true, recurses := true, apart := false, narrowed := true }
def StatsRowsSpecUptoSaid : Prop := statsRowsSpecUptoRow.holds Try.pinned (OpenSpec.upto statsRowsSpecSpec)

/-- 'assizelaw18.StatsRowSpec', WHERE WHAT IT READS IS OF BULK AT MOST 1048576: true; the input reads as it did. -/
def statsRowSpecUptoRow : OpenClaim := { program := "ytnkfifkgbkgcjaa", sum := "f75faf987639676f987301748e3666a2a3c7fc8270b8ddd4d5d508a30a81c705", func := "assize/assizelaw18.StatsRowSpec", spec := "statsRowSpec", unfollowed := true, recurses := true, apart := false, narrowed := true }
def StatsRowSpecUptoSaid : Prop := statsRowSpecUptoRow.holds Try.pinned (OpenSpec.upto statsRowSpecSpec)

/-- 'assizelaw18.StatsTotals', WHERE WHAT IT READS IS OF BULK AT MOST 1048576: true; the input reads as it did. -/
def statsTotalsUptoRow : OpenClaim := { program := "ytnkfifkgbkgcjaa", sum := "f75faf987639676f987301748e3666a2a3c7fc8270b8ddd4d5d508a30a81c705", func := "assize/assizelaw18.StatsTotals", spec := "statsTotals", unfollowed := true, recurses := true, apart := false, narrowed := true }
def StatsTotalsUptoSaid : Prop := statsTotalsUptoRow.holds Try.pinned (OpenSpec.upto statsTotalsSpec)

/-- 'assizelaw18.StatsSums', WHERE WHAT IT READS IS OF BULK AT MOST 1048576: true; the input reads as it did. -/
def statsSumsUptoRow : OpenClaim := { program := "ytnkfifkgbkgcjaa", sum := "f75faf987639676f987301748e3666a2a3c7fc8270b8ddd4d5d508a30a81c705", func := "assize/assizelaw18.StatsSums", spec := "statsSums", unfollowed := true, recurses := true, apart := false, narrowed := true }
def StatsSumsUptoSaid : Prop := statsSumsUptoRow.holds Try.pinned (OpenSpec.upto statsSumsSpec)

/-- 'assizelaw18.StatsSides', WHERE WHAT IT READS IS OF BULK AT MOST 1048576: true; the input reads as it did. -/
def statsSidesUptoRow : OpenClaim := { program := "ytnkfifkgbkgcjaa", sum := "f75faf987639676f987301748e3666a2a3c7fc8270b8ddd4d5d508a30a81c705", func := "assize/assizelaw18.StatsSides", spec := "statsSides", unfollowed := true, recurses := true, apart := false, narrowed := true }
def StatsSidesUptoSaid : Prop := statsSidesUptoRow.holds Try.pinned (OpenSpec.upto statsSidesSpec)

/-- 'assizelaw18.StatsValues', WHERE WHAT IT READS IS OF BULK AT MOST 1048576: true; the input reads as it did. -/
def statsValuesUptoRow : OpenClaim := { program := "ytnkfifkgbkgcjaa", sum := "f75faf987639676f987301748e3666a2a3c7fc8270b8ddd4d5d508a30a81c705", func := "assize/assizelaw18.StatsValues", spec := "statsValues", unfollowed := true, recurses := true, apart := false, narrowed := true }
def StatsValuesUptoSaid : Prop := statsValuesUptoRow.holds Try.pinned (OpenSpec.upto statsValuesSpec)

/-- 'assizelaw18.StatsMiniSpec', WHERE WHAT IT READS IS OF BULK AT MOST 1048576: true; the input reads as it did. -/
def statsMiniSpecUptoRow : OpenClaim := { program := "ytnkfifkgbkgcjaa", sum := "f75faf987639676f987301748e3666a2a3c7fc8270b8ddd4d5d508a30a81c705", func := "assize/assizelaw18.StatsMiniSpec", spec := "statsMiniSpec", unfollowed := true, recurses := true, apart := false, narrowed := true }
def StatsMiniSpecUptoSaid : Prop := statsMiniSpecUptoRow.holds Try.pinned (OpenSpec.upto statsMiniSpecSpec)

/-- 'assizelaw18.StatsMiniTables', WHERE WHAT IT READS IS OF BULK AT MOST 1048576: true; the input reads as it did. -/
def statsMiniTablesUptoRow : OpenClaim := { program := "ytnkfifkgbkgcjaa", sum := "f75faf987639676f987301748e3666a2a3c7fc8270b8ddd4d5d508a30a81c705", func := "assize/assizelaw18.StatsMiniTables", spec := "statsMiniTables", unfollowed := true, recurses := true, apart := false, narrowed := true }
def StatsMiniTablesUptoSaid : Prop := statsMiniTablesUptoRow.holds Try.pinned (OpenSpec.upto statsMiniTablesSpec)

end Rows
end Go.Proofs.Ytnkfifkgbkgcjaa
