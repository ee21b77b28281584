/-
  The statements' arguments, as tidy data; facts of this seat that every statement wants.
-/
import Derived.Test.YtnkfifkgbkgcjaaStatsR
import Derived.Test.YtnkfifkgbkgcjaaTidyZ4
import Derived.WalkKit
import Derived.ProofKit
namespace Go.Proofs.Ytnkfifkgbkgcjaa
open Go.Tidy Go.ChangeShapes Go.WideShapes Go.ChangeAt Go.RowKit
set_option maxRecDepth 100000
set_option maxHeartbeats 0
set_option linter.unusedSimpArgs false
set_option linter.unusedVariables false
theorem own : ownKnob Try.prog.godebug = none := by kernel_rfl
theorem kids : Kids Try.prog (· < Try.prog.types.size) := kids_rows (by kernel_rfl) (by kernel_rfl)
theorem full : ∀ t e, t < Try.prog.types.size → Try.prog.underlying t = some (.slice e) → 0 < Try.prog.cellsOf e := slices_full_of Try.prog (by kernel_rfl)
def plainTys : List TypeId := [3, 4, 23, 33, 40, 42, 22]
theorem plainOk : plainB Try.prog plainTys = true := by kernel_rfl
theorem plainLt : ∀ t ∈ plainTys, t < Try.prog.types.size := by
  have : plainTys.all (fun t => decide (t < Try.prog.types.size)) = true := by kernel_rfl
  intro t ht
  simpa using List.all_eq_true.1 this t ht
theorem intT {xs : List D} (h : TyI C.P 3 xs) : ∃ n : Int, xs = [DI n] := by
  obtain ⟨n, h, _⟩ := h.intI Try.underlying3
  exact ⟨n, h⟩
theorem cells_int : C.P.cellsOf 3 = 1 := by kernel_rfl
theorem cells_row : C.P.cellsOf 33 = 11 := by kernel_rfl
theorem at_int {xs : List D} {i : Nat} (h : TyI C.P 3 ((xs.drop i).take (C.P.cellsOf 3))) : ∃ n : Int, xs[i]? = some (DI n) := by
  obtain ⟨n, hn⟩ := intT h
  rw [cells_int] at hn
  refine ⟨n, ?_⟩
  have := congrArg (fun l => l[0]?) hn
  simpa using this
theorem rowT {xs : List D} (h : TyI C.P 33 xs) : ∃ r : Row, xs = r.cells := by
  obtain ⟨h1, h2⟩ := h.structI Try.underlying33
  rw [cells_row] at h1
  simp only [List.mem_cons, List.not_mem_nil, or_false, forall_eq_or_imp, forall_eq] at h2
  obtain ⟨a0, a1, a2, a3, a4, a5, a6, a7, a8, a9, a10⟩ := h2
  obtain ⟨n0, b0⟩ := at_int a0
  obtain ⟨n1, b1⟩ := at_int a1
  obtain ⟨n2, b2⟩ := at_int a2
  obtain ⟨n3, b3⟩ := at_int a3
  obtain ⟨n4, b4⟩ := at_int a4
  obtain ⟨n5, b5⟩ := at_int a5
  obtain ⟨n6, b6⟩ := at_int a6
  obtain ⟨n7, b7⟩ := at_int a7
  obtain ⟨n8, b8⟩ := at_int a8
  obtain ⟨n9, b9⟩ := at_int a9
  obtain ⟨n10, b10⟩ := at_int a10
  refine ⟨⟨n0, n1, n2, n3, n4, n5, n6, n7, n8, n9, n10⟩, ?_⟩
  apply List.ext_getElem?
  intro i
  match i with
  | 0 => exact b0
  | 1 => exact b1
  | 2 => exact b2
  | 3 => exact b3
  | 4 => exact b4
  | 5 => exact b5
  | 6 => exact b6
  | 7 => exact b7
  | 8 => exact b8
  | 9 => exact b9
  | 10 => exact b10
  | i + 11 => rw [List.getElem?_eq_none (by omega)]; rfl
end Go.Proofs.Ytnkfifkgbkgcjaa
