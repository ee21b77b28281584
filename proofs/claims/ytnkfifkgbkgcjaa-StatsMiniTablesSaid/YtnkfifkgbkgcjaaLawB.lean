/-
  The statements' arguments: results and numbers.
-/
import Derived.Test.YtnkfifkgbkgcjaaStatsT
import Derived.Test.YtnkfifkgbkgcjaaLawA
namespace Go.Proofs.Ytnkfifkgbkgcjaa
open Go.Tidy Go.ChangeShapes Go.WideShapes Go.ChangeAt Go.RowKit
set_option maxRecDepth 100000
set_option maxHeartbeats 0
set_option linter.unusedSimpArgs false
set_option linter.unusedVariables false
theorem intsT {xs : List D} (h : TyI C.P 23 xs) : ∃ l : List Int, xs = [ints l] ∧ l.length ≤ maxLen := by
  obtain ⟨els, rfl, h1, h2⟩ := h.slI Try.underlying23
  obtain ⟨l, rfl⟩ := map_of (f := fun n : Int => [DI n]) (l := els) fun y hy => by
    obtain ⟨n, hn⟩ := intT (h2 y hy)
    exact ⟨n, hn⟩
  exact ⟨l, rfl, by simpa using h1⟩
theorem cells_bool : C.P.cellsOf 4 = 1 := by kernel_rfl
theorem cells_game : C.P.cellsOf 40 = 4 := by kernel_rfl
theorem cells_res : C.P.cellsOf 42 = 13 := by kernel_rfl
theorem at_bool {xs : List D} {i : Nat} (h : TyI C.P 4 ((xs.drop i).take (C.P.cellsOf 4))) : ∃ b : Bool, xs[i]? = some (.bool b) := by
  obtain ⟨b, hn⟩ := h.boolI Try.underlying4
  rw [cells_bool] at hn
  refine ⟨b, ?_⟩
  have := congrArg (fun l => l[0]?) hn
  simpa using this
theorem resT {xs : List D} (h : TyI C.P 42 xs) : ∃ r : Res, xs = r.cells := by
  obtain ⟨h1, h2⟩ := h.structI Try.underlying42
  rw [cells_res] at h1
  simp only [List.mem_cons, List.not_mem_nil, or_false, forall_eq_or_imp, forall_eq] at h2
  obtain ⟨g, a4, a5, a6, a7, a8, a9, a10, a11, a12⟩ := h2
  obtain ⟨_, h3⟩ := g.structI Try.underlying40
  simp only [List.mem_cons, List.not_mem_nil, or_false, forall_eq_or_imp, forall_eq] at h3
  obtain ⟨a0, a1, a2, a3⟩ := h3
  rw [cells_game] at a0 a1 a2 a3
  obtain ⟨n0, b0⟩ := at_int a0
  have b0 : xs[0]? = some (DI n0) := by simpa [List.getElem?_take] using b0
  obtain ⟨n1, b1⟩ := at_int a1
  have b1 : xs[1]? = some (DI n1) := by simpa [List.getElem?_take] using b1
  obtain ⟨n2, b2⟩ := at_int a2
  have b2 : xs[2]? = some (DI n2) := by simpa [List.getElem?_take] using b2
  obtain ⟨n3, b3⟩ := at_int a3
  have b3 : xs[3]? = some (DI n3) := by simpa [List.getElem?_take] using b3
  obtain ⟨n4, b4⟩ := at_int a4
  obtain ⟨n5, b5⟩ := at_int a5
  obtain ⟨n6, b6⟩ := at_int a6
  obtain ⟨n7, b7⟩ := at_int a7
  obtain ⟨n8, b8⟩ := at_int a8
  obtain ⟨n9, b9⟩ := at_int a9
  obtain ⟨n10, b10⟩ := at_int a10
  obtain ⟨n11, b11⟩ := at_bool a11
  obtain ⟨n12, b12⟩ := at_bool a12
  refine ⟨⟨⟨n0, n1, n2, n3⟩, n4, n5, n6, n7, n8, n9, n10, n11, n12⟩, ?_⟩
  apply List.ext_getElem?
  intro i
  match i with
  | 0 => exact b0
  | 1 => exact b1
  | 2 => exact b2
  | 3 => exact b3
  | 4 => exact b4
  | 5 => exact b5
  | 6 => exact b6
  | 7 => exact b7
  | 8 => exact b8
  | 9 => exact b9
  | 10 => exact b10
  | 11 => exact b11
  | 12 => exact b12
  | i + 13 => rw [List.getElem?_eq_none (by omega)]; rfl
theorem ressT {xs : List D} (h : TyI C.P 22 xs) : ∃ l : List Res, xs = [ress l] ∧ l.length ≤ maxLen := by
  obtain ⟨els, rfl, h1, h2⟩ := h.slI Try.underlying22
  obtain ⟨l, rfl⟩ := map_of (f := Res.cells) (l := els) fun y hy => resT (h2 y hy)
  exact ⟨l, rfl, by simpa using h1⟩
end Go.Proofs.Ytnkfifkgbkgcjaa
