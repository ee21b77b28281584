/-
  The statement StatsRowsSpec: its call's contract, and the statement.
-/
import Derived.Test.YtnkfifkgbkgcjaaLawB
namespace Go.Proofs.Ytnkfifkgbkgcjaa.rowsSpec
open Go.Tidy Go.ChangeShapes Go.WideShapes Go.ChangeAt Go.RowKit
set_option maxRecDepth 100000
set_option maxHeartbeats 0
set_option linter.unusedSimpArgs false
set_option linter.unusedVariables false
theorem rowsF_len (l : List Res) (clubs : List Int) (w : Worth) : (rowsF l clubs w).1.length ≤ clubs.length := by
  unfold rowsF
  split
  · split <;> simp
  · simp
theorem law (l : List Res) (clubs : List Int) (w : Worth) : CallP C 3 [.d (ress l), .d (ints clubs), I w.win, I w.draw, I w.loss] [] fun X L => L = [] ∧ X = .d (.bool true) := by
  refine callP_of C_ok Try.func3 rfl rfl (n := _) rfl (Nat.le_of_ble_eq_true rfl) (rs := _) rfl ?_
  conv => whnf
  refine sane_c ?_
  repeat' (conv => whnf
           first | refine Br.tt ?_ | refine Br.ff ?_ | refine Br.dec (fun h => ?_) (fun h => ?_) | refine Br.not ?_ | refine Br.intro (fun h => ?_) (fun h => ?_) | refine GetE.intro _ rfl ?_ | refine Need.intro rfl ?_ | refine DrawP.go mixed rfl ?_)
  refine few_c l clubs ?_
  repeat' (conv => whnf
           first | refine Br.tt ?_ | refine Br.ff ?_ | refine Br.dec (fun h => ?_) (fun h => ?_) | refine Br.not ?_ | refine Br.intro (fun h => ?_) (fun h => ?_) | refine GetE.intro _ rfl ?_ | refine Need.intro rfl ?_ | refine DrawP.go mixed rfl ?_ | refine FinP.drop (n := 0) rfl (Nat.le_refl 0) rfl rfl ⟨rfl, rfl⟩)
  have hfew := h
  refine rows_c l clubs w (by omega) (by omega) ?_
  repeat' (conv => whnf
           first | refine Br.tt ?_ | refine Br.ff ?_ | refine Br.dec (fun h => ?_) (fun h => ?_) | refine Br.not ?_ | refine Br.intro (fun h => ?_) (fun h => ?_) | refine GetE.intro _ rfl ?_ | refine Need.intro rfl ?_ | refine DrawP.go mixed rfl ?_)
  refine rrows_c l clubs w (by omega) (by omega) ?_
  repeat' (conv => whnf
           first | refine Br.tt ?_ | refine Br.ff ?_ | refine Br.dec (fun h => ?_) (fun h => ?_) | refine Br.not ?_ | refine Br.intro (fun h => ?_) (fun h => ?_) | refine GetE.intro _ rfl ?_ | refine Need.intro rfl ?_ | refine DrawP.go mixed rfl ?_ | refine QCall.intro _ (same_c (rowsF l clubs w).1 (rowsF l clubs w).1 (by have := rowsF_len l clubs w; omega) ⟨rfl, rfl⟩) ?_ | refine same_c (rowsF l clubs w).1 (rowsF l clubs w).1 (by have := rowsF_len l clubs w; omega) ?_)
  all_goals (try conv => whnf)
  · exact FinP.drop (n := 0) rfl (Nat.le_refl 0) rfl rfl ⟨rfl, congrArg B (decide_eq_true (p := (rowsF l clubs w).2 = (rowsF l clubs w).2) rfl)⟩
  · exact absurd rfl h
theorem call : ∀ xss, TyA C.P Try.f3.params.toList xss → CallP C 3 (argVs C.P Try.f3.params.toList xss) [] fun X L => L = [] ∧ X = .d (.bool true) := by
  intro xss h
  match xss, h with
  | [x, y, z, u, v], ⟨h1, h2, h3, h4, h5, _⟩ =>
    obtain ⟨l, rfl, _⟩ := ressT h1
    obtain ⟨c, rfl, _⟩ := intsT h2
    obtain ⟨a, rfl⟩ := intT h3
    obtain ⟨b, rfl⟩ := intT h4
    obtain ⟨d, rfl⟩ := intT h5
    exact law l c ⟨a, b, d⟩
set_option maxRecDepth 100000 in
theorem lifted (os : Os) (started : os.Started) (H : Type) (enc : TypeId × Value → H) :
    ReturnsInHanded {} Try.checked os 3 .any (Rows.statsRowsSpecSpec.pre6 enc Try.prog Try.f3 Rows.statsRowsSpecRow.domain false) (Rows.statsRowsSpecSpec.post enc Try.prog Try.f3 false true false false) := by
  refine returnsInHanded_of_change (C := Try.checked) own started (by kernel_rfl) Try.func3
    (ChangeSpec.witness6 (enc := enc) (C := Try.checked) false ⟨#[], #[.slice none 0 0, .slice none 0 0, .int .i64 0, .int .i64 0, .int .i64 0], []⟩ 8 (by kernel_rfl) (by kernel_rfl) (by kernel_rfl) (by kernel_rfl)) ?_
  intro W base args ds gs before hval hW _ _
  refine law_of (C := C) (l := plainTys) kids full plainOk plainLt (fun t ht => ?_) rfl rfl Try.underlying4 (fun ds hd => ?_) call hval hW
  · have : Try.f3.params.toList.all (fun t => plainTys.contains t) = true := by kernel_rfl
    simpa using List.all_eq_true.1 this t ht
  · match ds, hd with
    | [d1, d2, d3, d4, d5], _ => rfl
theorem proved : Rows.StatsRowsSpecSaid :=
  OpenClaim.holds_of_wide 3 Try.f3 rfl rfl rfl rfl rfl rfl rfl ⟨rfl, rfl, rfl, rfl, rfl⟩ rfl rfl rfl rfl rfl (by kernel_rfl) Try.func3 (by kernel_rfl)
    (of_decide_eq_true (by kernel_rfl)) (by unfold Func.isWrapper; first | (rw [if_pos (by decide +kernel)]; kernel_rfl) | (rw [if_neg (by decide +kernel)]; exact ⟨rfl, rfl⟩))
    (fun os started H enc _ => lifted os started H enc)
end Go.Proofs.Ytnkfifkgbkgcjaa.rowsSpec
