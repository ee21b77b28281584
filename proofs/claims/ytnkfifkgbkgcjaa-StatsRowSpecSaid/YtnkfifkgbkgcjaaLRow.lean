/-
  The statement StatsRowSpec: its call's contract.
-/
import Derived.Test.YtnkfifkgbkgcjaaLawA
namespace Go.Proofs.Ytnkfifkgbkgcjaa.rowSpec
open Go.Tidy Go.ChangeShapes Go.WideShapes Go.ChangeAt Go.RowKit
set_option maxRecDepth 100000
set_option maxHeartbeats 0
set_option linter.unusedSimpArgs false
set_option linter.unusedVariables false
theorem row_law (a b : Row) (n : Int) : CallP C 4 [rowV a, rowV b, I n] [] fun X L => L = [] ∧ X = .d (.bool true) := by
  refine callP_of C_ok Try.func4 rfl rfl (n := _) rfl (Nat.le_of_ble_eq_true rfl) (rs := _) rfl ?_
  conv => whnf
  refine sane_c ?_
  repeat' (conv => whnf
           first | refine Br.tt ?_ | refine Br.ff ?_ | refine Br.dec (fun h => ?_) (fun h => ?_) | refine Br.not ?_ | refine Br.intro (fun h => ?_) (fun h => ?_) | refine GetE.intro _ rfl ?_ | refine Need.intro rfl ?_ | refine DrawP.go mixed rfl ?_)
  refine add_c a b ?_
  repeat' (conv => whnf
           first | refine Br.tt ?_ | refine Br.ff ?_ | refine Br.dec (fun h => ?_) (fun h => ?_) | refine Br.not ?_ | refine Br.intro (fun h => ?_) (fun h => ?_) | refine GetE.intro _ rfl ?_ | refine Need.intro rfl ?_ | refine DrawP.go mixed rfl ?_)
  refine radd_c a b ?_
  repeat' (conv => whnf
           first | refine Br.yes (by simp) ?_ | refine QCall.intro _ (rowcheck_c a ⟨rfl, rfl⟩) ?_ | refine QCall.intro _ (rrowcheck_c a ⟨rfl, rfl⟩) ?_ | refine QCall.intro _ (value_c a n ⟨rfl, rfl⟩) ?_ | refine QCall.intro _ (rvalue_c a n ⟨rfl, rfl⟩) ?_ | refine Br.tt ?_ | refine Br.ff ?_ | refine Br.dec (fun h => ?_) (fun h => ?_) | refine Br.not ?_ | refine Br.intro (fun h => ?_) (fun h => ?_) | refine GetE.intro _ rfl ?_ | refine Need.intro rfl ?_ | refine DrawP.go mixed rfl ?_)
  conv => whnf
  refine FinP.drop (n := 0) rfl (Nat.le_refl 0) rfl rfl ⟨rfl, congrArg B ?_⟩
  simp
theorem row_call : ∀ xss, TyA C.P Try.f4.params.toList xss → CallP C 4 (argVs C.P Try.f4.params.toList xss) [] fun X L => L = [] ∧ X = .d (.bool true) := by
  intro xss h
  match xss, h with
  | [x, y, z], ⟨h1, h2, h3, _⟩ =>
    obtain ⟨a, rfl⟩ := rowT h1
    obtain ⟨b, rfl⟩ := rowT h2
    obtain ⟨n, rfl⟩ := intT h3
    exact row_law a b n
set_option maxRecDepth 100000 in
theorem lifted (os : Os) (started : os.Started) (H : Type) (enc : TypeId × Value → H) :
    ReturnsInHanded {} Try.checked os 4 .any (Rows.statsRowSpecSpec.pre6 enc Try.prog Try.f4 Rows.statsRowSpecRow.domain false) (Rows.statsRowSpecSpec.post enc Try.prog Try.f4 false true false false) := by
  refine returnsInHanded_of_change (C := Try.checked) own started (by kernel_rfl) Try.func4
    (ChangeSpec.witness6 (enc := enc) (C := Try.checked) false ⟨#[], #[.agg (Array.replicate 11 (.int .i64 0)), .agg (Array.replicate 11 (.int .i64 0)), .int .i64 0], []⟩ 8 (by kernel_rfl) (by kernel_rfl) (by kernel_rfl) (by kernel_rfl)) ?_
  intro W base args ds gs before hval hW _ _
  refine law_of (C := C) (l := plainTys) kids full plainOk plainLt (fun t ht => ?_) rfl rfl Try.underlying4 (fun ds hd => ?_) row_call hval hW
  · have : Try.f4.params.toList.all (fun t => plainTys.contains t) = true := by kernel_rfl
    simpa using List.all_eq_true.1 this t ht
  · match ds, hd with
    | [d1, d2, d3], _ => rfl
theorem proved : Rows.StatsRowSpecSaid :=
  OpenClaim.holds_of_wide 4 Try.f4 rfl rfl rfl rfl rfl rfl rfl ⟨rfl, rfl, rfl, rfl, rfl⟩ rfl rfl rfl rfl rfl (by kernel_rfl) Try.func4 (by kernel_rfl)
    (of_decide_eq_true (by kernel_rfl)) (by unfold Func.isWrapper; first | (rw [if_pos (by decide +kernel)]; kernel_rfl) | (rw [if_neg (by decide +kernel)]; exact ⟨rfl, rfl⟩))
    (fun os started H enc _ => lifted os started H enc)
end Go.Proofs.Ytnkfifkgbkgcjaa.rowSpec
