/-
  The statement StatsValues: its call's contract, and the statement.
-/
import Derived.Test.YtnkfifkgbkgcjaaLawA
namespace Go.Proofs.Ytnkfifkgbkgcjaa.values
open Go.Tidy Go.ChangeShapes Go.WideShapes Go.ChangeAt Go.RowKit
set_option maxRecDepth 100000
set_option maxHeartbeats 0
set_option linter.unusedSimpArgs false
set_option linter.unusedVariables false
theorem addF_or (a b : Row) : (addF a b = (rowAddW a b, 0) ∧ rowOk a ∧ rowOk b) ∨ ∃ e : Int, e ≠ 0 ∧ addF a b = (row0, e) := by
  by_cases ha : rowOk a
  · by_cases hb : rowOk b
    · by_cases hc : a.club = b.club
      · by_cases hs : rowOk (rowAddW a b)
        · exact .inl ⟨addF_sum ha hb hc hs, ha, hb⟩
        · exact .inr ⟨1, by decide, addF_big ha hb hc hs⟩
      · exact .inr ⟨190, by decide, addF_club ha hb hc⟩
    · exact .inr ⟨1, by decide, addF_b hb⟩
  · exact .inr ⟨1, by decide, addF_a ha⟩
theorem value_sum {a b : Row} (ha : rowOk a) (hb : rowOk b) (n : Int) : valueF (rowAddW a b) n = IntKind.i64.wrap (valueF a n + valueF b n) := by
  rw [rowAddW_eq ha hb]
  unfold rowOk at ha hb
  have e1 : IntKind.i64.wrap (a.goals - a.against) = a.goals - a.against := wrap_in (by omega)
  have e2 : IntKind.i64.wrap (b.goals - b.against) = b.goals - b.against := wrap_in (by omega)
  have e3 : IntKind.i64.wrap (0 - a.cards) = 0 - a.cards := wrap_in (by omega)
  have e4 : IntKind.i64.wrap (0 - b.cards) = 0 - b.cards := wrap_in (by omega)
  by_cases h1 : n = 1 ∨ n = 8
  · simp only [valueF, rowAdd, if_pos h1]; exact (wrap_in (by omega)).symm
  by_cases h2 : n = 2 ∨ n = 9
  · simp only [valueF, rowAdd, if_neg h1, if_pos h2, e1, e2]; congr 1; omega
  by_cases h3 : n = 3 ∨ n = 10
  · simp only [valueF, rowAdd, if_neg h1, if_neg h2, if_pos h3]; exact (wrap_in (by omega)).symm
  by_cases h4 : n = 4
  · simp only [valueF, rowAdd, if_neg h1, if_neg h2, if_neg h3, if_pos h4]; exact (wrap_in (by omega)).symm
  by_cases h5 : n = 5 ∨ n = 11
  · simp only [valueF, rowAdd, if_neg h1, if_neg h2, if_neg h3, if_neg h4, if_pos h5]; exact (wrap_in (by omega)).symm
  by_cases h6 : n = 6
  · simp only [valueF, rowAdd, if_neg h1, if_neg h2, if_neg h3, if_neg h4, if_neg h5, if_pos h6]; exact (wrap_in (by omega)).symm
  by_cases h7 : n = 7
  · simp only [valueF, rowAdd, if_neg h1, if_neg h2, if_neg h3, if_neg h4, if_neg h5, if_neg h6, if_pos h7, e3, e4]; congr 1; omega
  · simp only [valueF, if_neg h1, if_neg h2, if_neg h3, if_neg h4, if_neg h5, if_neg h6, if_neg h7]; rfl
theorem law (a b : Row) (n : Int) : CallP C 8 [rowV a, rowV b, I n] [] fun X L => L = [] ∧ X = .d (.bool true) := by
  refine callP_of C_ok Try.func8 rfl rfl (n := _) rfl (Nat.le_of_ble_eq_true rfl) (rs := _) rfl ?_
  conv => whnf
  refine sane_c ?_
  repeat' (conv => whnf
           first | refine Br.no (by simp [valueF]; done) ?_ | refine QCall.intro _ (value_c a 1 ⟨rfl, rfl⟩) ?_ | refine QCall.intro _ (value_c a 8 ⟨rfl, rfl⟩) ?_ | refine QCall.intro _ (value_c a 2 ⟨rfl, rfl⟩) ?_ | refine QCall.intro _ (value_c a 9 ⟨rfl, rfl⟩) ?_ | refine QCall.intro _ (value_c a 3 ⟨rfl, rfl⟩) ?_ | refine QCall.intro _ (value_c a 10 ⟨rfl, rfl⟩) ?_ | refine QCall.intro _ (value_c a 5 ⟨rfl, rfl⟩) ?_ | refine QCall.intro _ (value_c a 11 ⟨rfl, rfl⟩) ?_ | refine QCall.intro _ (value_c a 12 ⟨rfl, rfl⟩) ?_ | refine Br.tt ?_ | refine Br.ff ?_ | refine Br.dec (fun h => ?_) (fun h => ?_) | refine Br.not ?_ | refine Br.intro (fun h => ?_) (fun h => ?_) | refine GetE.intro _ rfl ?_ | refine Need.intro rfl ?_ | refine DrawP.go mixed rfl ?_)
  rcases addF_or a b with ⟨he, ha, hb⟩ | ⟨e, hne, he⟩
  · refine add_e he ?_
    repeat' (conv => whnf
             first | refine QCall.intro _ (value_c (rowAddW a b) n ⟨rfl, rfl⟩) ?_ | refine QCall.intro _ (value_c a n ⟨rfl, rfl⟩) ?_ | refine QCall.intro _ (value_c b n ⟨rfl, rfl⟩) ?_ | refine Br.yes (decide_eq_true (value_sum ha hb n)) ?_ | refine QCall.intro _ (value_c (rowAddW a b) 2 ⟨rfl, rfl⟩) ?_ | refine QCall.intro _ (value_c (rowAddW a b) 3 ⟨rfl, rfl⟩) ?_ | refine Br.tt ?_ | refine Br.ff ?_ | refine Br.dec (fun h => ?_) (fun h => ?_) | refine Br.not ?_ | refine Br.intro (fun h => ?_) (fun h => ?_) | refine GetE.intro _ rfl ?_ | refine Need.intro rfl ?_ | refine DrawP.go mixed rfl ?_)
    conv => whnf
    refine FinP.drop (n := 0) rfl (Nat.le_refl 0) rfl rfl ⟨rfl, congrArg B (decide_eq_true ?_)⟩
    rfl
  · refine add_e he ?_
    repeat' (conv => whnf
             first | refine Br.yes (by simp [hne]) ?_ | refine Br.tt ?_ | refine Br.ff ?_ | refine Br.dec (fun h => ?_) (fun h => ?_) | refine Br.not ?_ | refine Br.intro (fun h => ?_) (fun h => ?_) | refine GetE.intro _ rfl ?_ | refine Need.intro rfl ?_ | refine DrawP.go mixed rfl ?_)
    conv => whnf
    exact FinP.drop (n := 0) rfl (Nat.le_refl 0) rfl rfl ⟨rfl, rfl⟩
theorem call : ∀ xss, TyA C.P Try.f8.params.toList xss → CallP C 8 (argVs C.P Try.f8.params.toList xss) [] fun X L => L = [] ∧ X = .d (.bool true) := by
  intro xss h
  match xss, h with
  | [x, y, z], ⟨h1, h2, h3, _⟩ =>
    obtain ⟨a, rfl⟩ := rowT h1
    obtain ⟨b, rfl⟩ := rowT h2
    obtain ⟨n, rfl⟩ := intT h3
    exact law a b n
set_option maxRecDepth 100000 in
theorem lifted (os : Os) (started : os.Started) (H : Type) (enc : TypeId × Value → H) :
    ReturnsInHanded {} Try.checked os 8 .any (Rows.statsValuesSpec.pre6 enc Try.prog Try.f8 Rows.statsValuesRow.domain false) (Rows.statsValuesSpec.post enc Try.prog Try.f8 false true false false) := by
  refine returnsInHanded_of_change (C := Try.checked) own started (by kernel_rfl) Try.func8
    (ChangeSpec.witness6 (enc := enc) (C := Try.checked) false ⟨#[], #[.agg (Array.replicate 11 (.int .i64 0)), .agg (Array.replicate 11 (.int .i64 0)), .int .i64 0], []⟩ 8 (by kernel_rfl) (by kernel_rfl) (by kernel_rfl) (by kernel_rfl)) ?_
  intro W base args ds gs before hval hW _ _
  refine law_of (C := C) (l := plainTys) kids full plainOk plainLt (fun t ht => ?_) rfl rfl Try.underlying4 (fun ds hd => ?_) call hval hW
  · have : Try.f8.params.toList.all (fun t => plainTys.contains t) = true := by kernel_rfl
    simpa using List.all_eq_true.1 this t ht
  · match ds, hd with
    | [d1, d2, d3], _ => rfl
theorem proved : Rows.StatsValuesSaid :=
  OpenClaim.holds_of_wide 8 Try.f8 rfl rfl rfl rfl rfl rfl rfl ⟨rfl, rfl, rfl, rfl, rfl⟩ rfl rfl rfl rfl rfl (by kernel_rfl) Try.func8 (by kernel_rfl)
    (of_decide_eq_true (by kernel_rfl)) (by unfold Func.isWrapper; first | (rw [if_pos (by decide +kernel)]; kernel_rfl) | (rw [if_neg (by decide +kernel)]; exact ⟨rfl, rfl⟩))
    (fun os started H enc _ => lifted os started H enc)
end Go.Proofs.Ytnkfifkgbkgcjaa.values
