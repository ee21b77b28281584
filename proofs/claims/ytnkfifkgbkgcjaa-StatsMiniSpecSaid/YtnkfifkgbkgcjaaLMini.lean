/-
  The statement StatsMiniSpec.
-/
import Derived.Test.YtnkfifkgbkgcjaaLawB
import Derived.Test.YtnkfifkgbkgcjaaStatsW
namespace Go.Proofs.Ytnkfifkgbkgcjaa.miniSpec
open Go.Tidy Go.ChangeShapes Go.WideShapes Go.ChangeAt Go.RowKit
set_option maxRecDepth 100000
set_option maxHeartbeats 0
set_option linter.unusedSimpArgs false
set_option linter.unusedVariables false
theorem miniF_len (l : List Res) (clubs : List Int) (w : Worth) : (miniF l clubs w).1.length ≤ clubs.length := by
  unfold miniF rowsF
  split
  · split
    · split <;> simp
    · simp
  · simp
theorem law (l : List Res) (clubs : List Int) (w : Worth) : CallP C 9 [.d (ress l), .d (ints clubs), I w.win, I w.draw, I w.loss] [] fun X L => L = [] ∧ X = .d (.bool true) := by
  refine callP_of C_ok Try.func9 rfl rfl (n := _) rfl (Nat.le_of_ble_eq_true rfl) (rs := _) rfl ?_
  conv => whnf
  refine sane_c ?_
  repeat' (conv => whnf
           first | refine Br.tt ?_ | refine Br.ff ?_ | refine Br.dec (fun h => ?_) (fun h => ?_) | refine Br.not ?_ | refine Br.intro (fun h => ?_) (fun h => ?_) | refine GetE.intro _ rfl ?_ | refine Need.intro rfl ?_ | refine DrawP.go mixed rfl ?_)
  refine few_c l clubs ?_
  repeat' (conv => whnf
           first | refine Br.tt ?_ | refine Br.ff ?_ | refine Br.dec (fun h => ?_) (fun h => ?_) | refine Br.not ?_ | refine Br.intro (fun h => ?_) (fun h => ?_) | refine GetE.intro _ rfl ?_ | refine Need.intro rfl ?_ | refine DrawP.go mixed rfl ?_ | refine FinP.drop (n := 0) rfl (Nat.le_refl 0) rfl rfl ⟨rfl, rfl⟩)
  have hfew := h
  refine mini_c l clubs w (by omega) (by omega) ?_
  repeat' (conv => whnf
           first | refine Br.tt ?_ | refine Br.ff ?_ | refine Br.dec (fun h => ?_) (fun h => ?_) | refine Br.not ?_ | refine Br.intro (fun h => ?_) (fun h => ?_) | refine GetE.intro _ rfl ?_ | refine Need.intro rfl ?_ | refine DrawP.go mixed rfl ?_)
  refine rmini_c l clubs w (by omega) (by omega) ?_
  repeat' (conv => whnf
           first | refine Br.tt ?_ | refine Br.ff ?_ | refine Br.dec (fun h => ?_) (fun h => ?_) | refine Br.not ?_ | refine Br.intro (fun h => ?_) (fun h => ?_) | refine GetE.intro _ rfl ?_ | refine Need.intro rfl ?_ | refine DrawP.go mixed rfl ?_ | refine QCall.intro _ (same_c (miniF l clubs w).1 (miniF l clubs w).1 (by have := miniF_len l clubs w; omega) ⟨rfl, rfl⟩) ?_ | refine same_c (miniF l clubs w).1 (miniF l clubs w).1 (by have := miniF_len l clubs w; omega) ?_)
  all_goals (try conv => whnf)
  · exact FinP.drop (n := 0) rfl (Nat.le_refl 0) rfl rfl ⟨rfl, congrArg B (decide_eq_true (p := (miniF l clubs w).2 = (miniF l clubs w).2) rfl)⟩
  · exact absurd rfl h
theorem call_closed : ∀ xss, TyA C.P Try.f9.params.toList xss → CallP C 9 (argVs C.P Try.f9.params.toList xss) [] fun X L => L = [] ∧ X = .d (.bool true) := by
  intro xss h
  match xss, h with
  | [x1, x2, x3, x4, x5], ⟨h1, h2, h3, h4, h5, _⟩ =>
    obtain ⟨x1, rfl, _⟩ := ressT h1
    obtain ⟨x2, rfl, _⟩ := intsT h2
    obtain ⟨x3, rfl⟩ := intT h3
    obtain ⟨x4, rfl⟩ := intT h4
    obtain ⟨x5, rfl⟩ := intT h5
    exact law x1 x2 ⟨x3, x4, x5⟩
set_option maxRecDepth 100000 in
theorem lifted (os : Os) (started : os.Started) (H : Type) (enc : TypeId × Value → H) :
    ReturnsInHanded {} Try.checked os 9 .any (Rows.statsMiniSpecSpec.pre6 enc Try.prog Try.f9 Rows.statsMiniSpecRow.domain false) (Rows.statsMiniSpecSpec.post enc Try.prog Try.f9 false true false false) := by
  refine returnsInHanded_of_change (C := Try.checked) own started (by kernel_rfl) Try.func9
    (ChangeSpec.witness6 (enc := enc) (C := Try.checked) false ⟨#[], #[.slice none 0 0, .slice none 0 0, .int .i64 0, .int .i64 0, .int .i64 0], []⟩ 8 (by kernel_rfl) (by kernel_rfl) (by kernel_rfl) (by kernel_rfl)) ?_
  intro W base args ds gs before hval hW _ _
  refine law_of (C := C) (l := plainTys) kids full plainOk plainLt (fun t ht => ?_) rfl rfl Try.underlying4 (fun ds hd => ?_) call_closed hval hW
  · have : Try.f9.params.toList.all (fun t => plainTys.contains t) = true := by kernel_rfl
    simpa using List.all_eq_true.1 this t ht
  · match ds, hd with
    | [d1, d2, d3, d4, d5], _ => rfl
theorem proved : Rows.StatsMiniSpecSaid :=
  OpenClaim.holds_of_wide 9 Try.f9 rfl rfl rfl rfl rfl rfl rfl ⟨rfl, rfl, rfl, rfl, rfl⟩ rfl rfl rfl rfl rfl (by kernel_rfl) Try.func9 (by kernel_rfl)
    (of_decide_eq_true (by kernel_rfl)) (by unfold Func.isWrapper; first | (rw [if_pos (by decide +kernel)]; kernel_rfl) | (rw [if_neg (by decide +kernel)]; exact ⟨rfl, rfl⟩))
    (fun os started H enc _ => lifted os started H enc)
end Go.Proofs.Ytnkfifkgbkgcjaa.miniSpec
