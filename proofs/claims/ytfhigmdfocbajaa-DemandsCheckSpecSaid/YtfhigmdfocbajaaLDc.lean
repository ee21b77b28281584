/-
  The statement DemandsCheckSpec: Check agrees with the reference; no conditions.
-/
import Derived.Test.YtfhigmdfocbajaaDemT
namespace Go.Proofs.Ytfhigmdfocbajaa.checkSpec
open Go.Tidy Go.ChangeShapes Go.WideShapes Go.ChangeAt Go.RowKit
set_option maxRecDepth 100000
set_option maxHeartbeats 0
set_option linter.unusedSimpArgs false
set_option linter.unusedVariables false
theorem law (p : Pl) (hp : PlB p) : CallP C 3 [plV p] [] fun X L => L = [] ∧ X = .d (.bool true) := by
  have hfit : Fits [] p := ⟨by decide, fun r hr => (by simp at hr), hp.hc, hp.hd, hp.hD⟩
  have hc : p.clubs.length ≤ 4611686018427387904 := Nat.le_trans hp.hc (by decide)
  have hd : ∀ d ∈ p.demands, d.clubs.length ≤ 4611686018427387904 := fun d h => Nat.le_trans (hp.hd d h) (by decide)
  have hD : p.demands.length ≤ 4611686018427387904 := Nat.le_trans hp.hD (by decide)
  refine callP_of C_ok Try.func3 rfl rfl (n := _) rfl (Nat.le_of_ble_eq_true rfl) (rs := _) rfl ?_
  repeat' (conv => whnf
           first | refine sane_c ?_ | refine CallP.lent (rfew_c (L := []) [] p hfit ⟨rfl, rfl⟩) (.cv (y := lisV []) (.aggL (.cons .nil .nil)) (.keep .nil)) rfl rfl ?_ | refine check_c p hc hd hD ?_ | refine rcheck_c p hc hd hD ?_ | refine QCall.intro _ (check_c p hc hd hD ⟨rfl, rfl⟩) ?_ | refine QCall.intro _ (rcheck_c p hc hd hD ⟨rfl, rfl⟩) ?_ | refine Br.tt ?_ | refine Br.ff ?_ | refine Br.dec (fun h => ?_) (fun h => ?_) | refine Br.not ?_ | refine Br.intro (fun h => ?_) (fun h => ?_) | refine GetE.intro _ rfl ?_ | refine Need.intro rfl ?_ | refine DrawP.go mixed rfl ?_)
  all_goals conv => whnf
  all_goals refine FinP.drop (n := 0) rfl (Nat.le_refl 0) rfl rfl ⟨rfl, ?_⟩
  all_goals first | rfl | exact congrArg B (decide_eq_true rfl)
theorem call_closed : ∀ xss, TyA C.P Try.f3.params.toList xss → (∀ xs ∈ xss, ∀ y ∈ xs, Dsm reachBytes y) → CallP C 3 (argVs C.P Try.f3.params.toList xss) [] fun X L => L = [] ∧ X = .d (.bool true) := by
  intro xss h hsm
  match xss, h, hsm with
  | [x1], ⟨h1, _⟩, hsm =>
    obtain ⟨x1, rfl, b1⟩ := plT h1 (hsm _ (by simp))
    exact law x1 b1
set_option maxRecDepth 100000 in
theorem lifted (os : Os) (started : os.Started) (H : Type) (enc : TypeId × Value → H) :
    ReturnsInHanded {} Try.checked os 3 .any (Rows.demandsCheckSpecSpec.pre6 enc Try.prog Try.f3 Rows.demandsCheckSpecRow.domain false) (Rows.demandsCheckSpecSpec.post enc Try.prog Try.f3 false true false false) := by
  refine returnsInHanded_of_change_sized (C := Try.checked) own started (by kernel_rfl) Try.func3
    (ChangeSpec.witness6 (enc := enc) (C := Try.checked) false ⟨#[], #[.agg #[.slice none 0 0, .bool false, .slice none 0 0]], []⟩ 8 (by kernel_rfl) (by kernel_rfl) (by kernel_rfl) (by kernel_rfl)) ?_
  intro W base args ds gs before hval hW _ hz _
  refine law_ofB (C := C) (l := plainTys) kids full plainOk bytesOk plainLt (fun t ht => ?_) rfl rfl Try.underlying4 (fun ds hd => ?_) call_closed hval hW hz
  · have : Try.f3.params.toList.all (fun t => plainTys.contains t) = true := by kernel_rfl
    simpa using List.all_eq_true.1 this t ht
  · match ds, hd with
    | [d1], _ => rfl
theorem proved : Rows.DemandsCheckSpecSaid :=
  OpenClaim.holds_of_wide 3 Try.f3 rfl rfl rfl rfl rfl rfl rfl ⟨rfl, rfl, rfl, rfl, rfl⟩ rfl rfl rfl rfl rfl (by kernel_rfl) Try.func3 (by kernel_rfl)
    (of_decide_eq_true (by kernel_rfl)) (by unfold Func.isWrapper; first | (rw [if_pos (by decide +kernel)]; kernel_rfl) | (rw [if_neg (by decide +kernel)]; exact ⟨rfl, rfl⟩))
    (fun os started H enc _ => lifted os started H enc)
end Go.Proofs.Ytfhigmdfocbajaa.checkSpec
