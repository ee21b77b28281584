/-
  The statement PlannerPlanSpec: Plan and Count agree with the reference.
-/
import Derived.Test.YtjknhbfcdjjbhaaDemT
import Derived.Test.YtjknhbfcdjjbhaaPlaO
namespace Go.Proofs.Ytjknhbfcdjjbhaa.planSpec
open Go.Tidy Go.ChangeShapes Go.WideShapes Go.ChangeAt Go.RowKit
set_option maxRecDepth 100000
set_option maxHeartbeats 0
set_option linter.unusedSimpArgs false
set_option linter.unusedVariables false
theorem law (p : Pl) (most : Int) (hp : PlB p) : CallP C 4 [plV p, I most] [] fun X L => L = [] ∧ X = .d (.bool true) := by
  refine callP_of C_ok Try.func4 rfl rfl (n := _) rfl (Nat.le_of_ble_eq_true rfl) (rs := _) rfl ?_
  by_cases hb : FewP p
  · have hs : Small [] p := few_nil hb
    have hsm := fun most => planF_small most hs
    by_cases h1 : 800 < most
    · by_cases h2 : most ≤ 1073741824
      · obtain ⟨c1, c2⟩ := count_eq 800 hs
        have e := plan_eq 800 hs
        have e1 : (planF p 800).l = (rplanF p 800).l := by rw [e]
        have e2 : (planF p 800).sp = (rplanF p 800).sp := by rw [e]
        have e3 : (planF p 800).e = (rplanF p 800).e := by rw [e]
        repeat' (conv => whnf
                 first | refine psane_c ?_ | refine rfewP_c p (Nat.le_trans hp.hD (by decide)) ?_ | refine Br.yes (decide_eq_true hb) ?_ | refine Br.yes (decide_eq_true h1) ?_ | refine Br.yes (decide_eq_true h2) ?_ | refine plan_c p 800 hs ?_ | refine rplan_c p 800 hs ?_ | refine count_c p 800 hs ?_ | refine rcount_c p 800 hs ?_ | refine rsameL_c _ _ (Nat.le_trans (hsm 800).hl (by decide)) (hsm 800).hr ?_ | refine Br.yes (decide_eq_true e1) ?_ | refine Br.yes (decide_eq_true (congrArg Int.ofNat e2)) ?_ | refine Br.yes (decide_eq_true e3) ?_ | refine Br.yes (decide_eq_true c1) ?_ | refine Br.tt ?_ | refine Br.ff ?_ | refine Br.dec (fun h => ?_) (fun h => ?_) | refine Br.not ?_ | refine Br.intro (fun h => ?_) (fun h => ?_) | refine GetE.intro _ rfl ?_ | refine Need.intro rfl ?_ | refine DrawP.go mixed rfl ?_)
        conv => whnf
        exact FinP.drop (n := 0) rfl (Nat.le_refl 0) rfl rfl ⟨rfl, congrArg B (decide_eq_true c2)⟩
      · obtain ⟨c1, c2⟩ := count_eq most hs
        have e := plan_eq most hs
        have e1 : (planF p most).l = (rplanF p most).l := by rw [e]
        have e2 : (planF p most).sp = (rplanF p most).sp := by rw [e]
        have e3 : (planF p most).e = (rplanF p most).e := by rw [e]
        repeat' (conv => whnf
                 first | refine psane_c ?_ | refine rfewP_c p (Nat.le_trans hp.hD (by decide)) ?_ | refine Br.yes (decide_eq_true hb) ?_ | refine Br.yes (decide_eq_true h1) ?_ | refine Br.no (decide_eq_false h2) ?_ | refine plan_c p most hs ?_ | refine rplan_c p most hs ?_ | refine count_c p most hs ?_ | refine rcount_c p most hs ?_ | refine rsameL_c _ _ (Nat.le_trans (hsm most).hl (by decide)) (hsm most).hr ?_ | refine Br.yes (decide_eq_true e1) ?_ | refine Br.yes (decide_eq_true (congrArg Int.ofNat e2)) ?_ | refine Br.yes (decide_eq_true e3) ?_ | refine Br.yes (decide_eq_true c1) ?_ | refine Br.tt ?_ | refine Br.ff ?_ | refine Br.dec (fun h => ?_) (fun h => ?_) | refine Br.not ?_ | refine Br.intro (fun h => ?_) (fun h => ?_) | refine GetE.intro _ rfl ?_ | refine Need.intro rfl ?_ | refine DrawP.go mixed rfl ?_)
        conv => whnf
        exact FinP.drop (n := 0) rfl (Nat.le_refl 0) rfl rfl ⟨rfl, congrArg B (decide_eq_true c2)⟩
    · obtain ⟨c1, c2⟩ := count_eq most hs
      have e := plan_eq most hs
      have e1 : (planF p most).l = (rplanF p most).l := by rw [e]
      have e2 : (planF p most).sp = (rplanF p most).sp := by rw [e]
      have e3 : (planF p most).e = (rplanF p most).e := by rw [e]
      repeat' (conv => whnf
               first | refine psane_c ?_ | refine rfewP_c p (Nat.le_trans hp.hD (by decide)) ?_ | refine Br.yes (decide_eq_true hb) ?_ | refine Br.no (decide_eq_false h1) ?_ | refine plan_c p most hs ?_ | refine rplan_c p most hs ?_ | refine count_c p most hs ?_ | refine rcount_c p most hs ?_ | refine rsameL_c _ _ (Nat.le_trans (hsm most).hl (by decide)) (hsm most).hr ?_ | refine Br.yes (decide_eq_true e1) ?_ | refine Br.yes (decide_eq_true (congrArg Int.ofNat e2)) ?_ | refine Br.yes (decide_eq_true e3) ?_ | refine Br.yes (decide_eq_true c1) ?_ | refine Br.tt ?_ | refine Br.ff ?_ | refine Br.dec (fun h => ?_) (fun h => ?_) | refine Br.not ?_ | refine Br.intro (fun h => ?_) (fun h => ?_) | refine GetE.intro _ rfl ?_ | refine Need.intro rfl ?_ | refine DrawP.go mixed rfl ?_)
      conv => whnf
      exact FinP.drop (n := 0) rfl (Nat.le_refl 0) rfl rfl ⟨rfl, congrArg B (decide_eq_true c2)⟩
  · repeat' (conv => whnf
             first | refine psane_c ?_ | refine rfewP_c p (Nat.le_trans hp.hD (by decide)) ?_ | refine Br.no (decide_eq_false hb) ?_ | refine Br.tt ?_ | refine Br.ff ?_ | refine Br.dec (fun h => ?_) (fun h => ?_) | refine Br.not ?_ | refine Br.intro (fun h => ?_) (fun h => ?_) | refine GetE.intro _ rfl ?_ | refine Need.intro rfl ?_ | refine DrawP.go mixed rfl ?_)
    conv => whnf
    exact FinP.drop (n := 0) rfl (Nat.le_refl 0) rfl rfl ⟨rfl, rfl⟩
theorem call_closed : ∀ xss, TyA C.P Try.f4.params.toList xss → (∀ xs ∈ xss, ∀ y ∈ xs, Dsm reachBytes y) → CallP C 4 (argVs C.P Try.f4.params.toList xss) [] fun X L => L = [] ∧ X = .d (.bool true) := by
  intro xss h hsm
  match xss, h, hsm with
  | [x1, x2], ⟨h1, h2, _⟩, hsm =>
    obtain ⟨x1, rfl, b1⟩ := plT h1 (hsm _ (by simp))
    obtain ⟨x2, rfl, b2⟩ := intT h2 (hsm _ (by simp))
    exact law x1 x2 b1
set_option maxRecDepth 100000 in
theorem lifted (os : Os) (started : os.Started) (H : Type) (enc : TypeId × Value → H) :
    ReturnsInHanded {} Try.checked os 4 .any (Rows.plannerPlanSpecSpec.pre6 enc Try.prog Try.f4 Rows.plannerPlanSpecRow.domain false) (Rows.plannerPlanSpecSpec.post enc Try.prog Try.f4 false true false false) := by
  refine returnsInHanded_of_change_sized (C := Try.checked) own started (by kernel_rfl) Try.func4
    (ChangeSpec.witness6 (enc := enc) (C := Try.checked) false ⟨#[], #[.agg #[.slice none 0 0, .bool false, .slice none 0 0], .int .i64 0], []⟩ 8 (by kernel_rfl) (by kernel_rfl) (by kernel_rfl) (by kernel_rfl)) ?_
  intro W base args ds gs before hval hW _ hz _
  refine law_ofB (C := C) (l := plainTys) kids full plainOk bytesOk plainLt (fun t ht => ?_) rfl rfl Try.underlying4 (fun ds hd => ?_) call_closed hval hW hz
  · have : Try.f4.params.toList.all (fun t => plainTys.contains t) = true := by kernel_rfl
    simpa using List.all_eq_true.1 this t ht
  · match ds, hd with
    | [d1, d2], _ => rfl
theorem proved : Rows.PlannerPlanSpecSaid :=
  OpenClaim.holds_of_wide 4 Try.f4 rfl rfl rfl rfl rfl rfl rfl ⟨rfl, rfl, rfl, rfl, rfl⟩ rfl rfl rfl rfl rfl (by kernel_rfl) Try.func4 (by kernel_rfl)
    (of_decide_eq_true (by kernel_rfl)) (by unfold Func.isWrapper; first | (rw [if_pos (by decide +kernel)]; kernel_rfl) | (rw [if_neg (by decide +kernel)]; exact ⟨rfl, rfl⟩))
    (fun os started H enc _ => lifted os started H enc)
end Go.Proofs.Ytjknhbfcdjjbhaa.planSpec
