/-
  The statement DemandsGoesOn: what a beginning dooms the list dooms; no conditions.
-/
import Derived.Test.YtfhigmdfocbajaaDemT
import Derived.Test.YtfhigmdfocbajaaDemZ
namespace Go.Proofs.Ytfhigmdfocbajaa.goesOn
open Go.Tidy Go.ChangeShapes Go.WideShapes Go.ChangeAt Go.RowKit
set_option maxRecDepth 100000
set_option maxHeartbeats 0
set_option linter.unusedSimpArgs false
set_option linter.unusedVariables false
theorem wrap_u64 {n : Int} (h : 0 ≤ n ∧ n < 18446744073709551616) : IntKind.u64.wrap n = n := by
  have : IntKind.u64.wrap n = n % 18446744073709551616 := rfl
  rw [this, Int.emod_eq_of_lt h.1 h.2]
theorem uintT {xs : List D} (h : TyI C.P 45 xs) (_ : ∀ y ∈ xs, Dsm reachBytes y) : ∃ n : Int, xs = [.int .u64 n] ∧ 0 ≤ n := by
  obtain ⟨n, h, hw⟩ := h.intI Try.underlying45
  refine ⟨n, h, ?_⟩
  simp only [Lit.wf, Bool.and_eq_true, decide_eq_true_eq] at hw
  exact hw.1
theorem len6 (d : Dm) : ∀ e ∈ [d.cells], e.length = 6 := fun e he => by rw [List.mem_singleton.1 he]; rfl
theorem law (l : List (List Mt)) (p : Pl) (n m u : Int) (hl : l.length ≤ 140737488355328 ∧ ∀ r ∈ l, r.length ≤ 140737488355328) (hp : PlB p) (hu : 0 ≤ u) : CallP C 7 [lisV l, plV p, I n, I m, .d (.int .u64 u)] [] fun X L => L = [] ∧ X = .d (.bool true) := by
  have hfit : Fits l p := ⟨hl.1, hl.2, hp.hc, hp.hd, hp.hD⟩
  refine callP_of C_ok Try.func7 rfl rfl (n := _) rfl (Nat.le_of_ble_eq_true rfl) (rs := _) rfl ?_
  by_cases hb : bulkN l p ≤ 200
  · have hs := (small_of hb).toSmall
    have hsA := (cut_beg l n m).small hs
    by_cases hz : p.demands.length = 0
    · repeat' (conv => whnf
               first | refine sane_c ?_ | refine rfew_c l p hfit ?_ | refine Br.yes (decide_eq_true hb) ?_ | refine Br.yes (decide_eq_true (show ((p.demands.map Dm.cells).length : Int) = 0 by rw [List.length_map]; omega)) ?_ | refine Br.tt ?_ | refine Br.ff ?_ | refine Br.dec (fun h => ?_) (fun h => ?_) | refine Br.not ?_ | refine Br.intro (fun h => ?_) (fun h => ?_) | refine GetE.intro _ rfl ?_ | refine Need.intro rfl ?_ | refine DrawP.go mixed rfl ?_)
      all_goals conv => whnf
      all_goals exact FinP.drop (n := 0) rfl (Nat.le_refl 0) rfl rfl ⟨rfl, rfl⟩
    · have hz' : ¬ ((p.demands.map Dm.cells).length : Int) = 0 := by rw [List.length_map]; omega
      by_cases hE : dmE l p = 0
      · have hD := hs.hD
        have hw1 : IntKind.u64.wrap ((p.demands.map Dm.cells).length : Int) = (p.demands.length : Int) := by rw [List.length_map, wrap_u64 (by omega)]
        have hj : (u.tmod p.demands.length).toNat < p.demands.length := by
          have := Int.tmod_lt_of_pos u (show (0 : Int) < p.demands.length by omega)
          have := Int.tmod_nonneg p.demands.length hu
          omega
        obtain ⟨j, hjd⟩ : ∃ j, (u.tmod p.demands.length).toNat = j := ⟨_, rfl⟩
        rw [hjd] at hj
        have hd := List.getElem_mem hj
        obtain ⟨g1, g2, g3, g4, g5, g6⟩ := goes_on (cut_beg l n m) hs hE hd
        have hs1 := small_one hs hd
        have hsA1 := small_one hsA hd
        obtain ⟨a1, ha1⟩ : ∃ a, dmA l p = a := ⟨_, rfl⟩
        obtain ⟨a2, ha2⟩ : ∃ a, dmA (cutF l n m) p = a := ⟨_, rfl⟩
        obtain ⟨a3, ha3⟩ : ∃ a, dmA l (oneP p p.demands[j]) = a := ⟨_, rfl⟩
        obtain ⟨a4, ha4⟩ : ∃ a, dmA (cutF l n m) (oneP p p.demands[j]) = a := ⟨_, rfl⟩
        rw [ha1, ha2] at g4
        rw [ha3, ha4] at g5
        rw [ha1, ha3] at g6
        have hix : IntKind.i64.wrap (u.tmod (IntKind.u64.wrap ((p.demands.map Dm.cells).length : Int))) = (j : Int) := by
          have := Int.tmod_nonneg p.demands.length hu
          rw [hw1, wrap_in (by omega)]; omega
        repeat' (conv => whnf
                 first | refine sane_c ?_ | refine rfew_c l p hfit ?_ | refine Br.yes (decide_eq_true hb) ?_ | refine Br.no (decide_eq_false hz') ?_ | refine Need.intro (show IntKind.u64.wrap ((p.demands.map Dm.cells).length : Int) ≠ 0 by rw [hw1]; omega) ?_ | refine Idx.map j hix hj ?_ | refine dmd_e hs ha1 hE ?_ | refine QCall.intro _ (cut_c l n m hs.hl hs.hr ⟨rfl, rfl⟩) ?_ | refine QCall.intro _ (dmd_e hsA ha2 g1 ⟨rfl, rfl⟩) ?_ | refine cut_c l n m hs.hl hs.hr ?_ | refine dmd_e hsA ha2 g1 ?_ | refine Br.dec (fun hc => ?_) (fun hc => ?_) | refine Br.tt ?_ | refine Br.ff ?_ | refine Br.dec (fun h => ?_) (fun h => ?_) | refine Br.not ?_ | refine Br.intro (fun h => ?_) (fun h => ?_) | refine GetE.intro _ rfl ?_ | refine Need.intro rfl ?_ | refine DrawP.go mixed rfl ?_)
        all_goals conv => whnf
        · exact absurd ⟨by assumption, .inl hc⟩ g4
        · exact absurd ⟨by assumption, .inr hc⟩ g4
        all_goals
          repeat' (conv => whnf
                   first | refine CallP.lent (dmd_e hs1 ha3 g2 ⟨rfl, rfl⟩) (.keep (.cv (y := plV (oneP p p.demands[j])) (.aggL (.cons (.d _) (.cons (.d _) (.cons (.rowL (ds := [p.demands[j].cells]) trivial rfl (.cons (.data p.demands[j].cells) .nil) rfl (by exact len6 p.demands[j])) .nil)))) .nil)) rfl rfl ?_ | refine QCall.intro _ (cut_c l n m hs.hl hs.hr ⟨rfl, rfl⟩) ?_ | refine QCall.intro _ (CallP.lent (dmd_e hsA1 ha4 g3 ⟨rfl, rfl⟩) (.keep (.cv (y := plV (oneP p p.demands[j])) (.aggL (.cons (.d _) (.cons (.d _) (.cons (.rowL (ds := [p.demands[j].cells]) trivial rfl (.cons (.data p.demands[j].cells) .nil) rfl (by exact len6 p.demands[j])) .nil)))) .nil)) rfl rfl ⟨rfl, rfl⟩) ?_ | refine Br.dec (fun hc => ?_) (fun hc => ?_) | refine Br.tt ?_ | refine Br.ff ?_ | refine Br.dec (fun h => ?_) (fun h => ?_) | refine Br.not ?_ | refine Br.intro (fun h => ?_) (fun h => ?_) | refine GetE.intro _ rfl ?_ | refine Need.intro rfl ?_ | refine DrawP.go mixed rfl ?_)
        all_goals conv => whnf
        all_goals first
          | (exfalso; omega)
          | exact FinP.drop (n := 0) rfl (Nat.le_refl 0) rfl rfl ⟨rfl, rfl⟩
          | exact FinP.drop (n := 0) rfl (Nat.le_refl 0) rfl rfl ⟨rfl, congrArg B (decide_eq_true (by omega))⟩
      · repeat' (conv => whnf
                 first | refine sane_c ?_ | refine rfew_c l p hfit ?_ | refine Br.yes (decide_eq_true hb) ?_ | refine Br.no (decide_eq_false hz') ?_ | refine dmd_c l p hs ?_ | refine QCall.intro _ (cut_c l n m hs.hl hs.hr ⟨rfl, rfl⟩) ?_ | refine QCall.intro _ (dmd_c _ p hsA ⟨rfl, rfl⟩) ?_ | refine cut_c l n m hs.hl hs.hr ?_ | refine dmd_c _ p hsA ?_ | refine Br.no (decide_eq_false hE) ?_ | refine Br.tt ?_ | refine Br.ff ?_ | refine Br.dec (fun h => ?_) (fun h => ?_) | refine Br.not ?_ | refine Br.intro (fun h => ?_) (fun h => ?_) | refine GetE.intro _ rfl ?_ | refine Need.intro rfl ?_ | refine DrawP.go mixed rfl ?_)
        all_goals conv => whnf
        all_goals exact FinP.drop (n := 0) rfl (Nat.le_refl 0) rfl rfl ⟨rfl, congrArg B (decide_eq_true (dmA_ne hE))⟩
  · repeat' (conv => whnf
             first | refine sane_c ?_ | refine rfew_c l p hfit ?_ | refine Br.no (decide_eq_false hb) ?_ | refine Br.tt ?_ | refine Br.ff ?_ | refine Br.dec (fun h => ?_) (fun h => ?_) | refine Br.not ?_ | refine Br.intro (fun h => ?_) (fun h => ?_) | refine GetE.intro _ rfl ?_ | refine Need.intro rfl ?_ | refine DrawP.go mixed rfl ?_)
    all_goals conv => whnf
    all_goals exact FinP.drop (n := 0) rfl (Nat.le_refl 0) rfl rfl ⟨rfl, rfl⟩
theorem call_closed : ∀ xss, TyA C.P Try.f7.params.toList xss → (∀ xs ∈ xss, ∀ y ∈ xs, Dsm reachBytes y) → CallP C 7 (argVs C.P Try.f7.params.toList xss) [] fun X L => L = [] ∧ X = .d (.bool true) := by
  intro xss h hsm
  match xss, h, hsm with
  | [x1, x2, x3, x4, x5], ⟨h1, h2, h3, h4, h5, _⟩, hsm =>
    obtain ⟨x1, rfl, b1⟩ := lisT h1 (hsm _ (by simp))
    obtain ⟨x2, rfl, b2⟩ := plT h2 (hsm _ (by simp))
    obtain ⟨x3, rfl, b3⟩ := intT h3 (hsm _ (by simp))
    obtain ⟨x4, rfl, b4⟩ := intT h4 (hsm _ (by simp))
    obtain ⟨x5, rfl, b5⟩ := uintT h5 (hsm _ (by simp))
    exact law x1 x2 x3 x4 x5 b1 b2 b5
set_option maxRecDepth 100000 in
theorem lifted (os : Os) (started : os.Started) (H : Type) (enc : TypeId × Value → H) :
    ReturnsInHanded {} Try.checked os 7 .any (Rows.demandsGoesOnSpec.pre6 enc Try.prog Try.f7 Rows.demandsGoesOnRow.domain false) (Rows.demandsGoesOnSpec.post enc Try.prog Try.f7 false true false false) := by
  refine returnsInHanded_of_change_sized (C := Try.checked) own started (by kernel_rfl) Try.func7
    (ChangeSpec.witness6 (enc := enc) (C := Try.checked) false ⟨#[], #[.agg #[.slice none 0 0], .agg #[.slice none 0 0, .bool false, .slice none 0 0], .int .i64 0, .int .i64 0, .int .u64 0], []⟩ 8 (by kernel_rfl) (by kernel_rfl) (by kernel_rfl) (by kernel_rfl)) ?_
  intro W base args ds gs before hval hW _ hz _
  refine law_ofB (C := C) (l := plainTys) kids full plainOk bytesOk plainLt (fun t ht => ?_) rfl rfl Try.underlying4 (fun ds hd => ?_) call_closed hval hW hz
  · have : Try.f7.params.toList.all (fun t => plainTys.contains t) = true := by kernel_rfl
    simpa using List.all_eq_true.1 this t ht
  · match ds, hd with
    | [d1, d2, d3, d4, d5], _ => rfl
theorem proved : Rows.DemandsGoesOnSaid :=
  OpenClaim.holds_of_wide 7 Try.f7 rfl rfl rfl rfl rfl rfl rfl ⟨rfl, rfl, rfl, rfl, rfl⟩ rfl rfl rfl rfl rfl (by kernel_rfl) Try.func7 (by kernel_rfl)
    (of_decide_eq_true (by kernel_rfl)) (by unfold Func.isWrapper; first | (rw [if_pos (by decide +kernel)]; kernel_rfl) | (rw [if_neg (by decide +kernel)]; exact ⟨rfl, rfl⟩))
    (fun os started H enc _ => lifted os started H enc)
end Go.Proofs.Ytfhigmdfocbajaa.goesOn
