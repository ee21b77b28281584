/-
  The statement PlannerFewer: without its last demand there are at least as many lists.
-/
import Derived.Test.YtjknhbfcdjjbhaaDemT
import Derived.Test.YtjknhbfcdjjbhaaPlaM
namespace Go.Proofs.Ytjknhbfcdjjbhaa.fewerLaw
open Go.Tidy Go.ChangeShapes Go.WideShapes Go.ChangeAt Go.RowKit
set_option maxRecDepth 100000
set_option maxHeartbeats 0
set_option linter.unusedSimpArgs false
set_option linter.unusedVariables false
theorem check_e {L : List Blk} {k : V → List Blk → Prop} {p : Pl} (hs : Small [] p) (h : k (I (checkP p)) L) : CallP C 21 [plV p] L k := check_c p hs.hc hs.hd (Nat.le_trans hs.hD (by decide)) h
theorem fewer {p : Pl} {ds : List Dm} (h0 : checkP p = 0) (hx : checkP ⟨p.clubs, p.double, ds⟩ = 0) (hd : ∀ d ∈ ds, d ∈ p.demands) :
    (countE p 800 = 0 → countE ⟨p.clubs, p.double, ds⟩ 800 = 0 → countN p 800 ≤ countN ⟨p.clubs, p.double, ds⟩ 800) ∧ ((planF p 800).e = 0 → (planF ⟨p.clubs, p.double, ds⟩ 800).e ≠ 320) := by
  have hsub := fulls_sub (tr_fewer hx hd)
  obtain ⟨a1, a2⟩ := count_tr (most := 800) h0 (by decide) (by decide)
  obtain ⟨b1, b2⟩ := count_tr (most := 800) hx (by decide) (by decide)
  obtain ⟨c1, c2⟩ := plan_tr (most := 800) h0 (by decide) (by decide)
  obtain ⟨d1, d2⟩ := plan_tr (most := 800) hx (by decide) (by decide)
  refine ⟨fun he hf => ?_, fun hg hh => ?_⟩
  · have t1 : (ticks (trP p) : Int) ≤ 800 := by
      refine Int.not_lt.1 fun h => ?_
      rw [(a2 h).2] at he; cases he
    have t2 : (ticks (trP ⟨p.clubs, p.double, ds⟩) : Int) ≤ 800 := by
      refine Int.not_lt.1 fun h => ?_
      rw [(b2 h).2] at hf; cases hf
    rw [(a1 t1).1, (b1 t2).1]
    exact Int.ofNat_le.2 hsub.length_le
  · cases h1 : fulls (trP p) with
    | nil =>
      by_cases t1 : (ticks (trP p) : Int) ≤ 800
      · rw [(c1 h1).1 t1] at hg; cases hg
      · rw [(c1 h1).2 (by omega)] at hg; cases hg
    | cons x r =>
      cases h2 : fulls (trP ⟨p.clubs, p.double, ds⟩) with
      | nil => rw [h1, h2] at hsub; cases hsub
      | cons y s =>
        by_cases t1 : (firstAtE (trP ⟨p.clubs, p.double, ds⟩) : Int) ≤ 800
        · rw [(d2 y s h2).1 t1] at hh; cases hh
        · rw [(d2 y s h2).2 (by omega)] at hh; cases hh
theorem law (p : Pl) (hp : PlB p) : CallP C 5 [plV p] [] fun X L => L = [] ∧ X = .d (.bool true) := by
  refine callP_of C_ok Try.func5 rfl rfl (n := _) rfl (Nat.le_of_ble_eq_true rfl) (rs := _) rfl ?_
  by_cases hb : FewP p
  · have hs : Small [] p := few_nil hb
    have hD := hb.2.2
    by_cases hz : p.demands.length = 0
    · have hz' : ((p.demands.map Dm.cells).length : Int) = 0 := by rw [List.length_map]; omega
      repeat' (conv => whnf
               first | refine psane_c ?_ | refine rfewP_c p (Nat.le_trans hp.hD (by decide)) ?_ | refine Br.yes (decide_eq_true hb) ?_ | refine Br.yes (decide_eq_true hz') ?_ | refine Br.tt ?_ | refine Br.ff ?_ | refine Br.dec (fun h => ?_) (fun h => ?_) | refine Br.not ?_ | refine Br.intro (fun h => ?_) (fun h => ?_) | refine GetE.intro _ rfl ?_ | refine Need.intro rfl ?_ | refine DrawP.go mixed rfl ?_)
      conv => whnf
      exact FinP.drop (n := 0) rfl (Nat.le_refl 0) rfl rfl ⟨rfl, rfl⟩
    · have hz' : ¬ ((p.demands.map Dm.cells).length : Int) = 0 := by rw [List.length_map]; omega
      by_cases h0 : checkP p = 0
      · have hw : IntKind.i64.wrap (((p.demands.map Dm.cells).length : Int) - 1) = ((p.demands.length - 1 : Nat) : Int) := by rw [List.length_map, wrap_in (by omega)]; omega
        have hdl : ((p.demands.map Dm.cells).drop 0).take (p.demands.length - 1 - 0) = p.demands.dropLast.map Dm.cells := by rw [List.drop_zero, Nat.sub_zero, List.dropLast_eq_take, List.map_take]
        have hsub : ∀ d ∈ p.demands.dropLast, d ∈ p.demands := fun d hd => List.dropLast_subset _ hd
        have hx : checkP ⟨p.clubs, p.double, p.demands.dropLast⟩ = 0 := check_of h0 (by rw [List.length_dropLast]; omega) fun d hd => checkP_valid h0 d (hsub d hd)
        have hsx : Small [] ⟨p.clubs, p.double, p.demands.dropLast⟩ := ⟨hs.hl, hs.hr, hs.hc, fun d hd => hs.hd d (hsub d hd), by rw [List.length_dropLast]; have := hs.hD; omega⟩
        obtain ⟨H1, H2⟩ := fewer h0 hx hsub
        repeat' (conv => whnf
                 first | refine psane_c ?_ | refine rfewP_c p (Nat.le_trans hp.hD (by decide)) ?_ | refine Br.yes (decide_eq_true hb) ?_ | refine Br.no (decide_eq_false hz') ?_ | refine check_e hs ?_ | refine Br.yes (decide_eq_true h0) ?_ | refine Need.intro (fun e he => by obtain ⟨x, _, rfl⟩ := List.mem_map.1 he; rfl) ?_ | refine SliceP.intro 0 (p.demands.length - 1) rfl hw (Nat.zero_le _) (by rw [List.length_map]; exact Nat.sub_le _ _) ?_ | simp only [hdl] | refine count_c p 800 hs ?_ | refine count_c ⟨p.clubs, p.double, p.demands.dropLast⟩ 800 hsx ?_ | refine plan_c p 800 hs ?_ | refine plan_c ⟨p.clubs, p.double, p.demands.dropLast⟩ 800 hsx ?_ | refine Br.tt ?_ | refine Br.ff ?_ | refine Br.dec (fun h => ?_) (fun h => ?_) | refine Br.not ?_ | refine Br.intro (fun h => ?_) (fun h => ?_) | refine GetE.intro _ rfl ?_ | refine Need.intro rfl ?_ | refine DrawP.go mixed rfl ?_)
        all_goals conv => whnf
        all_goals first
        | (exfalso; have := H1 ‹_› ‹_›; omega)
        | (refine FinP.drop (n := 0) rfl (Nat.le_refl 0) rfl rfl ⟨rfl, congrArg B ?_⟩; first
          | rfl
          | (have h3 := H2 ‹_›; simp only [decide_eq_false h3, Bool.not_false]))
      · repeat' (conv => whnf
                 first | refine psane_c ?_ | refine rfewP_c p (Nat.le_trans hp.hD (by decide)) ?_ | refine Br.yes (decide_eq_true hb) ?_ | refine Br.no (decide_eq_false hz') ?_ | refine check_e hs ?_ | refine Br.no (decide_eq_false h0) ?_ | refine Br.tt ?_ | refine Br.ff ?_ | refine Br.dec (fun h => ?_) (fun h => ?_) | refine Br.not ?_ | refine Br.intro (fun h => ?_) (fun h => ?_) | refine GetE.intro _ rfl ?_ | refine Need.intro rfl ?_ | refine DrawP.go mixed rfl ?_)
        conv => whnf
        exact FinP.drop (n := 0) rfl (Nat.le_refl 0) rfl rfl ⟨rfl, rfl⟩
  · repeat' (conv => whnf
             first | refine psane_c ?_ | refine rfewP_c p (Nat.le_trans hp.hD (by decide)) ?_ | refine Br.no (decide_eq_false hb) ?_ | refine Br.tt ?_ | refine Br.ff ?_ | refine Br.dec (fun h => ?_) (fun h => ?_) | refine Br.not ?_ | refine Br.intro (fun h => ?_) (fun h => ?_) | refine GetE.intro _ rfl ?_ | refine Need.intro rfl ?_ | refine DrawP.go mixed rfl ?_)
    conv => whnf
    exact FinP.drop (n := 0) rfl (Nat.le_refl 0) rfl rfl ⟨rfl, rfl⟩
theorem call_closed : ∀ xss, TyA C.P Try.f5.params.toList xss → (∀ xs ∈ xss, ∀ y ∈ xs, Dsm reachBytes y) → CallP C 5 (argVs C.P Try.f5.params.toList xss) [] fun X L => L = [] ∧ X = .d (.bool true) := by
  intro xss h hsm
  match xss, h, hsm with
  | [x1], ⟨h1, _⟩, hsm =>
    obtain ⟨x1, rfl, b1⟩ := plT h1 (hsm _ (by simp))
    exact law x1 b1
set_option maxRecDepth 100000 in
theorem lifted (os : Os) (started : os.Started) (H : Type) (enc : TypeId × Value → H) :
    ReturnsInHanded {} Try.checked os 5 .any (Rows.plannerFewerSpec.pre6 enc Try.prog Try.f5 Rows.plannerFewerRow.domain false) (Rows.plannerFewerSpec.post enc Try.prog Try.f5 false true false false) := by
  refine returnsInHanded_of_change_sized (C := Try.checked) own started (by kernel_rfl) Try.func5
    (ChangeSpec.witness6 (enc := enc) (C := Try.checked) false ⟨#[], #[.agg #[.slice none 0 0, .bool false, .slice none 0 0]], []⟩ 8 (by kernel_rfl) (by kernel_rfl) (by kernel_rfl) (by kernel_rfl)) ?_
  intro W base args ds gs before hval hW _ hz _
  refine law_ofB (C := C) (l := plainTys) kids full plainOk bytesOk plainLt (fun t ht => ?_) rfl rfl Try.underlying4 (fun ds hd => ?_) call_closed hval hW hz
  · have : Try.f5.params.toList.all (fun t => plainTys.contains t) = true := by kernel_rfl
    simpa using List.all_eq_true.1 this t ht
  · match ds, hd with
    | [d1], _ => rfl
theorem proved : Rows.PlannerFewerSaid :=
  OpenClaim.holds_of_wide 5 Try.f5 rfl rfl rfl rfl rfl rfl rfl ⟨rfl, rfl, rfl, rfl, rfl⟩ rfl rfl rfl rfl rfl (by kernel_rfl) Try.func5 (by kernel_rfl)
    (of_decide_eq_true (by kernel_rfl)) (by unfold Func.isWrapper; first | (rw [if_pos (by decide +kernel)]; kernel_rfl) | (rw [if_neg (by decide +kernel)]; exact ⟨rfl, rfl⟩))
    (fun os started H enc _ => lifted os started H enc)
end Go.Proofs.Ytjknhbfcdjjbhaa.fewerLaw
