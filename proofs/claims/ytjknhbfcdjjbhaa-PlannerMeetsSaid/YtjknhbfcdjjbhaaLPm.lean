/-
  The statement PlannerMeets: a list that Plan returns is full and meets all demands.
-/
import Derived.Test.YtjknhbfcdjjbhaaDemT
import Derived.Test.YtjknhbfcdjjbhaaPlaM
namespace Go.Proofs.Ytjknhbfcdjjbhaa.meetsLaw
open Go.Tidy Go.ChangeShapes Go.WideShapes Go.ChangeAt Go.RowKit
set_option maxRecDepth 100000
set_option maxHeartbeats 0
set_option linter.unusedSimpArgs false
set_option linter.unusedVariables false
theorem full_e {L : List Blk} {k : V → List Blk → Prop} {l : List (List Mt)} {p : Pl} (hs : Small l p) (h0 : checkP p = 0) (hF : FullP l p) (h : k (.tup [B true, I 0]) L) : CallP C 22 [lisV l, .d (ints p.clubs), B p.double] L k := ffull_c l p.clubs p.double hs.hl hs.hr hs.hc (by
  rw [full_fullB h0 hF, full_fixE h0 hF]; exact h)
theorem check_e {L : List Blk} {k : V → List Blk → Prop} {p : Pl} (hs : Small [] p) (h : k (I (checkP p)) L) : CallP C 21 [plV p] L k := check_c p hs.hc hs.hd (Nat.le_trans hs.hD (by decide)) h
theorem holds_e {L : List Blk} {k : V → List Blk → Prop} {l : Lst} {p : Pl} {d : Dm} (hs : Small l p) (hd : d.clubs.length ≤ 4611686018427387904) (hh : holdsF l d = true) (h : k (B true) L) : CallP C 25 [lisV l, dmV d] L k := holds_c l d hs.hl hs.hr hd (by rw [hh]; exact h)
theorem law (p : Pl) (hp : PlB p) : CallP C 9 [plV p] [] fun X L => L = [] ∧ X = .d (.bool true) := by
  refine callP_of C_ok Try.func9 rfl rfl (n := _) rfl (Nat.le_of_ble_eq_true rfl) (rs := _) rfl ?_
  by_cases hb : FewP p
  · have hs : Small [] p := few_nil hb
    have hD := hb.2.2
    by_cases h0 : checkP p = 0
    · obtain ⟨c1, c2⟩ := count_tr (most := 800) h0 (by decide) (by decide)
      obtain ⟨p1, p2⟩ := plan_tr (most := 800) h0 (by decide) (by decide)
      cases hT : fulls (trP p) with
      | nil =>
        by_cases ht : (ticks (trP p) : Int) ≤ 800
        · have e1 := (p1 hT).1 ht
          obtain ⟨e2, e3⟩ := c1 ht
          rw [hT] at e2
          repeat' (conv => whnf
                   first | refine psane_c ?_ | refine rfewP_c p (Nat.le_trans hp.hD (by decide)) ?_ | refine Br.yes (decide_eq_true hb) ?_ | refine check_e hs ?_ | refine Br.yes (decide_eq_true h0) ?_ | refine plan_e hs e1 ?_ | refine count_e hs e2 e3 ?_ | refine Br.tt ?_ | refine Br.ff ?_ | refine Br.dec (fun h => ?_) (fun h => ?_) | refine Br.not ?_ | refine Br.intro (fun h => ?_) (fun h => ?_) | refine GetE.intro _ rfl ?_ | refine Need.intro rfl ?_ | refine DrawP.go mixed rfl ?_)
          conv => whnf
          exact FinP.drop (n := 0) rfl (Nat.le_refl 0) rfl rfl ⟨rfl, rfl⟩
        · have e1 := (p1 hT).2 (by omega)
          obtain ⟨e2, e3⟩ := c2 (by omega)
          repeat' (conv => whnf
                   first | refine psane_c ?_ | refine rfewP_c p (Nat.le_trans hp.hD (by decide)) ?_ | refine Br.yes (decide_eq_true hb) ?_ | refine check_e hs ?_ | refine Br.yes (decide_eq_true h0) ?_ | refine plan_e hs e1 ?_ | refine count_e hs e2 e3 ?_ | refine Br.tt ?_ | refine Br.ff ?_ | refine Br.dec (fun h => ?_) (fun h => ?_) | refine Br.not ?_ | refine Br.intro (fun h => ?_) (fun h => ?_) | refine GetE.intro _ rfl ?_ | refine Need.intro rfl ?_ | refine DrawP.go mixed rfl ?_)
          conv => whnf
          exact FinP.drop (n := 0) rfl (Nat.le_refl 0) rfl rfl ⟨rfl, rfl⟩
      | cons x r =>
        have hj := first_le (trP p)
        have hj1 := trP_first p x r hT
        obtain ⟨n, f, e2, e3, hnf⟩ : ∃ n f : Int, countN p 800 = n ∧ countE p 800 = f ∧ (f = 3 ∨ (f = 0 ∧ 1 ≤ n)) := by
          refine ⟨_, _, rfl, rfl, ?_⟩
          by_cases ht : (ticks (trP p) : Int) ≤ 800
          · obtain ⟨a, b⟩ := c1 ht
            rw [hT] at a
            exact .inr ⟨b, by rw [a, List.length_cons]; omega⟩
          · exact .inl (c2 (by omega)).2
        by_cases ht : (firstAtE (trP p) : Int) ≤ 800
        · have e1 := (p2 x r hT).1 ht
          have hxm : x ∈ fulls (trP p) := by rw [hT]; exact List.mem_cons_self ..
          have hsx := fulls_small hs hxm
          obtain ⟨hFx, hdx⟩ := fulls_mem hxm
          obtain ⟨b1, b2⟩ := fulls_brk hxm
          have hhd := fun d hd => fulls_holds hs hxm (d := d) hd
          generalize firstAtE (trP p) = j at e1 ht hj1
          have g1 : ¬ (j : Int) < 1 := by omega
          have g2 : ¬ (800 : Int) < (j : Int) := by omega
          repeat' (conv => whnf
                   first | refine psane_c ?_ | refine rfewP_c p (Nat.le_trans hp.hD (by decide)) ?_ | refine Br.yes (decide_eq_true hb) ?_ | refine check_e hs ?_ | refine Br.yes (decide_eq_true h0) ?_ | refine plan_e hs e1 ?_ | refine count_e hs e2 e3 ?_ | refine full_e hsx h0 hFx ?_ | refine brk_e hsx b2 b1 ?_ | refine Br.no (decide_eq_false g1) ?_ | refine Br.no (decide_eq_false g2) ?_ | refine Br.tt ?_ | refine Br.ff ?_ | refine Br.dec (fun h => ?_) (fun h => ?_) | refine Br.not ?_ | refine Br.intro (fun h => ?_) (fun h => ?_) | refine GetE.intro _ rfl ?_ | refine Need.intro rfl ?_ | refine DrawP.go mixed rfl ?_)
          conv => whnf
          refine LoopP.inv (fun i => i ≤ p.demands.length) (fun i => ⟨[(1, .ptr 0 0), (2, B false), (3, .ptr 1 0), (6, I n), (7, I f), (101, .d (.sl (p.demands.map Dm.cells))), (102, I p.demands.length), (103, I i)], Try.f9.ntmps, [.cells (p.cells.map .d), .cells [.d (lisD x)]], [], none⟩) (fun i => p.demands.length - i) 0 (Nat.zero_le _) ?_ ?_
          · exact Weak.by ⟨rfl, rfl, rfl, rfl, rfl, rfl, congrArg (fun n : Nat => I n) (List.length_map ..), rfl, trivial⟩
          intro i hi
          by_cases hi' : i < p.demands.length
          · have hlt : (i : Int) < (p.demands.length : Int) := by omega
            have hw : IntKind.i64.wrap ((i : Int) + 1) = ((i + 1 : Nat) : Int) := by rw [wrap_in (by omega)]; omega
            have r1 : (p.demands.map Dm.cells)[i]? = some (p.demands[i]).cells := by rw [List.getElem?_map, List.getElem?_eq_getElem hi']; rfl
            have hdi := hs.hd _ (List.getElem_mem hi')
            have hh := hhd _ (List.getElem_mem hi')
            repeat' (conv => whnf
                     first | refine Br.yes (decide_eq_true hlt) ?_ | refine Idx.intro i _ rfl r1 ?_ | refine holds_e hsx hdi hh ?_ | refine Br.tt ?_ | refine Br.ff ?_ | refine Br.dec (fun h => ?_) (fun h => ?_) | refine Br.not ?_ | refine Br.intro (fun h => ?_) (fun h => ?_) | refine GetE.intro _ rfl ?_ | refine Need.intro rfl ?_ | refine DrawP.go mixed rfl ?_)
            conv => whnf
            exact ⟨i + 1, hi', by omega, Weak.to 2 rfl (Nat.zero_le _) (Nat.le_of_ble_eq_true rfl) ⟨rfl, rfl, rfl, rfl, rfl, rfl, rfl, congrArg I hw, trivial⟩⟩
          · have hlt : ¬ (i : Int) < (p.demands.length : Int) := by omega
            rcases hnf with rfl | ⟨rfl, hn⟩
            · repeat' (conv => whnf
                       first | refine Br.no (decide_eq_false hlt) ?_ | refine Br.tt ?_ | refine Br.ff ?_ | refine Br.dec (fun h => ?_) (fun h => ?_) | refine Br.not ?_ | refine Br.intro (fun h => ?_) (fun h => ?_) | refine GetE.intro _ rfl ?_ | refine Need.intro rfl ?_ | refine DrawP.go mixed rfl ?_)
              conv => whnf
              exact FinP.drop (n := 0) rfl (Nat.le_refl 0) rfl rfl ⟨rfl, rfl⟩
            · repeat' (conv => whnf
                       first | refine Br.no (decide_eq_false hlt) ?_ | refine Br.yes (decide_eq_true hn) ?_ | refine Br.tt ?_ | refine Br.ff ?_ | refine Br.dec (fun h => ?_) (fun h => ?_) | refine Br.not ?_ | refine Br.intro (fun h => ?_) (fun h => ?_) | refine GetE.intro _ rfl ?_ | refine Need.intro rfl ?_ | refine DrawP.go mixed rfl ?_)
              conv => whnf
              exact FinP.drop (n := 0) rfl (Nat.le_refl 0) rfl rfl ⟨rfl, congrArg B (decide_eq_true hn)⟩
        · have e1 := (p2 x r hT).2 (by omega)
          have e4 := (c2 (by omega)).2
          have e5 := (c2 (by omega)).1
          repeat' (conv => whnf
                   first | refine psane_c ?_ | refine rfewP_c p (Nat.le_trans hp.hD (by decide)) ?_ | refine Br.yes (decide_eq_true hb) ?_ | refine check_e hs ?_ | refine Br.yes (decide_eq_true h0) ?_ | refine plan_e hs e1 ?_ | refine count_e hs e5 e4 ?_ | refine Br.tt ?_ | refine Br.ff ?_ | refine Br.dec (fun h => ?_) (fun h => ?_) | refine Br.not ?_ | refine Br.intro (fun h => ?_) (fun h => ?_) | refine GetE.intro _ rfl ?_ | refine Need.intro rfl ?_ | refine DrawP.go mixed rfl ?_)
          conv => whnf
          exact FinP.drop (n := 0) rfl (Nat.le_refl 0) rfl rfl ⟨rfl, rfl⟩
    · repeat' (conv => whnf
               first | refine psane_c ?_ | refine rfewP_c p (Nat.le_trans hp.hD (by decide)) ?_ | refine Br.yes (decide_eq_true hb) ?_ | refine check_e hs ?_ | refine Br.no (decide_eq_false h0) ?_ | refine Br.tt ?_ | refine Br.ff ?_ | refine Br.dec (fun h => ?_) (fun h => ?_) | refine Br.not ?_ | refine Br.intro (fun h => ?_) (fun h => ?_) | refine GetE.intro _ rfl ?_ | refine Need.intro rfl ?_ | refine DrawP.go mixed rfl ?_)
      conv => whnf
      exact FinP.drop (n := 0) rfl (Nat.le_refl 0) rfl rfl ⟨rfl, rfl⟩
  · repeat' (conv => whnf
             first | refine psane_c ?_ | refine rfewP_c p (Nat.le_trans hp.hD (by decide)) ?_ | refine Br.no (decide_eq_false hb) ?_ | refine Br.tt ?_ | refine Br.ff ?_ | refine Br.dec (fun h => ?_) (fun h => ?_) | refine Br.not ?_ | refine Br.intro (fun h => ?_) (fun h => ?_) | refine GetE.intro _ rfl ?_ | refine Need.intro rfl ?_ | refine DrawP.go mixed rfl ?_)
    conv => whnf
    exact FinP.drop (n := 0) rfl (Nat.le_refl 0) rfl rfl ⟨rfl, rfl⟩
theorem call_closed : ∀ xss, TyA C.P Try.f9.params.toList xss → (∀ xs ∈ xss, ∀ y ∈ xs, Dsm reachBytes y) → CallP C 9 (argVs C.P Try.f9.params.toList xss) [] fun X L => L = [] ∧ X = .d (.bool true) := by
  intro xss h hsm
  match xss, h, hsm with
  | [x1], ⟨h1, _⟩, hsm =>
    obtain ⟨x1, rfl, b1⟩ := plT h1 (hsm _ (by simp))
    exact law x1 b1
set_option maxRecDepth 100000 in
theorem lifted (os : Os) (started : os.Started) (H : Type) (enc : TypeId × Value → H) :
    ReturnsInHanded {} Try.checked os 9 .any (Rows.plannerMeetsSpec.pre6 enc Try.prog Try.f9 Rows.plannerMeetsRow.domain false) (Rows.plannerMeetsSpec.post enc Try.prog Try.f9 false true false false) := by
  refine returnsInHanded_of_change_sized (C := Try.checked) own started (by kernel_rfl) Try.func9
    (ChangeSpec.witness6 (enc := enc) (C := Try.checked) false ⟨#[], #[.agg #[.slice none 0 0, .bool false, .slice none 0 0]], []⟩ 8 (by kernel_rfl) (by kernel_rfl) (by kernel_rfl) (by kernel_rfl)) ?_
  intro W base args ds gs before hval hW _ hz _
  refine law_ofB (C := C) (l := plainTys) kids full plainOk bytesOk plainLt (fun t ht => ?_) rfl rfl Try.underlying4 (fun ds hd => ?_) call_closed hval hW hz
  · have : Try.f9.params.toList.all (fun t => plainTys.contains t) = true := by kernel_rfl
    simpa using List.all_eq_true.1 this t ht
  · match ds, hd with
    | [d1], _ => rfl
theorem proved : Rows.PlannerMeetsSaid :=
  OpenClaim.holds_of_wide 9 Try.f9 rfl rfl rfl rfl rfl rfl rfl ⟨rfl, rfl, rfl, rfl, rfl⟩ rfl rfl rfl rfl rfl (by kernel_rfl) Try.func9 (by kernel_rfl)
    (of_decide_eq_true (by kernel_rfl)) (by unfold Func.isWrapper; first | (rw [if_pos (by decide +kernel)]; kernel_rfl) | (rw [if_neg (by decide +kernel)]; exact ⟨rfl, rfl⟩))
    (fun os started H enc _ => lifted os started H enc)
end Go.Proofs.Ytjknhbfcdjjbhaa.meetsLaw
