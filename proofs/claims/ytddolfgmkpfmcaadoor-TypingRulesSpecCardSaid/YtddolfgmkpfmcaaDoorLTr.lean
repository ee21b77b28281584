/-
  The statement TypingRulesSpec.
-/
import Derived.Test.YtddolfgmkpfmcaaDoorTypT
namespace Go.Proofs.YtddolfgmkpfmcaaDoor.typingRulesSpec
open Go.Tidy Go.ChangeShapes Go.WideShapes Go.ChangeAt Go.RowKit
set_option maxRecDepth 100000
set_option maxHeartbeats 0
set_option linter.unusedSimpArgs false
set_option linter.unusedVariables false
open Classical in
theorem rules_eq (r : Ru) : rulesF r = rrulesF r := by unfold rulesF rrulesF; rw [order_eq]
theorem law (r : Ru) (c : Co) (hr : LRu r) (hc : LCo c) : CallP C 3 [.agg (r.cells.map .d), .agg (c.cells.map .d)] [] fun X L => L = [] ∧ X = .d (.bool true) := by
  have f1 : ∀ {L : List Blk} {k : V → List Blk → Prop}, k (B (fewB r.order)) L → CallP C 11 [.d (sps r.order)] L k := fun h => few_c _ hr.order h
  have f2 : ∀ {L : List Blk} {k : V → List Blk → Prop}, k (B (fewC c)) L → CallP C 12 [.agg (c.cells.map .d)] L k := fun h => fewc_c _ hc h
  have f3 : ∀ {L : List Blk} {k : V → List Blk → Prop}, k (I (rulesF r)) L → CallP C 13 [.agg (r.cells.map .d)] L k := fun h => rules_c r hr h
  have f4 : ∀ {L : List Blk} {k : V → List Blk → Prop}, k (I (rulesF r)) L → CallP C 14 [.agg (r.cells.map .d)] L k := fun h => rrules_c r hr (by rw [← rules_eq]; exact h)
  have f5 : ∀ {L : List Blk} {k : V → List Blk → Prop}, k (I (orderF r.order)) L → CallP C 15 [.d (sps r.order)] L k := fun h => order_c _ hr.order h
  have f6 : ∀ {L : List Blk} {k : V → List Blk → Prop}, k (I (orderF r.order)) L → CallP C 16 [.d (sps r.order)] L k := fun h => rorder_c _ hr.order (by rw [← order_eq]; exact h)
  have f7 : ∀ {L : List Blk} {k : V → List Blk → Prop}, k (I (rcondF c)) L → CallP C 17 [.agg (c.cells.map .d)] L k := fun h => cond_c c hc (by rw [cond_eq]; exact h)
  have f8 : ∀ {L : List Blk} {k : V → List Blk → Prop}, k (I (rcondF c)) L → CallP C 18 [.agg (c.cells.map .d)] L k := fun h => rcond_c c hc h
  obtain ⟨nm, win, draw, loss, ord, zs⟩ := r
  simp only at f1 f5 f6
  rw [Co.cells_eq] at f2 f7 f8 ⊢
  generalize orderF ord = oo at *
  generalize rulesF ⟨nm, win, draw, loss, ord, zs⟩ = rr at *
  generalize rcondF c = cc at *
  refine callP_of C_ok Tryd.func3 rfl rfl (n := _) rfl (Nat.le_of_ble_eq_true rfl) (rs := _) rfl ?_
  cases h1 : fewB ord with
  | false =>
    rw [h1] at f1
    repeat' (conv => whnf
             first | refine Br.tt ?_ | refine Br.ff ?_ | refine Br.dec (fun h => ?_) (fun h => ?_) | refine Br.not ?_ | refine Br.intro (fun h => ?_) (fun h => ?_) | refine GetE.intro _ rfl ?_ | refine Need.intro rfl ?_ | refine DrawP.go mixed rfl ?_ | refine sane_c ?_ | refine f1 ?_)
    conv => whnf
    exact FinP.drop (n := 0) rfl (Nat.le_refl 0) rfl rfl ⟨rfl, rfl⟩
  | true =>
  rw [h1] at f1
  cases h2 : fewC c with
  | false =>
    rw [h2] at f2
    repeat' (conv => whnf
             first | refine Br.tt ?_ | refine Br.ff ?_ | refine Br.dec (fun h => ?_) (fun h => ?_) | refine Br.not ?_ | refine Br.intro (fun h => ?_) (fun h => ?_) | refine GetE.intro _ rfl ?_ | refine Need.intro rfl ?_ | refine DrawP.go mixed rfl ?_ | refine sane_c ?_ | refine f1 ?_ | refine f2 ?_)
    conv => whnf
    exact FinP.drop (n := 0) rfl (Nat.le_refl 0) rfl rfl ⟨rfl, rfl⟩
  | true =>
  rw [h2] at f2
  by_cases h3 : (100 : Int) < (nm.size : Int)
  · repeat' (conv => whnf
             first | refine Br.yes (decide_eq_true h3) ?_ | refine Br.tt ?_ | refine Br.ff ?_ | refine Br.dec (fun h => ?_) (fun h => ?_) | refine Br.not ?_ | refine Br.intro (fun h => ?_) (fun h => ?_) | refine GetE.intro _ rfl ?_ | refine Need.intro rfl ?_ | refine DrawP.go mixed rfl ?_ | refine sane_c ?_ | refine f1 ?_ | refine f2 ?_)
    conv => whnf
    exact FinP.drop (n := 0) rfl (Nat.le_refl 0) rfl rfl ⟨rfl, rfl⟩
  by_cases h4 : (40 : Int) < ((zs.map Zn.cells).length : Int)
  · repeat' (conv => whnf
             first | refine Br.no (decide_eq_false h3) ?_ | refine Br.yes (decide_eq_true h4) ?_ | refine Br.tt ?_ | refine Br.ff ?_ | refine Br.dec (fun h => ?_) (fun h => ?_) | refine Br.not ?_ | refine Br.intro (fun h => ?_) (fun h => ?_) | refine GetE.intro _ rfl ?_ | refine Need.intro rfl ?_ | refine DrawP.go mixed rfl ?_ | refine sane_c ?_ | refine f1 ?_ | refine f2 ?_)
    conv => whnf
    exact FinP.drop (n := 0) rfl (Nat.le_refl 0) rfl rfl ⟨rfl, rfl⟩
  have q1 : decide (rr = rr) = true := decide_eq_true rfl
  have q2 : decide (oo = oo) = true := decide_eq_true rfl
  have q3 : decide (cc = cc) = true := decide_eq_true rfl
  repeat' (conv => whnf
           first | refine Br.no (decide_eq_false h3) ?_ | refine Br.no (decide_eq_false h4) ?_ | refine Br.yes q1 ?_ | refine Br.yes q2 ?_ | refine Br.yes q3 ?_ | refine Br.tt ?_ | refine Br.ff ?_ | refine Br.dec (fun h => ?_) (fun h => ?_) | refine Br.not ?_ | refine Br.intro (fun h => ?_) (fun h => ?_) | refine GetE.intro _ rfl ?_ | refine Need.intro rfl ?_ | refine DrawP.go mixed rfl ?_ | refine sane_c ?_ | refine f1 ?_ | refine f2 ?_ | refine QCall.intro _ (f3 ⟨rfl, rfl⟩) ?_ | refine QCall.intro _ (f4 ⟨rfl, rfl⟩) ?_ | refine QCall.intro _ (f5 ⟨rfl, rfl⟩) ?_ | refine QCall.intro _ (f6 ⟨rfl, rfl⟩) ?_ | refine QCall.intro _ (f7 ⟨rfl, rfl⟩) ?_ | refine QCall.intro _ (f8 ⟨rfl, rfl⟩) ?_)
  conv => whnf
  exact FinP.drop (n := 0) rfl (Nat.le_refl 0) rfl rfl ⟨rfl, Eq.trans (b := B (decide (cc = cc))) rfl (congrArg B q3)⟩
theorem call_closed : ∀ xss, TyA C.P Tryd.f3.params.toList xss → (∀ xs ∈ xss, ∀ y ∈ xs, Dsm reachBytes y) → CallP C 3 (argVs C.P Tryd.f3.params.toList xss) [] fun X L => L = [] ∧ X = .d (.bool true) := by
  intro xss h hsm
  match xss, h, hsm with
  | [x1, x2], ⟨h1, h2, _⟩, hsm =>
    obtain ⟨x1, rfl, b1⟩ := rulesT h1 (hsm _ (by simp))
    obtain ⟨x2, rfl, b2⟩ := condT h2 (hsm _ (by simp))
    exact law x1 x2 b1 b2
theorem contract (H : Type) (enc : TypeId × Value → H) (W : World) (base : Nat) (args : Array Value) (ds gs : List (DataW H)) (before : List MemPlace)
    (hval : ∀ (j : Nat) t v, Tryd.f3.params[j]? = some t → args[j]? = some v → Value.okWide Tryd.prog W .any base t v)
    (hW : DataW.Whole enc Tryd.prog Tryd.f3.params.toList Rows.typingRulesSpecSpec.vars false W args.toList ds gs before)
    (hz : (DataW.weightsEach Tryd.prog (Tryd.f3.params.toList ++ Rows.typingRulesSpecSpec.plain.varTypes Tryd.prog) (ds ++ gs)).all (· ≤ reachBytes) = true) (hL : laidMetH Tryd.prog Rows.typingRulesSpecRow.laid W) :
    Calls Tryd.prog 3 args W fun e W' => ∃ v, e = .returned v ∧ Rows.typingRulesSpecSpec.post enc Tryd.prog Tryd.f3 false true false false W args v W' := by
  refine law_ofB (C := C) (l := plainTys) kids full plainOk bytesOk plainLt (fun t ht => ?_) rfl rfl Tryd.underlying4 (fun ds hd => ?_) call_closed hval hW hz (glob_ok hL)
  · have : Tryd.f3.params.toList.all (fun t => plainTys.contains t) = true := by kernel_rfl
    simpa using List.all_eq_true.1 this t ht
  · match ds, hd with
    | [d1, d2], _ => rfl
theorem laid_met (os : Os) : laidMet Tryd.prog Rows.typingRulesSpecRow.laid ((laidWorld os).forCall (fun _ _ => 0) ⟨#[], #[.agg #[.string ⟨#[]⟩, .int .i64 0, .int .i64 0, .int .i64 0, .slice none 0 0, .slice none 0 0], .agg #[.int .i64 0, .int .i64 0, .int .i64 0, .slice none 0 0]], []⟩).memory :=
  laidMet_of_run' 8 (by kernel_rfl) (by kernel_rfl)
theorem reads (os : Os) {H : Type} (enc : TypeId × Value → H) : ∃ places, DataW.whole enc Tryd.prog ((laidWorld os).forCall (fun _ _ => 0) ⟨#[], #[.agg #[.string ⟨#[]⟩, .int .i64 0, .int .i64 0, .int .i64 0, .slice none 0 0, .slice none 0 0], .agg #[.int .i64 0, .int .i64 0, .int .i64 0, .slice none 0 0]], []⟩).memory Tryd.f3.params.toList Rows.typingRulesSpecSpec.vars false #[.agg #[.string ⟨#[]⟩, .int .i64 0, .int .i64 0, .int .i64 0, .slice none 0 0, .slice none 0 0], .agg #[.int .i64 0, .int .i64 0, .int .i64 0, .slice none 0 0]].toList 8 = some ([.agg [.lit (.string []), .lit (.int .i64 0), .lit (.int .i64 0), .lit (.int .i64 0), .nil, .nil], .agg [.lit (.int .i64 0), .lit (.int .i64 0), .lit (.int .i64 0), .nil]], [], places) :=
  ⟨[], by kernel_rfl⟩
set_option maxRecDepth 100000 in
theorem lifted (os : Os) (started : os.Started) (H : Type) (enc : TypeId × Value → H) (F : Stop.Interp) :
    ReturnsInHanded {} Tryd.checked os 3 .any ((OpenSpec.ofChange Rows.typingRulesSpecSpec).preRow enc Tryd.prog Tryd.f3 Rows.typingRulesSpecRow.domain false Rows.typingRulesSpecRow.laid) (((OpenSpec.ofChange Rows.typingRulesSpecSpec).at F).post enc Tryd.prog Tryd.f3 false true false false) := by
  obtain ⟨places, hx⟩ := reads os enc
  refine returnsInHanded_of_row (C := Tryd.checked) (s := OpenSpec.ofChange Rows.typingRulesSpecSpec) own started (by kernel_rfl) Tryd.func3
    (witness_row_at (enc := enc) (C := Tryd.checked) false (laidWorld os) #[.agg #[.string ⟨#[]⟩, .int .i64 0, .int .i64 0, .int .i64 0, .slice none 0 0, .slice none 0 0], .agg #[.int .i64 0, .int .i64 0, .int .i64 0, .slice none 0 0]] rfl (by kernel_rfl) (by kernel_rfl) (by kernel_rfl)
      (OpenSpec.preRow_of_cond 8 hx (by kernel_rfl) (fun k hk => by cases hk) (by kernel_rfl) (laid_met os))) ?_
  intro W base args ds gs before hval hW _ _ hz hL _ _
  exact contract H enc W base args ds gs before hval hW hz hL
theorem said : Rows.TypingRulesSpecSaid :=
  OpenClaim.holds_of_cond 3 Tryd.f3 rfl rfl rfl rfl rfl rfl rfl ⟨rfl, rfl, rfl, rfl, rfl⟩ rfl rfl rfl rfl rfl (by kernel_rfl) Tryd.func3 (by kernel_rfl)
    (of_decide_eq_true (by kernel_rfl)) (by unfold Func.isWrapper; first | (rw [if_pos (by decide +kernel)]; kernel_rfl) | (rw [if_neg (by decide +kernel)]; exact ⟨rfl, rfl⟩))
    (fun os started H enc _ F => by rw [OpenClaim.pre_eq_preRow]; exact lifted os started H enc F)
theorem plain (f : FuncId) (fn : Func) (hf : Tryd.pinned.checked.prog.funcNamed "assize/assizelaw14.TypingRulesSpec" = some f) (hfn : Tryd.pinned.checked.prog.funcs[f]? = some fn) :
    true = Tryd.pinned.checked.prog.looks [] ∧ ∀ (j : Nat) t, fn.params[j]? = some t → Tryd.pinned.checked.prog.wantsStandIn t = false := by
  obtain rfl : f = 3 := Option.some.inj ((show Tryd.prog.funcNamed "assize/assizelaw14.TypingRulesSpec" = some 3 by kernel_rfl).symm.trans hf) |>.symm
  obtain rfl : fn = Tryd.f3 := (Option.some.inj (Tryd.func3.symm.trans hfn)).symm
  refine ⟨by kernel_rfl, fun j t ht => ?_⟩
  have hall : Tryd.f3.params.toList.all (fun t => !Tryd.prog.wantsStandIn t) = true := by kernel_rfl
  have := List.all_eq_true.1 hall t (by simpa using Array.mem_of_getElem? ht)
  show Tryd.prog.wantsStandIn t = false
  simpa using this
theorem proved : Rows.TypingRulesSpecCardSaid :=
  Claim7.holds_tied_plain_at .later [] _ _ _ _ said (fun _ h => by cases h) (by kernel_rfl) (fun _ h => by cases h) typingRulesSpec_row_tie rfl ⟨rfl, rfl⟩ (by kernel_rfl) rfl plain (by kernel_rfl)
end Go.Proofs.YtddolfgmkpfmcaaDoor.typingRulesSpec
