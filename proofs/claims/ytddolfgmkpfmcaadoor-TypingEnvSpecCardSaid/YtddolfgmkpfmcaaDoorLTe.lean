/-
  The statement TypingEnvSpec.
-/
import Derived.Test.YtddolfgmkpfmcaaDoorTypP
namespace Go.Proofs.YtddolfgmkpfmcaaDoor.typingEnvSpec
open Go.Tidy Go.ChangeShapes Go.WideShapes Go.ChangeAt Go.RowKit
set_option maxRecDepth 100000
set_option maxHeartbeats 0
set_option linter.unusedSimpArgs false
set_option linter.unusedVariables false
theorem law (x : En) (n : Int) : CallP C 4 [enV x, I n] [] fun X L => L = [] ∧ X = .d (.bool true) := by
  obtain ⟨z, hz⟩ : ∃ z, z = andI .i64 n 65535 := ⟨_, rfl⟩
  have e1 : ∀ (m : Int), ∃ (a b c d e : Int), enV (envsX m) = .agg [I a, I b, I c, I d] ∧ envsE m = e := fun m => ⟨_, _, _, _, _, rfl, rfl⟩
  have st1 : ∀ (m : Int) {L : List Blk} {k : V → List Blk → Prop} {a b c d e : Int}, enV (envsX m) = .agg [I a, I b, I c, I d] → envsE m = e → k (.tup [.agg [I a, I b, I c, I d], I 49726, I e]) L → CallP C 19 [I m] L k := fun m L k a b c d e h h' hk => envs_c m (by rw [h, h']; exact hk)
  have st2 : ∀ (m : Int) {L : List Blk} {k : V → List Blk → Prop} {a b c d e : Int}, enV (envsX m) = .agg [I a, I b, I c, I d] → envsE m = e → k (.tup [.agg [I a, I b, I c, I d], I 49726, I e]) L → CallP C 20 [I m] L k := fun m L k a b c d e h h' hk => refenvs_c m (by rw [h, h']; exact hk)
  refine callP_of C_ok Tryd.func4 rfl rfl (n := _) rfl (Nat.le_of_ble_eq_true rfl) (rs := _) rfl ?_
  repeat' (conv => whnf
           first | refine Br.tt ?_ | refine Br.ff ?_ | refine Br.dec (fun h => ?_) (fun h => ?_) | refine Br.not ?_ | refine Br.intro (fun h => ?_) (fun h => ?_) | refine GetE.intro _ rfl ?_ | refine Need.intro rfl ?_ | refine DrawP.go mixed rfl ?_ | refine sane_c ?_)
  conv => whnf
  refine LoopP.inv (fun i : Nat => i ≤ 2) (fun i => ⟨[(2, .ptr 0 0), (18, .own 1 0 0 2), (19, I 2), (20, I i)], Tryd.f4.ntmps, [.cells (x.cells.map .d), .row 0 1 [[I n], [I (andI .i64 n 65535)]]], [], none⟩) (fun i => 2 - i) 0 (by decide) ?_ ?_
  · exact Weak.to 2 rfl (Nat.zero_le _) (Nat.le_of_ble_eq_true rfl) ⟨rfl, rfl, rfl, rfl, trivial⟩
  intro i hi
  rcases (show i = 0 ∨ i = 1 ∨ i = 2 by omega) with rfl | rfl | rfl
  · obtain ⟨a, b, c, d, e, h1, h2⟩ := e1 n
    have q1 : (decide (a = a) && (decide (b = b) && (decide (c = c) && (decide (d = d) && true)))) = true := by simp
    have q2 : decide (e = e) = true := decide_eq_true rfl
    repeat' (conv => whnf
             first | refine Br.yes q1 ?_ | refine Br.yes q2 ?_ | refine Br.tt ?_ | refine Br.ff ?_ | refine Br.dec (fun h => ?_) (fun h => ?_) | refine Br.not ?_ | refine Br.intro (fun h => ?_) (fun h => ?_) | refine GetE.intro _ rfl ?_ | refine Need.intro rfl ?_ | refine DrawP.go mixed rfl ?_ | refine IdxN.intro 0 rfl (by decide) ?_ | refine st1 _ h1 h2 ?_ | refine st2 _ h1 h2 ?_)
    conv => whnf
    exact ⟨1, by decide, by decide, Weak.to 2 rfl (Nat.zero_le _) (Nat.le_of_ble_eq_true rfl) ⟨rfl, rfl, rfl, rfl, trivial⟩⟩
  · obtain ⟨a, b, c, d, e, h1, h2⟩ := e1 (andI .i64 n 65535)
    have q1 : (decide (a = a) && (decide (b = b) && (decide (c = c) && (decide (d = d) && true)))) = true := by simp
    have q2 : decide (e = e) = true := decide_eq_true rfl
    repeat' (conv => whnf
             first | refine Br.yes q1 ?_ | refine Br.yes q2 ?_ | refine Br.tt ?_ | refine Br.ff ?_ | refine Br.dec (fun h => ?_) (fun h => ?_) | refine Br.not ?_ | refine Br.intro (fun h => ?_) (fun h => ?_) | refine GetE.intro _ rfl ?_ | refine Need.intro rfl ?_ | refine DrawP.go mixed rfl ?_ | refine IdxN.intro 1 rfl (by decide) ?_ | refine st1 _ h1 h2 ?_ | refine st2 _ h1 h2 ?_)
    conv => whnf
    exact ⟨2, by decide, by decide, Weak.to 2 rfl (Nat.zero_le _) (Nat.le_of_ble_eq_true rfl) ⟨rfl, rfl, rfl, rfl, trivial⟩⟩
  · repeat' (conv => whnf
             first | refine Br.tt ?_ | refine Br.ff ?_ | refine Br.dec (fun h => ?_) (fun h => ?_) | refine Br.not ?_ | refine Br.intro (fun h => ?_) (fun h => ?_) | refine GetE.intro _ rfl ?_ | refine Need.intro rfl ?_ | refine DrawP.go mixed rfl ?_ | refine QCall.intro _ (env_c x ⟨rfl, rfl⟩) ?_ | refine QCall.intro _ (refenv_c x ⟨rfl, rfl⟩) ?_ | refine env_c x ?_ | refine refenv_c x ?_)
    conv => whnf
    exact FinP.drop (n := 0) rfl (Nat.le_refl 0) rfl rfl ⟨rfl, Eq.trans (b := B (decide (envE x = envE x))) rfl (by rw [decide_eq_true rfl])⟩
theorem call_closed : ∀ xss, TyA C.P Tryd.f4.params.toList xss → (∀ xs ∈ xss, ∀ y ∈ xs, Dsm reachBytes y) → CallP C 4 (argVs C.P Tryd.f4.params.toList xss) [] fun X L => L = [] ∧ X = .d (.bool true) := by
  intro xss h hsm
  match xss, h, hsm with
  | [x1, x2], ⟨h1, h2, _⟩, hsm =>
    obtain ⟨x1, rfl, b1⟩ := envT h1 (hsm _ (by simp))
    obtain ⟨x2, rfl, b2⟩ := intT h2 (hsm _ (by simp))
    exact law x1 x2
theorem contract (H : Type) (enc : TypeId × Value → H) (W : World) (base : Nat) (args : Array Value) (ds gs : List (DataW H)) (before : List MemPlace)
    (hval : ∀ (j : Nat) t v, Tryd.f4.params[j]? = some t → args[j]? = some v → Value.okWide Tryd.prog W .any base t v)
    (hW : DataW.Whole enc Tryd.prog Tryd.f4.params.toList Rows.typingEnvSpecSpec.vars false W args.toList ds gs before)
    (hz : (DataW.weightsEach Tryd.prog (Tryd.f4.params.toList ++ Rows.typingEnvSpecSpec.plain.varTypes Tryd.prog) (ds ++ gs)).all (· ≤ reachBytes) = true) (hL : laidMetH Tryd.prog Rows.typingEnvSpecRow.laid W) :
    Calls Tryd.prog 4 args W fun e W' => ∃ v, e = .returned v ∧ Rows.typingEnvSpecSpec.post enc Tryd.prog Tryd.f4 false true false false W args v W' := by
  refine law_ofB (C := C) (l := plainTys) kids full plainOk bytesOk plainLt (fun t ht => ?_) rfl rfl Tryd.underlying4 (fun ds hd => ?_) call_closed hval hW hz (glob_ok hL)
  · have : Tryd.f4.params.toList.all (fun t => plainTys.contains t) = true := by kernel_rfl
    simpa using List.all_eq_true.1 this t ht
  · match ds, hd with
    | [d1, d2], _ => rfl
theorem laid_met (os : Os) : laidMet Tryd.prog Rows.typingEnvSpecRow.laid ((laidWorld os).forCall (fun _ _ => 0) ⟨#[], #[.agg #[.int .i64 0, .int .i64 0, .int .i64 0, .int .i64 0], .int .i64 0], []⟩).memory :=
  laidMet_of_run' 8 (by kernel_rfl) (by kernel_rfl)
theorem reads (os : Os) {H : Type} (enc : TypeId × Value → H) : ∃ places, DataW.whole enc Tryd.prog ((laidWorld os).forCall (fun _ _ => 0) ⟨#[], #[.agg #[.int .i64 0, .int .i64 0, .int .i64 0, .int .i64 0], .int .i64 0], []⟩).memory Tryd.f4.params.toList Rows.typingEnvSpecSpec.vars false #[.agg #[.int .i64 0, .int .i64 0, .int .i64 0, .int .i64 0], .int .i64 0].toList 8 = some ([.agg [.lit (.int .i64 0), .lit (.int .i64 0), .lit (.int .i64 0), .lit (.int .i64 0)], .lit (.int .i64 0)], [], places) :=
  ⟨[], by kernel_rfl⟩
set_option maxRecDepth 100000 in
theorem lifted (os : Os) (started : os.Started) (H : Type) (enc : TypeId × Value → H) (F : Stop.Interp) :
    ReturnsInHanded {} Tryd.checked os 4 .any ((OpenSpec.ofChange Rows.typingEnvSpecSpec).preRow enc Tryd.prog Tryd.f4 Rows.typingEnvSpecRow.domain false Rows.typingEnvSpecRow.laid) (((OpenSpec.ofChange Rows.typingEnvSpecSpec).at F).post enc Tryd.prog Tryd.f4 false true false false) := by
  obtain ⟨places, hx⟩ := reads os enc
  refine returnsInHanded_of_row (C := Tryd.checked) (s := OpenSpec.ofChange Rows.typingEnvSpecSpec) own started (by kernel_rfl) Tryd.func4
    (witness_row_at (enc := enc) (C := Tryd.checked) false (laidWorld os) #[.agg #[.int .i64 0, .int .i64 0, .int .i64 0, .int .i64 0], .int .i64 0] rfl (by kernel_rfl) (by kernel_rfl) (by kernel_rfl)
      (OpenSpec.preRow_of_cond 8 hx (by kernel_rfl) (fun k hk => by cases hk) (by kernel_rfl) (laid_met os))) ?_
  intro W base args ds gs before hval hW _ _ hz hL _ _
  exact contract H enc W base args ds gs before hval hW hz hL
theorem said : Rows.TypingEnvSpecSaid :=
  OpenClaim.holds_of_cond 4 Tryd.f4 rfl rfl rfl rfl rfl rfl rfl ⟨rfl, rfl, rfl, rfl, rfl⟩ rfl rfl rfl rfl rfl (by kernel_rfl) Tryd.func4 (by kernel_rfl)
    (of_decide_eq_true (by kernel_rfl)) (by unfold Func.isWrapper; first | (rw [if_pos (by decide +kernel)]; kernel_rfl) | (rw [if_neg (by decide +kernel)]; exact ⟨rfl, rfl⟩))
    (fun os started H enc _ F => by rw [OpenClaim.pre_eq_preRow]; exact lifted os started H enc F)
theorem plain (f : FuncId) (fn : Func) (hf : Tryd.pinned.checked.prog.funcNamed "assize/assizelaw14.TypingEnvSpec" = some f) (hfn : Tryd.pinned.checked.prog.funcs[f]? = some fn) :
    true = Tryd.pinned.checked.prog.looks [] ∧ ∀ (j : Nat) t, fn.params[j]? = some t → Tryd.pinned.checked.prog.wantsStandIn t = false := by
  obtain rfl : f = 4 := Option.some.inj ((show Tryd.prog.funcNamed "assize/assizelaw14.TypingEnvSpec" = some 4 by kernel_rfl).symm.trans hf) |>.symm
  obtain rfl : fn = Tryd.f4 := (Option.some.inj (Tryd.func4.symm.trans hfn)).symm
  refine ⟨by kernel_rfl, fun j t ht => ?_⟩
  have hall : Tryd.f4.params.toList.all (fun t => !Tryd.prog.wantsStandIn t) = true := by kernel_rfl
  have := List.all_eq_true.1 hall t (by simpa using Array.mem_of_getElem? ht)
  show Tryd.prog.wantsStandIn t = false
  simpa using this
theorem proved : Rows.TypingEnvSpecCardSaid :=
  Claim7.holds_tied_plain_at .later [] _ _ _ _ said (fun _ h => by cases h) (by kernel_rfl) (fun _ h => by cases h) typingEnvSpec_row_tie rfl ⟨rfl, rfl⟩ (by kernel_rfl) rfl plain (by kernel_rfl)
end Go.Proofs.YtddolfgmkpfmcaaDoor.typingEnvSpec
