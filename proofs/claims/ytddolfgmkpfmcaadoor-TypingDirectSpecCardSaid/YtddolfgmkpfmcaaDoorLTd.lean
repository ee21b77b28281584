/-
  The statement TypingDirectSpec.
-/
import Derived.Test.YtddolfgmkpfmcaaDoorTypT
namespace Go.Proofs.YtddolfgmkpfmcaaDoor.typingDirectSpec
open Go.Tidy Go.ChangeShapes Go.WideShapes Go.ChangeAt Go.RowKit
set_option maxRecDepth 100000
set_option maxHeartbeats 0
set_option linter.unusedSimpArgs false
set_option linter.unusedVariables false
open Classical in
theorem directB_eq (l : List Sp) (x : En) : rdirectB l x = directB l x := by unfold rdirectB directB; rw [order_eq]
theorem directE_eq (l : List Sp) (x : En) : rdirectE l x = directE l x := by unfold rdirectE directE; rw [order_eq]
theorem holdsB_eq (c : Co) (x : En) : rholdsB c x = holdsB c x := by unfold rholdsB holdsB; rw [cond_eq]
theorem holdsE_eq (c : Co) (x : En) : rholdsE c x = holdsE c x := by unfold rholdsE holdsE; rw [cond_eq]
theorem order_rsp {l : List Sp} (hl : LSs l) (h : rorderF l = 0) : ∀ s ∈ l, RSp s := fun s hs => by
  rw [← order_eq] at h
  exact rsp_of _ s (Nat.le_refl _) ((check_ok h).2.2 (.s s) (List.mem_map.2 ⟨s, hs, rfl⟩)) (hl.all s hs)
theorem direct_len (l : List Sp) (x : En) (hl : LSs l) : (directB l x).length ≤ 12 := by
  unfold directB
  split
  · rename_i h
    exact ((direct1_s x _ l (Nat.le_refl _) hl.len (order_dsp hl h.1)) [] byok0).1.len
  · simp
theorem law (l : List Sp) (c : Co) (x : En) (n : Int) (hl : LSs l) (hc : LCo c) : CallP C 7 [.d (sps l), .agg (c.cells.map .d), enV x, I n] [] fun X L => L = [] ∧ X = .d (.bool true) := by
  have f1 : ∀ {L : List Blk} {k : V → List Blk → Prop}, k (B (fewB l)) L → CallP C 11 [.d (sps l)] L k := fun h => few_c _ hl h
  have f2 : ∀ {L : List Blk} {k : V → List Blk → Prop}, k (B (fewC c)) L → CallP C 12 [.agg (c.cells.map .d)] L k := fun h => fewc_c _ hc h
  have key : ∀ y : En, ∃ (u : List Int) (e : Int) (b : Bool) (f : Int), u.length ≤ 12 ∧ (∀ {L : List Blk} {k : V → List Blk → Prop}, k (.tup [.d (ins u), I e]) L → CallP C 24 [.d (sps l), enV y] L k) ∧
      (∀ {L : List Blk} {k : V → List Blk → Prop}, k (.tup [.d (ins u), I e]) L → CallP C 27 [.d (sps l), enV y] L k) ∧
      (∀ {L : List Blk} {k : V → List Blk → Prop}, k (.tup [B b, I f]) L → CallP C 28 [.agg (c.cells.map .d), enV y] L k) ∧
      (∀ {L : List Blk} {k : V → List Blk → Prop}, k (.tup [B b, I f]) L → CallP C 29 [.agg (c.cells.map .d), enV y] L k) := fun y =>
    ⟨directB l y, directE l y, holdsB c y, holdsE c y, direct_len l y hl, fun h => Direct_c l y hl (order_dsp hl) h, fun h => rdirect_c l y hl (order_rsp hl) (by rw [directB_eq, directE_eq]; exact h),
      fun h => Holds_c c y hc (cond_hco hc) h, fun h => rHolds_c c y hc (by rw [holdsB_eq, holdsE_eq]; exact h)⟩
  obtain ⟨y, hy⟩ : ∃ y, y = En.at (envN n) := ⟨_, rfl⟩
  have f3 : ∀ {L : List Blk} {k : V → List Blk → Prop}, k (enV y) L → CallP C 23 [I n] L k := fun h => env14_c n (by rw [← hy]; exact h)
  rw [Co.cells_eq] at f2 key ⊢
  refine callP_of C_ok Tryd.func7 rfl rfl (n := _) rfl (Nat.le_of_ble_eq_true rfl) (rs := _) rfl ?_
  cases h1 : fewB l with
  | false =>
    rw [h1] at f1
    repeat' (conv => whnf
             first | refine Br.tt ?_ | refine Br.ff ?_ | refine Br.dec (fun h => ?_) (fun h => ?_) | refine Br.not ?_ | refine Br.intro (fun h => ?_) (fun h => ?_) | refine GetE.intro _ rfl ?_ | refine Need.intro rfl ?_ | refine DrawP.go mixed rfl ?_ | refine sane_c ?_ | refine f1 ?_)
    conv => whnf
    exact FinP.drop (n := 0) rfl (Nat.le_refl 0) rfl rfl ⟨rfl, rfl⟩
  | true =>
  rw [h1] at f1
  cases h2 : fewC c with
  | false =>
    rw [h2] at f2
    repeat' (conv => whnf
             first | refine Br.tt ?_ | refine Br.ff ?_ | refine Br.dec (fun h => ?_) (fun h => ?_) | refine Br.not ?_ | refine Br.intro (fun h => ?_) (fun h => ?_) | refine GetE.intro _ rfl ?_ | refine Need.intro rfl ?_ | refine DrawP.go mixed rfl ?_ | refine sane_c ?_ | refine f1 ?_ | refine f2 ?_)
    conv => whnf
    exact FinP.drop (n := 0) rfl (Nat.le_refl 0) rfl rfl ⟨rfl, rfl⟩
  | true =>
  rw [h2] at f2
  repeat' (conv => whnf
           first | refine Br.tt ?_ | refine Br.ff ?_ | refine Br.dec (fun h => ?_) (fun h => ?_) | refine Br.not ?_ | refine Br.intro (fun h => ?_) (fun h => ?_) | refine GetE.intro _ rfl ?_ | refine Need.intro rfl ?_ | refine DrawP.go mixed rfl ?_ | refine sane_c ?_ | refine f1 ?_ | refine f2 ?_ | refine QCall.intro _ (f3 ⟨rfl, rfl⟩) ?_ | refine f3 ?_)
  conv => whnf
  refine LoopP.inv (fun i : Nat => i ≤ 2) (fun i => ⟨[(0, .d (sps l)), (5, .ptr 0 0), (32, .own 2 0 0 2), (33, I 2), (34, I i)], Tryd.f7.ntmps, [.cells [I c.kind, I c.var, I c.n, .d (cos c.parts)], .cells (x.cells.map .d), .row 0 4 [x.cells.map .d, y.cells.map .d]], [], none⟩) (fun i => 2 - i) 0 (by decide) ?_ ?_
  · exact Weak.to 3 rfl (Nat.zero_le _) (Nat.le_of_ble_eq_true rfl) ⟨rfl, rfl, rfl, rfl, rfl, trivial⟩
  intro i hi
  rcases (show i = 0 ∨ i = 1 ∨ i = 2 by omega) with rfl | rfl | rfl
  · obtain ⟨u, e, b, f, hu, g1, g2, g3, g4⟩ := key x
    have q1 : decide (e = e) = true := decide_eq_true rfl
    have q2 : decide (f = f) = true := decide_eq_true rfl
    have q3 : (b == b) = true := beq_self_eq_true b
    have g5 : ∀ {L : List Blk} {k : V → List Blk → Prop}, k (B true) L → CallP C 26 [.d (ins u), .d (ins u)] L k := fun h => same_c u u (by omega) (by omega) (by rw [decide_eq_true rfl]; exact h)
    repeat' (conv => whnf
             first | refine Br.yes q1 ?_ | refine Br.yes q2 ?_ | refine Br.yes q3 ?_ | refine Br.tt ?_ | refine Br.ff ?_ | refine Br.dec (fun h => ?_) (fun h => ?_) | refine Br.not ?_ | refine Br.intro (fun h => ?_) (fun h => ?_) | refine GetE.intro _ rfl ?_ | refine Need.intro rfl ?_ | refine DrawP.go mixed rfl ?_ | refine IdxN.intro 0 rfl (by decide) ?_ | refine g1 ?_ | refine g2 ?_ | refine g3 ?_ | refine g4 ?_ | refine g5 ?_)
    conv => whnf
    exact ⟨1, by decide, by decide, Weak.to 3 rfl (Nat.zero_le _) (Nat.le_of_ble_eq_true rfl) ⟨rfl, rfl, rfl, rfl, rfl, trivial⟩⟩
  · obtain ⟨u, e, b, f, hu, g1, g2, g3, g4⟩ := key y
    have q1 : decide (e = e) = true := decide_eq_true rfl
    have q2 : decide (f = f) = true := decide_eq_true rfl
    have q3 : (b == b) = true := beq_self_eq_true b
    have g5 : ∀ {L : List Blk} {k : V → List Blk → Prop}, k (B true) L → CallP C 26 [.d (ins u), .d (ins u)] L k := fun h => same_c u u (by omega) (by omega) (by rw [decide_eq_true rfl]; exact h)
    repeat' (conv => whnf
             first | refine Br.yes q1 ?_ | refine Br.yes q2 ?_ | refine Br.yes q3 ?_ | refine Br.tt ?_ | refine Br.ff ?_ | refine Br.dec (fun h => ?_) (fun h => ?_) | refine Br.not ?_ | refine Br.intro (fun h => ?_) (fun h => ?_) | refine GetE.intro _ rfl ?_ | refine Need.intro rfl ?_ | refine DrawP.go mixed rfl ?_ | refine IdxN.intro 1 rfl (by decide) ?_ | refine g1 ?_ | refine g2 ?_ | refine g3 ?_ | refine g4 ?_ | refine g5 ?_)
    conv => whnf
    exact ⟨2, by decide, by decide, Weak.to 3 rfl (Nat.zero_le _) (Nat.le_of_ble_eq_true rfl) ⟨rfl, rfl, rfl, rfl, rfl, trivial⟩⟩
  · repeat' (conv => whnf
             first | refine Br.tt ?_ | refine Br.ff ?_ | refine Br.dec (fun h => ?_) (fun h => ?_) | refine Br.not ?_ | refine Br.intro (fun h => ?_) (fun h => ?_) | refine GetE.intro _ rfl ?_ | refine Need.intro rfl ?_ | refine DrawP.go mixed rfl ?_)
    conv => whnf
    exact FinP.drop (n := 0) rfl (Nat.le_refl 0) rfl rfl ⟨rfl, rfl⟩
theorem call_closed : ∀ xss, TyA C.P Tryd.f7.params.toList xss → (∀ xs ∈ xss, ∀ y ∈ xs, Dsm reachBytes y) → CallP C 7 (argVs C.P Tryd.f7.params.toList xss) [] fun X L => L = [] ∧ X = .d (.bool true) := by
  intro xss h hsm
  match xss, h, hsm with
  | [x1, x2, x3, x4], ⟨h1, h2, h3, h4, _⟩, hsm =>
    obtain ⟨x1, rfl, b1⟩ := stepsT h1 (hsm _ (by simp))
    obtain ⟨x2, rfl, b2⟩ := condT h2 (hsm _ (by simp))
    obtain ⟨x3, rfl, b3⟩ := envT h3 (hsm _ (by simp))
    obtain ⟨x4, rfl, b4⟩ := intT h4 (hsm _ (by simp))
    exact law x1 x2 x3 x4 b1 b2
theorem contract (H : Type) (enc : TypeId × Value → H) (W : World) (base : Nat) (args : Array Value) (ds gs : List (DataW H)) (before : List MemPlace)
    (hval : ∀ (j : Nat) t v, Tryd.f7.params[j]? = some t → args[j]? = some v → Value.okWide Tryd.prog W .any base t v)
    (hW : DataW.Whole enc Tryd.prog Tryd.f7.params.toList Rows.typingDirectSpecSpec.vars false W args.toList ds gs before)
    (hz : (DataW.weightsEach Tryd.prog (Tryd.f7.params.toList ++ Rows.typingDirectSpecSpec.plain.varTypes Tryd.prog) (ds ++ gs)).all (· ≤ reachBytes) = true) (hL : laidMetH Tryd.prog Rows.typingDirectSpecRow.laid W) :
    Calls Tryd.prog 7 args W fun e W' => ∃ v, e = .returned v ∧ Rows.typingDirectSpecSpec.post enc Tryd.prog Tryd.f7 false true false false W args v W' := by
  refine law_ofB (C := C) (l := plainTys) kids full plainOk bytesOk plainLt (fun t ht => ?_) rfl rfl Tryd.underlying4 (fun ds hd => ?_) call_closed hval hW hz (glob_ok hL)
  · have : Tryd.f7.params.toList.all (fun t => plainTys.contains t) = true := by kernel_rfl
    simpa using List.all_eq_true.1 this t ht
  · match ds, hd with
    | [d1, d2, d3, d4], _ => rfl
theorem laid_met (os : Os) : laidMet Tryd.prog Rows.typingDirectSpecRow.laid ((laidWorld os).forCall (fun _ _ => 0) ⟨#[], #[.slice none 0 0, .agg #[.int .i64 0, .int .i64 0, .int .i64 0, .slice none 0 0], .agg #[.int .i64 0, .int .i64 0, .int .i64 0, .int .i64 0], .int .i64 0], []⟩).memory :=
  laidMet_of_run' 8 (by kernel_rfl) (by kernel_rfl)
theorem reads (os : Os) {H : Type} (enc : TypeId × Value → H) : ∃ places, DataW.whole enc Tryd.prog ((laidWorld os).forCall (fun _ _ => 0) ⟨#[], #[.slice none 0 0, .agg #[.int .i64 0, .int .i64 0, .int .i64 0, .slice none 0 0], .agg #[.int .i64 0, .int .i64 0, .int .i64 0, .int .i64 0], .int .i64 0], []⟩).memory Tryd.f7.params.toList Rows.typingDirectSpecSpec.vars false #[.slice none 0 0, .agg #[.int .i64 0, .int .i64 0, .int .i64 0, .slice none 0 0], .agg #[.int .i64 0, .int .i64 0, .int .i64 0, .int .i64 0], .int .i64 0].toList 8 = some ([.nil, .agg [.lit (.int .i64 0), .lit (.int .i64 0), .lit (.int .i64 0), .nil], .agg [.lit (.int .i64 0), .lit (.int .i64 0), .lit (.int .i64 0), .lit (.int .i64 0)], .lit (.int .i64 0)], [], places) :=
  ⟨[], by kernel_rfl⟩
set_option maxRecDepth 100000 in
theorem lifted (os : Os) (started : os.Started) (H : Type) (enc : TypeId × Value → H) (F : Stop.Interp) :
    ReturnsInHanded {} Tryd.checked os 7 .any ((OpenSpec.ofChange Rows.typingDirectSpecSpec).preRow enc Tryd.prog Tryd.f7 Rows.typingDirectSpecRow.domain false Rows.typingDirectSpecRow.laid) (((OpenSpec.ofChange Rows.typingDirectSpecSpec).at F).post enc Tryd.prog Tryd.f7 false true false false) := by
  obtain ⟨places, hx⟩ := reads os enc
  refine returnsInHanded_of_row (C := Tryd.checked) (s := OpenSpec.ofChange Rows.typingDirectSpecSpec) own started (by kernel_rfl) Tryd.func7
    (witness_row_at (enc := enc) (C := Tryd.checked) false (laidWorld os) #[.slice none 0 0, .agg #[.int .i64 0, .int .i64 0, .int .i64 0, .slice none 0 0], .agg #[.int .i64 0, .int .i64 0, .int .i64 0, .int .i64 0], .int .i64 0] rfl (by kernel_rfl) (by kernel_rfl) (by kernel_rfl)
      (OpenSpec.preRow_of_cond 8 hx (by kernel_rfl) (fun k hk => by cases hk) (by kernel_rfl) (laid_met os))) ?_
  intro W base args ds gs before hval hW _ _ hz hL _ _
  exact contract H enc W base args ds gs before hval hW hz hL
theorem said : Rows.TypingDirectSpecSaid :=
  OpenClaim.holds_of_cond 7 Tryd.f7 rfl rfl rfl rfl rfl rfl rfl ⟨rfl, rfl, rfl, rfl, rfl⟩ rfl rfl rfl rfl rfl (by kernel_rfl) Tryd.func7 (by kernel_rfl)
    (of_decide_eq_true (by kernel_rfl)) (by unfold Func.isWrapper; first | (rw [if_pos (by decide +kernel)]; kernel_rfl) | (rw [if_neg (by decide +kernel)]; exact ⟨rfl, rfl⟩))
    (fun os started H enc _ F => by rw [OpenClaim.pre_eq_preRow]; exact lifted os started H enc F)
theorem plain (f : FuncId) (fn : Func) (hf : Tryd.pinned.checked.prog.funcNamed "assize/assizelaw14.TypingDirectSpec" = some f) (hfn : Tryd.pinned.checked.prog.funcs[f]? = some fn) :
    true = Tryd.pinned.checked.prog.looks [] ∧ ∀ (j : Nat) t, fn.params[j]? = some t → Tryd.pinned.checked.prog.wantsStandIn t = false := by
  obtain rfl : f = 7 := Option.some.inj ((show Tryd.prog.funcNamed "assize/assizelaw14.TypingDirectSpec" = some 7 by kernel_rfl).symm.trans hf) |>.symm
  obtain rfl : fn = Tryd.f7 := (Option.some.inj (Tryd.func7.symm.trans hfn)).symm
  refine ⟨by kernel_rfl, fun j t ht => ?_⟩
  have hall : Tryd.f7.params.toList.all (fun t => !Tryd.prog.wantsStandIn t) = true := by kernel_rfl
  have := List.all_eq_true.1 hall t (by simpa using Array.mem_of_getElem? ht)
  show Tryd.prog.wantsStandIn t = false
  simpa using this
theorem proved : Rows.TypingDirectSpecCardSaid :=
  Claim7.holds_tied_plain_at .later [] _ _ _ _ said (fun _ h => by cases h) (by kernel_rfl) (fun _ h => by cases h) typingDirectSpec_row_tie rfl ⟨rfl, rfl⟩ (by kernel_rfl) rfl plain (by kernel_rfl)
end Go.Proofs.YtddolfgmkpfmcaaDoor.typingDirectSpec
