import Derived.Test.YtclmjkhdmhlijaaDoorJCF
set_option maxRecDepth 100000
set_option maxHeartbeats 0
set_option linter.unusedSimpArgs false
set_option linter.unusedVariables false
namespace Go.Proofs.YtclmjkhdmhlijaaDoor.treesCheckSpec
open Go.Tidy Go.ChangeShapes Go.WideShapes Go.ChangeAt Go.RowKit
theorem law (a b : List Nd) (ha : LTr a) (hb : LTr b) : CallP C 3 [treV a,treV b] [] fun X L=>L = [] ∧ X = .d (.bool true):=by
 have f1 : ∀ {L : List Blk} {k : V → List Blk → Prop},k (B (fewT a)) L → CallP C 10 [treV a] L k:=fun h=>fewNodes_c a (zw23 ha.len (by decide)) h
 have f2 : ∀ {L : List Blk} {k : V → List Blk → Prop},k (B (fewT b)) L → CallP C 10 [treV b] L k:=fun h=>fewNodes_c b (zw23 hb.len (by decide)) h
 cases h1 : fewT a with
 | false =>
  rw [h1] at f1
  refine callP_of C_ok Tryd.func3 rfl rfl (n:=_) rfl (zw18 rfl) (rs:=_) rfl ?_
  repeat' ((conv=>whnf); first|refine zw0 ?_|refine zw1 ?_|refine zw2 (fun h=>?_) (fun h=>?_)|refine zw3 ?_|refine zw4 (fun h=>?_) (fun h=>?_)|refine zw5 _ rfl ?_|refine zw6 rfl ?_|refine zw7 mixed rfl ?_|refine sane16_c ?_|refine f1 ?_)
  conv=>whnf
  exact FinP.drop (n:=0) rfl (zw21 0) rfl rfl ⟨rfl,rfl⟩
 | true =>
 rw [h1] at f1
 cases h2 : fewT b with
 | false =>
  rw [h2] at f2
  refine callP_of C_ok Tryd.func3 rfl rfl (n:=_) rfl (zw18 rfl) (rs:=_) rfl ?_
  repeat' ((conv=>whnf); first|refine zw0 ?_|refine zw1 ?_|refine zw2 (fun h=>?_) (fun h=>?_)|refine zw3 ?_|refine zw4 (fun h=>?_) (fun h=>?_)|refine zw5 _ rfl ?_|refine zw6 rfl ?_|refine zw7 mixed rfl ?_|refine sane16_c ?_|refine f1 ?_|refine f2 ?_)
  conv=>whnf
  exact FinP.drop (n:=0) rfl (zw21 0) rfl rfl ⟨rfl,rfl⟩
 | true =>
 rw [h2] at f2
 obtain ⟨la,lb⟩:=few_tr h1
 obtain ⟨ma,mb⟩:=few_tr h2
 have sa : TrSm a:=⟨by omega,fun x hx=>by have:=lb x hx; omega⟩
 have sb : TrSm b:=⟨by omega,fun x hx=>by have:=mb x hx; omega⟩
 have c1 : ∀ {L : List Blk} {k : V → List Blk → Prop},k (I (checkT a)) L → CallP C 11 [treV a] L k:=fun h=>check16_c a sa h
 have c2 : ∀ {L : List Blk} {k : V → List Blk → Prop},k (I (checkT b)) L → CallP C 11 [treV b] L k:=fun h=>check16_c b sb h
 have d1 : ∀ {L : List Blk} {k : V → List Blk → Prop},k (I (checkT a)) L → CallP C 12 [treV a] L k:=fun h=>rcheck_c a (fun x hx=>by have:=lb x hx; omega) (by omega) h
 have d2 : ∀ {L : List Blk} {k : V → List Blk → Prop},k (I (checkT b)) L → CallP C 12 [treV b] L k:=fun h=>rcheck_c b (fun x hx=>by have:=mb x hx; omega) (by omega) h
 have big : ∀ {n : Nat},n ≤ 20 → n ≤ 4611686018427387904:=fun h=>zw23 h (by decide)
 have s1 : ∀ {L : List Blk} {k : V → List Blk → Prop},k (B (decide (a = b))) L → CallP C 13 [treV a,treV b] L k:=fun h=>tsame_c a b (by omega) (by omega) (fun x hx=>big (lb x hx)) (fun x hx=>big (mb x hx)) h
 have s2 : ∀ {L : List Blk} {k : V → List Blk → Prop},k (B (decide (a = b))) L → CallP C 14 [treV a,treV b] L k:=fun h=>rsame_c a b (by omega) (by omega) (fun x hx=>big (lb x hx)) (fun x hx=>big (mb x hx)) h
 have s3 : ∀ {L : List Blk} {k : V → List Blk → Prop},k (B true) L → CallP C 13 [treV a,treV a] L k:=fun h=>tsame_c a a (by omega) (by omega) (fun x hx=>big (lb x hx)) (fun x hx=>big (lb x hx)) (by rw [decide_eq_true rfl]; exact h)
 generalize checkT a = u at *
 generalize checkT b = v at *
 have q1 : decide (u = u) = true:=zw19 rfl
 have q2 : decide (v = v) = true:=zw19 rfl
 by_cases hab : a = b
 ·rw [decide_eq_true hab] at s2
  subst hab
  refine callP_of C_ok Tryd.func3 rfl rfl (n:=_) rfl (zw18 rfl) (rs:=_) rfl ?_
  repeat' ((conv=>whnf); first|refine zw8 q1 ?_|refine zw8 q2 ?_|refine zw0 ?_|refine zw1 ?_|refine zw2 (fun h=>?_) (fun h=>?_)|refine zw3 ?_|refine zw4 (fun h=>?_) (fun h=>?_)|refine zw5 _ rfl ?_|refine zw6 rfl ?_|refine zw7 mixed rfl ?_|refine sane16_c ?_|refine f1 ?_|refine zw12 _ (c1 ⟨rfl,rfl⟩) ?_|refine zw12 _ (d1 ⟨rfl,rfl⟩) ?_|refine zw12 _ (s3 ⟨rfl,rfl⟩) ?_|refine zw12 _ (s2 ⟨rfl,rfl⟩) ?_)
  conv=>whnf
  exact FinP.drop (n:=0) rfl (zw21 0) rfl rfl ⟨rfl,rfl⟩
 ·rw [decide_eq_false hab] at s1 s2
  refine callP_of C_ok Tryd.func3 rfl rfl (n:=_) rfl (zw18 rfl) (rs:=_) rfl ?_
  repeat' ((conv=>whnf); first|refine zw8 q1 ?_|refine zw8 q2 ?_|refine zw0 ?_|refine zw1 ?_|refine zw2 (fun h=>?_) (fun h=>?_)|refine zw3 ?_|refine zw4 (fun h=>?_) (fun h=>?_)|refine zw5 _ rfl ?_|refine zw6 rfl ?_|refine zw7 mixed rfl ?_|refine sane16_c ?_|refine f1 ?_|refine f2 ?_|refine zw12 _ (c1 ⟨rfl,rfl⟩) ?_|refine zw12 _ (c2 ⟨rfl,rfl⟩) ?_|refine zw12 _ (d1 ⟨rfl,rfl⟩) ?_|refine zw12 _ (d2 ⟨rfl,rfl⟩) ?_|refine zw12 _ (s1 ⟨rfl,rfl⟩) ?_|refine zw12 _ (s2 ⟨rfl,rfl⟩) ?_|refine zw12 _ (s3 ⟨rfl,rfl⟩) ?_)
  conv=>whnf
  exact FinP.drop (n:=0) rfl (zw21 0) rfl rfl ⟨rfl,rfl⟩
theorem call_closed : ∀ xss,TyA C.P Tryd.f3.params.toList xss → (∀ xs ∈ xss,∀ y ∈ xs,Dsm reachBytes y) → CallP C 3 (argVs C.P Tryd.f3.params.toList xss) [] fun X L=>L = [] ∧ X = .d (.bool true):=by
 intro xss h hsm
 match xss,h,hsm with
 | [x1,x2],⟨h1,h2,_⟩,hsm =>
  obtain ⟨x1,rfl,b1⟩:=treeT h1 (hsm _ (by simp))
  obtain ⟨x2,rfl,b2⟩:=treeT h2 (hsm _ (by simp))
  exact law x1 x2 b1 b2
theorem contract (H : Type) (enc : TypeId × Value → H) (W : World) (base : Nat) (args : Array Value) (ds gs : List (DataW H)) (before : List MemPlace)
  (hval : ∀ (j : Nat) t v,Tryd.f3.params[j]? = some t → args[j]? = some v → Value.okWide Tryd.prog W .any base t v)
  (hW : DataW.Whole enc Tryd.prog Tryd.f3.params.toList Rows.treesCheckSpecSpec.vars false W args.toList ds gs before)
  (hz : (DataW.weightsEach Tryd.prog (Tryd.f3.params.toList ++ Rows.treesCheckSpecSpec.plain.varTypes Tryd.prog) (ds ++ gs)).all (· ≤ reachBytes) = true) (hL : laidMetH Tryd.prog Rows.treesCheckSpecRow.laid W) :
  Calls Tryd.prog 3 args W fun e W'=>∃ v,e = .returned v ∧ Rows.treesCheckSpecSpec.post enc Tryd.prog Tryd.f3 false true false false W args v W':=by
 refine law_ofB (C:=C) (l:=plainTys) kids full plainOk bytesOk plainLt (fun t ht=>?_) rfl rfl Tryd.underlying4 (fun ds hd=>?_) call_closed hval hW hz (glob_ok hL)
 ·have : Tryd.f3.params.toList.all (fun t=>plainTys.contains t) = true:=by kernel_rfl
  simpa using List.all_eq_true.1 this t ht
 ·match ds,hd with
  | [d1,d2],_=>rfl
theorem laid_met (os : Os) : laidMet Tryd.prog Rows.treesCheckSpecRow.laid ((laidWorld os).forCall (fun _ _=>0) ⟨#[],#[.agg #[.slice none 0 0],.agg #[.slice none 0 0]],[]⟩).memory :=
 laidMet_of_run' 8 (by kernel_rfl) (by kernel_rfl)
theorem reads (os : Os) {H : Type} (enc : TypeId × Value → H) : ∃ places,DataW.whole enc Tryd.prog ((laidWorld os).forCall (fun _ _=>0) ⟨#[],#[.agg #[.slice none 0 0],.agg #[.slice none 0 0]],[]⟩).memory Tryd.f3.params.toList Rows.treesCheckSpecSpec.vars false #[.agg #[.slice none 0 0],.agg #[.slice none 0 0]].toList 8 = some ([.agg [.nil],.agg [.nil]],[],places) :=
 ⟨[],by kernel_rfl⟩
set_option maxRecDepth 100000 in
theorem lifted (os : Os) (started : os.Started) (H : Type) (enc : TypeId × Value → H) (F : Stop.Interp) :
  ReturnsInHanded {} Tryd.checked os 3 .any ((OpenSpec.ofChange Rows.treesCheckSpecSpec).preRow enc Tryd.prog Tryd.f3 Rows.treesCheckSpecRow.domain false Rows.treesCheckSpecRow.laid) (((OpenSpec.ofChange Rows.treesCheckSpecSpec).at F).post enc Tryd.prog Tryd.f3 false true false false):=by
 obtain ⟨places,hx⟩:=reads os enc
 refine returnsInHanded_of_row (C:=Tryd.checked) (s:=OpenSpec.ofChange Rows.treesCheckSpecSpec) own started (by kernel_rfl) Tryd.func3
  (witness_row_at (enc:=enc) (C:=Tryd.checked) false (laidWorld os) #[.agg #[.slice none 0 0],.agg #[.slice none 0 0]] rfl (by kernel_rfl) (by kernel_rfl) (by kernel_rfl)
   (OpenSpec.preRow_of_cond 8 hx (by kernel_rfl) (fun k hk=>by cases hk) (by kernel_rfl) (laid_met os))) ?_
 intro W base args ds gs before hval hW _ _ hz hL _ _
 exact contract H enc W base args ds gs before hval hW hz hL
theorem said : Rows.TreesCheckSpecSaid :=
 OpenClaim.holds_of_cond 3 Tryd.f3 rfl rfl rfl rfl rfl rfl rfl ⟨rfl,rfl,rfl,rfl,rfl⟩ rfl rfl rfl rfl rfl (by kernel_rfl) Tryd.func3 (by kernel_rfl)
  (of_decide_eq_true (by kernel_rfl)) (by unfold Func.isWrapper; first | (rw [if_pos (by decide +kernel)]; kernel_rfl) | (rw [if_neg (by decide +kernel)]; exact ⟨rfl,rfl⟩))
  (fun os started H enc _ F=>by rw [OpenClaim.pre_eq_preRow]; exact lifted os started H enc F)
theorem plain (f : FuncId) (fn : Func) (hf : Tryd.pinned.checked.prog.funcNamed "assize/assizelaw16.TreesCheckSpec" = some f) (hfn : Tryd.pinned.checked.prog.funcs[f]? = some fn) :
  true = Tryd.pinned.checked.prog.looks [] ∧ ∀ (j : Nat) t,fn.params[j]? = some t → Tryd.pinned.checked.prog.wantsStandIn t = false:=by
 obtain rfl : f = 3 := Option.some.inj ((show Tryd.prog.funcNamed "assize/assizelaw16.TreesCheckSpec" = some 3 by kernel_rfl).symm.trans hf) |>.symm
 obtain rfl : fn = Tryd.f3:=(Option.some.inj (Tryd.func3.symm.trans hfn)).symm
 refine ⟨by kernel_rfl,fun j t ht=>?_⟩
 have hall : Tryd.f3.params.toList.all (fun t=>!Tryd.prog.wantsStandIn t) = true:=by kernel_rfl
 have:=List.all_eq_true.1 hall t (by simpa using Array.mem_of_getElem? ht)
 show Tryd.prog.wantsStandIn t = false
 simpa using this
theorem proved : Rows.TreesCheckSpecCardSaid :=
 Claim7.holds_tied_plain_at .later [] _ _ _ _ said (fun _ h=>by cases h) (by kernel_rfl) (fun _ h=>by cases h) treesCheckSpec_row_tie rfl ⟨rfl,rfl⟩ (by kernel_rfl) rfl plain (by kernel_rfl)
end Go.Proofs.YtclmjkhdmhlijaaDoor.treesCheckSpec
