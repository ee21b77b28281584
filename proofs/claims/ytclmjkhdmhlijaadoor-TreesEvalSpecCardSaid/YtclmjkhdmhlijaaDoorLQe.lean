import Derived.Test.YtclmjkhdmhlijaaDoorJEF
set_option maxRecDepth 100000
set_option maxHeartbeats 0
set_option linter.unusedSimpArgs false
set_option linter.unusedVariables false
namespace Go.Proofs.YtclmjkhdmhlijaaDoor.treesEvalSpec
open Go.Tidy Go.ChangeShapes Go.WideShapes Go.ChangeAt Go.RowKit
theorem evalB_len {l : List Nd} (x : En) (hb : ∀ y ∈ l,y.by_.length ≤ 20) : (evalB l x).length ≤ 20:=by
 unfold evalB
 split
 ·rename_i h
  have hV:=checkT_iff.1 h.1
  obtain ⟨q,b,_,hb1,_,hb3⟩:=pth_last hV.wf x _ 0 (zw21 _) hV.pos
  rw [← hb3]
  exact hb _ (ndA_mem hb1)
 ·simp
theorem law (t : List Nd) (x : En) (n node : Int) (ht : LTr t) : CallP C 4 [treV t,enV x,I n,I node] [] fun X L=>L = [] ∧ X = .d (.bool true):=by
 have f1 : ∀ {L : List Blk} {k : V → List Blk → Prop},k (B (fewT t)) L → CallP C 10 [treV t] L k:=fun h=>fewNodes_c t (zw23 ht.len (by decide)) h
 cases h1 : fewT t with
 | false =>
  rw [h1] at f1
  refine callP_of C_ok Tryd.func4 rfl rfl (n:=_) rfl (zw18 rfl) (rs:=_) rfl ?_
  repeat' ((conv=>whnf); first|refine zw0 ?_|refine zw1 ?_|refine zw2 (fun h=>?_) (fun h=>?_)|refine zw3 ?_|refine zw4 (fun h=>?_) (fun h=>?_)|refine zw5 _ rfl ?_|refine zw6 rfl ?_|refine zw7 mixed rfl ?_|refine sane16_c ?_|refine f1 ?_)
  conv=>whnf
  exact FinP.drop (n:=0) rfl (zw21 0) rfl rfl ⟨rfl,rfl⟩
 | true =>
 rw [h1] at f1
 obtain ⟨la,lb⟩:=few_tr h1
 by_cases c20 : (20 : Int) < ((t.map Nd.cells).length : Int)
 ·refine callP_of C_ok Tryd.func4 rfl rfl (n:=_) rfl (zw18 rfl) (rs:=_) rfl ?_
  repeat' ((conv=>whnf); first|refine zw8 (zw19 c20) ?_|refine zw0 ?_|refine zw1 ?_|refine zw2 (fun h=>?_) (fun h=>?_)|refine zw3 ?_|refine zw4 (fun h=>?_) (fun h=>?_)|refine zw5 _ rfl ?_|refine zw6 rfl ?_|refine zw7 mixed rfl ?_|refine sane16_c ?_|refine f1 ?_)
  conv=>whnf
  exact FinP.drop (n:=0) rfl (zw21 0) rfl rfl ⟨rfl,rfl⟩
 have sa : TrSm t:=⟨by omega,fun x hx=>by have:=lb x hx; omega⟩
 have bb : ∀ y ∈ t,y.by_.length ≤ 1000000:=fun y hy=>by have:=lb y hy; omega
 have key : ∀ y : En,∃ (u : List Int) (e : Int),u.length ≤ 20 ∧ (∀ {L : List Blk} {k : V → List Blk → Prop},k (.tup [.d (ins u),I e]) L → CallP C 16 [treV t,enV y] L k) ∧ (∀ {L : List Blk} {k : V → List Blk → Prop},k (.tup [.d (ins u),I e]) L → CallP C 17 [treV t,enV y] L k):=fun y =>
  ⟨evalB t y,evalE t y,evalB_len y lb,fun h=>eval_c t y sa h,fun h=>reval_c t y bb (by omega) h⟩
 have kez : ∀ m : Int,∃ (a b c d : Int) (o : Bool) (e : Int),(∀ {L : List Blk} {k : V → List Blk → Prop},k (.tup [.agg [I a,I b,I c,I d],B o,I e]) L → CallP C 19 [treV t,I m] L k) ∧ (∀ {L : List Blk} {k : V → List Blk → Prop},k (.tup [.agg [I a,I b,I c,I d],B o,I e]) L → CallP C 20 [treV t,I m] L k):=fun m =>
  ⟨(reachX t m).tied,(reachX t m).round,(reachX t m).fin,(reachX t m).clubs,reachO t m,reachE t m,fun h=>reach_c t m sa h,fun h=>rreach_c t m bb (by omega) h⟩
 have e1 : ∀ {L : List Blk} {k : V → List Blk → Prop},k (enV (En.at (envN n))) L → CallP C 15 [I n] L k:=fun h=>env16_c n h
 generalize En.at (envN n) = y at *
 have hsame : ∀ u : List Int,u.length ≤ 20 → ∀ {L : List Blk} {k : V → List Blk → Prop},k (B true) L → CallP C 18 [.d (ins u),.d (ins u)] L k:=fun u hu _ _ h=>same_c u u (Nat.le_trans hu (by decide)) (Nat.le_trans hu (by decide)) (by rw [decide_eq_true rfl]; exact h)
 refine callP_of C_ok Tryd.func4 rfl rfl (n:=_) rfl (zw18 rfl) (rs:=_) rfl ?_
 repeat' ((conv=>whnf); first|refine zw9 (zw20 c20) ?_|refine zw0 ?_|refine zw1 ?_|refine zw2 (fun h=>?_) (fun h=>?_)|refine zw3 ?_|refine zw4 (fun h=>?_) (fun h=>?_)|refine zw5 _ rfl ?_|refine zw6 rfl ?_|refine zw7 mixed rfl ?_|refine sane16_c ?_|refine f1 ?_|refine zw12 _ (e1 ⟨rfl,rfl⟩) ?_|refine e1 ?_)
 conv=>whnf
 refine LoopP.inv (fun i : Nat=>i ≤ 2) (fun i=>⟨[(3,I node),(4,.ptr 0 0),(37,.own 2 0 0 2),(38,I 2),(39,I i)],Tryd.f4.ntmps,[.cells [.d (nds t)],.cells (x.cells.map .d),.row 0 4 [x.cells.map .d,y.cells.map .d]],[],none⟩) (fun i=>2 - i) 0 (by decide) ?_ ?_
 ·exact Weak.to 3 rfl (zw22 _) (zw18 rfl) ⟨rfl,rfl,rfl,rfl,rfl,trivial⟩
 intro i hi
 rcases (show i = 0 ∨ i = 1 ∨ i = 2 by omega) with rfl | rfl | rfl
 ·obtain ⟨u,e,hu,g1,g2⟩:=key x
  have g3:=fun {L : List Blk} {k : V → List Blk → Prop} h=>hsame u hu (L:=L) (k:=k) h
  have q1 : decide (e = e) = true:=zw19 rfl
  repeat' ((conv=>whnf); first|refine zw8 q1 ?_|refine zw0 ?_|refine zw1 ?_|refine zw2 (fun h=>?_) (fun h=>?_)|refine zw3 ?_|refine zw4 (fun h=>?_) (fun h=>?_)|refine zw5 _ rfl ?_|refine zw6 rfl ?_|refine zw7 mixed rfl ?_|refine IdxN.intro 0 rfl (by decide) ?_|refine g1 ?_|refine g2 ?_|refine g3 ?_)
  conv=>whnf
  exact ⟨1,by decide,by decide,Weak.to 3 rfl (zw22 _) (zw18 rfl) ⟨rfl,rfl,rfl,rfl,rfl,trivial⟩⟩
 ·obtain ⟨u,e,hu,g1,g2⟩:=key y
  have g3:=fun {L : List Blk} {k : V → List Blk → Prop} h=>hsame u hu (L:=L) (k:=k) h
  have q1 : decide (e = e) = true:=zw19 rfl
  repeat' ((conv=>whnf); first|refine zw8 q1 ?_|refine zw0 ?_|refine zw1 ?_|refine zw2 (fun h=>?_) (fun h=>?_)|refine zw3 ?_|refine zw4 (fun h=>?_) (fun h=>?_)|refine zw5 _ rfl ?_|refine zw6 rfl ?_|refine zw7 mixed rfl ?_|refine IdxN.intro 1 rfl (by decide) ?_|refine g1 ?_|refine g2 ?_|refine g3 ?_)
  conv=>whnf
  exact ⟨2,by decide,by decide,Weak.to 3 rfl (zw22 _) (zw18 rfl) ⟨rfl,rfl,rfl,rfl,rfl,trivial⟩⟩
 repeat' ((conv=>whnf); first|refine zw0 ?_|refine zw1 ?_|refine zw2 (fun h=>?_) (fun h=>?_)|refine zw3 ?_|refine zw4 (fun h=>?_) (fun h=>?_)|refine zw5 _ rfl ?_|refine zw6 rfl ?_|refine zw7 mixed rfl ?_)
 conv=>whnf
 refine LoopP.inv (fun i : Nat=>i ≤ 2) (fun i=>⟨[(4,.ptr 0 0),(68,.own 3 0 0 2),(69,I 2),(70,I i)],Tryd.f4.ntmps,[.cells [.d (nds t)],.cells (x.cells.map .d),.row 0 4 [x.cells.map .d,y.cells.map .d],.row 0 1 [[I node],[I (andI .i64 node 7)]]],[],none⟩) (fun i=>2 - i) 0 (by decide) ?_ ?_
 ·exact Weak.to 4 rfl (zw22 _) (zw18 rfl) ⟨rfl,rfl,rfl,rfl,trivial⟩
 intro i hi
 rcases (show i = 0 ∨ i = 1 ∨ i = 2 by omega) with rfl | rfl | rfl
 ·obtain ⟨a,b,c,d,o,e,g1,g2⟩:=kez node
  have q0 : (decide (a = a) && (decide (b = b) && (decide (c = c) && (decide (d = d) && true)))) = true:=by simp
  have q1 : decide (e = e) = true:=zw19 rfl
  have q2 : (o == o) = true:=beq_self_eq_true o
  repeat' ((conv=>whnf); first|refine zw8 q0 ?_|refine zw8 q1 ?_|refine zw8 q2 ?_|refine zw0 ?_|refine zw1 ?_|refine zw2 (fun h=>?_) (fun h=>?_)|refine zw3 ?_|refine zw4 (fun h=>?_) (fun h=>?_)|refine zw5 _ rfl ?_|refine zw6 rfl ?_|refine zw7 mixed rfl ?_|refine IdxN.intro 0 rfl (by decide) ?_|refine g1 ?_|refine g2 ?_)
  conv=>whnf
  exact ⟨1,by decide,by decide,Weak.to 4 rfl (zw22 _) (zw18 rfl) ⟨rfl,rfl,rfl,rfl,trivial⟩⟩
 ·obtain ⟨a,b,c,d,o,e,g1,g2⟩:=kez (andI .i64 node 7)
  have q0 : (decide (a = a) && (decide (b = b) && (decide (c = c) && (decide (d = d) && true)))) = true:=by simp
  have q1 : decide (e = e) = true:=zw19 rfl
  have q2 : (o == o) = true:=beq_self_eq_true o
  repeat' ((conv=>whnf); first|refine zw8 q0 ?_|refine zw8 q1 ?_|refine zw8 q2 ?_|refine zw0 ?_|refine zw1 ?_|refine zw2 (fun h=>?_) (fun h=>?_)|refine zw3 ?_|refine zw4 (fun h=>?_) (fun h=>?_)|refine zw5 _ rfl ?_|refine zw6 rfl ?_|refine zw7 mixed rfl ?_|refine IdxN.intro 1 rfl (by decide) ?_|refine g1 ?_|refine g2 ?_)
  conv=>whnf
  exact ⟨2,by decide,by decide,Weak.to 4 rfl (zw22 _) (zw18 rfl) ⟨rfl,rfl,rfl,rfl,trivial⟩⟩
 ·repeat' (conv => whnf
           first|refine zw0 ?_|refine zw1 ?_|refine zw2 (fun h=>?_) (fun h=>?_)|refine zw3 ?_|refine zw4 (fun h=>?_) (fun h=>?_)|refine zw5 _ rfl ?_|refine zw6 rfl ?_|refine zw7 mixed rfl ?_)
  conv=>whnf
  exact FinP.drop (n:=0) rfl (zw21 0) rfl rfl ⟨rfl,rfl⟩
theorem call_closed : ∀ xss,TyA C.P Tryd.f4.params.toList xss → (∀ xs ∈ xss,∀ y ∈ xs,Dsm reachBytes y) → CallP C 4 (argVs C.P Tryd.f4.params.toList xss) [] fun X L=>L = [] ∧ X = .d (.bool true):=by
 intro xss h hsm
 match xss,h,hsm with
 | [x1,x2,x3,x4],⟨h1,h2,h3,h4,_⟩,hsm =>
  obtain ⟨x1,rfl,b1⟩:=treeT h1 (hsm _ (by simp))
  obtain ⟨x2,rfl,b2⟩:=envT h2 (hsm _ (by simp))
  obtain ⟨x3,rfl,b3⟩:=intT h3 (hsm _ (by simp))
  obtain ⟨x4,rfl,b4⟩:=intT h4 (hsm _ (by simp))
  exact law x1 x2 x3 x4 b1
theorem contract (H : Type) (enc : TypeId × Value → H) (W : World) (base : Nat) (args : Array Value) (ds gs : List (DataW H)) (before : List MemPlace)
  (hval : ∀ (j : Nat) t v,Tryd.f4.params[j]? = some t → args[j]? = some v → Value.okWide Tryd.prog W .any base t v)
  (hW : DataW.Whole enc Tryd.prog Tryd.f4.params.toList Rows.treesEvalSpecSpec.vars false W args.toList ds gs before)
  (hz : (DataW.weightsEach Tryd.prog (Tryd.f4.params.toList ++ Rows.treesEvalSpecSpec.plain.varTypes Tryd.prog) (ds ++ gs)).all (· ≤ reachBytes) = true) (hL : laidMetH Tryd.prog Rows.treesEvalSpecRow.laid W) :
  Calls Tryd.prog 4 args W fun e W'=>∃ v,e = .returned v ∧ Rows.treesEvalSpecSpec.post enc Tryd.prog Tryd.f4 false true false false W args v W':=by
 refine law_ofB (C:=C) (l:=plainTys) kids full plainOk bytesOk plainLt (fun t ht=>?_) rfl rfl Tryd.underlying4 (fun ds hd=>?_) call_closed hval hW hz (glob_ok hL)
 ·have : Tryd.f4.params.toList.all (fun t=>plainTys.contains t) = true:=by kernel_rfl
  simpa using List.all_eq_true.1 this t ht
 ·match ds,hd with
  | [d1,d2,d3,d4],_=>rfl
theorem laid_met (os : Os) : laidMet Tryd.prog Rows.treesEvalSpecRow.laid ((laidWorld os).forCall (fun _ _=>0) ⟨#[],#[.agg #[.slice none 0 0],.agg #[.int .i64 0,.int .i64 0,.int .i64 0,.int .i64 0],.int .i64 0,.int .i64 0],[]⟩).memory :=
 laidMet_of_run' 8 (by kernel_rfl) (by kernel_rfl)
theorem reads (os : Os) {H : Type} (enc : TypeId × Value → H) : ∃ places,DataW.whole enc Tryd.prog ((laidWorld os).forCall (fun _ _=>0) ⟨#[],#[.agg #[.slice none 0 0],.agg #[.int .i64 0,.int .i64 0,.int .i64 0,.int .i64 0],.int .i64 0,.int .i64 0],[]⟩).memory Tryd.f4.params.toList Rows.treesEvalSpecSpec.vars false #[.agg #[.slice none 0 0],.agg #[.int .i64 0,.int .i64 0,.int .i64 0,.int .i64 0],.int .i64 0,.int .i64 0].toList 8 = some ([.agg [.nil],.agg [.lit (.int .i64 0),.lit (.int .i64 0),.lit (.int .i64 0),.lit (.int .i64 0)],.lit (.int .i64 0),.lit (.int .i64 0)],[],places) :=
 ⟨[],by kernel_rfl⟩
set_option maxRecDepth 100000 in
theorem lifted (os : Os) (started : os.Started) (H : Type) (enc : TypeId × Value → H) (F : Stop.Interp) :
  ReturnsInHanded {} Tryd.checked os 4 .any ((OpenSpec.ofChange Rows.treesEvalSpecSpec).preRow enc Tryd.prog Tryd.f4 Rows.treesEvalSpecRow.domain false Rows.treesEvalSpecRow.laid) (((OpenSpec.ofChange Rows.treesEvalSpecSpec).at F).post enc Tryd.prog Tryd.f4 false true false false):=by
 obtain ⟨places,hx⟩:=reads os enc
 refine returnsInHanded_of_row (C:=Tryd.checked) (s:=OpenSpec.ofChange Rows.treesEvalSpecSpec) own started (by kernel_rfl) Tryd.func4
  (witness_row_at (enc:=enc) (C:=Tryd.checked) false (laidWorld os) #[.agg #[.slice none 0 0],.agg #[.int .i64 0,.int .i64 0,.int .i64 0,.int .i64 0],.int .i64 0,.int .i64 0] rfl (by kernel_rfl) (by kernel_rfl) (by kernel_rfl)
   (OpenSpec.preRow_of_cond 8 hx (by kernel_rfl) (fun k hk=>by cases hk) (by kernel_rfl) (laid_met os))) ?_
 intro W base args ds gs before hval hW _ _ hz hL _ _
 exact contract H enc W base args ds gs before hval hW hz hL
theorem said : Rows.TreesEvalSpecSaid :=
 OpenClaim.holds_of_cond 4 Tryd.f4 rfl rfl rfl rfl rfl rfl rfl ⟨rfl,rfl,rfl,rfl,rfl⟩ rfl rfl rfl rfl rfl (by kernel_rfl) Tryd.func4 (by kernel_rfl)
  (of_decide_eq_true (by kernel_rfl)) (by unfold Func.isWrapper; first | (rw [if_pos (by decide +kernel)]; kernel_rfl) | (rw [if_neg (by decide +kernel)]; exact ⟨rfl,rfl⟩))
  (fun os started H enc _ F=>by rw [OpenClaim.pre_eq_preRow]; exact lifted os started H enc F)
theorem plain (f : FuncId) (fn : Func) (hf : Tryd.pinned.checked.prog.funcNamed "assize/assizelaw16.TreesEvalSpec" = some f) (hfn : Tryd.pinned.checked.prog.funcs[f]? = some fn) :
  true = Tryd.pinned.checked.prog.looks [] ∧ ∀ (j : Nat) t,fn.params[j]? = some t → Tryd.pinned.checked.prog.wantsStandIn t = false:=by
 obtain rfl : f = 4 := Option.some.inj ((show Tryd.prog.funcNamed "assize/assizelaw16.TreesEvalSpec" = some 4 by kernel_rfl).symm.trans hf) |>.symm
 obtain rfl : fn = Tryd.f4:=(Option.some.inj (Tryd.func4.symm.trans hfn)).symm
 refine ⟨by kernel_rfl,fun j t ht=>?_⟩
 have hall : Tryd.f4.params.toList.all (fun t=>!Tryd.prog.wantsStandIn t) = true:=by kernel_rfl
 have:=List.all_eq_true.1 hall t (by simpa using Array.mem_of_getElem? ht)
 show Tryd.prog.wantsStandIn t = false
 simpa using this
theorem proved : Rows.TreesEvalSpecCardSaid :=
 Claim7.holds_tied_plain_at .later [] _ _ _ _ said (fun _ h=>by cases h) (by kernel_rfl) (fun _ h=>by cases h) treesEvalSpec_row_tie rfl ⟨rfl,rfl⟩ (by kernel_rfl) rfl plain (by kernel_rfl)
end Go.Proofs.YtclmjkhdmhlijaaDoor.treesEvalSpec
