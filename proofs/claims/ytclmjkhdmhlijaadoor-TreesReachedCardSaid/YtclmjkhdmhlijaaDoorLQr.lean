import Derived.Test.YtclmjkhdmhlijaaDoorJMF
set_option maxRecDepth 100000
set_option maxHeartbeats 0
set_option linter.unusedSimpArgs false
set_option linter.unusedVariables false
namespace Go.Proofs.YtclmjkhdmhlijaaDoor.treesReached
open Go.Tidy Go.ChangeShapes Go.WideShapes Go.ChangeAt Go.RowKit
theorem at_box (n : Int) : Box (En.at (envN n)):=by
 have h:=envN_rng n
 generalize envN n = m at *
 rw [← box_env]
 unfold envE En.at
 simp only
 rw [if_pos (by omega)]
theorem law (l : List Sp) (n : Int) (hl : LSs l) : CallP C 8 [.d (sps l),I n] [] fun X L=>L = [] ∧ X = .d (.bool true):=by
 have f1 : ∀ {L : List Blk} {k : V → List Blk → Prop},k (B (fewR l)) L → CallP C 21 [.d (sps l)] L k:=fun h=>rfew_c _ hl h
 cases hfw : fewR l with
 | false =>
  rw [hfw] at f1
  refine callP_of C_ok Tryd.func8 rfl rfl (n:=_) rfl (zw18 rfl) (rs:=_) rfl ?_
  repeat' ((conv=>whnf); first|refine zw0 ?_|refine zw1 ?_|refine zw2 (fun h=>?_) (fun h=>?_)|refine zw3 ?_|refine zw4 (fun h=>?_) (fun h=>?_)|refine zw5 _ rfl ?_|refine zw6 rfl ?_|refine zw7 mixed rfl ?_|refine sane16_c ?_|refine f1 ?_)
  conv=>whnf
  exact FinP.drop (n:=0) rfl (zw21 0) rfl rfl ⟨rfl,rfl⟩
 | true =>
 rw [hfw] at f1
 have hf3 : few3 (vq l):=by
  unfold fewR at hfw
  rw [Bool.and_eq_true,decide_eq_true_eq] at hfw
  exact hfw.2
 have f2 : ∀ {L : List Blk} {k : V → List Blk → Prop},k (.tup [treV (cmpX l),I (orderF l)]) L → CallP C 22 [.d (sps l)] L k:=fun h=>compile_c l hl (fun _=>hf3) h
 by_cases ho : orderF l = 0
 rotate_left
 ·rw [show cmpX l = [] from if_neg ho] at f2
  generalize orderF l = o at *
  refine callP_of C_ok Tryd.func8 rfl rfl (n:=_) rfl (zw18 rfl) (rs:=_) rfl ?_
  repeat' ((conv=>whnf); first|refine zw9 (zw20 ho) ?_|refine zw0 ?_|refine zw1 ?_|refine zw2 (fun h=>?_) (fun h=>?_)|refine zw3 ?_|refine zw4 (fun h=>?_) (fun h=>?_)|refine zw5 _ rfl ?_|refine zw6 rfl ?_|refine zw7 mixed rfl ?_|refine sane16_c ?_|refine f1 ?_|refine f2 ?_)
  conv=>whnf
  exact FinP.drop (n:=0) rfl (zw21 0) rfl rfl ⟨rfl,rfl⟩
 obtain ⟨hV,hev,hlen⟩:=mean_ok hl ho hf3
 have hsm:=(cmp_sm hl (fun _=>hf3)).1
 rw [show cmpX l = cmpN l from if_pos ho] at f2 hsm
 rw [ho] at f2
 have hck0:=checkT_iff.2 hV
 generalize cmpN l = t at *
 by_cases c24 : (24 : Int) < ((t.map Nd.cells).length : Int)
 ·refine callP_of C_ok Tryd.func8 rfl rfl (n:=_) rfl (zw18 rfl) (rs:=_) rfl ?_
  repeat' ((conv=>whnf); first|refine zw8 (zw19 c24) ?_|refine zw0 ?_|refine zw1 ?_|refine zw2 (fun h=>?_) (fun h=>?_)|refine zw3 ?_|refine zw4 (fun h=>?_) (fun h=>?_)|refine zw5 _ rfl ?_|refine zw6 rfl ?_|refine zw7 mixed rfl ?_|refine sane16_c ?_|refine f1 ?_|refine f2 ?_)
  conv=>whnf
  exact FinP.drop (n:=0) rfl (zw21 0) rfl rfl ⟨rfl,rfl⟩
 have e1 : ∀ {L : List Blk} {k : V → List Blk → Prop},k (enV (En.at (envN n))) L → CallP C 15 [I n] L k:=fun h=>env16_c n h
 have b1:=at_box n
 generalize En.at (envN n) = y at *
 have hw:=hV.wf
 have hpos:=hV.pos
 refine callP_of C_ok Tryd.func8 rfl rfl (n:=_) rfl (zw18 rfl) (rs:=_) rfl ?_
 repeat' ((conv=>whnf); first|refine zw9 (zw20 c24) ?_|refine zw0 ?_|refine zw1 ?_|refine zw2 (fun h=>?_) (fun h=>?_)|refine zw3 ?_|refine zw4 (fun h=>?_) (fun h=>?_)|refine zw5 _ rfl ?_|refine zw6 rfl ?_|refine zw7 mixed rfl ?_|refine sane16_c ?_|refine f1 ?_|refine f2 ?_|refine e1 ?_)
 conv=>whnf
 refine LoopP.inv (fun i : Nat=>i ≤ t.length) (fun i=>⟨[(5,.ptr 0 0),(7,.ptr 1 0),(34,I t.length),(35,I i)],Tryd.f8.ntmps,[.cells [.d (nds t)],.cells (y.cells.map .d)],[],none⟩) (fun i=>t.length - i) 0 (zw22 _) ?_ ?_
 ·exact Weak.by ⟨rfl,rfl,congrArg I (congrArg Nat.cast (List.length_map _)),rfl,trivial⟩
 intro i hi
 by_cases hi' : i < t.length
 ·have hlt : (i : Int) < (t.length : Int):=by omega
  have hwr : IntKind.i64.wrap ((i : Int) + 1) = ((i + 1 : Nat) : Int):=by rw [wrap_in (by omega)]; omega
  obtain ⟨r1,r2,r3⟩:=reached hV hi'
  have hre : ∀ {L : List Blk} {k : V → List Blk → Prop},k (.tup [enV (gre t i 0 lows),B true,I 0]) L → CallP C 19 [treV t,I i] L k:=fun h=>reach_c t i hsm (by
   have e : reachX t i = gre t i 0 lows ∧ reachO t i = true ∧ reachE t i = 0:=by
    unfold reachX reachO reachE
    rw [if_pos ⟨hck0,by omega,by omega⟩,decide_eq_true ⟨hck0,by omega,by omega⟩,if_neg (fun hn=>hn hck0),if_pos ⟨by omega,by omega⟩]
    exact ⟨rfl,rfl,rfl⟩
   rw [e.1,e.2.1,e.2.2]; exact h)
  have r3':=r3 y b1
  generalize gre t i 0 lows = x at *
  have hen : ∀ {L : List Blk} {k : V → List Blk → Prop},k (I 0) L → CallP C 27 [enV x] L k:=fun h=>env_c x (by rw [box_env.2 r1]; exact h)
  have ht1 : ∀ {L : List Blk} {k : V → List Blk → Prop},k (B true) L → CallP C 28 [treV t,enV x,I i] L k:=fun h=>through_c t x i hw hpos (by omega) (by rw [decide_eq_true r2]; exact h)
  by_cases hm : i ∈ pth t y 0
  ·have ht2 : ∀ {L : List Blk} {k : V → List Blk → Prop},k (B true) L → CallP C 28 [treV t,enV y,I i] L k:=fun h=>through_c t y i hw hpos (by omega) (by rw [decide_eq_true hm]; exact h)
   have hls : ∀ {L : List Blk} {k : V → List Blk → Prop},k (B false) L → CallP C 29 [enV y,enV x] L k:=fun h=>less_c16 y x (by rw [decide_eq_false (r3' hm)]; exact h)
   repeat' ((conv=>whnf); first|refine zw8 (zw19 hlt) ?_|refine zw0 ?_|refine zw1 ?_|refine zw2 (fun h=>?_) (fun h=>?_)|refine zw3 ?_|refine zw4 (fun h=>?_) (fun h=>?_)|refine zw5 _ rfl ?_|refine zw6 rfl ?_|refine zw7 mixed rfl ?_|refine hre ?_|refine hen ?_|refine ht1 ?_|refine ht2 ?_|refine hls ?_)
   conv=>whnf
   exact ⟨i + 1,hi',by omega,Weak.to 2 rfl (zw22 _) (zw18 rfl) ⟨rfl,rfl,rfl,congrArg I hwr,trivial⟩⟩
  ·have ht2 : ∀ {L : List Blk} {k : V → List Blk → Prop},k (B false) L → CallP C 28 [treV t,enV y,I i] L k:=fun h=>through_c t y i hw hpos (by omega) (by rw [decide_eq_false hm]; exact h)
   repeat' ((conv=>whnf); first|refine zw8 (zw19 hlt) ?_|refine zw0 ?_|refine zw1 ?_|refine zw2 (fun h=>?_) (fun h=>?_)|refine zw3 ?_|refine zw4 (fun h=>?_) (fun h=>?_)|refine zw5 _ rfl ?_|refine zw6 rfl ?_|refine zw7 mixed rfl ?_|refine hre ?_|refine hen ?_|refine ht1 ?_|refine ht2 ?_)
   conv=>whnf
   exact ⟨i + 1,hi',by omega,Weak.to 2 rfl (zw22 _) (zw18 rfl) ⟨rfl,rfl,rfl,congrArg I hwr,trivial⟩⟩
 ·have hlt : ¬ (i : Int) < (t.length : Int):=by omega
  repeat' ((conv=>whnf); first|refine zw9 (zw20 hlt) ?_|refine zw0 ?_|refine zw1 ?_|refine zw2 (fun h=>?_) (fun h=>?_)|refine zw3 ?_|refine zw4 (fun h=>?_) (fun h=>?_)|refine zw5 _ rfl ?_|refine zw6 rfl ?_|refine zw7 mixed rfl ?_)
  conv=>whnf
  exact FinP.drop (n:=0) rfl (zw21 0) rfl rfl ⟨rfl,rfl⟩
theorem call_closed : ∀ xss,TyA C.P Tryd.f8.params.toList xss → (∀ xs ∈ xss,∀ y ∈ xs,Dsm reachBytes y) → CallP C 8 (argVs C.P Tryd.f8.params.toList xss) [] fun X L=>L = [] ∧ X = .d (.bool true):=by
 intro xss h hsm
 match xss,h,hsm with
 | [x1,x2],⟨h1,h2,_⟩,hsm =>
  obtain ⟨x1,rfl,b1⟩:=stepsT h1 (hsm _ (by simp))
  obtain ⟨x2,rfl,b2⟩:=intT h2 (hsm _ (by simp))
  exact law x1 x2 b1
theorem contract (H : Type) (enc : TypeId × Value → H) (W : World) (base : Nat) (args : Array Value) (ds gs : List (DataW H)) (before : List MemPlace)
  (hval : ∀ (j : Nat) t v,Tryd.f8.params[j]? = some t → args[j]? = some v → Value.okWide Tryd.prog W .any base t v)
  (hW : DataW.Whole enc Tryd.prog Tryd.f8.params.toList Rows.treesReachedSpec.vars false W args.toList ds gs before)
  (hz : (DataW.weightsEach Tryd.prog (Tryd.f8.params.toList ++ Rows.treesReachedSpec.plain.varTypes Tryd.prog) (ds ++ gs)).all (· ≤ reachBytes) = true) (hL : laidMetH Tryd.prog Rows.treesReachedRow.laid W) :
  Calls Tryd.prog 8 args W fun e W'=>∃ v,e = .returned v ∧ Rows.treesReachedSpec.post enc Tryd.prog Tryd.f8 false true false false W args v W':=by
 refine law_ofB (C:=C) (l:=plainTys) kids full plainOk bytesOk plainLt (fun t ht=>?_) rfl rfl Tryd.underlying4 (fun ds hd=>?_) call_closed hval hW hz (glob_ok hL)
 ·have : Tryd.f8.params.toList.all (fun t=>plainTys.contains t) = true:=by kernel_rfl
  simpa using List.all_eq_true.1 this t ht
 ·match ds,hd with
  | [d1,d2],_=>rfl
theorem laid_met (os : Os) : laidMet Tryd.prog Rows.treesReachedRow.laid ((laidWorld os).forCall (fun _ _=>0) ⟨#[],#[.slice none 0 0,.int .i64 0],[]⟩).memory :=
 laidMet_of_run' 8 (by kernel_rfl) (by kernel_rfl)
theorem reads (os : Os) {H : Type} (enc : TypeId × Value → H) : ∃ places,DataW.whole enc Tryd.prog ((laidWorld os).forCall (fun _ _=>0) ⟨#[],#[.slice none 0 0,.int .i64 0],[]⟩).memory Tryd.f8.params.toList Rows.treesReachedSpec.vars false #[.slice none 0 0,.int .i64 0].toList 8 = some ([.nil,.lit (.int .i64 0)],[],places) :=
 ⟨[],by kernel_rfl⟩
set_option maxRecDepth 100000 in
theorem lifted (os : Os) (started : os.Started) (H : Type) (enc : TypeId × Value → H) (F : Stop.Interp) :
  ReturnsInHanded {} Tryd.checked os 8 .any ((OpenSpec.ofChange Rows.treesReachedSpec).preRow enc Tryd.prog Tryd.f8 Rows.treesReachedRow.domain false Rows.treesReachedRow.laid) (((OpenSpec.ofChange Rows.treesReachedSpec).at F).post enc Tryd.prog Tryd.f8 false true false false):=by
 obtain ⟨places,hx⟩:=reads os enc
 refine returnsInHanded_of_row (C:=Tryd.checked) (s:=OpenSpec.ofChange Rows.treesReachedSpec) own started (by kernel_rfl) Tryd.func8
  (witness_row_at (enc:=enc) (C:=Tryd.checked) false (laidWorld os) #[.slice none 0 0,.int .i64 0] rfl (by kernel_rfl) (by kernel_rfl) (by kernel_rfl)
   (OpenSpec.preRow_of_cond 8 hx (by kernel_rfl) (fun k hk=>by cases hk) (by kernel_rfl) (laid_met os))) ?_
 intro W base args ds gs before hval hW _ _ hz hL _ _
 exact contract H enc W base args ds gs before hval hW hz hL
theorem said : Rows.TreesReachedSaid :=
 OpenClaim.holds_of_cond 8 Tryd.f8 rfl rfl rfl rfl rfl rfl rfl ⟨rfl,rfl,rfl,rfl,rfl⟩ rfl rfl rfl rfl rfl (by kernel_rfl) Tryd.func8 (by kernel_rfl)
  (of_decide_eq_true (by kernel_rfl)) (by unfold Func.isWrapper; first | (rw [if_pos (by decide +kernel)]; kernel_rfl) | (rw [if_neg (by decide +kernel)]; exact ⟨rfl,rfl⟩))
  (fun os started H enc _ F=>by rw [OpenClaim.pre_eq_preRow]; exact lifted os started H enc F)
theorem plain (f : FuncId) (fn : Func) (hf : Tryd.pinned.checked.prog.funcNamed "assize/assizelaw16.TreesReached" = some f) (hfn : Tryd.pinned.checked.prog.funcs[f]? = some fn) :
  true = Tryd.pinned.checked.prog.looks [] ∧ ∀ (j : Nat) t,fn.params[j]? = some t → Tryd.pinned.checked.prog.wantsStandIn t = false:=by
 obtain rfl : f = 8 := Option.some.inj ((show Tryd.prog.funcNamed "assize/assizelaw16.TreesReached" = some 8 by kernel_rfl).symm.trans hf) |>.symm
 obtain rfl : fn = Tryd.f8:=(Option.some.inj (Tryd.func8.symm.trans hfn)).symm
 refine ⟨by kernel_rfl,fun j t ht=>?_⟩
 have hall : Tryd.f8.params.toList.all (fun t=>!Tryd.prog.wantsStandIn t) = true:=by kernel_rfl
 have:=List.all_eq_true.1 hall t (by simpa using Array.mem_of_getElem? ht)
 show Tryd.prog.wantsStandIn t = false
 simpa using this
theorem proved : Rows.TreesReachedCardSaid :=
 Claim7.holds_tied_plain_at .later [] _ _ _ _ said (fun _ h=>by cases h) (by kernel_rfl) (fun _ h=>by cases h) treesReached_row_tie rfl ⟨rfl,rfl⟩ (by kernel_rfl) rfl plain (by kernel_rfl)
end Go.Proofs.YtclmjkhdmhlijaaDoor.treesReached
