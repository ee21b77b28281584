import Derived.Test.YtclmjkhdmhlijaaDoorJMF
set_option maxRecDepth 100000
set_option maxHeartbeats 0
set_option linter.unusedSimpArgs false
set_option linter.unusedVariables false
namespace Go.Proofs.YtclmjkhdmhlijaaDoor.treesMeaning
open Go.Tidy Go.ChangeShapes Go.WideShapes Go.ChangeAt Go.RowKit
theorem at_box (n : Int) : Box (En.at (envN n)):=by
 have h:=envN_rng n
 generalize envN n = m at *
 rw [← box_env]
 unfold envE En.at
 simp only
 rw [if_pos (by omega)]
theorem law (l : List Sp) (n m : Int) (hl : LSs l) : CallP C 5 [.d (sps l),I n,I m] [] fun X L=>L = [] ∧ X = .d (.bool true):=by
 have f1 : ∀ {L : List Blk} {k : V → List Blk → Prop},k (B (fewR l)) L → CallP C 21 [.d (sps l)] L k:=fun h=>rfew_c _ hl h
 cases hfw : fewR l with
 | false =>
  rw [hfw] at f1
  refine callP_of C_ok Tryd.func5 rfl rfl (n:=_) rfl (zw18 rfl) (rs:=_) rfl ?_
  repeat' ((conv=>whnf); first|refine zw0 ?_|refine zw1 ?_|refine zw2 (fun h=>?_) (fun h=>?_)|refine zw3 ?_|refine zw4 (fun h=>?_) (fun h=>?_)|refine zw5 _ rfl ?_|refine zw6 rfl ?_|refine zw7 mixed rfl ?_|refine sane16_c ?_|refine f1 ?_)
  conv=>whnf
  exact FinP.drop (n:=0) rfl (zw21 0) rfl rfl ⟨rfl,rfl⟩
 | true =>
 rw [hfw] at f1
 have hf3 : few3 (vq l):=by
  unfold fewR at hfw
  rw [Bool.and_eq_true,decide_eq_true_eq] at hfw
  exact hfw.2
 have f2 : ∀ {L : List Blk} {k : V → List Blk → Prop},k (.tup [treV (cmpX l),I (orderF l)]) L → CallP C 22 [.d (sps l)] L k:=fun h=>compile_c l hl (fun _=>hf3) h
 by_cases ho : orderF l = 0
 rotate_left
 ·have f4 : ∀ {L : List Blk} {k : V → List Blk → Prop},k (I (orderF l)) L → CallP C 23 [.d (sps l)] L k:=fun h=>order_c l hl h
  rw [show cmpX l = [] from if_neg ho] at f2
  generalize orderF l = o at *
  have q1 : decide (o = o) = true:=zw19 rfl
  refine callP_of C_ok Tryd.func5 rfl rfl (n:=_) rfl (zw18 rfl) (rs:=_) rfl ?_
  repeat' ((conv=>whnf); first|refine zw9 (zw20 ho) ?_|refine zw8 q1 ?_|refine zw0 ?_|refine zw1 ?_|refine zw2 (fun h=>?_) (fun h=>?_)|refine zw3 ?_|refine zw4 (fun h=>?_) (fun h=>?_)|refine zw5 _ rfl ?_|refine zw6 rfl ?_|refine zw7 mixed rfl ?_|refine sane16_c ?_|refine f1 ?_|refine f2 ?_|refine f4 ?_)
  conv=>whnf
  exact FinP.drop (n:=0) rfl (zw21 0) rfl rfl ⟨rfl,rfl⟩
 obtain ⟨hV,hev,hlen⟩:=mean_ok hl ho hf3
 have hsm:=(cmp_sm hl (fun _=>hf3)).1
 rw [show cmpX l = cmpN l from if_pos ho] at f2 hsm
 rw [ho] at f2
 have hck0:=checkT_iff.2 hV
 have hck : ∀ {L : List Blk} {k : V → List Blk → Prop},k (I 0) L → CallP C 11 [treV (cmpN l)] L k:=fun h=>check16_c _ hsm (by rw [hck0]; exact h)
 have key : ∀ y : En,Box y → ∃ u : List Int,u.length ≤ 12 ∧ (∀ {L : List Blk} {k : V → List Blk → Prop},k (.tup [.d (ins u),I 0]) L → CallP C 16 [treV (cmpN l),enV y] L k) ∧
   (∀ {L : List Blk} {k : V → List Blk → Prop},k (.tup [.d (ins u),I 0]) L → CallP C 24 [.d (sps l),enV y] L k):=fun y hy =>
  ⟨directB l y,(directB_ok hl y).len,fun h=>eval_c _ y hsm (by
    unfold evalB evalE
    rw [if_pos ⟨hck0,box_env.2 hy⟩,if_neg (fun hn=>hn hck0),hev y hy,box_env.2 hy]; exact h),
   fun h=>Direct_c l y hl (order_dsp hl) (by
    unfold directE
    rw [if_neg (fun hn=>hn ho),box_env.2 hy]; exact h)⟩
 generalize cmpN l = t at *
 have e1 : ∀ {L : List Blk} {k : V → List Blk → Prop},k (enV (En.at (envN n))) L → CallP C 15 [I n] L k:=fun h=>env16_c n h
 have e2 : ∀ {L : List Blk} {k : V → List Blk → Prop},k (enV (En.at (envN m))) L → CallP C 15 [I m] L k:=fun h=>env16_c m h
 have e3 : ∀ {L : List Blk} {k : V → List Blk → Prop},k (enV (En.at (envN (IntKind.i64.wrap (n + m))))) L → CallP C 15 [I (IntKind.i64.wrap (n + m))] L k:=fun h=>env16_c _ h
 have b1:=at_box n
 have b2:=at_box m
 have b3:=at_box (IntKind.i64.wrap (n + m))
 have b4 : Box ⟨2,0,0,2⟩:=box_env.1 (by decide)
 have b5 : Box ⟨24,46,1,24⟩:=box_env.1 (by decide)
 generalize En.at (envN n) = y1 at *
 generalize En.at (envN m) = y2 at *
 generalize En.at (envN (IntKind.i64.wrap (n + m))) = y3 at *
 have hz : decide ((0 : Int) = 0) = true:=rfl
 refine callP_of C_ok Tryd.func5 rfl rfl (n:=_) rfl (zw18 rfl) (rs:=_) rfl ?_
 repeat' ((conv=>whnf); first|refine zw0 ?_|refine zw1 ?_|refine zw2 (fun h=>?_) (fun h=>?_)|refine zw3 ?_|refine zw4 (fun h=>?_) (fun h=>?_)|refine zw5 _ rfl ?_|refine zw6 rfl ?_|refine zw7 mixed rfl ?_|refine sane16_c ?_|refine f1 ?_|refine f2 ?_|refine hck ?_|refine e3 ?_|refine e1 ?_|refine e2 ?_)
 conv=>whnf
 refine LoopP.inv (fun i : Nat=>i ≤ 5) (fun i=>⟨[(0,.d (sps l)),(7,.ptr 0 0),(54,.own 1 0 0 5),(55,I 5),(56,I i)],Tryd.f5.ntmps,[.cells [.d (nds t)],.row 0 4 [y1.cells.map .d,y2.cells.map .d,y3.cells.map .d,[I 2,I 0,I 0,I 2],[I 24,I 46,I 1,I 24]]],[],none⟩) (fun i=>5 - i) 0 (by decide) ?_ ?_
 ·exact Weak.to 2 rfl (zw22 _) (zw18 rfl) ⟨rfl,rfl,rfl,rfl,rfl,trivial⟩
 intro i hi
 have hsame : ∀ u : List Int,u.length ≤ 12 → ∀ {L : List Blk} {k : V → List Blk → Prop},k (B true) L → CallP C 18 [.d (ins u),.d (ins u)] L k:=fun u hu _ _ h=>same_c u u (by omega) (by omega) (by rw [decide_eq_true rfl]; exact h)
 rcases (show i = 0 ∨ i = 1 ∨ i = 2 ∨ i = 3 ∨ i = 4 ∨ i = 5 by omega) with rfl | rfl | rfl | rfl | rfl | rfl
 ·obtain ⟨u,hu,g1,g2⟩:=key y1 b1
  have g3:=fun {L : List Blk} {k : V → List Blk → Prop} h=>hsame u hu (L:=L) (k:=k) h
  repeat' ((conv=>whnf); first|refine zw0 ?_|refine zw1 ?_|refine zw2 (fun h=>?_) (fun h=>?_)|refine zw3 ?_|refine zw4 (fun h=>?_) (fun h=>?_)|refine zw5 _ rfl ?_|refine zw6 rfl ?_|refine zw7 mixed rfl ?_|refine IdxN.intro 0 rfl (by decide) ?_|refine g1 ?_|refine g2 ?_|refine g3 ?_)
  conv=>whnf
  exact ⟨1,by decide,by decide,Weak.to 2 rfl (zw22 _) (zw18 rfl) ⟨rfl,rfl,rfl,rfl,rfl,trivial⟩⟩
 ·obtain ⟨u,hu,g1,g2⟩:=key y2 b2
  have g3:=fun {L : List Blk} {k : V → List Blk → Prop} h=>hsame u hu (L:=L) (k:=k) h
  repeat' ((conv=>whnf); first|refine zw0 ?_|refine zw1 ?_|refine zw2 (fun h=>?_) (fun h=>?_)|refine zw3 ?_|refine zw4 (fun h=>?_) (fun h=>?_)|refine zw5 _ rfl ?_|refine zw6 rfl ?_|refine zw7 mixed rfl ?_|refine IdxN.intro 1 rfl (by decide) ?_|refine g1 ?_|refine g2 ?_|refine g3 ?_)
  conv=>whnf
  exact ⟨2,by decide,by decide,Weak.to 2 rfl (zw22 _) (zw18 rfl) ⟨rfl,rfl,rfl,rfl,rfl,trivial⟩⟩
 ·obtain ⟨u,hu,g1,g2⟩:=key y3 b3
  have g3:=fun {L : List Blk} {k : V → List Blk → Prop} h=>hsame u hu (L:=L) (k:=k) h
  repeat' ((conv=>whnf); first|refine zw0 ?_|refine zw1 ?_|refine zw2 (fun h=>?_) (fun h=>?_)|refine zw3 ?_|refine zw4 (fun h=>?_) (fun h=>?_)|refine zw5 _ rfl ?_|refine zw6 rfl ?_|refine zw7 mixed rfl ?_|refine IdxN.intro 2 rfl (by decide) ?_|refine g1 ?_|refine g2 ?_|refine g3 ?_)
  conv=>whnf
  exact ⟨3,by decide,by decide,Weak.to 2 rfl (zw22 _) (zw18 rfl) ⟨rfl,rfl,rfl,rfl,rfl,trivial⟩⟩
 ·obtain ⟨u,hu,g1,g2⟩:=key _ b4
  have g3:=fun {L : List Blk} {k : V → List Blk → Prop} h=>hsame u hu (L:=L) (k:=k) h
  repeat' ((conv=>whnf); first|refine zw0 ?_|refine zw1 ?_|refine zw2 (fun h=>?_) (fun h=>?_)|refine zw3 ?_|refine zw4 (fun h=>?_) (fun h=>?_)|refine zw5 _ rfl ?_|refine zw6 rfl ?_|refine zw7 mixed rfl ?_|refine IdxN.intro 3 rfl (by decide) ?_|refine g1 ?_|refine g2 ?_|refine g3 ?_)
  conv=>whnf
  exact ⟨4,by decide,by decide,Weak.to 2 rfl (zw22 _) (zw18 rfl) ⟨rfl,rfl,rfl,rfl,rfl,trivial⟩⟩
 ·obtain ⟨u,hu,g1,g2⟩:=key _ b5
  have g3:=fun {L : List Blk} {k : V → List Blk → Prop} h=>hsame u hu (L:=L) (k:=k) h
  repeat' ((conv=>whnf); first|refine zw0 ?_|refine zw1 ?_|refine zw2 (fun h=>?_) (fun h=>?_)|refine zw3 ?_|refine zw4 (fun h=>?_) (fun h=>?_)|refine zw5 _ rfl ?_|refine zw6 rfl ?_|refine zw7 mixed rfl ?_|refine IdxN.intro 4 rfl (by decide) ?_|refine g1 ?_|refine g2 ?_|refine g3 ?_)
  conv=>whnf
  exact ⟨5,by decide,by decide,Weak.to 2 rfl (zw22 _) (zw18 rfl) ⟨rfl,rfl,rfl,rfl,rfl,trivial⟩⟩
 ·repeat' (conv => whnf
           first|refine zw0 ?_|refine zw1 ?_|refine zw2 (fun h=>?_) (fun h=>?_)|refine zw3 ?_|refine zw4 (fun h=>?_) (fun h=>?_)|refine zw5 _ rfl ?_|refine zw6 rfl ?_|refine zw7 mixed rfl ?_)
  conv=>whnf
  exact FinP.drop (n:=0) rfl (zw21 0) rfl rfl ⟨rfl,rfl⟩
theorem call_closed : ∀ xss,TyA C.P Tryd.f5.params.toList xss → (∀ xs ∈ xss,∀ y ∈ xs,Dsm reachBytes y) → CallP C 5 (argVs C.P Tryd.f5.params.toList xss) [] fun X L=>L = [] ∧ X = .d (.bool true):=by
 intro xss h hsm
 match xss,h,hsm with
 | [x1,x2,x3],⟨h1,h2,h3,_⟩,hsm =>
  obtain ⟨x1,rfl,b1⟩:=stepsT h1 (hsm _ (by simp))
  obtain ⟨x2,rfl,b2⟩:=intT h2 (hsm _ (by simp))
  obtain ⟨x3,rfl,b3⟩:=intT h3 (hsm _ (by simp))
  exact law x1 x2 x3 b1
theorem contract (H : Type) (enc : TypeId × Value → H) (W : World) (base : Nat) (args : Array Value) (ds gs : List (DataW H)) (before : List MemPlace)
  (hval : ∀ (j : Nat) t v,Tryd.f5.params[j]? = some t → args[j]? = some v → Value.okWide Tryd.prog W .any base t v)
  (hW : DataW.Whole enc Tryd.prog Tryd.f5.params.toList Rows.treesMeaningSpec.vars false W args.toList ds gs before)
  (hz : (DataW.weightsEach Tryd.prog (Tryd.f5.params.toList ++ Rows.treesMeaningSpec.plain.varTypes Tryd.prog) (ds ++ gs)).all (· ≤ reachBytes) = true) (hL : laidMetH Tryd.prog Rows.treesMeaningRow.laid W) :
  Calls Tryd.prog 5 args W fun e W'=>∃ v,e = .returned v ∧ Rows.treesMeaningSpec.post enc Tryd.prog Tryd.f5 false true false false W args v W':=by
 refine law_ofB (C:=C) (l:=plainTys) kids full plainOk bytesOk plainLt (fun t ht=>?_) rfl rfl Tryd.underlying4 (fun ds hd=>?_) call_closed hval hW hz (glob_ok hL)
 ·have : Tryd.f5.params.toList.all (fun t=>plainTys.contains t) = true:=by kernel_rfl
  simpa using List.all_eq_true.1 this t ht
 ·match ds,hd with
  | [d1,d2,d3],_=>rfl
theorem laid_met (os : Os) : laidMet Tryd.prog Rows.treesMeaningRow.laid ((laidWorld os).forCall (fun _ _=>0) ⟨#[],#[.slice none 0 0,.int .i64 0,.int .i64 0],[]⟩).memory :=
 laidMet_of_run' 8 (by kernel_rfl) (by kernel_rfl)
theorem reads (os : Os) {H : Type} (enc : TypeId × Value → H) : ∃ places,DataW.whole enc Tryd.prog ((laidWorld os).forCall (fun _ _=>0) ⟨#[],#[.slice none 0 0,.int .i64 0,.int .i64 0],[]⟩).memory Tryd.f5.params.toList Rows.treesMeaningSpec.vars false #[.slice none 0 0,.int .i64 0,.int .i64 0].toList 8 = some ([.nil,.lit (.int .i64 0),.lit (.int .i64 0)],[],places) :=
 ⟨[],by kernel_rfl⟩
set_option maxRecDepth 100000 in
theorem lifted (os : Os) (started : os.Started) (H : Type) (enc : TypeId × Value → H) (F : Stop.Interp) :
  ReturnsInHanded {} Tryd.checked os 5 .any ((OpenSpec.ofChange Rows.treesMeaningSpec).preRow enc Tryd.prog Tryd.f5 Rows.treesMeaningRow.domain false Rows.treesMeaningRow.laid) (((OpenSpec.ofChange Rows.treesMeaningSpec).at F).post enc Tryd.prog Tryd.f5 false true false false):=by
 obtain ⟨places,hx⟩:=reads os enc
 refine returnsInHanded_of_row (C:=Tryd.checked) (s:=OpenSpec.ofChange Rows.treesMeaningSpec) own started (by kernel_rfl) Tryd.func5
  (witness_row_at (enc:=enc) (C:=Tryd.checked) false (laidWorld os) #[.slice none 0 0,.int .i64 0,.int .i64 0] rfl (by kernel_rfl) (by kernel_rfl) (by kernel_rfl)
   (OpenSpec.preRow_of_cond 8 hx (by kernel_rfl) (fun k hk=>by cases hk) (by kernel_rfl) (laid_met os))) ?_
 intro W base args ds gs before hval hW _ _ hz hL _ _
 exact contract H enc W base args ds gs before hval hW hz hL
theorem said : Rows.TreesMeaningSaid :=
 OpenClaim.holds_of_cond 5 Tryd.f5 rfl rfl rfl rfl rfl rfl rfl ⟨rfl,rfl,rfl,rfl,rfl⟩ rfl rfl rfl rfl rfl (by kernel_rfl) Tryd.func5 (by kernel_rfl)
  (of_decide_eq_true (by kernel_rfl)) (by unfold Func.isWrapper; first | (rw [if_pos (by decide +kernel)]; kernel_rfl) | (rw [if_neg (by decide +kernel)]; exact ⟨rfl,rfl⟩))
  (fun os started H enc _ F=>by rw [OpenClaim.pre_eq_preRow]; exact lifted os started H enc F)
theorem plain (f : FuncId) (fn : Func) (hf : Tryd.pinned.checked.prog.funcNamed "assize/assizelaw16.TreesMeaning" = some f) (hfn : Tryd.pinned.checked.prog.funcs[f]? = some fn) :
  true = Tryd.pinned.checked.prog.looks [] ∧ ∀ (j : Nat) t,fn.params[j]? = some t → Tryd.pinned.checked.prog.wantsStandIn t = false:=by
 obtain rfl : f = 5 := Option.some.inj ((show Tryd.prog.funcNamed "assize/assizelaw16.TreesMeaning" = some 5 by kernel_rfl).symm.trans hf) |>.symm
 obtain rfl : fn = Tryd.f5:=(Option.some.inj (Tryd.func5.symm.trans hfn)).symm
 refine ⟨by kernel_rfl,fun j t ht=>?_⟩
 have hall : Tryd.f5.params.toList.all (fun t=>!Tryd.prog.wantsStandIn t) = true:=by kernel_rfl
 have:=List.all_eq_true.1 hall t (by simpa using Array.mem_of_getElem? ht)
 show Tryd.prog.wantsStandIn t = false
 simpa using this
theorem proved : Rows.TreesMeaningCardSaid :=
 Claim7.holds_tied_plain_at .later [] _ _ _ _ said (fun _ h=>by cases h) (by kernel_rfl) (fun _ h=>by cases h) treesMeaning_row_tie rfl ⟨rfl,rfl⟩ (by kernel_rfl) rfl plain (by kernel_rfl)
end Go.Proofs.YtclmjkhdmhlijaaDoor.treesMeaning
