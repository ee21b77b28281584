import Derived.Test.YtclmjkhdmhlijaaGreatDoorJCG
set_option maxRecDepth 100000
set_option maxHeartbeats 0
set_option linter.unusedSimpArgs false
set_option linter.unusedVariables false
namespace Go.Proofs.YtclmjkhdmhlijaaGreatDoor.treesCompileSpec
open Go.Tidy Go.ChangeShapes Go.WideShapes Go.ChangeAt Go.RowKit
theorem law (l : List Sp) (hl : LSs l) : CallP C 3 [.d (sps l)] [] fun X L=>L = [] ∧ X = .d (.bool true):=by
 have f1 : ∀ {L : List Blk} {k : V → List Blk → Prop},k (B (fewR l)) L → CallP C 5 [.d (sps l)] L k:=fun h=>rfew_c _ hl h
 cases hfw : fewR l with
 | false =>
  rw [hfw] at f1
  refine callP_of C_ok Tryz.func3 rfl rfl (n:=_) rfl (zw18 rfl) (rs:=_) rfl ?_
  repeat' ((conv=>whnf); first|refine sane16_c ?_|refine f1 ?_|refine zw0 ?_|refine zw1 ?_|refine zw2 (fun h=>?_) (fun h=>?_)|refine zw3 ?_|refine zw4 (fun h=>?_) (fun h=>?_)|refine zw5 _ rfl ?_|refine zw6 rfl ?_|refine zw7 mixed rfl ?_)
  conv=>whnf
  exact FinP.drop (n:=0) rfl (zw21 0) rfl rfl ⟨rfl,rfl⟩
 | true =>
 rw [hfw] at f1
 have hf3 : few3 (vq l):=by
  unfold fewR at hfw
  rw [Bool.and_eq_true,decide_eq_true_eq] at hfw
  exact hfw.2
 have f2 : ∀ {L : List Blk} {k : V → List Blk → Prop},k (.tup [treV (cmpX l),I (orderF l)]) L → CallP C 6 [.d (sps l)] L k:=fun h=>compile_c l hl (fun _=>hf3) h
 have f3 : ∀ {L : List Blk} {k : V → List Blk → Prop},k (.tup [treV (cmpX l),I (orderF l)]) L → CallP C 7 [.d (sps l)] L k:=fun h=>rcompile_c l hl (fun _=>hf3) h
 have z1:=(cmp_sm hl (fun _=>hf3)).1
 have k1 : ∀ {L : List Blk} {k : V → List Blk → Prop},k (B true) L → CallP C 8 [treV (cmpX l),treV (cmpX l)] L k:=fun h=>rsame_c _ _ (Nat.le_trans z1.len (by decide)) (Nat.le_trans z1.len (by decide)) (fun x hx=>big62 (z1.by_ x hx)) (fun x hx=>big62 (z1.by_ x hx)) (by rw [decide_eq_true rfl]; exact h)
 generalize cmpX l = t at *
 generalize orderF l = e at *
 refine callP_of C_ok Tryz.func3 rfl rfl (n:=_) rfl (zw18 rfl) (rs:=_) rfl ?_
 repeat' ((conv=>whnf); first|refine sane16_c ?_|refine f1 ?_|refine f2 ?_|refine f3 ?_|refine k1 ?_|refine zw8 (zw19 (show e = e from rfl)) ?_|refine zw0 ?_|refine zw1 ?_|refine zw2 (fun h=>?_) (fun h=>?_)|refine zw3 ?_|refine zw4 (fun h=>?_) (fun h=>?_)|refine zw5 _ rfl ?_|refine zw6 rfl ?_|refine zw7 mixed rfl ?_)
 conv=>whnf
 have q3 : decide (e = e) = true:=zw19 rfl
 exact FinP.drop (n:=0) rfl (zw21 0) rfl rfl ⟨rfl,congrArg B q3⟩
theorem call_closed : ∀ xss,TyA C.P Tryz.f3.params.toList xss → (∀ xs ∈ xss,∀ y ∈ xs,Dsm reachBytes y) → CallP C 3 (argVs C.P Tryz.f3.params.toList xss) [] fun X L=>L = [] ∧ X = .d (.bool true):=by
 intro xss h hsm
 match xss,h,hsm with
 | [x1],⟨h1,_⟩,hsm =>
  obtain ⟨x1,rfl,b1⟩:=stepsT h1 (hsm _ (by simp))
  exact law x1 b1
theorem contract (H : Type) (enc : TypeId × Value → H) (W : World) (base : Nat) (args : Array Value) (ds gs : List (DataW H)) (before : List MemPlace)
  (hval : ∀ (j : Nat) t v,Tryz.f3.params[j]? = some t → args[j]? = some v → Value.okWide Tryz.prog W .any base t v)
  (hW : DataW.Whole enc Tryz.prog Tryz.f3.params.toList Rows.treesCompileSpecSpec.vars false W args.toList ds gs before)
  (hz : (DataW.weightsEach Tryz.prog (Tryz.f3.params.toList ++ Rows.treesCompileSpecSpec.plain.varTypes Tryz.prog) (ds ++ gs)).all (· ≤ reachBytes) = true) (hL : laidMetH Tryz.prog Rows.treesCompileSpecRow.laid W) :
  Calls Tryz.prog 3 args W fun e W'=>∃ v,e = .returned v ∧ Rows.treesCompileSpecSpec.post enc Tryz.prog Tryz.f3 false true false false W args v W':=by
 refine law_ofB (C:=C) (l:=plainTys) kids full plainOk bytesOk plainLt (fun t ht=>?_) rfl rfl Tryz.underlying4 (fun ds hd=>?_) call_closed hval hW hz (glob_ok hL)
 ·have : Tryz.f3.params.toList.all (fun t=>plainTys.contains t) = true:=by kernel_rfl
  simpa using List.all_eq_true.1 this t ht
 ·match ds,hd with
  | [d1],_=>rfl
theorem laid_met (os : Os) : laidMet Tryz.prog Rows.treesCompileSpecRow.laid ((laidWorld os).forCall (fun _ _=>0) ⟨#[],#[.slice none 0 0],[]⟩).memory :=
 laidMet_of_run' 8 (by kernel_rfl) (by kernel_rfl)
theorem reads (os : Os) {H : Type} (enc : TypeId × Value → H) : ∃ places,DataW.whole enc Tryz.prog ((laidWorld os).forCall (fun _ _=>0) ⟨#[],#[.slice none 0 0],[]⟩).memory Tryz.f3.params.toList Rows.treesCompileSpecSpec.vars false #[.slice none 0 0].toList 8 = some ([.nil],[],places) :=
 ⟨[],by kernel_rfl⟩
set_option maxRecDepth 100000 in
theorem lifted (os : Os) (started : os.Started) (H : Type) (enc : TypeId × Value → H) (F : Stop.Interp) :
  ReturnsInHanded {} Tryz.checked os 3 .any ((OpenSpec.ofChange Rows.treesCompileSpecSpec).preRow enc Tryz.prog Tryz.f3 Rows.treesCompileSpecRow.domain false Rows.treesCompileSpecRow.laid) (((OpenSpec.ofChange Rows.treesCompileSpecSpec).at F).post enc Tryz.prog Tryz.f3 false true false false):=by
 obtain ⟨places,hx⟩:=reads os enc
 refine returnsInHanded_of_row (C:=Tryz.checked) (s:=OpenSpec.ofChange Rows.treesCompileSpecSpec) own started (by kernel_rfl) Tryz.func3
  (witness_row_at (enc:=enc) (C:=Tryz.checked) false (laidWorld os) #[.slice none 0 0] rfl (by kernel_rfl) (by kernel_rfl) (by kernel_rfl)
   (OpenSpec.preRow_of_cond 8 hx (by kernel_rfl) (fun k hk=>by cases hk) (by kernel_rfl) (laid_met os))) ?_
 intro W base args ds gs before hval hW _ _ hz hL _ _
 exact contract H enc W base args ds gs before hval hW hz hL
theorem said : Rows.TreesCompileSpecSaid :=
 OpenClaim.holds_of_cond 3 Tryz.f3 rfl rfl rfl rfl rfl rfl rfl ⟨rfl,rfl,rfl,rfl,rfl⟩ rfl rfl rfl rfl rfl (by kernel_rfl) Tryz.func3 (by kernel_rfl)
  (of_decide_eq_true (by kernel_rfl)) (by unfold Func.isWrapper; first | (rw [if_pos (by decide +kernel)]; kernel_rfl) | (rw [if_neg (by decide +kernel)]; exact ⟨rfl,rfl⟩))
  (fun os started H enc _ F=>by rw [OpenClaim.pre_eq_preRow]; exact lifted os started H enc F)
theorem plain (f : FuncId) (fn : Func) (hf : Tryz.pinned.checked.prog.funcNamed "assize/assizelaw16.TreesCompileSpec" = some f) (hfn : Tryz.pinned.checked.prog.funcs[f]? = some fn) :
  true = Tryz.pinned.checked.prog.looks [] ∧ ∀ (j : Nat) t,fn.params[j]? = some t → Tryz.pinned.checked.prog.wantsStandIn t = false:=by
 obtain rfl : f = 3 := Option.some.inj ((show Tryz.prog.funcNamed "assize/assizelaw16.TreesCompileSpec" = some 3 by kernel_rfl).symm.trans hf) |>.symm
 obtain rfl : fn = Tryz.f3:=(Option.some.inj (Tryz.func3.symm.trans hfn)).symm
 refine ⟨by kernel_rfl,fun j t ht=>?_⟩
 have hall : Tryz.f3.params.toList.all (fun t=>!Tryz.prog.wantsStandIn t) = true:=by kernel_rfl
 have:=List.all_eq_true.1 hall t (by simpa using Array.mem_of_getElem? ht)
 show Tryz.prog.wantsStandIn t = false
 simpa using this
theorem proved : Rows.TreesCompileSpecCardSaid :=
 Claim7.holds_tied_plain_at .later [] _ _ _ _ said (fun _ h=>by cases h) (by kernel_rfl) (fun _ h=>by cases h) treesCompileSpec_row_tie rfl ⟨rfl,rfl⟩ (by kernel_rfl) rfl plain (by kernel_rfl)
end Go.Proofs.YtclmjkhdmhlijaaGreatDoor.treesCompileSpec
