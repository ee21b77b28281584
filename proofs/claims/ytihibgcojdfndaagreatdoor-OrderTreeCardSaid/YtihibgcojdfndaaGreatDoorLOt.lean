import Derived.Test.YtihibgcojdfndaaGreatDoorJGH
set_option maxRecDepth 100000
set_option maxHeartbeats 0
set_option linter.unusedSimpArgs false
set_option linter.unusedVariables false
namespace Go.Proofs.YtihibgcojdfndaaGreatDoor.orderTree
open Go.Tidy Go.ChangeShapes Go.WideShapes Go.ChangeAt Go.RowKit
open Sts (Res ress fieldOk)
theorem law (p : Cp) (fin : Bool) (hr : LRu p.ru) : CallP C 10 [.d (ress p.res),.d (ins p.clubs),.d (ins p.off),.agg (p.ru.cells.map .d),B fin,.d (ins p.lots)] [] fun X L=>L = [] ∧ X = .d (.bool true):=by
 have f1 : ∀ {L : List Blk} {k : V → List Blk → Prop},k (B (few19 p)) L → CallP C 12 [.d (ress p.res),.d (ins p.clubs),.d (ins p.off),.d (ins p.lots),.agg (p.ru.cells.map .d)] L k:=fun h=>few19_c p hr h
 cases hfw : few19 p with
 | false =>
  rw [hfw] at f1
  refine zw24 C_ok Tryz.func10 rfl rfl rfl (zw18 rfl) rfl ?_
  repeat' ((conv=>whnf); first|refine sane19_c ?_|refine f1 ?_|refine zw3 ?_|refine zw0 ?_|refine zw1 ?_)
  conv=>whnf
  exact FinP.zz rfl ⟨rfl,rfl⟩
 | true =>
 rw [hfw] at f1
 obtain ⟨n1,n2,n3,n4,hL⟩:=few_p hfw hr
 have hfs : fsF 20 p.ru.order ≤ 40:=by
  unfold few19 at hfw
  rw [Bool.and_eq_true,decide_eq_true_eq,decide_eq_true_eq] at hfw
  exact hfw.2
 have f2 : ∀ {L : List Blk} {k : V → List Blk → Prop},k (rankX p fin) L → CallP C 13 [.d (ress p.res),.d (ins p.clubs),.d (ins p.off),.agg (p.ru.cells.map .d),B fin,.d (ins p.lots)] L k:=fun h=>Rank_c p hL (by omega) fin h
 unfold rankX at f2
 by_cases h0 : openE p 2 p.clubs.contains = 0
 rotate_left
 ·rw [if_pos h0] at f2
  generalize openE p 2 p.clubs.contains = e at *
  refine zw24 C_ok Tryz.func10 rfl rfl rfl (zw18 rfl) rfl ?_
  repeat' ((conv=>whnf); first|refine sane19_c ?_|refine f1 ?_|refine f2 ?_|refine zw9 (zw20 h0) ?_|refine zw3 ?_|refine zw0 ?_)
  conv=>whnf
  exact FinP.zz rfl ⟨rfl,rfl⟩
 rw [if_neg (fun h=>h h0)] at f2
 obtain ⟨o1,o2,o3,o4,o5,o6⟩:=open_of h0
 have ho:=rules_order o4
 have hfo:=field_of o1
 have hgc:=gs_count p fin (show 1 ≤ p.clubs.length by omega)
 have hgs : ∀ x ∈ (p.gs fin).map (·.1),x.length ≤ 1000:=fun x hx=>by have:=gs_small hx; omega
 have hpt : p.pt fin 30 p.clubs = (p.gs fin).map (·.1):=by
  unfold Cp.pt Cp.gs Cp.evs
  rw [rank_fuel (p.rk fin) 30 p.clubs.length p.clubs 0 (by omega) (by decide) (Nat.le_refl _) (by omega)]
 have f3 : ∀ {L : List Blk} {k : V → List Blk → Prop},k (cmpW p.ru.order) L → CallP C 28 [.d (sps p.ru.order)] L k:=fun h=>compile_w _ hr.order ho (few_w ho hfs) h
 unfold cmpW at f3
 by_cases hbig : 4096 < (cmpN p.ru.order).length
 ·rw [if_pos hbig] at f3
  refine zw24 C_ok Tryz.func10 rfl rfl rfl (zw18 rfl) rfl ?_
  repeat' ((conv=>whnf); first|refine sane19_c ?_|refine f1 ?_|refine f2 ?_|refine f3 ?_|refine zw3 ?_|refine zw0 ?_|refine zw1 ?_)
  conv=>whnf
  exact FinP.zz rfl ⟨rfl,rfl⟩
 rw [if_neg hbig] at f3
 have f4 : ∀ {L : List Blk} {k : V → List Blk → Prop},k (.tup [.d (insL ((p.gs fin).map (·.1))),B true]) L → CallP C 29 [.d (ress p.res),.d (ins p.clubs),.d (ins p.off),.d (ins p.clubs),.agg (p.ru.cells.map .d),treV (cmpN p.ru.order),B fin,.d (ins p.lots),I ((30 : Nat) : Int)] L k:=fun h =>
  ranked19t_s p hL h0 (by omega) (by omega) (by omega) fin (by omega) 30 p.clubs (by decide) (List.Sublist.refl _) (by omega) (by decide) (by omega) _ _ (by rw [hpt]; exact h)
 have hG : ((p.gs fin).map (·.1)).length ≤ 1000:=by rw [List.length_map]; omega
 generalize (p.gs fin).map (·.1) = G at *
 generalize cmpN p.ru.order = t at *
 have g1 : ∀ {L : List Blk} {k : V → List Blk → Prop},k (B true) L → CallP C 15 [.d (insL G),.d (insL G)] L k:=fun h=>rsame19_c G G (by omega) (by omega) (fun x hx=>by have:=hgs x hx; omega) (fun x hx=>by have:=hgs x hx; omega) (by rw [decide_eq_true rfl]; exact h)
 refine zw24 C_ok Tryz.func10 rfl rfl rfl (zw18 rfl) rfl ?_
 repeat' ((conv=>whnf); first|refine sane19_c ?_|refine f1 ?_|refine f2 ?_|refine f3 ?_|refine f4 ?_|refine g1 ?_|refine zw3 ?_|refine zw0 ?_)
 conv=>whnf
 exact FinP.zz rfl ⟨rfl,rfl⟩
theorem call_closed : ∀ xss,TyA C.P Tryz.f10.params.toList xss → (∀ xs ∈ xss,∀ y ∈ xs,Dsm reachBytes y) → CallP C 10 (argVs C.P Tryz.f10.params.toList xss) [] fun X L=>L = [] ∧ X = .d (.bool true):=by
 intro xss h hsm
 match xss,h,hsm with
 | [x1,x2,x3,x4,x5,x6],⟨h1,h2,h3,h4,h5,h6,_⟩,hsm =>
  obtain ⟨x1,rfl,b1⟩:=ress19 h1 (hsm _ (by simp))
  obtain ⟨x2,rfl,b2⟩:=ints19 h2 (hsm _ (by simp))
  obtain ⟨x3,rfl,b3⟩:=ints19 h3 (hsm _ (by simp))
  obtain ⟨x4,rfl,b4⟩:=rulesT h4 (hsm _ (by simp))
  obtain ⟨x5,rfl,b5⟩:=bool19 h5 (hsm _ (by simp))
  obtain ⟨x6,rfl,b6⟩:=ints19 h6 (hsm _ (by simp))
  exact law ⟨x1,x2,x3,x4,x6⟩ x5 b4
theorem contract (H : Type) (enc : TypeId × Value → H) (W : World) (base : Nat) (args : Array Value) (ds gs : List (DataW H)) (before : List MemPlace)
  (hval : ∀ (j : Nat) t v,Tryz.f10.params[j]? = some t → args[j]? = some v → Value.okWide Tryz.prog W .any base t v)
  (hW : DataW.Whole enc Tryz.prog Tryz.f10.params.toList Rows.orderTreeSpec.vars false W args.toList ds gs before)
  (hz : (DataW.weightsEach Tryz.prog (Tryz.f10.params.toList ++ Rows.orderTreeSpec.plain.varTypes Tryz.prog) (ds ++ gs)).all (· ≤ reachBytes) = true) (hL : laidMetH Tryz.prog Rows.orderTreeRow.laid W) :
  Calls Tryz.prog 10 args W fun e W'=>∃ v,e = .returned v ∧ Rows.orderTreeSpec.post enc Tryz.prog Tryz.f10 false true false false W args v W':=by
 refine law_ofB (C:=C) (l:=plainTys19) kids full plainOk19 bytesOk19 plainLt19 (fun t ht=>?_) rfl rfl Tryz.underlying4 (fun ds hd=>?_) call_closed hval hW hz (glob_ok hL)
 ·have : Tryz.f10.params.toList.all (fun t=>plainTys19.contains t) = true:=by kernel_rfl
  simpa using List.all_eq_true.1 this t ht
 ·match ds,hd with
  | [d1,d2,d3,d4,d5,d6],_=>rfl
theorem laid_met (os : Os) : laidMet Tryz.prog Rows.orderTreeRow.laid ((laidWorld os).forCall (fun _ _=>0) ⟨#[],#[.slice none 0 0,.slice none 0 0,.slice none 0 0,.agg #[.string ⟨#[]⟩,.int .i64 0,.int .i64 0,.int .i64 0,.slice none 0 0,.slice none 0 0],.bool false,.slice none 0 0],[]⟩).memory :=
 laidMet_of_run' 8 (by kernel_rfl) (by kernel_rfl)
theorem reads (os : Os) {H : Type} (enc : TypeId × Value → H) : ∃ places,DataW.whole enc Tryz.prog ((laidWorld os).forCall (fun _ _=>0) ⟨#[],#[.slice none 0 0,.slice none 0 0,.slice none 0 0,.agg #[.string ⟨#[]⟩,.int .i64 0,.int .i64 0,.int .i64 0,.slice none 0 0,.slice none 0 0],.bool false,.slice none 0 0],[]⟩).memory Tryz.f10.params.toList Rows.orderTreeSpec.vars false #[.slice none 0 0,.slice none 0 0,.slice none 0 0,.agg #[.string ⟨#[]⟩,.int .i64 0,.int .i64 0,.int .i64 0,.slice none 0 0,.slice none 0 0],.bool false,.slice none 0 0].toList 8 = some ([.nil,.nil,.nil,.agg [.lit (.string []),.lit (.int .i64 0),.lit (.int .i64 0),.lit (.int .i64 0),.nil,.nil],.lit (.bool false),.nil],[],places) :=
 ⟨[],by kernel_rfl⟩
set_option maxRecDepth 100000 in
theorem lifted (os : Os) (started : os.Started) (H : Type) (enc : TypeId × Value → H) (F : Stop.Interp) :
  ReturnsInHanded {} Tryz.checked os 10 .any ((OpenSpec.ofChange Rows.orderTreeSpec).preRow enc Tryz.prog Tryz.f10 Rows.orderTreeRow.domain false Rows.orderTreeRow.laid) (((OpenSpec.ofChange Rows.orderTreeSpec).at F).post enc Tryz.prog Tryz.f10 false true false false):=by
 obtain ⟨places,hx⟩:=reads os enc
 refine returnsInHanded_of_row (C:=Tryz.checked) (s:=OpenSpec.ofChange Rows.orderTreeSpec) own started (by kernel_rfl) Tryz.func10
  (witness_row_at (enc:=enc) (C:=Tryz.checked) false (laidWorld os) #[.slice none 0 0,.slice none 0 0,.slice none 0 0,.agg #[.string ⟨#[]⟩,.int .i64 0,.int .i64 0,.int .i64 0,.slice none 0 0,.slice none 0 0],.bool false,.slice none 0 0] rfl (by kernel_rfl) (by kernel_rfl) (by kernel_rfl)
   (OpenSpec.preRow_of_cond 8 hx (by kernel_rfl) (fun k hk=>by cases hk) (by kernel_rfl) (laid_met os))) ?_
 intro W base args ds gs before hval hW _ _ hz hL _ _
 exact contract H enc W base args ds gs before hval hW hz hL
theorem said : Rows.OrderTreeSaid :=
 OpenClaim.holds_of_cond 10 Tryz.f10 rfl rfl rfl rfl rfl rfl rfl ⟨rfl,rfl,rfl,rfl,rfl⟩ rfl rfl rfl rfl rfl (by kernel_rfl) Tryz.func10 (by kernel_rfl)
  (of_decide_eq_true (by kernel_rfl)) (by unfold Func.isWrapper; first | (rw [if_pos (by decide +kernel)]; kernel_rfl) | (rw [if_neg (by decide +kernel)]; exact ⟨rfl,rfl⟩))
  (fun os started H enc _ F=>by rw [OpenClaim.pre_eq_preRow]; exact lifted os started H enc F)
theorem plain (f : FuncId) (fn : Func) (hf : Tryz.pinned.checked.prog.funcNamed "assize/assizelaw19.OrderTree" = some f) (hfn : Tryz.pinned.checked.prog.funcs[f]? = some fn) :
  true = Tryz.pinned.checked.prog.looks [] ∧ ∀ (j : Nat) t,fn.params[j]? = some t → Tryz.pinned.checked.prog.wantsStandIn t = false:=by
 obtain rfl : f = 10 := Option.some.inj ((show Tryz.prog.funcNamed "assize/assizelaw19.OrderTree" = some 10 by kernel_rfl).symm.trans hf) |>.symm
 obtain rfl : fn = Tryz.f10:=(Option.some.inj (Tryz.func10.symm.trans hfn)).symm
 refine ⟨by kernel_rfl,fun j t ht=>?_⟩
 have hall : Tryz.f10.params.toList.all (fun t=>!Tryz.prog.wantsStandIn t) = true:=by kernel_rfl
 have:=List.all_eq_true.1 hall t (by simpa using Array.mem_of_getElem? ht)
 show Tryz.prog.wantsStandIn t = false
 simpa using this
theorem proved : Rows.OrderTreeCardSaid :=
 Claim7.holds_tied_plain_at .later [] _ _ _ _ said (fun _ h=>by cases h) (by kernel_rfl) (fun _ h=>by cases h) orderTree_row_tie rfl ⟨rfl,rfl⟩ (by kernel_rfl) rfl plain (by kernel_rfl)
end Go.Proofs.YtihibgcojdfndaaGreatDoor.orderTree
