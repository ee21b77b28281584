import Derived.Test.YtihibgcojdfndaaGreatDoorJFG
set_option maxRecDepth 100000
set_option maxHeartbeats 0
set_option linter.unusedSimpArgs false
set_option linter.unusedVariables false
namespace Go.Proofs.YtihibgcojdfndaaGreatDoor.orderSplits
open Go.Tidy Go.ChangeShapes Go.WideShapes Go.ChangeAt Go.RowKit
open Sts (Res ress fieldOk)
theorem law (p : Cp) (fin : Bool) (b a c : Int) (hr : LRu p.ru) : CallP C 4 [.d (ress p.res),.d (ins p.clubs),.d (ins p.off),.agg (p.ru.cells.map .d),B fin,.d (ins p.lots),I b,I a,I c] [] fun X L=>L = [] ∧ X = .d (.bool true):=by
 have f1 : ∀ {L : List Blk} {k : V → List Blk → Prop},k (B (few19 p)) L → CallP C 12 [.d (ress p.res),.d (ins p.clubs),.d (ins p.off),.d (ins p.lots),.agg (p.ru.cells.map .d)] L k:=fun h=>few19_c p hr h
 cases hfw : few19 p with
 | false =>
  rw [hfw] at f1
  refine zw24 C_ok Tryz.func4 rfl rfl rfl (zw18 rfl) rfl ?_
  repeat' ((conv=>whnf); first|refine sane19_c ?_|refine f1 ?_|refine zw3 ?_|refine zw0 ?_|refine zw1 ?_)
  conv=>whnf
  exact FinP.zz rfl ⟨rfl,rfl⟩
 | true =>
 rw [hfw] at f1
 obtain ⟨n1,n2,n3,n4,hL⟩:=few_p hfw hr
 have f2 : ∀ {L : List Blk} {k : V → List Blk → Prop},k (splitX p b) L → CallP C 17 [.d (ress p.res),.d (ins p.clubs),.d (ins p.off),I b,.agg (p.ru.cells.map .d),.d (ins p.lots)] L k:=fun h=>Split_c p hL (by omega) b h
 have f3 : ∀ {L : List Blk} {k : V → List Blk → Prop},k (splitX p b) L → CallP C 18 [.d (ress p.res),.d (ins p.clubs),.d (ins p.off),I b,.agg (p.ru.cells.map .d),.d (ins p.lots)] L k:=fun h=>Split19_c p hL (by omega) (by omega) b h
 have f4 : ∀ {L : List Blk} {k : V → List Blk → Prop},k (betX p fin a c) L → CallP C 19 [.d (ress p.res),.d (ins p.clubs),.d (ins p.off),.agg (p.ru.cells.map .d),B fin,.d (ins p.lots),I a,I c] L k:=fun h=>Between_c p hL (by omega) fin a c h
 have f5 : ∀ {L : List Blk} {k : V → List Blk → Prop},k (betX p fin a c) L → CallP C 20 [.d (ress p.res),.d (ins p.clubs),.d (ins p.off),.agg (p.ru.cells.map .d),B fin,.d (ins p.lots),I a,I c] L k:=fun h=>Between19_c p hL (by omega) (by omega) fin a c h
 have f6 : CallP C 21 [.d (ress p.res),.d (ins p.clubs),.d (ins [a,c]),B fin] [] fun X L'=>L' = [] ∧ X = envX p.res p.clubs [a,c] fin:=Env_c p.res p.clubs [a,c] fin (by omega) (by omega) (by simp) ⟨rfl,rfl⟩
 have f7 : CallP C 22 [.d (ress p.res),.d (ins p.clubs),.d (ins [a,c]),B fin] [] fun X L'=>L' = [] ∧ X = envX p.res p.clubs [a,c] fin:=Env19_c p.res p.clubs [a,c] fin (by omega) (by omega) (by simp) ⟨rfl,rfl⟩
 obtain ⟨G,e,hX,hG,hGs⟩ : ∃ (G : List (List Int)) (e : Int),splitX p b = .tup [.d (insL G),I e] ∧ G.length ≤ 1000 ∧ (∀ x ∈ G,x.length ≤ 1000):=by
  unfold splitX
  by_cases h0 : openE p 1 (fun _=>true) = 0
  ·rw [if_neg (fun h=>h h0)]
   by_cases hb : b < 1 ∨ 12 < b
   ·rw [if_pos hb]
    exact ⟨[],_,rfl,by simp,fun x hx=>by simp at hx⟩
   ·rw [if_neg hb,← pick_split]
    have:=splitI_len p b
    refine ⟨_,_,rfl,by rw [List.length_map]; omega,fun x hx=>?_⟩
    obtain ⟨q,hq,rfl⟩:=List.mem_map.1 hx
    have:=(splitI_sm hq).1
    unfold pickF
    rw [List.length_map]; omega
  ·rw [if_pos h0]
   exact ⟨[],_,rfl,by simp,fun x hx=>by simp at hx⟩
 obtain ⟨m,e2,hX2⟩ : ∃ m e : Int,betX p fin a c = .tup [I m,I e]:=by
  unfold betX
  split
  ·exact ⟨_,_,rfl⟩
  ·split <;> exact ⟨_,_,rfl⟩
 obtain ⟨x,e3,hX3⟩ : ∃ (x : En) (e : Int),envX p.res p.clubs [a,c] fin = .tup [enV x,I e]:=by
  unfold envX
  split <;> exact ⟨_,_,rfl⟩
 rw [hX] at f2 f3
 rw [hX2] at f4 f5
 rw [hX3] at f6 f7
 have g1 : ∀ {L : List Blk} {k : V → List Blk → Prop},k (B true) L → CallP C 15 [.d (insL G),.d (insL G)] L k:=fun h=>rsame19_c G G (by omega) (by omega) (fun x hx=>by have:=hGs x hx; omega) (fun x hx=>by have:=hGs x hx; omega) (by rw [decide_eq_true rfl]; exact h)
 have q1 : ∀ n : Int,decide (n = n) = true:=fun n=>zw19 rfl
 obtain ⟨x1,x2,x3,x4⟩:=x
 have q2 : (decide (x1 = x1) && (decide (x2 = x2) && (decide (x3 = x3) && (decide (x4 = x4) && true)))) = true:=by simp
 refine zw24 C_ok Tryz.func4 rfl rfl rfl (zw18 rfl) rfl ?_
 repeat' ((conv=>whnf); first|refine sane19_c ?_|refine f1 ?_|refine f2 ?_|refine f3 ?_|refine f4 ?_|refine f5 ?_|refine g1 ?_|refine zw29 f6 (.keep (.keep (.cv (cvI trivial rfl rfl) (.keep .nil)))) rfl rfl ?_|refine zw29 f7 (.keep (.keep (.cv (cvI trivial rfl rfl) (.keep .nil)))) rfl rfl ?_|refine zw8 (q1 _) ?_|refine zw8 q2 ?_|refine zw3 ?_|refine zw0 ?_)
 conv=>whnf
 exact FinP.zz rfl ⟨rfl,congrArg B (zw19 rfl)⟩
theorem call_closed : ∀ xss,TyA C.P Tryz.f4.params.toList xss → (∀ xs ∈ xss,∀ y ∈ xs,Dsm reachBytes y) → CallP C 4 (argVs C.P Tryz.f4.params.toList xss) [] fun X L=>L = [] ∧ X = .d (.bool true):=by
 intro xss h hsm
 match xss,h,hsm with
 | [x1,x2,x3,x4,x5,x6,x7,x8,x9],⟨h1,h2,h3,h4,h5,h6,h7,h8,h9,_⟩,hsm =>
  obtain ⟨x1,rfl,b1⟩:=ress19 h1 (hsm _ (by simp))
  obtain ⟨x2,rfl,b2⟩:=ints19 h2 (hsm _ (by simp))
  obtain ⟨x3,rfl,b3⟩:=ints19 h3 (hsm _ (by simp))
  obtain ⟨x4,rfl,b4⟩:=rulesT h4 (hsm _ (by simp))
  obtain ⟨x5,rfl,b5⟩:=bool19 h5 (hsm _ (by simp))
  obtain ⟨x6,rfl,b6⟩:=ints19 h6 (hsm _ (by simp))
  obtain ⟨x7,rfl,b7⟩:=intT h7 (hsm _ (by simp))
  obtain ⟨x8,rfl,b8⟩:=intT h8 (hsm _ (by simp))
  obtain ⟨x9,rfl,b9⟩:=intT h9 (hsm _ (by simp))
  exact law ⟨x1,x2,x3,x4,x6⟩ x5 x7 x8 x9 b4
theorem contract (H : Type) (enc : TypeId × Value → H) (W : World) (base : Nat) (args : Array Value) (ds gs : List (DataW H)) (before : List MemPlace)
  (hval : ∀ (j : Nat) t v,Tryz.f4.params[j]? = some t → args[j]? = some v → Value.okWide Tryz.prog W .any base t v)
  (hW : DataW.Whole enc Tryz.prog Tryz.f4.params.toList Rows.orderSplitsSpec.vars false W args.toList ds gs before)
  (hz : (DataW.weightsEach Tryz.prog (Tryz.f4.params.toList ++ Rows.orderSplitsSpec.plain.varTypes Tryz.prog) (ds ++ gs)).all (· ≤ reachBytes) = true) (hL : laidMetH Tryz.prog Rows.orderSplitsRow.laid W) :
  Calls Tryz.prog 4 args W fun e W'=>∃ v,e = .returned v ∧ Rows.orderSplitsSpec.post enc Tryz.prog Tryz.f4 false true false false W args v W':=by
 refine law_ofB (C:=C) (l:=plainTys19) kids full plainOk19 bytesOk19 plainLt19 (fun t ht=>?_) rfl rfl Tryz.underlying4 (fun ds hd=>?_) call_closed hval hW hz (glob_ok hL)
 ·have : Tryz.f4.params.toList.all (fun t=>plainTys19.contains t) = true:=by kernel_rfl
  simpa using List.all_eq_true.1 this t ht
 ·match ds,hd with
  | [d1,d2,d3,d4,d5,d6,d7,d8,d9],_=>rfl
theorem laid_met (os : Os) : laidMet Tryz.prog Rows.orderSplitsRow.laid ((laidWorld os).forCall (fun _ _=>0) ⟨#[],#[.slice none 0 0,.slice none 0 0,.slice none 0 0,.agg #[.string ⟨#[]⟩,.int .i64 0,.int .i64 0,.int .i64 0,.slice none 0 0,.slice none 0 0],.bool false,.slice none 0 0,.int .i64 0,.int .i64 0,.int .i64 0],[]⟩).memory :=
 laidMet_of_run' 8 (by kernel_rfl) (by kernel_rfl)
theorem reads (os : Os) {H : Type} (enc : TypeId × Value → H) : ∃ places,DataW.whole enc Tryz.prog ((laidWorld os).forCall (fun _ _=>0) ⟨#[],#[.slice none 0 0,.slice none 0 0,.slice none 0 0,.agg #[.string ⟨#[]⟩,.int .i64 0,.int .i64 0,.int .i64 0,.slice none 0 0,.slice none 0 0],.bool false,.slice none 0 0,.int .i64 0,.int .i64 0,.int .i64 0],[]⟩).memory Tryz.f4.params.toList Rows.orderSplitsSpec.vars false #[.slice none 0 0,.slice none 0 0,.slice none 0 0,.agg #[.string ⟨#[]⟩,.int .i64 0,.int .i64 0,.int .i64 0,.slice none 0 0,.slice none 0 0],.bool false,.slice none 0 0,.int .i64 0,.int .i64 0,.int .i64 0].toList 8 = some ([.nil,.nil,.nil,.agg [.lit (.string []),.lit (.int .i64 0),.lit (.int .i64 0),.lit (.int .i64 0),.nil,.nil],.lit (.bool false),.nil,.lit (.int .i64 0),.lit (.int .i64 0),.lit (.int .i64 0)],[],places) :=
 ⟨[],by kernel_rfl⟩
set_option maxRecDepth 100000 in
theorem lifted (os : Os) (started : os.Started) (H : Type) (enc : TypeId × Value → H) (F : Stop.Interp) :
  ReturnsInHanded {} Tryz.checked os 4 .any ((OpenSpec.ofChange Rows.orderSplitsSpec).preRow enc Tryz.prog Tryz.f4 Rows.orderSplitsRow.domain false Rows.orderSplitsRow.laid) (((OpenSpec.ofChange Rows.orderSplitsSpec).at F).post enc Tryz.prog Tryz.f4 false true false false):=by
 obtain ⟨places,hx⟩:=reads os enc
 refine returnsInHanded_of_row (C:=Tryz.checked) (s:=OpenSpec.ofChange Rows.orderSplitsSpec) own started (by kernel_rfl) Tryz.func4
  (witness_row_at (enc:=enc) (C:=Tryz.checked) false (laidWorld os) #[.slice none 0 0,.slice none 0 0,.slice none 0 0,.agg #[.string ⟨#[]⟩,.int .i64 0,.int .i64 0,.int .i64 0,.slice none 0 0,.slice none 0 0],.bool false,.slice none 0 0,.int .i64 0,.int .i64 0,.int .i64 0] rfl (by kernel_rfl) (by kernel_rfl) (by kernel_rfl)
   (OpenSpec.preRow_of_cond 8 hx (by kernel_rfl) (fun k hk=>by cases hk) (by kernel_rfl) (laid_met os))) ?_
 intro W base args ds gs before hval hW _ _ hz hL _ _
 exact contract H enc W base args ds gs before hval hW hz hL
theorem said : Rows.OrderSplitsSaid :=
 OpenClaim.holds_of_cond 4 Tryz.f4 rfl rfl rfl rfl rfl rfl rfl ⟨rfl,rfl,rfl,rfl,rfl⟩ rfl rfl rfl rfl rfl (by kernel_rfl) Tryz.func4 (by kernel_rfl)
  (of_decide_eq_true (by kernel_rfl)) (by unfold Func.isWrapper; first | (rw [if_pos (by decide +kernel)]; kernel_rfl) | (rw [if_neg (by decide +kernel)]; exact ⟨rfl,rfl⟩))
  (fun os started H enc _ F=>by rw [OpenClaim.pre_eq_preRow]; exact lifted os started H enc F)
theorem plain (f : FuncId) (fn : Func) (hf : Tryz.pinned.checked.prog.funcNamed "assize/assizelaw19.OrderSplits" = some f) (hfn : Tryz.pinned.checked.prog.funcs[f]? = some fn) :
  true = Tryz.pinned.checked.prog.looks [] ∧ ∀ (j : Nat) t,fn.params[j]? = some t → Tryz.pinned.checked.prog.wantsStandIn t = false:=by
 obtain rfl : f = 4 := Option.some.inj ((show Tryz.prog.funcNamed "assize/assizelaw19.OrderSplits" = some 4 by kernel_rfl).symm.trans hf) |>.symm
 obtain rfl : fn = Tryz.f4:=(Option.some.inj (Tryz.func4.symm.trans hfn)).symm
 refine ⟨by kernel_rfl,fun j t ht=>?_⟩
 have hall : Tryz.f4.params.toList.all (fun t=>!Tryz.prog.wantsStandIn t) = true:=by kernel_rfl
 have:=List.all_eq_true.1 hall t (by simpa using Array.mem_of_getElem? ht)
 show Tryz.prog.wantsStandIn t = false
 simpa using this
theorem proved : Rows.OrderSplitsCardSaid :=
 Claim7.holds_tied_plain_at .later [] _ _ _ _ said (fun _ h=>by cases h) (by kernel_rfl) (fun _ h=>by cases h) orderSplits_row_tie rfl ⟨rfl,rfl⟩ (by kernel_rfl) rfl plain (by kernel_rfl)
end Go.Proofs.YtihibgcojdfndaaGreatDoor.orderSplits
