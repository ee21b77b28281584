import Derived.Test.YtihibgcojdfndaaGreatDoorJBG
set_option maxRecDepth 100000
set_option maxHeartbeats 0
set_option linter.unusedSimpArgs false
set_option linter.unusedVariables false
namespace Go.Proofs.YtihibgcojdfndaaGreatDoor.orderResults
open Go.Tidy Go.ChangeShapes Go.WideShapes Go.ChangeAt Go.RowKit
open Sts (Res ress fieldOk)
theorem cells13 (l : List Res) : ∀ e ∈ l.map Res.cells,e.length = 13:=by
 intro e he
 obtain ⟨r,_,rfl⟩:=List.mem_map.1 he
 rfl
structure St where
 (r m : List Res) (n : Int)
theorem law (p : Cp) (fin : Bool) (n : Int) (hr : LRu p.ru) (hn0 : 0 ≤ n) : CallP C 8 [.d (ress p.res),.d (ins p.clubs),.d (ins p.off),.agg (p.ru.cells.map .d),B fin,.d (ins p.lots),.d (.int .u64 n)] [] fun X L=>L = [] ∧ X = .d (.bool true):=by
 have f1 : ∀ {L : List Blk} {k : V → List Blk → Prop},k (B (few19 p)) L → CallP C 12 [.d (ress p.res),.d (ins p.clubs),.d (ins p.off),.d (ins p.lots),.agg (p.ru.cells.map .d)] L k:=fun h=>few19_c p hr h
 cases hfw : few19 p with
 | false =>
  rw [hfw] at f1
  refine callP_of C_ok Tryz.func8 rfl rfl (n:=_) rfl (zw18 rfl) (rs:=_) rfl ?_
  repeat' ((conv=>whnf); first|refine sane19_c ?_|refine f1 ?_|refine zw3 ?_|refine zw0 ?_|refine zw1 ?_|refine zw2 (fun h=>?_) (fun h=>?_)|refine zw3 ?_|refine zw4 (fun h=>?_) (fun h=>?_)|refine zw5 _ rfl ?_|refine zw6 rfl ?_)
  conv=>whnf
  exact FinP.drop (n:=0) rfl (zw21 0) rfl rfl ⟨rfl,rfl⟩
 | true =>
 rw [hfw] at f1
 obtain ⟨n1,n2,n3,n4,hL⟩:=few_p hfw hr
 have f2 : ∀ {L : List Blk} {k : V → List Blk → Prop},k (rankX p fin) L → CallP C 13 [.d (ress p.res),.d (ins p.clubs),.d (ins p.off),.agg (p.ru.cells.map .d),B fin,.d (ins p.lots)] L k:=fun h=>Rank_c p hL (by omega) fin h
 have hap : 0 + ((p.res.map Res.cells).map fun e=>e.map V.d).length ≤ 100:=by rw [List.length_map,List.length_map]; omega
 have hrd0 : ([] : List (List V)).take 0 ++ ((p.res.map Res.cells).map fun e=>e.map V.d) = p.res.map (fun y=>y.cells.map V.d):=by rw [rdR_data]; rfl
 have hrl0 : 0 + ((p.res.map Res.cells).map fun e=>e.map V.d).length = p.res.length:=by rw [List.length_map,List.length_map,Nat.zero_add]
 refine callP_of C_ok Tryz.func8 rfl rfl (n:=_) rfl (zw18 rfl) (rs:=_) rfl ?_
 repeat' ((conv=>whnf); first|refine sane19_c ?_|refine f1 ?_|refine zw3 ?_|refine zw6 (cells13 p.res) ?_|refine zw6 (zw23 hap (zw18 rfl)) ?_|refine zw0 ?_|refine zw1 ?_|refine zw2 (fun h=>?_) (fun h=>?_)|refine zw3 ?_|refine zw4 (fun h=>?_) (fun h=>?_)|refine zw5 _ rfl ?_|refine zw6 rfl ?_)
 conv=>whnf
 refine LoopP.inv (α:=St) (fun s=>s.r.length ≤ 40 ∧ s.m.length ≤ 40 ∧ 0 ≤ s.n ∧ (s.m ++ s.r).Perm p.res) (fun s=>⟨[(0,.d (ress p.res)),(1,.d (ins p.clubs)),(2,.d (ins p.off)),(4,B fin),(5,.d (ins p.lots)),(6,.d (.int .u64 s.n)),(10,.ptr 0 0),(15,.d (ress s.r)),(16,.own 1 s.m.length 0 s.m.length)],Tryz.f8.ntmps,[.cells (p.ru.cells.map .d),.row s.m.length 13 (rdR s.m)],[],none⟩) (fun s=>s.r.length) ⟨p.res,[],n⟩ ⟨n1,Nat.zero_le _,hn0,List.Perm.refl _⟩ ?_ ?_
 ·refine Weak.trans (Weak.thawT (σ':=⟨[(0,.d (ress p.res)),(1,.d (ins p.clubs)),(2,.d (ins p.off)),(4,B fin),(5,.d (ins p.lots)),(6,.d (.int .u64 n)),(10,.ptr 0 0),(15,.d (ress p.res)),(16,.nil)],Tryz.f8.ntmps,[.cells (p.ru.cells.map .d)],[],none⟩) 1 (Nat.zero_le _) (Nat.le_of_ble_eq_true rfl) rfl (by show (V.belL 1 _ && true) = true; rw [V.belL_d]; rfl) ⟨.inl ⟨rfl,rfl⟩,.inl ⟨rfl,rfl⟩,.inl ⟨rfl,rfl⟩,.inl ⟨rfl,rfl⟩,.inl ⟨rfl,rfl⟩,.inl ⟨rfl,rfl⟩,.inl ⟨rfl,rfl⟩,.inr (cvR p.res (Nat.le_refl 1) (Eq.trans rfl (congrArg (fun z=>some (Blk.row 1 13 z)) hrd0)) hrl0),.inl ⟨rfl,rfl⟩,trivial⟩) ?_
  exact (Weak.nilOwn 16 13 rfl (by decide)).trans (Weak.by ⟨rfl,rfl,rfl,rfl,rfl,rfl,rfl,rfl,rfl,trivial⟩)
 rintro ⟨r,m,n⟩ ⟨h1,h2,h3,h4⟩
 simp only at h1 h2 h3 h4
 have hml : ((r.map Res.cells).length : Int) = (r.length : Int):=by rw [List.length_map]
 by_cases hr0 : (0 : Int) < ((r.map Res.cells).length : Int)
 ·obtain ⟨j,hj,hix⟩:=pick_at (n:=n) h3 (len:=r.length) (by omega) (by omega)
  rw [← hml] at hix
  have hnz : IntKind.u64.wrap ((r.map Res.cells).length : Int) ≠ 0:=by rw [hml,wrap_u (by omega)]; omega
  have r1 : (r.map Res.cells)[j]? = some r[j].cells:=ress_at hj
  have hjl : j ≤ (r.map Res.cells).length:=by rw [List.length_map]; omega
  have hjl1 : j + 1 ≤ (r.map Res.cells).length:=by rw [List.length_map]; omega
  have hapm : m.length + 1 ≤ 100:=by
   have:=h4.length_eq
   rw [List.length_append] at this
   omega
  have hwj : IntKind.i64.wrap (IntKind.i64.wrap (n.tmod (IntKind.u64.wrap ((r.map Res.cells).length : Int))) + 1) = ((j + 1 : Nat) : Int):=by rw [hix,wrap_in (by omega)]; omega
  have hrow : (rdR m).take m.length ++ [r[j].cells.map V.d] = rdR (m ++ [r[j]]):=by
   unfold rdR
   rw [List.take_of_length_le (by simp),List.map_append]; rfl
  have hpm:=pick_perm hj h4
  have hel : (r.eraseIdx j).length + 1 = r.length:=by rw [List.length_eraseIdx,if_pos hj]; omega
  generalize r[j] = y at *
  have hap1 : 0 + ((((r.map Res.cells).drop 0).take (j - 0)).map fun e=>e.map V.d).length ≤ 100:=by
   rw [List.length_map,List.length_take,List.drop_zero,List.length_map]; omega
  have hap2 : 0 + ((((r.map Res.cells).drop 0).take (j - 0)).map fun e=>e.map V.d).length + ((((r.map Res.cells).drop (j + 1)).take ((r.map Res.cells).length - (j + 1))).map fun e=>e.map V.d).length ≤ 200:=by
   rw [List.length_map,List.length_map,List.length_take,List.length_take,List.drop_zero,List.length_drop,List.length_map]; omega
  have hX : ((([] : List (List V)).take 0 ++ ((((r.map Res.cells).drop 0).take (j - 0)).map fun e=>e.map V.d)).take (0 + ((((r.map Res.cells).drop 0).take (j - 0)).map fun e=>e.map V.d).length)) ++ ((((r.map Res.cells).drop (j + 1)).take ((r.map Res.cells).length - (j + 1))).map fun e=>e.map V.d) = (r.eraseIdx j).map (fun y=>y.cells.map V.d):=by
   rw [List.drop_zero,Nat.sub_zero,List.take_of_length_le (l:=(r.map Res.cells).drop (j + 1)) (by rw [List.length_drop]; exact Nat.le_refl _),← List.map_take,← List.map_drop,rdR_data,rdR_data,List.take_zero,List.nil_append,Nat.zero_add,List.take_length,rdR_app,erase_eq hj]; rfl
  have hXl : 0 + ((((r.map Res.cells).drop 0).take (j - 0)).map fun e=>e.map V.d).length + ((((r.map Res.cells).drop (j + 1)).take ((r.map Res.cells).length - (j + 1))).map fun e=>e.map V.d).length = (r.eraseIdx j).length:=by
   rw [List.length_map,List.length_map,List.length_take,List.length_take,List.drop_zero,List.length_drop,List.length_map]; omega
  repeat' ((conv=>whnf); first|refine zw8 (zw19 hr0) ?_|refine zw6 hnz ?_|refine zw6 (show (7 : Int) ≠ 0 from by decide) ?_|refine zw10 j _ hix r1 ?_|refine zw6 (zw23 hapm (zw18 rfl)) ?_|simp only [Nat.beq_refl,Bool.and_self]|refine zw0 ?_|refine zw1 ?_|refine zw2 (fun h=>?_) (fun h=>?_)|refine zw3 ?_|refine zw4 (fun h=>?_) (fun h=>?_)|refine zw5 _ rfl ?_|refine zw6 rfl ?_)
  conv=>whnf
  refine DrawP.por mixed [] [[(1,0),(2,0),(3,1),(5,0),(6,0),(7,0),(8,1),(0,0),(4,0),(9,0),(10,0)]] (by kernel_rfl) ?_
  repeat' ((conv=>whnf); first|refine zw6 (cells13 r) ?_|refine zw6 (fun e he=>cells13 r e (List.mem_of_mem_drop (List.mem_of_mem_take he))) ?_|refine SliceP.intro 0 j rfl hix (zw22 _) hjl ?_|refine SliceP.intro (j + 1) (r.map Res.cells).length hwj rfl hjl1 (zw21 _) ?_|refine zw6 (zw23 hap1 (zw18 rfl)) ?_|refine zw6 (zw23 hap2 (zw18 rfl)) ?_|simp only [Nat.beq_refl,Bool.and_self]|refine zw0 ?_|refine zw1 ?_|refine zw2 (fun h=>?_) (fun h=>?_)|refine zw3 ?_|refine zw4 (fun h=>?_) (fun h=>?_)|refine zw5 _ rfl ?_|refine zw6 rfl ?_)
  conv=>whnf
  refine ⟨⟨r.eraseIdx j,m ++ [y],IntKind.u64.wrap (IntKind.u64.wrap (n.tdiv 7) + 3)⟩,⟨by simp only; omega,by simp only [List.length_append,List.length_singleton]; have:=h4.length_eq; rw [List.length_append] at this; omega,wrap_u0 _,hpm⟩,by simp only; omega,?_⟩
  exact Weak.thawT 2 (Nat.zero_le _) (Nat.le_of_ble_eq_true rfl) (Eq.trans (b:=[Blk.cells (p.ru.cells.map .d),.row (m.length + 1) 13 ((rdR m).take m.length ++ [y.cells.map V.d])]) rfl (by rw [hrow,List.length_append]; rfl)) (by show (V.belL 2 _ && (belR 2 (rdR (m ++ [y])) && true)) = true; rw [V.belL_d,rdR_bel]; rfl) ⟨.inl ⟨rfl,rfl⟩,.inl ⟨rfl,rfl⟩,.inl ⟨rfl,rfl⟩,.inl ⟨rfl,rfl⟩,.inl ⟨rfl,rfl⟩,.inl ⟨rfl,rfl⟩,.inl ⟨rfl,rfl⟩,.inr (cvR (r.eraseIdx j) (Nat.le_of_ble_eq_true rfl) (Eq.trans rfl (congrArg (fun z=>some (Blk.row 2 13 z)) hX)) hXl),.inl ⟨Eq.trans (b:=norm (V.own 1 (m.length + 1) 0 (m.length + 1))) rfl (congrArg (fun n=>norm (V.own 1 n 0 n)) (by rw [List.length_append]; rfl)),rfl⟩,trivial⟩
 have hpm : p.res.Perm m:=by
  have hr : r = []:=by
   cases r with
   | nil=>rfl
   | cons y r=>exact absurd (by simp) hr0
  rw [hr,List.append_nil] at h4
  exact h4.symm
 have hrk:=rankX_perm hpm (by omega) fin
 have f3 : ∀ {L : List Blk} {k : V → List Blk → Prop},k (rankX p fin) L → CallP C 13 [.d (ress m),.d (ins p.clubs),.d (ins p.off),.agg (p.ru.cells.map .d),B fin,.d (ins p.lots)] L k:=fun h =>
  Rank_c (p.with m) ⟨by show m.length ≤ _; omega,hL.clubs,hL.off,hL.lots,hr⟩ (by show p.clubs.length ≤ 19; omega) fin (by rw [hrk]; exact h)
 obtain ⟨gs,bs,e,hX⟩ : ∃ (gs : List (List Int)) (bs : List Int) (e : Int),rankX p fin = .tup [.d (insL gs),.d (ins bs),I e] ∧ gs.length ≤ 100 ∧ bs.length ≤ 100 ∧ ∀ x ∈ gs,x.length ≤ 100:=by
  unfold rankX
  by_cases h0 : openE p 2 p.clubs.contains = 0
  ·rw [if_neg (fun h=>h h0)]
   have hc:=(field_of (open_of h0).1).2.1
   have:=gs_count p fin (by omega)
   exact ⟨_,_,_,rfl,by rw [List.length_map]; omega,by rw [List.length_map]; omega,fun x hx=>by have:=gs_small hx; omega⟩
  ·rw [if_pos h0]
   exact ⟨[],[],_,rfl,Nat.zero_le _,Nat.zero_le _,fun x hx=>by cases hx⟩
 obtain ⟨hX,hg,hb,hgx⟩:=hX
 rw [hX] at f2 f3
 have hs1 : ∀ {L : List Blk} {k : V → List Blk → Prop},k (B true) L → CallP C 15 [.d (insL gs),.d (insL gs)] L k:=fun h=>rsame19_c gs gs (by omega) (by omega) (fun x hx=>by have:=hgx x hx; omega) (fun x hx=>by have:=hgx x hx; omega) (by rw [decide_eq_true rfl]; exact h)
 have hs2 : ∀ {L : List Blk} {k : V → List Blk → Prop},k (B true) L → CallP C 16 [.d (ins bs),.d (ins bs)] L k:=fun h=>rsameL19_c bs bs (by omega) (by omega) (by rw [decide_eq_true rfl]; exact h)
 have q1 : decide (e = e) = true:=zw19 rfl
 repeat' ((conv=>whnf); first|refine zw9 (zw20 hr0) ?_|refine f2 ?_|refine CallP.freeze [1] rfl rfl (.cv (cvR m (List.mem_singleton.2 rfl) rfl rfl) (.keep (.keep (.keep (.keep (.keep .nil)))))) (f3 ?_)|refine hs1 ?_|refine hs2 ?_|refine zw8 q1 ?_|refine zw0 ?_|refine zw1 ?_|refine zw2 (fun h=>?_) (fun h=>?_)|refine zw3 ?_|refine zw4 (fun h=>?_) (fun h=>?_)|refine zw5 _ rfl ?_|refine zw6 rfl ?_)
 conv=>whnf
 exact FinP.drop (n:=0) rfl (zw21 0) rfl rfl ⟨rfl,congrArg B q1⟩
theorem call_closed : ∀ xss,TyA C.P Tryz.f8.params.toList xss → (∀ xs ∈ xss,∀ y ∈ xs,Dsm reachBytes y) → CallP C 8 (argVs C.P Tryz.f8.params.toList xss) [] fun X L=>L = [] ∧ X = .d (.bool true):=by
 intro xss h hsm
 match xss,h,hsm with
 | [x1,x2,x3,x4,x5,x6,x7],⟨h1,h2,h3,h4,h5,h6,h7,_⟩,hsm =>
  obtain ⟨x1,rfl,b1⟩:=ress19 h1 (hsm _ (by simp))
  obtain ⟨x2,rfl,b2⟩:=ints19 h2 (hsm _ (by simp))
  obtain ⟨x3,rfl,b3⟩:=ints19 h3 (hsm _ (by simp))
  obtain ⟨x4,rfl,b4⟩:=rulesT h4 (hsm _ (by simp))
  obtain ⟨x5,rfl,b5⟩:=bool19 h5 (hsm _ (by simp))
  obtain ⟨x6,rfl,b6⟩:=ints19 h6 (hsm _ (by simp))
  obtain ⟨x7,rfl,b7⟩:=uint19 h7 (hsm _ (by simp))
  exact law ⟨x1,x2,x3,x4,x6⟩ x5 x7 b4 b7
theorem contract (H : Type) (enc : TypeId × Value → H) (W : World) (base : Nat) (args : Array Value) (ds gs : List (DataW H)) (before : List MemPlace)
  (hval : ∀ (j : Nat) t v,Tryz.f8.params[j]? = some t → args[j]? = some v → Value.okWide Tryz.prog W .any base t v)
  (hW : DataW.Whole enc Tryz.prog Tryz.f8.params.toList Rows.orderResultsSpec.vars false W args.toList ds gs before)
  (hz : (DataW.weightsEach Tryz.prog (Tryz.f8.params.toList ++ Rows.orderResultsSpec.plain.varTypes Tryz.prog) (ds ++ gs)).all (· ≤ reachBytes) = true) (hL : laidMetH Tryz.prog Rows.orderResultsRow.laid W) :
  Calls Tryz.prog 8 args W fun e W'=>∃ v,e = .returned v ∧ Rows.orderResultsSpec.post enc Tryz.prog Tryz.f8 false true false false W args v W':=by
 refine law_ofB (C:=C) (l:=plainTys19) kids full plainOk19 bytesOk19 plainLt19 (fun t ht=>?_) rfl rfl Tryz.underlying4 (fun ds hd=>?_) call_closed hval hW hz (glob_ok hL)
 ·have : Tryz.f8.params.toList.all (fun t=>plainTys19.contains t) = true:=by kernel_rfl
  simpa using List.all_eq_true.1 this t ht
 ·match ds,hd with
  | [d1,d2,d3,d4,d5,d6,d7],_=>rfl
theorem laid_met (os : Os) : laidMet Tryz.prog Rows.orderResultsRow.laid ((laidWorld os).forCall (fun _ _=>0) ⟨#[],#[.slice none 0 0,.slice none 0 0,.slice none 0 0,.agg #[.string ⟨#[]⟩,.int .i64 0,.int .i64 0,.int .i64 0,.slice none 0 0,.slice none 0 0],.bool false,.slice none 0 0,.int .u64 0],[]⟩).memory :=
 laidMet_of_run' 8 (by kernel_rfl) (by kernel_rfl)
theorem reads (os : Os) {H : Type} (enc : TypeId × Value → H) : ∃ places,DataW.whole enc Tryz.prog ((laidWorld os).forCall (fun _ _=>0) ⟨#[],#[.slice none 0 0,.slice none 0 0,.slice none 0 0,.agg #[.string ⟨#[]⟩,.int .i64 0,.int .i64 0,.int .i64 0,.slice none 0 0,.slice none 0 0],.bool false,.slice none 0 0,.int .u64 0],[]⟩).memory Tryz.f8.params.toList Rows.orderResultsSpec.vars false #[.slice none 0 0,.slice none 0 0,.slice none 0 0,.agg #[.string ⟨#[]⟩,.int .i64 0,.int .i64 0,.int .i64 0,.slice none 0 0,.slice none 0 0],.bool false,.slice none 0 0,.int .u64 0].toList 8 = some ([.nil,.nil,.nil,.agg [.lit (.string []),.lit (.int .i64 0),.lit (.int .i64 0),.lit (.int .i64 0),.nil,.nil],.lit (.bool false),.nil,.lit (.int .u64 0)],[],places) :=
 ⟨[],by kernel_rfl⟩
set_option maxRecDepth 100000 in
theorem lifted (os : Os) (started : os.Started) (H : Type) (enc : TypeId × Value → H) (F : Stop.Interp) :
  ReturnsInHanded {} Tryz.checked os 8 .any ((OpenSpec.ofChange Rows.orderResultsSpec).preRow enc Tryz.prog Tryz.f8 Rows.orderResultsRow.domain false Rows.orderResultsRow.laid) (((OpenSpec.ofChange Rows.orderResultsSpec).at F).post enc Tryz.prog Tryz.f8 false true false false):=by
 obtain ⟨places,hx⟩:=reads os enc
 refine returnsInHanded_of_row (C:=Tryz.checked) (s:=OpenSpec.ofChange Rows.orderResultsSpec) own started (by kernel_rfl) Tryz.func8
  (witness_row_at (enc:=enc) (C:=Tryz.checked) false (laidWorld os) #[.slice none 0 0,.slice none 0 0,.slice none 0 0,.agg #[.string ⟨#[]⟩,.int .i64 0,.int .i64 0,.int .i64 0,.slice none 0 0,.slice none 0 0],.bool false,.slice none 0 0,.int .u64 0] rfl (by kernel_rfl) (by kernel_rfl) (by kernel_rfl)
   (OpenSpec.preRow_of_cond 8 hx (by kernel_rfl) (fun k hk=>by cases hk) (by kernel_rfl) (laid_met os))) ?_
 intro W base args ds gs before hval hW _ _ hz hL _ _
 exact contract H enc W base args ds gs before hval hW hz hL
theorem said : Rows.OrderResultsSaid :=
 OpenClaim.holds_of_cond 8 Tryz.f8 rfl rfl rfl rfl rfl rfl rfl ⟨rfl,rfl,rfl,rfl,rfl⟩ rfl rfl rfl rfl rfl (by kernel_rfl) Tryz.func8 (by kernel_rfl)
  (of_decide_eq_true (by kernel_rfl)) (by unfold Func.isWrapper; first | (rw [if_pos (by decide +kernel)]; kernel_rfl) | (rw [if_neg (by decide +kernel)]; exact ⟨rfl,rfl⟩))
  (fun os started H enc _ F=>by rw [OpenClaim.pre_eq_preRow]; exact lifted os started H enc F)
theorem plain (f : FuncId) (fn : Func) (hf : Tryz.pinned.checked.prog.funcNamed "assize/assizelaw19.OrderResults" = some f) (hfn : Tryz.pinned.checked.prog.funcs[f]? = some fn) :
  true = Tryz.pinned.checked.prog.looks [] ∧ ∀ (j : Nat) t,fn.params[j]? = some t → Tryz.pinned.checked.prog.wantsStandIn t = false:=by
 obtain rfl : f = 8 := Option.some.inj ((show Tryz.prog.funcNamed "assize/assizelaw19.OrderResults" = some 8 by kernel_rfl).symm.trans hf) |>.symm
 obtain rfl : fn = Tryz.f8:=(Option.some.inj (Tryz.func8.symm.trans hfn)).symm
 refine ⟨by kernel_rfl,fun j t ht=>?_⟩
 have hall : Tryz.f8.params.toList.all (fun t=>!Tryz.prog.wantsStandIn t) = true:=by kernel_rfl
 have:=List.all_eq_true.1 hall t (by simpa using Array.mem_of_getElem? ht)
 show Tryz.prog.wantsStandIn t = false
 simpa using this
theorem proved : Rows.OrderResultsCardSaid :=
 Claim7.holds_tied_plain_at .later [] _ _ _ _ said (fun _ h=>by cases h) (by kernel_rfl) (fun _ h=>by cases h) orderResults_row_tie rfl ⟨rfl,rfl⟩ (by kernel_rfl) rfl plain (by kernel_rfl)
end Go.Proofs.YtihibgcojdfndaaGreatDoor.orderResults
