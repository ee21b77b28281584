import Derived.Test.YtihibgcojdfndaaGreatDoorJAF
set_option maxRecDepth 100000
set_option maxHeartbeats 0
set_option linter.unusedSimpArgs false
set_option linter.unusedVariables false
namespace Go.Proofs.YtihibgcojdfndaaGreatDoor.orderBetween
open Go.Tidy Go.ChangeShapes Go.WideShapes Go.ChangeAt Go.RowKit
open Sts (Res ress fieldOk)
theorem law (p : Cp) (fin : Bool) (a b c : Int) (hr : LRu p.ru) : CallP C 9 [.d (ress p.res),.d (ins p.clubs),.d (ins p.off),.agg (p.ru.cells.map .d),B fin,.d (ins p.lots),I a,I b,I c] [] fun X L=>L = [] ∧ X = .d (.bool true):=by
 have f1 : ∀ {L : List Blk} {k : V → List Blk → Prop},k (B (few19 p)) L → CallP C 12 [.d (ress p.res),.d (ins p.clubs),.d (ins p.off),.d (ins p.lots),.agg (p.ru.cells.map .d)] L k:=fun h=>few19_c p hr h
 cases hfw : few19 p with
 | false =>
  rw [hfw] at f1
  refine callP_of C_ok Tryz.func9 rfl rfl (n:=_) rfl (zw18 rfl) (rs:=_) rfl ?_
  repeat' ((conv=>whnf); first|refine sane19_c ?_|refine f1 ?_|refine zw3 ?_|refine zw0 ?_|refine zw1 ?_|refine zw2 (fun h=>?_) (fun h=>?_)|refine zw3 ?_|refine zw4 (fun h=>?_) (fun h=>?_)|refine zw5 _ rfl ?_|refine zw6 rfl ?_)
  conv=>whnf
  exact FinP.drop (n:=0) rfl (zw21 0) rfl rfl ⟨rfl,rfl⟩
 | true =>
 rw [hfw] at f1
 obtain ⟨n1,n2,n3,n4,hL⟩:=few_p hfw hr
 have f2 : ∀ {L : List Blk} {k : V → List Blk → Prop},k (rankX p fin) L → CallP C 13 [.d (ress p.res),.d (ins p.clubs),.d (ins p.off),.agg (p.ru.cells.map .d),B fin,.d (ins p.lots)] L k:=fun h=>Rank_c p hL (by omega) fin h
 have fb : ∀ (x y : Int) (X : V),betX p fin x y = X → ∀ {L : List Blk} {k : V → List Blk → Prop},k X L → CallP C 19 [.d (ress p.res),.d (ins p.clubs),.d (ins p.off),.agg (p.ru.cells.map .d),B fin,.d (ins p.lots),I x,I y] L k:=fun x y X e _ _ h=>Between_c p hL (by omega) fin x y (by rw [e]; exact h)
 by_cases h0 : openE p 2 p.clubs.contains = 0
 rotate_left
 ·have e1 : ∀ x y,betX p fin x y = .tup [I 0,I (openE p 2 p.clubs.contains)]:=fun x y=>by unfold betX; rw [if_pos h0]
  have e2 : rankX p fin = .tup [.d (.sl []),.d (.sl []),I (openE p 2 p.clubs.contains)]:=by unfold rankX; rw [if_pos h0]
  rw [e2] at f2
  have g1:=fun {L : List Blk} {k : V → List Blk → Prop} h=>fb a b _ (e1 a b) (L:=L) (k:=k) h
  have g2:=fun {L : List Blk} {k : V → List Blk → Prop} h=>fb b a _ (e1 b a) (L:=L) (k:=k) h
  generalize openE p 2 p.clubs.contains = e at *
  have q1 : decide (e = e) = true:=zw19 rfl
  refine callP_of C_ok Tryz.func9 rfl rfl (n:=_) rfl (zw18 rfl) (rs:=_) rfl ?_
  repeat' ((conv=>whnf); first|refine zw9 (zw20 h0) ?_|refine zw8 q1 ?_|refine sane19_c ?_|refine f1 ?_|refine f2 ?_|refine g1 ?_|refine g2 ?_|refine zw3 ?_|refine zw0 ?_|refine zw1 ?_|refine zw2 (fun h=>?_) (fun h=>?_)|refine zw3 ?_|refine zw4 (fun h=>?_) (fun h=>?_)|refine zw5 _ rfl ?_|refine zw6 rfl ?_)
  conv=>whnf
  exact FinP.drop (n:=0) rfl (zw21 0) rfl rfl ⟨rfl,rfl⟩
 obtain ⟨o1,o2,o3,o4,o5,o6⟩:=open_of h0
 obtain ⟨hn,hc2,hc24⟩:=field_of o1
 have h1 : 1 ≤ p.clubs.length:=by omega
 have e2 : rankX p fin = .tup [.d (insL ((p.gs fin).map (·.1))),.d (ins ((p.gs fin).map (·.2))),I 0]:=by unfold rankX; rw [if_neg (fun h=>h h0)]
 rw [e2] at f2
 have ebn : ∀ x y,(p.clubs.contains x && p.clubs.contains y) = false → betX p fin x y = .tup [I 0,I 190]:=fun x y h=>by unfold betX; rw [if_neg (fun h=>h h0),if_pos h]
 have eby : ∀ x y,p.clubs.contains x = true → p.clubs.contains y = true → betX p fin x y = .tup [I (bet x y (p.evs fin) 0),I 0]:=fun x y hx hy=>by unfold betX; rw [if_neg (fun h=>h h0),if_neg (by rw [hx,hy]; decide)]
 by_cases hab : p.clubs.contains a = true ∧ p.clubs.contains b = true
 rotate_left
 ·have k1 : (p.clubs.contains a && p.clubs.contains b) = false:=by
   cases h3 : p.clubs.contains a <;> cases h4 : p.clubs.contains b <;> first | rfl | exact absurd ⟨h3,h4⟩ hab
  have k2 : (p.clubs.contains b && p.clubs.contains a) = false:=by rw [Bool.and_comm]; exact k1
  have g1:=fun {L : List Blk} {k : V → List Blk → Prop} h=>fb a b _ (ebn a b k1) (L:=L) (k:=k) h
  have g2:=fun {L : List Blk} {k : V → List Blk → Prop} h=>fb b a _ (ebn b a k2) (L:=L) (k:=k) h
  refine callP_of C_ok Tryz.func9 rfl rfl (n:=_) rfl (zw18 rfl) (rs:=_) rfl ?_
  repeat' ((conv=>whnf); first|refine sane19_c ?_|refine f1 ?_|refine f2 ?_|refine g1 ?_|refine g2 ?_|refine zw3 ?_|refine zw0 ?_|refine zw1 ?_|refine zw2 (fun h=>?_) (fun h=>?_)|refine zw3 ?_|refine zw4 (fun h=>?_) (fun h=>?_)|refine zw5 _ rfl ?_|refine zw6 rfl ?_)
  conv=>whnf
  exact FinP.drop (n:=0) rfl (zw21 0) rfl rfl ⟨rfl,rfl⟩
 obtain ⟨ha,hb⟩:=hab
 have ma:=List.contains_iff_mem.1 ha
 have mb:=List.contains_iff_mem.1 hb
 have g1:=fun {L : List Blk} {k : V → List Blk → Prop} h=>fb a b _ (eby a b ha hb) (L:=L) (k:=k) h
 have g2:=fun {L : List Blk} {k : V → List Blk → Prop} (h : k (.tup [I (bet a b (p.evs fin) 0),I 0]) L)=>fb b a _ (eby b a hb ha) (L:=L) (k:=k) (by rw [bet_comm b a]; exact h)
 have ga : ∀ (n : Int) {L : List Blk} {k : V → List Blk → Prop},k (I (inP ((p.gs fin).map (·.1)) n)) L → CallP C 27 [.d (insL ((p.gs fin).map (·.1))),I n] L k:=fun n _ _ h=>at19_c _ n (by rw [List.length_map]; have:=gs_count p fin h1; omega) (fun x hx=>by have:=gs_small hx; omega) h
 have ga1:=fun {L : List Blk} {k : V → List Blk → Prop} h=>ga a (L:=L) (k:=k) h
 have ga2:=fun {L : List Blk} {k : V → List Blk → Prop} h=>ga b (L:=L) (k:=k) h
 have pa : ¬ inP ((p.gs fin).map (·.1)) a < 0:=by have:=inP_pos (fin:=fin) h1 hn ma; omega
 have pb : ¬ inP ((p.gs fin).map (·.1)) b < 0:=by have:=inP_pos (fin:=fin) h1 hn mb; omega
 have hsm:=fun e=>bet_same19 (fin:=fin) h1 hn ma mb e
 have hdf:=fun e=>bet_diff19 hL (fin:=fin) h1 hn ma mb e
 have q1 : decide (bet a b (p.evs fin) 0 = bet a b (p.evs fin) 0) = true:=zw19 rfl
 by_cases hc : p.clubs.contains c = true
 rotate_left
 ·have k1 : (p.clubs.contains a && p.clubs.contains c) = false:=by cases h3 : p.clubs.contains c <;> first | (rw [Bool.and_false]) | exact absurd h3 hc
  have k2 : (p.clubs.contains b && p.clubs.contains c) = false:=by cases h3 : p.clubs.contains c <;> first | (rw [Bool.and_false]) | exact absurd h3 hc
  have g3:=fun {L : List Blk} {k : V → List Blk → Prop} h=>fb a c _ (ebn a c k1) (L:=L) (k:=k) h
  have g4:=fun {L : List Blk} {k : V → List Blk → Prop} h=>fb b c _ (ebn b c k2) (L:=L) (k:=k) h
  by_cases he : inP ((p.gs fin).map (·.1)) a = inP ((p.gs fin).map (·.1)) b
  ·have hz:=(hsm he).1
   clear hsm hdf ga fb
   generalize bet a b (p.evs fin) 0 = n at *
   generalize inP ((p.gs fin).map (·.1)) a = i at *
   generalize inP ((p.gs fin).map (·.1)) b = j at *
   generalize (p.gs fin).map (·.1) = gs at *
   have qe : decide (decide (n = 0) = decide (i = j)) = true:=by simp [hz,he]
   refine callP_of C_ok Tryz.func9 rfl rfl (n:=_) rfl (zw18 rfl) (rs:=_) rfl ?_
   repeat' ((conv=>whnf); first|refine zw9 (zw20 pa) ?_|refine zw9 (zw20 pb) ?_|refine zw8 q1 ?_|refine zw8 qe ?_|refine zw8 (zw19 hz) ?_|refine zw8 (zw19 he) ?_|refine sane19_c ?_|refine f1 ?_|refine f2 ?_|refine g1 ?_|refine g2 ?_|refine g3 ?_|refine g4 ?_|refine ga1 ?_|refine ga2 ?_|refine zw3 ?_|refine zw0 ?_|refine zw1 ?_|refine zw2 (fun h=>?_) (fun h=>?_)|refine zw3 ?_|refine zw4 (fun h=>?_) (fun h=>?_)|refine zw5 _ rfl ?_|refine zw6 rfl ?_)
   conv=>whnf
   exact FinP.drop (n:=0) rfl (zw21 0) rfl rfl ⟨rfl,rfl⟩
  ·have hz : ¬ bet a b (p.evs fin) 0 = 0:=by have:=hdf he; omega
   clear hsm hdf ga fb
   generalize bet a b (p.evs fin) 0 = n at *
   generalize inP ((p.gs fin).map (·.1)) a = i at *
   generalize inP ((p.gs fin).map (·.1)) b = j at *
   generalize (p.gs fin).map (·.1) = gs at *
   have qe : decide (decide (n = 0) = decide (i = j)) = true:=by simp [hz,he]
   refine callP_of C_ok Tryz.func9 rfl rfl (n:=_) rfl (zw18 rfl) (rs:=_) rfl ?_
   repeat' ((conv=>whnf); first|refine zw9 (zw20 pa) ?_|refine zw9 (zw20 pb) ?_|refine zw8 q1 ?_|refine zw8 qe ?_|refine zw9 (zw20 hz) ?_|refine zw9 (zw20 he) ?_|refine sane19_c ?_|refine f1 ?_|refine f2 ?_|refine g1 ?_|refine g2 ?_|refine g3 ?_|refine g4 ?_|refine ga1 ?_|refine ga2 ?_|refine zw3 ?_|refine zw0 ?_|refine zw1 ?_|refine zw2 (fun h=>?_) (fun h=>?_)|refine zw3 ?_|refine zw4 (fun h=>?_) (fun h=>?_)|refine zw5 _ rfl ?_|refine zw6 rfl ?_)
   conv=>whnf
   exact FinP.drop (n:=0) rfl (zw21 0) rfl rfl ⟨rfl,rfl⟩
 have g3:=fun {L : List Blk} {k : V → List Blk → Prop} h=>fb a c _ (eby a c ha hc) (L:=L) (k:=k) h
 have g4:=fun {L : List Blk} {k : V → List Blk → Prop} h=>fb b c _ (eby b c hb hc) (L:=L) (k:=k) h
 by_cases he : inP ((p.gs fin).map (·.1)) a = inP ((p.gs fin).map (·.1)) b
 ·have hz:=(hsm he).1
  have hth:=(hsm he).2 c
  clear hsm hdf ga fb
  generalize bet a b (p.evs fin) 0 = n at *
  generalize bet a c (p.evs fin) 0 = na at *
  generalize bet b c (p.evs fin) 0 = nb at *
  generalize inP ((p.gs fin).map (·.1)) a = i at *
  generalize inP ((p.gs fin).map (·.1)) b = j at *
  generalize (p.gs fin).map (·.1) = gs at *
  have qe : decide (decide (n = 0) = decide (i = j)) = true:=by simp [hz,he]
  refine callP_of C_ok Tryz.func9 rfl rfl (n:=_) rfl (zw18 rfl) (rs:=_) rfl ?_
  repeat' ((conv=>whnf); first|refine zw9 (zw20 pa) ?_|refine zw9 (zw20 pb) ?_|refine zw8 q1 ?_|refine zw8 qe ?_|refine zw8 (zw19 hz) ?_|refine zw8 (zw19 he) ?_|refine zw8 (zw19 hth) ?_|refine sane19_c ?_|refine f1 ?_|refine f2 ?_|refine g1 ?_|refine g2 ?_|refine g3 ?_|refine g4 ?_|refine ga1 ?_|refine ga2 ?_|refine zw3 ?_|refine zw0 ?_|refine zw1 ?_|refine zw2 (fun h=>?_) (fun h=>?_)|refine zw3 ?_|refine zw4 (fun h=>?_) (fun h=>?_)|refine zw5 _ rfl ?_|refine zw6 rfl ?_)
  conv=>whnf
  exact FinP.drop (n:=0) rfl (zw21 0) rfl rfl ⟨rfl,rfl⟩
 ·have hz : ¬ bet a b (p.evs fin) 0 = 0:=by have:=hdf he; omega
  clear hsm hdf ga fb
  generalize bet a b (p.evs fin) 0 = n at *
  generalize bet a c (p.evs fin) 0 = na at *
  generalize bet b c (p.evs fin) 0 = nb at *
  generalize inP ((p.gs fin).map (·.1)) a = i at *
  generalize inP ((p.gs fin).map (·.1)) b = j at *
  generalize (p.gs fin).map (·.1) = gs at *
  by_cases hth : na = nb
  ·have qe : decide (decide (n = 0) = decide (i = j)) = true:=by simp [hz,he]
   refine callP_of C_ok Tryz.func9 rfl rfl (n:=_) rfl (zw18 rfl) (rs:=_) rfl ?_
   repeat' ((conv=>whnf); first|refine zw9 (zw20 pa) ?_|refine zw9 (zw20 pb) ?_|refine zw8 q1 ?_|refine zw8 qe ?_|refine zw9 (zw20 hz) ?_|refine zw9 (zw20 he) ?_|refine zw8 (zw19 hth) ?_|refine sane19_c ?_|refine f1 ?_|refine f2 ?_|refine g1 ?_|refine g2 ?_|refine g3 ?_|refine g4 ?_|refine ga1 ?_|refine ga2 ?_|refine zw3 ?_|refine zw0 ?_|refine zw1 ?_|refine zw2 (fun h=>?_) (fun h=>?_)|refine zw3 ?_|refine zw4 (fun h=>?_) (fun h=>?_)|refine zw5 _ rfl ?_|refine zw6 rfl ?_)
   conv=>whnf
   exact FinP.drop (n:=0) rfl (zw21 0) rfl rfl ⟨rfl,rfl⟩
  ·have qe : decide (decide (n = 0) = decide (i = j)) = true:=by simp [hz,he]
   refine callP_of C_ok Tryz.func9 rfl rfl (n:=_) rfl (zw18 rfl) (rs:=_) rfl ?_
   repeat' ((conv=>whnf); first|refine zw9 (zw20 pa) ?_|refine zw9 (zw20 pb) ?_|refine zw8 q1 ?_|refine zw8 qe ?_|refine zw9 (zw20 hz) ?_|refine zw9 (zw20 he) ?_|refine zw9 (zw20 hth) ?_|refine sane19_c ?_|refine f1 ?_|refine f2 ?_|refine g1 ?_|refine g2 ?_|refine g3 ?_|refine g4 ?_|refine ga1 ?_|refine ga2 ?_|refine zw3 ?_|refine zw0 ?_|refine zw1 ?_|refine zw2 (fun h=>?_) (fun h=>?_)|refine zw3 ?_|refine zw4 (fun h=>?_) (fun h=>?_)|refine zw5 _ rfl ?_|refine zw6 rfl ?_)
   conv=>whnf
   exact FinP.drop (n:=0) rfl (Nat.le_refl 0) rfl rfl ⟨rfl,congrArg B (by simp [hz])⟩
theorem call_closed : ∀ xss,TyA C.P Tryz.f9.params.toList xss → (∀ xs ∈ xss,∀ y ∈ xs,Dsm reachBytes y) → CallP C 9 (argVs C.P Tryz.f9.params.toList xss) [] fun X L=>L = [] ∧ X = .d (.bool true):=by
 intro xss h hsm
 match xss,h,hsm with
 | [x1,x2,x3,x4,x5,x6,x7,x8,x9],⟨h1,h2,h3,h4,h5,h6,h7,h8,h9,_⟩,hsm =>
  obtain ⟨x1,rfl,b1⟩:=ress19 h1 (hsm _ (by simp))
  obtain ⟨x2,rfl,b2⟩:=ints19 h2 (hsm _ (by simp))
  obtain ⟨x3,rfl,b3⟩:=ints19 h3 (hsm _ (by simp))
  obtain ⟨x4,rfl,b4⟩:=rulesT h4 (hsm _ (by simp))
  obtain ⟨x5,rfl,b5⟩:=bool19 h5 (hsm _ (by simp))
  obtain ⟨x6,rfl,b6⟩:=ints19 h6 (hsm _ (by simp))
  obtain ⟨x7,rfl,b7⟩:=intT h7 (hsm _ (by simp))
  obtain ⟨x8,rfl,b8⟩:=intT h8 (hsm _ (by simp))
  obtain ⟨x9,rfl,b9⟩:=intT h9 (hsm _ (by simp))
  exact law ⟨x1,x2,x3,x4,x6⟩ x5 x7 x8 x9 b4
theorem contract (H : Type) (enc : TypeId × Value → H) (W : World) (base : Nat) (args : Array Value) (ds gs : List (DataW H)) (before : List MemPlace)
  (hval : ∀ (j : Nat) t v,Tryz.f9.params[j]? = some t → args[j]? = some v → Value.okWide Tryz.prog W .any base t v)
  (hW : DataW.Whole enc Tryz.prog Tryz.f9.params.toList Rows.orderBetweenSpec.vars false W args.toList ds gs before)
  (hz : (DataW.weightsEach Tryz.prog (Tryz.f9.params.toList ++ Rows.orderBetweenSpec.plain.varTypes Tryz.prog) (ds ++ gs)).all (· ≤ reachBytes) = true) (hL : laidMetH Tryz.prog Rows.orderBetweenRow.laid W) :
  Calls Tryz.prog 9 args W fun e W'=>∃ v,e = .returned v ∧ Rows.orderBetweenSpec.post enc Tryz.prog Tryz.f9 false true false false W args v W':=by
 refine law_ofB (C:=C) (l:=plainTys19) kids full plainOk19 bytesOk19 plainLt19 (fun t ht=>?_) rfl rfl Tryz.underlying4 (fun ds hd=>?_) call_closed hval hW hz (glob_ok hL)
 ·have : Tryz.f9.params.toList.all (fun t=>plainTys19.contains t) = true:=by kernel_rfl
  simpa using List.all_eq_true.1 this t ht
 ·match ds,hd with
  | [d1,d2,d3,d4,d5,d6,d7,d8,d9],_=>rfl
theorem laid_met (os : Os) : laidMet Tryz.prog Rows.orderBetweenRow.laid ((laidWorld os).forCall (fun _ _=>0) ⟨#[],#[.slice none 0 0,.slice none 0 0,.slice none 0 0,.agg #[.string ⟨#[]⟩,.int .i64 0,.int .i64 0,.int .i64 0,.slice none 0 0,.slice none 0 0],.bool false,.slice none 0 0,.int .i64 0,.int .i64 0,.int .i64 0],[]⟩).memory :=
 laidMet_of_run' 8 (by kernel_rfl) (by kernel_rfl)
theorem reads (os : Os) {H : Type} (enc : TypeId × Value → H) : ∃ places,DataW.whole enc Tryz.prog ((laidWorld os).forCall (fun _ _=>0) ⟨#[],#[.slice none 0 0,.slice none 0 0,.slice none 0 0,.agg #[.string ⟨#[]⟩,.int .i64 0,.int .i64 0,.int .i64 0,.slice none 0 0,.slice none 0 0],.bool false,.slice none 0 0,.int .i64 0,.int .i64 0,.int .i64 0],[]⟩).memory Tryz.f9.params.toList Rows.orderBetweenSpec.vars false #[.slice none 0 0,.slice none 0 0,.slice none 0 0,.agg #[.string ⟨#[]⟩,.int .i64 0,.int .i64 0,.int .i64 0,.slice none 0 0,.slice none 0 0],.bool false,.slice none 0 0,.int .i64 0,.int .i64 0,.int .i64 0].toList 8 = some ([.nil,.nil,.nil,.agg [.lit (.string []),.lit (.int .i64 0),.lit (.int .i64 0),.lit (.int .i64 0),.nil,.nil],.lit (.bool false),.nil,.lit (.int .i64 0),.lit (.int .i64 0),.lit (.int .i64 0)],[],places) :=
 ⟨[],by kernel_rfl⟩
set_option maxRecDepth 100000 in
theorem lifted (os : Os) (started : os.Started) (H : Type) (enc : TypeId × Value → H) (F : Stop.Interp) :
  ReturnsInHanded {} Tryz.checked os 9 .any ((OpenSpec.ofChange Rows.orderBetweenSpec).preRow enc Tryz.prog Tryz.f9 Rows.orderBetweenRow.domain false Rows.orderBetweenRow.laid) (((OpenSpec.ofChange Rows.orderBetweenSpec).at F).post enc Tryz.prog Tryz.f9 false true false false):=by
 obtain ⟨places,hx⟩:=reads os enc
 refine returnsInHanded_of_row (C:=Tryz.checked) (s:=OpenSpec.ofChange Rows.orderBetweenSpec) own started (by kernel_rfl) Tryz.func9
  (witness_row_at (enc:=enc) (C:=Tryz.checked) false (laidWorld os) #[.slice none 0 0,.slice none 0 0,.slice none 0 0,.agg #[.string ⟨#[]⟩,.int .i64 0,.int .i64 0,.int .i64 0,.slice none 0 0,.slice none 0 0],.bool false,.slice none 0 0,.int .i64 0,.int .i64 0,.int .i64 0] rfl (by kernel_rfl) (by kernel_rfl) (by kernel_rfl)
   (OpenSpec.preRow_of_cond 8 hx (by kernel_rfl) (fun k hk=>by cases hk) (by kernel_rfl) (laid_met os))) ?_
 intro W base args ds gs before hval hW _ _ hz hL _ _
 exact contract H enc W base args ds gs before hval hW hz hL
theorem said : Rows.OrderBetweenSaid :=
 OpenClaim.holds_of_cond 9 Tryz.f9 rfl rfl rfl rfl rfl rfl rfl ⟨rfl,rfl,rfl,rfl,rfl⟩ rfl rfl rfl rfl rfl (by kernel_rfl) Tryz.func9 (by kernel_rfl)
  (of_decide_eq_true (by kernel_rfl)) (by unfold Func.isWrapper; first | (rw [if_pos (by decide +kernel)]; kernel_rfl) | (rw [if_neg (by decide +kernel)]; exact ⟨rfl,rfl⟩))
  (fun os started H enc _ F=>by rw [OpenClaim.pre_eq_preRow]; exact lifted os started H enc F)
theorem plain (f : FuncId) (fn : Func) (hf : Tryz.pinned.checked.prog.funcNamed "assize/assizelaw19.OrderBetween" = some f) (hfn : Tryz.pinned.checked.prog.funcs[f]? = some fn) :
  true = Tryz.pinned.checked.prog.looks [] ∧ ∀ (j : Nat) t,fn.params[j]? = some t → Tryz.pinned.checked.prog.wantsStandIn t = false:=by
 obtain rfl : f = 9 := Option.some.inj ((show Tryz.prog.funcNamed "assize/assizelaw19.OrderBetween" = some 9 by kernel_rfl).symm.trans hf) |>.symm
 obtain rfl : fn = Tryz.f9:=(Option.some.inj (Tryz.func9.symm.trans hfn)).symm
 refine ⟨by kernel_rfl,fun j t ht=>?_⟩
 have hall : Tryz.f9.params.toList.all (fun t=>!Tryz.prog.wantsStandIn t) = true:=by kernel_rfl
 have:=List.all_eq_true.1 hall t (by simpa using Array.mem_of_getElem? ht)
 show Tryz.prog.wantsStandIn t = false
 simpa using this
theorem proved : Rows.OrderBetweenCardSaid :=
 Claim7.holds_tied_plain_at .later [] _ _ _ _ said (fun _ h=>by cases h) (by kernel_rfl) (fun _ h=>by cases h) orderBetween_row_tie rfl ⟨rfl,rfl⟩ (by kernel_rfl) rfl plain (by kernel_rfl)
end Go.Proofs.YtihibgcojdfndaaGreatDoor.orderBetween
