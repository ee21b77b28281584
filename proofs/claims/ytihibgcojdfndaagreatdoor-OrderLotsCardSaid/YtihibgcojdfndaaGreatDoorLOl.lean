import Derived.Test.YtihibgcojdfndaaGreatDoorJBG
set_option maxRecDepth 100000
set_option maxHeartbeats 0
set_option linter.unusedSimpArgs false
set_option linter.unusedVariables false
namespace Go.Proofs.YtihibgcojdfndaaGreatDoor.orderLots
open Go.Tidy Go.ChangeShapes Go.WideShapes Go.ChangeAt Go.RowKit
open Sts (Res ress fieldOk)
theorem envX_shape (l : List Res) (clubs g : List Int) (fin : Bool) : ∃ y e,envX l clubs g fin = .tup [enV y,I e]:=by
 unfold envX
 split
 ·exact ⟨_,_,rfl⟩
 ·exact ⟨_,_,rfl⟩
theorem law (p : Cp) (fin : Bool) (hr : LRu p.ru) : CallP C 7 [.d (ress p.res),.d (ins p.clubs),.d (ins p.off),.agg (p.ru.cells.map .d),B fin,.d (ins p.lots)] [] fun X L=>L = [] ∧ X = .d (.bool true):=by
 have f1 : ∀ {L : List Blk} {k : V → List Blk → Prop},k (B (few19 p)) L → CallP C 12 [.d (ress p.res),.d (ins p.clubs),.d (ins p.off),.d (ins p.lots),.agg (p.ru.cells.map .d)] L k:=fun h=>few19_c p hr h
 cases hfw : few19 p with
 | false =>
  rw [hfw] at f1
  refine callP_of C_ok Tryz.func7 rfl rfl (n:=_) rfl (zw18 rfl) (rs:=_) rfl ?_
  repeat' ((conv=>whnf); first|refine sane19_c ?_|refine f1 ?_|refine zw3 ?_|refine zw0 ?_|refine zw1 ?_|refine zw2 (fun h=>?_) (fun h=>?_)|refine zw3 ?_|refine zw4 (fun h=>?_) (fun h=>?_)|refine zw5 _ rfl ?_|refine zw6 rfl ?_)
  conv=>whnf
  exact FinP.drop (n:=0) rfl (zw21 0) rfl rfl ⟨rfl,rfl⟩
 | true =>
 rw [hfw] at f1
 obtain ⟨n1,n2,n3,n4,hL⟩:=few_p hfw hr
 have f2 : ∀ {L : List Blk} {k : V → List Blk → Prop},k (rankX p fin) L → CallP C 13 [.d (ress p.res),.d (ins p.clubs),.d (ins p.off),.agg (p.ru.cells.map .d),B fin,.d (ins p.lots)] L k:=fun h=>Rank_c p hL (by omega) fin h
 have f3 : ∀ {L : List Blk} {k : V → List Blk → Prop},k (envX p.res p.clubs p.clubs fin) L → CallP C 21 [.d (ress p.res),.d (ins p.clubs),.d (ins p.clubs),B fin] L k:=fun h=>Env_c _ _ _ fin (by omega) (by omega) (by omega) h
 by_cases h0 : openE p 2 p.clubs.contains = 0
 rotate_left
 ·have e2 : rankX p fin = .tup [.d (.sl []),.d (.sl []),I (openE p 2 p.clubs.contains)]:=by unfold rankX; rw [if_pos h0]
  rw [e2] at f2
  obtain ⟨y,f,e3⟩:=envX_shape p.res p.clubs p.clubs fin
  rw [e3] at f3
  generalize openE p 2 p.clubs.contains = e at *
  refine callP_of C_ok Tryz.func7 rfl rfl (n:=_) rfl (zw18 rfl) (rs:=_) rfl ?_
  repeat' ((conv=>whnf); first|refine zw9 (zw20 h0) ?_|refine sane19_c ?_|refine f1 ?_|refine f2 ?_|refine f3 ?_|refine zw3 ?_|refine zw0 ?_|refine zw1 ?_|refine zw2 (fun h=>?_) (fun h=>?_)|refine zw3 ?_|refine zw4 (fun h=>?_) (fun h=>?_)|refine zw5 _ rfl ?_|refine zw6 rfl ?_)
  conv=>whnf
  exact FinP.drop (n:=0) rfl (Nat.le_refl 0) rfl rfl ⟨rfl,congrArg B (by simp [h0])⟩
 obtain ⟨o1,o2,o3,o4,o5,o6⟩:=open_of h0
 obtain ⟨hn,hc2,hc24⟩:=field_of o1
 have h1 : 1 ≤ p.clubs.length:=by omega
 have e2 : rankX p fin = .tup [.d (insL ((p.gs fin).map (·.1))),.d (ins ((p.gs fin).map (·.2))),I 0]:=by unfold rankX; rw [if_neg (fun h=>h h0)]
 rw [e2] at f2
 rw [envX_ok h0 (List.Sublist.refl _) hc2,show enV (envO p.res p.clubs p.clubs.length fin) = .agg [I p.clubs.length,I (roundF p.res p.clubs),I (if fin then 1 else 0),I p.clubs.length] from rfl] at f3
 have ho:=rules_order o4
 have hml : ((p.clubs.map fun n=>[DI n]).length : Int) = (p.clubs.length : Int):=by rw [insl]
 have hgl : ((((p.gs fin).map (·.1)).map fun es=>[ins es]).length : Int) = (((p.gs fin).map (·.1)).length : Int):=by rw [List.length_map]
 have hone:=fun hcr hall x hx=>lots_one (fin:=fin) (x:=x) hc24 (by omega) (lots_nodup o6) hcr hall hn hx
 have hne:=fun x hx=>gs_ne (p:=p) (fin:=fin) h1 (x:=x) hx
 have hper:=(gs_perm p fin h1).length_eq
 have hgc:=gs_count p fin h1
 have hdir : ∀ (n : Nat),2 ≤ n → n ≤ 24 → ∀ {L : List Blk} {k : V → List Blk → Prop},k (.tup [.d (ins ((p.rk fin).cr n)),I 0]) L → CallP C 23 [.d (sps p.ru.order),enV (envO p.res p.clubs n fin)] L k:=fun n h2 h24 _ _ h =>
  Direct_c _ _ hL.ru.order (fun h=>order_dsp hL.ru.order h) (by
   have:=direct_ok ho (envO_ok p.res fin h2 h24 hc2 hc24)
   rw [this.2]; exact h)
 have hby:=fun n=>rk_ok hL fin n
 have henv : ∀ n : Nat,(envO p.res p.clubs n fin).cells = [DI n,DI (roundF p.res p.clubs),DI (if fin then 1 else 0),DI p.clubs.length]:=fun n=>rfl
 generalize (if fin then (1 : Int) else 0) = fi at *
 generalize roundF p.res p.clubs = ro at *
 refine callP_of C_ok Tryz.func7 rfl rfl (n:=_) rfl (zw18 rfl) (rs:=_) rfl ?_
 repeat' ((conv=>whnf); first|refine sane19_c ?_|refine f1 ?_|refine f2 ?_|refine f3 ?_|refine zw3 ?_|refine zw0 ?_|refine zw1 ?_|refine zw2 (fun h=>?_) (fun h=>?_)|refine zw3 ?_|refine zw4 (fun h=>?_) (fun h=>?_)|refine zw5 _ rfl ?_|refine zw6 rfl ?_)
 conv=>whnf
 refine LoopP.inv (α:=Nat × Int) (fun s=>2 ≤ s.1 ∧ s.1 ≤ p.clubs.length + 1 ∧ ∀ n,2 ≤ n → n < s.1 → (12 : Int) ∈ (p.rk fin).cr n) (fun s=>⟨[(1,.d (ins p.clubs)),(5,.d (ins p.lots)),(9,.ptr 0 0),(13,.d (insL ((p.gs fin).map (·.1)))),(16,.ptr 1 0),(18,I s.1)],Tryz.f7.ntmps,[.cells (p.ru.cells.map .d),.cells [I s.2,I ro,I fi,I p.clubs.length]],[],none⟩) (fun s=>p.clubs.length + 1 - s.1) (2,p.clubs.length) ⟨zw21 2,by simp only; omega,fun n a b=>by simp only at b; omega⟩ ?_ ?_
 ·exact Weak.to 2 rfl (zw22 _) (zw18 rfl) ⟨rfl,rfl,rfl,rfl,rfl,rfl,trivial⟩
 rintro ⟨i,ti⟩ ⟨hi2,hi,hcr⟩
 simp only at hi2 hi hcr
 by_cases hi' : i ≤ p.clubs.length
 ·have hlt : (i : Int) ≤ ((p.clubs.map fun n=>[DI n]).length : Int):=by omega
  have hw : IntKind.i64.wrap ((i : Int) + 1) = ((i + 1 : Nat) : Int):=by rw [wrap_in (by omega)]; omega
  have hd:=fun {L : List Blk} {k : V → List Blk → Prop} h=>hdir i hi2 (by omega) (L:=L) (k:=k) h
  rw [show enV (envO p.res p.clubs i fin) = .agg [I i,I ro,I fi,I p.clubs.length] from congrArg (fun l : List D=>V.agg (l.map .d)) (henv i)] at hd
  have hin:=fun {L : List Blk} {k : V → List Blk → Prop} (h : k (B (((p.rk fin).cr i).contains 12)) L)=>rin19_c (L:=L) (k:=k) _ 12 (by have:=(hby i).len; omega) h
  have hnx : (12 : Int) ∈ (p.rk fin).cr i → ∀ n,2 ≤ n → n < i + 1 → (12 : Int) ∈ (p.rk fin).cr n:=fun h n h2 hn=>by
   by_cases e : n = i
   ·subst e; exact h
   ·exact hcr n h2 (by omega)
  have hmm : ((p.rk fin).cr i).contains 12 = true → (12 : Int) ∈ (p.rk fin).cr i:=fun h=>List.contains_iff_mem.1 h
  generalize (p.rk fin).cr i = cs at *
  cases hq : cs.contains 12 with
  | false =>
   rw [hq] at hin
   repeat' ((conv=>whnf); first|refine zw8 (zw19 hlt) ?_|refine hd ?_|refine hin ?_|refine zw3 ?_|refine zw0 ?_|refine zw1 ?_|refine zw2 (fun h=>?_) (fun h=>?_)|refine zw3 ?_|refine zw4 (fun h=>?_) (fun h=>?_)|refine zw5 _ rfl ?_|refine zw6 rfl ?_)
   conv=>whnf
   exact FinP.drop (n:=0) rfl (zw21 0) rfl rfl ⟨rfl,rfl⟩
  | true =>
   rw [hq] at hin
   repeat' ((conv=>whnf); first|refine zw8 (zw19 hlt) ?_|refine hd ?_|refine hin ?_|refine zw3 ?_|refine zw0 ?_|refine zw1 ?_|refine zw2 (fun h=>?_) (fun h=>?_)|refine zw3 ?_|refine zw4 (fun h=>?_) (fun h=>?_)|refine zw5 _ rfl ?_|refine zw6 rfl ?_)
   conv=>whnf
   exact ⟨(i + 1,(i : Int)),⟨by simp only; omega,by simp only; omega,hnx (hmm hq)⟩,by show p.clubs.length + 1 - (i + 1) < p.clubs.length + 1 - i; omega,Weak.to 2 rfl (Nat.zero_le _) (Nat.le_of_ble_eq_true rfl) ⟨rfl,rfl,rfl,rfl,rfl,congrArg I hw,trivial⟩⟩
 have hlt : ¬ (i : Int) ≤ ((p.clubs.map fun n=>[DI n]).length : Int):=by omega
 have hcr' : ∀ n,2 ≤ n → n ≤ p.clubs.length → (12 : Int) ∈ (p.rk fin).cr n:=fun n h2 h3=>hcr n h2 (by omega)
 have hone:=hone hcr'
 clear hdir henv hby hcr hcr' f1 f2 f3
 repeat' ((conv=>whnf); first|refine zw9 (zw20 hlt) ?_|refine zw0 ?_|refine zw1 ?_|refine zw2 (fun h=>?_) (fun h=>?_)|refine zw3 ?_|refine zw4 (fun h=>?_) (fun h=>?_)|refine zw5 _ rfl ?_|refine zw6 rfl ?_)
 conv=>whnf
 refine LoopP.inv (fun i : Nat=>i ≤ p.clubs.length ∧ ∀ (j : Nat) (hj : j < p.clubs.length),j < i → p.clubs[j] ∈ p.lots) (fun i=>⟨[(1,.d (ins p.clubs)),(5,.d (ins p.lots)),(13,.d (insL ((p.gs fin).map (·.1)))),(21,I i)],Tryz.f7.ntmps,[],[],none⟩) (fun i=>p.clubs.length - i) 0 ⟨zw22 _,fun j _ h=>absurd h (Nat.not_lt_zero j)⟩ ?_ ?_
 ·exact Weak.to 0 rfl (zw21 0) (zw22 _) ⟨rfl,rfl,rfl,rfl,trivial⟩
 rintro m ⟨hm,hal⟩
 by_cases hm' : m < p.clubs.length
 ·have hltm : (m : Int) < ((p.clubs.map fun n=>[DI n]).length : Int):=by omega
  have hw : IntKind.i64.wrap ((m : Int) + 1) = ((m + 1 : Nat) : Int):=by rw [wrap_in (by omega)]; omega
  have r1:=ins_at hm'
  have hin:=fun {L : List Blk} {k : V → List Blk → Prop} (h : k (B (p.lots.contains p.clubs[m])) L)=>rin19_c (L:=L) (k:=k) p.lots p.clubs[m] (by omega) h
  cases hq : p.lots.contains p.clubs[m] with
  | false =>
   rw [hq] at hin
   repeat' ((conv=>whnf); first|refine zw8 (zw19 hltm) ?_|refine zw10 m _ rfl r1 ?_|refine hin ?_|refine zw3 ?_|refine zw0 ?_|refine zw1 ?_|refine zw2 (fun h=>?_) (fun h=>?_)|refine zw3 ?_|refine zw4 (fun h=>?_) (fun h=>?_)|refine zw5 _ rfl ?_|refine zw6 rfl ?_)
   conv=>whnf
   exact FinP.drop (n:=0) rfl (zw21 0) rfl rfl ⟨rfl,rfl⟩
  | true =>
   rw [hq] at hin
   have hal' : ∀ (j : Nat) (hj : j < p.clubs.length),j < m + 1 → p.clubs[j] ∈ p.lots:=fun j hj hjm=>by
    by_cases e : j = m
    ·subst e; exact List.contains_iff_mem.1 hq
    ·exact hal j hj (by omega)
   repeat' ((conv=>whnf); first|refine zw8 (zw19 hltm) ?_|refine zw10 m _ rfl r1 ?_|refine hin ?_|refine zw3 ?_|refine zw0 ?_|refine zw1 ?_|refine zw2 (fun h=>?_) (fun h=>?_)|refine zw3 ?_|refine zw4 (fun h=>?_) (fun h=>?_)|refine zw5 _ rfl ?_|refine zw6 rfl ?_)
   conv=>whnf
   exact ⟨m + 1,⟨hm',hal'⟩,by omega,Weak.to 0 rfl (zw21 0) (zw22 _) ⟨rfl,rfl,rfl,congrArg I hw,trivial⟩⟩
 have hltm : ¬ (m : Int) < ((p.clubs.map fun n=>[DI n]).length : Int):=by omega
 have hall : ∀ c ∈ p.clubs,c ∈ p.lots:=fun c hc=>by
  obtain ⟨j,hj,rfl⟩:=List.mem_iff_getElem.1 hc
  exact hal j hj (by omega)
 have hlen1 : ∀ q ∈ (p.gs fin).map (·.1),q.length = 1:=fun q hq=>by
  obtain ⟨x,hx,rfl⟩:=List.mem_map.1 hq
  have h2:=hone hall x hx
  have h3:=List.length_pos_iff.2 (hne x hx)
  omega
 have hcnt:=ones_count _ hlen1
 rw [hper] at hcnt
 rw [← List.length_map (f:=(·.1))] at hgc
 generalize (p.gs fin).map (·.1) = gs at *
 repeat' ((conv=>whnf); first|refine zw9 (zw20 hltm) ?_|refine zw0 ?_|refine zw1 ?_|refine zw2 (fun h=>?_) (fun h=>?_)|refine zw3 ?_|refine zw4 (fun h=>?_) (fun h=>?_)|refine zw5 _ rfl ?_|refine zw6 rfl ?_)
 conv=>whnf
 refine LoopP.inv (fun i : Nat=>i ≤ gs.length) (fun i=>⟨[(1,.d (ins p.clubs)),(13,.d (insL gs)),(22,I i)],Tryz.f7.ntmps,[],[],none⟩) (fun i=>gs.length - i) 0 (zw22 _) ?_ ?_
 ·exact Weak.to 0 rfl (zw21 0) (zw22 _) ⟨rfl,rfl,rfl,trivial⟩
 intro q hq
 by_cases hq' : q < gs.length
 ·have hltq : (q : Int) < ((gs.map fun es=>[ins es]).length : Int):=by omega
  have hw : IntKind.i64.wrap ((q : Int) + 1) = ((q + 1 : Nat) : Int):=by rw [wrap_in (by omega)]; omega
  have r1:=insL_at hq'
  have hl1 : ((gs[q].map fun n=>[DI n]).length : Int) = 1:=by rw [insl,hlen1 _ (List.getElem_mem hq')]; rfl
  repeat' ((conv=>whnf); first|refine zw8 (zw19 hltq) ?_|refine zw10 q _ rfl r1 ?_|refine zw3 ?_|refine zw8 (zw19 hl1) ?_|refine zw0 ?_|refine zw1 ?_|refine zw2 (fun h=>?_) (fun h=>?_)|refine zw3 ?_|refine zw4 (fun h=>?_) (fun h=>?_)|refine zw5 _ rfl ?_|refine zw6 rfl ?_)
  conv=>whnf
  exact ⟨q + 1,hq',by omega,Weak.to 0 rfl (zw21 0) (zw22 _) ⟨rfl,rfl,congrArg I hw,trivial⟩⟩
 have hltq : ¬ (q : Int) < ((gs.map fun es=>[ins es]).length : Int):=by omega
 have hee : ((gs.map fun es=>[ins es]).length : Int) = ((p.clubs.map fun n=>[DI n]).length : Int):=by omega
 repeat' ((conv=>whnf); first|refine zw9 (zw20 hltq) ?_|refine zw0 ?_|refine zw1 ?_|refine zw2 (fun h=>?_) (fun h=>?_)|refine zw3 ?_|refine zw4 (fun h=>?_) (fun h=>?_)|refine zw5 _ rfl ?_|refine zw6 rfl ?_)
 conv=>whnf
 exact FinP.drop (n:=0) rfl (zw21 0) rfl rfl ⟨rfl,congrArg B (zw19 hee)⟩
theorem call_closed : ∀ xss,TyA C.P Tryz.f7.params.toList xss → (∀ xs ∈ xss,∀ y ∈ xs,Dsm reachBytes y) → CallP C 7 (argVs C.P Tryz.f7.params.toList xss) [] fun X L=>L = [] ∧ X = .d (.bool true):=by
 intro xss h hsm
 match xss,h,hsm with
 | [x1,x2,x3,x4,x5,x6],⟨h1,h2,h3,h4,h5,h6,_⟩,hsm =>
  obtain ⟨x1,rfl,b1⟩:=ress19 h1 (hsm _ (by simp))
  obtain ⟨x2,rfl,b2⟩:=ints19 h2 (hsm _ (by simp))
  obtain ⟨x3,rfl,b3⟩:=ints19 h3 (hsm _ (by simp))
  obtain ⟨x4,rfl,b4⟩:=rulesT h4 (hsm _ (by simp))
  obtain ⟨x5,rfl,b5⟩:=bool19 h5 (hsm _ (by simp))
  obtain ⟨x6,rfl,b6⟩:=ints19 h6 (hsm _ (by simp))
  exact law ⟨x1,x2,x3,x4,x6⟩ x5 b4
theorem contract (H : Type) (enc : TypeId × Value → H) (W : World) (base : Nat) (args : Array Value) (ds gs : List (DataW H)) (before : List MemPlace)
  (hval : ∀ (j : Nat) t v,Tryz.f7.params[j]? = some t → args[j]? = some v → Value.okWide Tryz.prog W .any base t v)
  (hW : DataW.Whole enc Tryz.prog Tryz.f7.params.toList Rows.orderLotsSpec.vars false W args.toList ds gs before)
  (hz : (DataW.weightsEach Tryz.prog (Tryz.f7.params.toList ++ Rows.orderLotsSpec.plain.varTypes Tryz.prog) (ds ++ gs)).all (· ≤ reachBytes) = true) (hL : laidMetH Tryz.prog Rows.orderLotsRow.laid W) :
  Calls Tryz.prog 7 args W fun e W'=>∃ v,e = .returned v ∧ Rows.orderLotsSpec.post enc Tryz.prog Tryz.f7 false true false false W args v W':=by
 refine law_ofB (C:=C) (l:=plainTys19) kids full plainOk19 bytesOk19 plainLt19 (fun t ht=>?_) rfl rfl Tryz.underlying4 (fun ds hd=>?_) call_closed hval hW hz (glob_ok hL)
 ·have : Tryz.f7.params.toList.all (fun t=>plainTys19.contains t) = true:=by kernel_rfl
  simpa using List.all_eq_true.1 this t ht
 ·match ds,hd with
  | [d1,d2,d3,d4,d5,d6],_=>rfl
theorem laid_met (os : Os) : laidMet Tryz.prog Rows.orderLotsRow.laid ((laidWorld os).forCall (fun _ _=>0) ⟨#[],#[.slice none 0 0,.slice none 0 0,.slice none 0 0,.agg #[.string ⟨#[]⟩,.int .i64 0,.int .i64 0,.int .i64 0,.slice none 0 0,.slice none 0 0],.bool false,.slice none 0 0],[]⟩).memory :=
 laidMet_of_run' 8 (by kernel_rfl) (by kernel_rfl)
theorem reads (os : Os) {H : Type} (enc : TypeId × Value → H) : ∃ places,DataW.whole enc Tryz.prog ((laidWorld os).forCall (fun _ _=>0) ⟨#[],#[.slice none 0 0,.slice none 0 0,.slice none 0 0,.agg #[.string ⟨#[]⟩,.int .i64 0,.int .i64 0,.int .i64 0,.slice none 0 0,.slice none 0 0],.bool false,.slice none 0 0],[]⟩).memory Tryz.f7.params.toList Rows.orderLotsSpec.vars false #[.slice none 0 0,.slice none 0 0,.slice none 0 0,.agg #[.string ⟨#[]⟩,.int .i64 0,.int .i64 0,.int .i64 0,.slice none 0 0,.slice none 0 0],.bool false,.slice none 0 0].toList 8 = some ([.nil,.nil,.nil,.agg [.lit (.string []),.lit (.int .i64 0),.lit (.int .i64 0),.lit (.int .i64 0),.nil,.nil],.lit (.bool false),.nil],[],places) :=
 ⟨[],by kernel_rfl⟩
set_option maxRecDepth 100000 in
theorem lifted (os : Os) (started : os.Started) (H : Type) (enc : TypeId × Value → H) (F : Stop.Interp) :
  ReturnsInHanded {} Tryz.checked os 7 .any ((OpenSpec.ofChange Rows.orderLotsSpec).preRow enc Tryz.prog Tryz.f7 Rows.orderLotsRow.domain false Rows.orderLotsRow.laid) (((OpenSpec.ofChange Rows.orderLotsSpec).at F).post enc Tryz.prog Tryz.f7 false true false false):=by
 obtain ⟨places,hx⟩:=reads os enc
 refine returnsInHanded_of_row (C:=Tryz.checked) (s:=OpenSpec.ofChange Rows.orderLotsSpec) own started (by kernel_rfl) Tryz.func7
  (witness_row_at (enc:=enc) (C:=Tryz.checked) false (laidWorld os) #[.slice none 0 0,.slice none 0 0,.slice none 0 0,.agg #[.string ⟨#[]⟩,.int .i64 0,.int .i64 0,.int .i64 0,.slice none 0 0,.slice none 0 0],.bool false,.slice none 0 0] rfl (by kernel_rfl) (by kernel_rfl) (by kernel_rfl)
   (OpenSpec.preRow_of_cond 8 hx (by kernel_rfl) (fun k hk=>by cases hk) (by kernel_rfl) (laid_met os))) ?_
 intro W base args ds gs before hval hW _ _ hz hL _ _
 exact contract H enc W base args ds gs before hval hW hz hL
theorem said : Rows.OrderLotsSaid :=
 OpenClaim.holds_of_cond 7 Tryz.f7 rfl rfl rfl rfl rfl rfl rfl ⟨rfl,rfl,rfl,rfl,rfl⟩ rfl rfl rfl rfl rfl (by kernel_rfl) Tryz.func7 (by kernel_rfl)
  (of_decide_eq_true (by kernel_rfl)) (by unfold Func.isWrapper; first | (rw [if_pos (by decide +kernel)]; kernel_rfl) | (rw [if_neg (by decide +kernel)]; exact ⟨rfl,rfl⟩))
  (fun os started H enc _ F=>by rw [OpenClaim.pre_eq_preRow]; exact lifted os started H enc F)
theorem plain (f : FuncId) (fn : Func) (hf : Tryz.pinned.checked.prog.funcNamed "assize/assizelaw19.OrderLots" = some f) (hfn : Tryz.pinned.checked.prog.funcs[f]? = some fn) :
  true = Tryz.pinned.checked.prog.looks [] ∧ ∀ (j : Nat) t,fn.params[j]? = some t → Tryz.pinned.checked.prog.wantsStandIn t = false:=by
 obtain rfl : f = 7 := Option.some.inj ((show Tryz.prog.funcNamed "assize/assizelaw19.OrderLots" = some 7 by kernel_rfl).symm.trans hf) |>.symm
 obtain rfl : fn = Tryz.f7:=(Option.some.inj (Tryz.func7.symm.trans hfn)).symm
 refine ⟨by kernel_rfl,fun j t ht=>?_⟩
 have hall : Tryz.f7.params.toList.all (fun t=>!Tryz.prog.wantsStandIn t) = true:=by kernel_rfl
 have:=List.all_eq_true.1 hall t (by simpa using Array.mem_of_getElem? ht)
 show Tryz.prog.wantsStandIn t = false
 simpa using this
theorem proved : Rows.OrderLotsCardSaid :=
 Claim7.holds_tied_plain_at .later [] _ _ _ _ said (fun _ h=>by cases h) (by kernel_rfl) (fun _ h=>by cases h) orderLots_row_tie rfl ⟨rfl,rfl⟩ (by kernel_rfl) rfl plain (by kernel_rfl)
end Go.Proofs.YtihibgcojdfndaaGreatDoor.orderLots
