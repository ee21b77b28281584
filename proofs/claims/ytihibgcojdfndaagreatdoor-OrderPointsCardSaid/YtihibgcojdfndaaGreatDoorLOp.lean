import Derived.Test.YtihibgcojdfndaaGreatDoorJBG
set_option maxRecDepth 100000
set_option maxHeartbeats 0
set_option linter.unusedSimpArgs false
set_option linter.unusedVariables false
namespace Go.Proofs.YtihibgcojdfndaaGreatDoor.orderPoints
open Go.Tidy Go.ChangeShapes Go.WideShapes Go.ChangeAt Go.RowKit
open Sts (Res Row ress fieldOk rowsF rowC rowsD)
theorem law (p : Cp) (fin : Bool) (hr : LRu p.ru) : CallP C 6 [.d (ress p.res),.d (ins p.clubs),.d (ins p.off),.agg (p.ru.cells.map .d),B fin,.d (ins p.lots)] [] fun X L=>L = [] ∧ X = .d (.bool true):=by
 have f1 : ∀ {L : List Blk} {k : V → List Blk → Prop},k (B (few19 p)) L → CallP C 12 [.d (ress p.res),.d (ins p.clubs),.d (ins p.off),.d (ins p.lots),.agg (p.ru.cells.map .d)] L k:=fun h=>few19_c p hr h
 cases hfw : few19 p with
 | false =>
  rw [hfw] at f1
  refine callP_of C_ok Tryz.func6 rfl rfl (n:=_) rfl (zw18 rfl) (rs:=_) rfl ?_
  repeat' ((conv=>whnf); first|refine sane19_c ?_|refine f1 ?_|refine zw3 ?_|refine zw0 ?_|refine zw1 ?_|refine zw2 (fun h=>?_) (fun h=>?_)|refine zw3 ?_|refine zw4 (fun h=>?_) (fun h=>?_)|refine zw5 _ rfl ?_|refine zw6 rfl ?_)
  conv=>whnf
  exact FinP.drop (n:=0) rfl (zw21 0) rfl rfl ⟨rfl,rfl⟩
 | true =>
 rw [hfw] at f1
 obtain ⟨n1,n2,n3,n4,hL⟩:=few_p hfw hr
 by_cases c0 : ((p.ru.order.map Sp.cells).length : Int) = 0
 ·refine callP_of C_ok Tryz.func6 rfl rfl (n:=_) rfl (zw18 rfl) (rs:=_) rfl ?_
  repeat' ((conv=>whnf); first|refine zw8 (zw19 c0) ?_|refine sane19_c ?_|refine f1 ?_|refine zw3 ?_|refine zw0 ?_|refine zw1 ?_|refine zw2 (fun h=>?_) (fun h=>?_)|refine zw3 ?_|refine zw4 (fun h=>?_) (fun h=>?_)|refine zw5 _ rfl ?_|refine zw6 rfl ?_)
  conv=>whnf
  exact FinP.drop (n:=0) rfl (zw21 0) rfl rfl ⟨rfl,rfl⟩
 obtain ⟨s,r,hor⟩ : ∃ s r,p.ru.order = s :: r:=List.exists_cons_of_ne_nil (fun e=>c0 (by rw [e]; rfl))
 have r0 : (p.ru.order.map Sp.cells)[0]? = some [DI s.kind,DI s.by_,DI s.cond.kind,DI s.cond.var,DI s.cond.n,cos s.cond.parts,sps s.thn,sps s.els]:=by rw [hor,← Sp.cells_eq]; rfl
 by_cases c1 : s.kind = 1
 rotate_left
 ·refine callP_of C_ok Tryz.func6 rfl rfl (n:=_) rfl (zw18 rfl) (rs:=_) rfl ?_
  repeat' ((conv=>whnf); first|refine zw9 (zw20 c0) ?_|refine zw9 (zw20 c1) ?_|refine zw10 0 _ rfl r0 ?_|refine sane19_c ?_|refine f1 ?_|refine zw3 ?_|refine zw0 ?_|refine zw1 ?_|refine zw2 (fun h=>?_) (fun h=>?_)|refine zw3 ?_|refine zw4 (fun h=>?_) (fun h=>?_)|refine zw5 _ rfl ?_|refine zw6 rfl ?_)
  conv=>whnf
  exact FinP.drop (n:=0) rfl (zw21 0) rfl rfl ⟨rfl,rfl⟩
 by_cases c2 : s.by_ = 1
 rotate_left
 ·refine callP_of C_ok Tryz.func6 rfl rfl (n:=_) rfl (zw18 rfl) (rs:=_) rfl ?_
  repeat' ((conv=>whnf); first|refine zw9 (zw20 c0) ?_|refine zw8 (zw19 c1) ?_|refine zw9 (zw20 c2) ?_|refine zw10 0 _ rfl r0 ?_|refine sane19_c ?_|refine f1 ?_|refine zw3 ?_|refine zw0 ?_|refine zw1 ?_|refine zw2 (fun h=>?_) (fun h=>?_)|refine zw3 ?_|refine zw4 (fun h=>?_) (fun h=>?_)|refine zw5 _ rfl ?_|refine zw6 rfl ?_)
  conv=>whnf
  exact FinP.drop (n:=0) rfl (zw21 0) rfl rfl ⟨rfl,rfl⟩
 have f2 : ∀ {L : List Blk} {k : V → List Blk → Prop},k (rankX p fin) L → CallP C 13 [.d (ress p.res),.d (ins p.clubs),.d (ins p.off),.agg (p.ru.cells.map .d),B fin,.d (ins p.lots)] L k:=fun h=>Rank_c p hL (by omega) fin h
 by_cases h0 : openE p 2 p.clubs.contains = 0
 rotate_left
 ·have e2 : rankX p fin = .tup [.d (.sl []),.d (.sl []),I (openE p 2 p.clubs.contains)]:=by unfold rankX; rw [if_pos h0]
  rw [e2] at f2
  generalize openE p 2 p.clubs.contains = e at *
  refine callP_of C_ok Tryz.func6 rfl rfl (n:=_) rfl (zw18 rfl) (rs:=_) rfl ?_
  repeat' ((conv=>whnf); first|refine zw9 (zw20 h0) ?_|refine zw9 (zw20 c0) ?_|refine zw8 (zw19 c1) ?_|refine zw8 (zw19 c2) ?_|refine zw10 0 _ rfl r0 ?_|refine sane19_c ?_|refine f1 ?_|refine f2 ?_|refine zw3 ?_|refine zw0 ?_|refine zw1 ?_|refine zw2 (fun h=>?_) (fun h=>?_)|refine zw3 ?_|refine zw4 (fun h=>?_) (fun h=>?_)|refine zw5 _ rfl ?_|refine zw6 rfl ?_)
  conv=>whnf
  exact FinP.drop (n:=0) rfl (zw21 0) rfl rfl ⟨rfl,rfl⟩
 obtain ⟨o1,o2,o3,o4,o5,o6⟩:=open_of h0
 obtain ⟨hn,hc2,hc24⟩:=field_of o1
 have h1 : 1 ≤ p.clubs.length:=by omega
 have e2 : rankX p fin = .tup [.d (insL ((p.gs fin).map (·.1))),.d (ins ((p.gs fin).map (·.2))),I 0]:=by unfold rankX; rw [if_neg (fun h=>h h0)]
 rw [e2] at f2
 have hfall:=points_fall (fin:=fin) hc2 (first_one hor c1 c2 (rules_order o4) fin (envO_ok p.res fin hc2 hc24 hc2 hc24))
 obtain ⟨hrw,hpt⟩:=rows_pts h0 n1
 have f3 : ∀ {L : List Blk} {k : V → List Blk → Prop},k (.tup [.d (rowsD (p.clubs.map (Sts.tally p.ru.w p.res rowC))),I 0]) L → CallP C 26 [.d (ress p.res),.d (ins p.clubs),I p.ru.win,I p.ru.draw,I p.ru.loss] L k:=fun h =>
  Sts.rows_c p.res p.clubs p.ru.w (by omega) (by omega) (by rw [hrw]; exact h)
 have hgm : ∀ g ∈ (p.gs fin).map (·.1),g ≠ [] ∧ List.Sublist g p.clubs:=fun g hg=>by
  obtain ⟨x,hx,rfl⟩:=List.mem_map.1 hg; exact ⟨gs_ne h1 hx,(gs_mem hx).1⟩
 have hgc : ((p.gs fin).map (·.1)).length ≤ 24:=by rw [List.length_map]; have:=gs_count p fin h1; omega
 generalize Sts.tally p.ru.w p.res rowC = T at *
 generalize (p.gs fin).map (·.2) = Bs at *
 generalize (p.gs fin).map (·.1) = G at *
 generalize valC p p.clubs 1 = v at *
 have hml : ((p.clubs.map fun n=>[DI n]).length : Int) = (p.clubs.length : Int):=by rw [insl]
 have hmo : ((p.off.map fun n=>[DI n]).length : Int) = (p.off.length : Int):=by rw [insl]
 have hgl : ((G.map fun es=>[ins es]).length : Int) = (G.length : Int):=by rw [List.length_map]
 have hrl : (((p.clubs.map T).map Row.cells).length : Int) = ((p.clubs.map fun n=>[DI n]).length : Int):=by rw [List.length_map,List.length_map,insl]
 refine callP_of C_ok Tryz.func6 rfl rfl (n:=_) rfl (zw18 rfl) (rs:=_) rfl ?_
 repeat' ((conv=>whnf); first|refine zw9 (zw20 c0) ?_|refine zw8 (zw19 c1) ?_|refine zw8 (zw19 c2) ?_|refine zw10 0 _ rfl r0 ?_|refine sane19_c ?_|refine f1 ?_|refine f2 ?_|refine f3 ?_|refine zw3 ?_|refine zw8 (zw19 hrl) ?_|refine zw0 ?_|refine zw1 ?_|refine zw2 (fun h=>?_) (fun h=>?_)|refine zw3 ?_|refine zw4 (fun h=>?_) (fun h=>?_)|refine zw5 _ rfl ?_|refine zw6 rfl ?_)
 conv=>whnf
 refine LoopP.inv (α:=Nat × Bool × Int) (fun s=>s.1 ≤ G.length ∧ (s.2.1 = true ∨ ∀ g,G[s.1]? = some g → ∀ y ∈ g,v y ≤ s.2.2)) (fun s=>⟨[(1,.d (ins p.clubs)),(2,.d (ins p.off)),(13,.d (insL G)),(16,.d (rowsD (p.clubs.map T))),(18,B s.2.1),(19,I s.2.2),(20,I s.1)],Tryz.f6.ntmps,[],[],none⟩) (fun s=>G.length - s.1) (0,true,0) ⟨zw22 _,.inl rfl⟩ ?_ ?_
 ·exact Weak.to 0 rfl (zw21 0) (zw22 _) ⟨rfl,rfl,rfl,rfl,rfl,rfl,rfl,trivial⟩
 rintro ⟨i,fb,last⟩ ⟨hi,hinv⟩
 simp only at hi hinv
 by_cases hi' : i < G.length
 rotate_left
 ·have hlt : ¬ (i : Int) < ((G.map fun es=>[ins es]).length : Int):=by omega
  repeat' ((conv=>whnf); first|refine zw9 (zw20 hlt) ?_|refine zw0 ?_|refine zw1 ?_|refine zw2 (fun h=>?_) (fun h=>?_)|refine zw3 ?_|refine zw4 (fun h=>?_) (fun h=>?_)|refine zw5 _ rfl ?_|refine zw6 rfl ?_)
  conv=>whnf
  exact FinP.drop (n:=0) rfl (zw21 0) rfl rfl ⟨rfl,rfl⟩
 have hlt : (i : Int) < ((G.map fun es=>[ins es]).length : Int):=by omega
 have hw : IntKind.i64.wrap ((i : Int) + 1) = ((i + 1 : Nat) : Int):=by rw [wrap_in (by omega)]; omega
 have r1:=insL_at hi'
 have hinv:=hinv.imp_right fun h=>h _ (List.getElem?_eq_getElem hi')
 obtain ⟨hgn,hgs⟩:=hgm _ (List.getElem_mem hi')
 have hsm:=hfall.1 _ (List.getElem_mem hi')
 have hnx : ∀ g,G[i + 1]? = some g → ∀ a ∈ G[i],∀ y ∈ g,v y ≤ v a:=fun g hg a ha y hy=>by
  have hl:=lt_of_get hg
  have:=List.pairwise_iff_getElem.1 hfall.2 i (i + 1) hi' hl (by omega)
  rw [List.getElem?_eq_getElem hl] at hg
  cases hg
  exact this a ha y hy
 obtain ⟨g,hg⟩ : ∃ g,g = G[i]:=⟨_,rfl⟩
 rw [← hg] at r1 hinv hgn hgs hsm hnx
 clear hg
 have hgll : ((g.map fun n=>[DI n]).length : Int) = (g.length : Int):=by rw [insl]
 have hgle:=hgs.length_le
 have hgp:=List.length_pos_iff.2 hgn
 repeat' ((conv=>whnf); first|refine zw8 (zw19 hlt) ?_|refine zw0 ?_|refine zw1 ?_|refine zw2 (fun h=>?_) (fun h=>?_)|refine zw3 ?_|refine zw4 (fun h=>?_) (fun h=>?_)|refine zw5 _ rfl ?_|refine zw6 rfl ?_)
 conv=>whnf
 refine LoopP.inv (α:=Nat × Bool × Int) (fun s=>s.1 ≤ g.length ∧ (0 < s.1 → s.2.1 = false ∧ ∀ y ∈ g,v y = s.2.2) ∧ (s.1 = 0 → s.2.1 = true ∨ ∀ y ∈ g,v y ≤ s.2.2)) (fun s=>⟨[(1,.d (ins p.clubs)),(2,.d (ins p.off)),(13,.d (insL G)),(16,.d (rowsD (p.clubs.map T))),(18,B s.2.1),(19,I s.2.2),(20,I i),(21,I s.1)],Tryz.f6.ntmps,[],[],none⟩) (fun s=>g.length - s.1) (0,fb,last) ⟨zw22 _,fun h=>absurd h (Nat.lt_irrefl 0),fun _=>hinv⟩ ?_ ?_
 ·exact Weak.by ⟨rfl,rfl,rfl,rfl,rfl,rfl,rfl,rfl,trivial⟩
 rintro ⟨q,fb,last⟩ ⟨hq,ha,hb⟩
 simp only at hq ha hb
 by_cases hq' : q < g.length
 rotate_left
 ·have hltq : ¬ (q : Int) < ((g.map fun n=>[DI n]).length : Int):=by omega
  obtain ⟨a1,a2⟩:=ha (by omega)
  repeat' ((conv=>whnf); first|refine zw9 (zw20 hltq) ?_|refine zw10 i _ rfl r1 ?_|refine zw0 ?_|refine zw1 ?_|refine zw2 (fun h=>?_) (fun h=>?_)|refine zw3 ?_|refine zw4 (fun h=>?_) (fun h=>?_)|refine zw5 _ rfl ?_|refine zw6 rfl ?_)
  conv=>whnf
  refine ⟨(i + 1,fb,last),⟨hi',.inr fun g' hg' y hy=>?_⟩,by show G.length - (i + 1) < G.length - i; omega,Weak.by ⟨rfl,rfl,rfl,rfl,rfl,rfl,congrArg I hw,trivial⟩⟩
  have h3:=hnx g' hg' _ (List.getElem_mem hgp) y hy
  rw [a2 _ (List.getElem_mem hgp)] at h3
  exact h3
 have hltq : (q : Int) < ((g.map fun n=>[DI n]).length : Int):=by omega
 have hwq : IntKind.i64.wrap ((q : Int) + 1) = ((q + 1 : Nat) : Int):=by rw [wrap_in (by omega)]; omega
 have r2:=ins_at hq'
 have hcm:=hgs.subset (List.getElem_mem hq')
 have hb1 : 0 < q → last = v g[q]:=fun h=>((ha h).2 _ (List.getElem_mem hq')).symm
 have hb2 : q = 0 → fb = true ∨ v g[q] ≤ last:=fun h=>(hb h).imp_right fun h2=>h2 _ (List.getElem_mem hq')
 have hall : ∀ y ∈ g,v y = v g[q]:=fun y hy=>hsm y hy _ (List.getElem_mem hq')
 obtain ⟨c,hc⟩ : ∃ c,c = g[q]:=⟨_,rfl⟩
 rw [← hc] at r2 hcm hb1 hb2 hall
 clear hc
 have hix:=List.idxOf_lt_length_of_mem hcm
 have hvc:=hpt c hcm
 unfold offF at hvc
 rw [if_pos hcm,getDI (by omega)] at hvc
 have hic : p.clubs[p.clubs.idxOf c] = c:=List.getElem_idxOf hix
 have hne : ∀ (j : Nat) (h : j < p.clubs.length),j ≠ p.clubs.idxOf c → p.clubs[j] ≠ c:=fun j h hj e=>hj (by
  have:=idx_take hn h
  rw [e] at this
  exact this.symm)
 obtain ⟨ix,hix,hix2,hic,hvc,hne⟩ : ∃ (ix : Nat) (h : ix < p.clubs.length) (h' : ix < p.off.length),p.clubs[ix] = c ∧ v c = IntKind.i64.wrap ((T c).points - p.off[ix]) ∧ ∀ (j : Nat) (h : j < p.clubs.length),j ≠ ix → p.clubs[j] ≠ c:=⟨_,hix,by omega,hic,hvc,hne⟩
 repeat' ((conv=>whnf); first|refine zw8 (zw19 hltq) ?_|refine zw10 i _ rfl r1 ?_|refine zw0 ?_|refine zw1 ?_|refine zw2 (fun h=>?_) (fun h=>?_)|refine zw3 ?_|refine zw4 (fun h=>?_) (fun h=>?_)|refine zw5 _ rfl ?_|refine zw6 rfl ?_)
 conv=>whnf
 refine LoopP.inv (fun j : Nat=>j ≤ p.clubs.length) (fun j=>⟨[(1,.d (ins p.clubs)),(2,.d (ins p.off)),(13,.d (insL G)),(16,.d (rowsD (p.clubs.map T))),(18,B fb),(19,I last),(20,I i),(21,I q),(22,I (if ix < j then v c else 0)),(23,I j)],Tryz.f6.ntmps,[],[],none⟩) (fun j=>p.clubs.length - j) 0 (zw22 _) ?_ ?_
 ·exact Weak.by ⟨rfl,rfl,rfl,rfl,rfl,rfl,rfl,rfl,rfl,rfl,trivial⟩
 intro j hj
 by_cases hj' : j < p.clubs.length
 ·have hltj : (j : Int) < ((p.clubs.map fun n=>[DI n]).length : Int):=by omega
  have hltj2 : (j : Int) < ((p.off.map fun n=>[DI n]).length : Int):=by omega
  have hwj : IntKind.i64.wrap ((j : Int) + 1) = ((j + 1 : Nat) : Int):=by rw [wrap_in (by omega)]; omega
  have r3:=ins_at hj'
  have r4:=ins_at (l:=p.off) (i:=j) (by omega)
  have r5 : ((p.clubs.map T).map Row.cells)[j]? = some (T p.clubs[j]).cells:=by rw [List.getElem?_map,List.getElem?_map,List.getElem?_eq_getElem hj']; rfl
  by_cases hjx : j = ix
  ·subst hjx
   rw [if_neg (Nat.lt_irrefl j)]
   have hvv : IntKind.i64.wrap ((T p.clubs[j]).points - p.off[j]) = if j < j + 1 then v c else 0:=by rw [if_pos (by omega),hic]; exact hvc.symm
   obtain ⟨x,hx⟩ : ∃ x,x = p.clubs[j]:=⟨_,rfl⟩
   rw [← hx] at r3 r5 hvv hic
   generalize p.off[j] = o at *
   generalize T x = R at *
   repeat' ((conv=>whnf); first|refine zw8 (zw19 hltj) ?_|refine zw8 (zw19 hltj2) ?_|refine zw8 (zw19 hic) ?_|refine zw10 j _ rfl r3 ?_|refine zw10 j _ rfl r4 ?_|refine zw10 j _ rfl r5 ?_|refine zw10 i _ rfl r1 ?_|refine zw10 q _ rfl r2 ?_|refine zw0 ?_|refine zw1 ?_|refine zw2 (fun h=>?_) (fun h=>?_)|refine zw3 ?_|refine zw4 (fun h=>?_) (fun h=>?_)|refine zw5 _ rfl ?_|refine zw6 rfl ?_|refine zw7 mixed rfl ?_)
   conv=>whnf
   exact ⟨j + 1,hj',by omega,Weak.by ⟨rfl,rfl,rfl,rfl,rfl,rfl,rfl,rfl,congrArg I hvv,congrArg I hwj,trivial⟩⟩
  ·have hcn:=hne j hj' hjx
   have hvv : (if ix < j then v c else 0) = if ix < j + 1 then v c else 0:=by
    by_cases h : ix < j
    ·rw [if_pos h,if_pos (by omega)]
    ·rw [if_neg h,if_neg (by omega)]
   obtain ⟨x,hx⟩ : ∃ x,x = p.clubs[j]:=⟨_,rfl⟩
   rw [← hx] at r3 hcn
   rw [hvv]
   repeat' ((conv=>whnf); first|refine zw8 (zw19 hltj) ?_|refine zw8 (zw19 hltj2) ?_|refine zw9 (zw20 hcn) ?_|refine zw10 j _ rfl r3 ?_|refine zw10 i _ rfl r1 ?_|refine zw10 q _ rfl r2 ?_|refine zw0 ?_|refine zw1 ?_|refine zw2 (fun h=>?_) (fun h=>?_)|refine zw3 ?_|refine zw4 (fun h=>?_) (fun h=>?_)|refine zw5 _ rfl ?_|refine zw6 rfl ?_|refine zw7 mixed rfl ?_)
   conv=>whnf
   exact ⟨j + 1,hj',by omega,Weak.by ⟨rfl,rfl,rfl,rfl,rfl,rfl,rfl,rfl,rfl,congrArg I hwj,trivial⟩⟩
 have hltj : ¬ (j : Int) < ((p.clubs.map fun n=>[DI n]).length : Int):=by omega
 obtain rfl : j = p.clubs.length:=by omega
 rw [if_pos hix]
 generalize v c = n at *
 have hend : (0 < q + 1 → false = false ∧ ∀ y ∈ g,v y = n) ∧ (q + 1 = 0 → false = true ∨ ∀ y ∈ g,v y ≤ n):=⟨fun _=>⟨rfl,hall⟩,fun h=>absurd h (by omega)⟩
 cases fb with
 | true =>
  repeat' ((conv=>whnf); first|refine zw9 (zw20 hltj) ?_|refine zw0 ?_|refine zw1 ?_|refine zw2 (fun h=>?_) (fun h=>?_)|refine zw3 ?_|refine zw4 (fun h=>?_) (fun h=>?_)|refine zw5 _ rfl ?_|refine zw6 rfl ?_)
  conv=>whnf
  exact ⟨(q + 1,false,n),⟨hq',hend⟩,by show g.length - (q + 1) < g.length - q; omega,Weak.by ⟨rfl,rfl,rfl,rfl,rfl,rfl,rfl,congrArg I hwq,trivial⟩⟩
 | false =>
  by_cases hq0 : (0 : Int) < (q : Int)
  ·have e:=hb1 (by omega)
   have c3 : ¬ last < n:=by omega
   repeat' ((conv=>whnf); first|refine zw9 (zw20 hltj) ?_|refine zw9 (zw20 c3) ?_|refine zw8 (zw19 hq0) ?_|refine zw3 ?_|refine zw8 (zw19 e.symm) ?_|refine zw0 ?_|refine zw1 ?_|refine zw2 (fun h=>?_) (fun h=>?_)|refine zw3 ?_|refine zw4 (fun h=>?_) (fun h=>?_)|refine zw5 _ rfl ?_|refine zw6 rfl ?_)
   conv=>whnf
   exact ⟨(q + 1,false,n),⟨hq',hend⟩,by show g.length - (q + 1) < g.length - q; omega,Weak.by ⟨rfl,rfl,rfl,rfl,rfl,rfl,rfl,congrArg I hwq,trivial⟩⟩
  ·have c3 : ¬ last < n:=by
    rcases hb2 (by omega) with h | h
    ·cases h
    ·omega
   repeat' ((conv=>whnf); first|refine zw9 (zw20 hltj) ?_|refine zw9 (zw20 c3) ?_|refine zw9 (zw20 hq0) ?_|refine zw3 ?_|refine zw0 ?_|refine zw1 ?_|refine zw2 (fun h=>?_) (fun h=>?_)|refine zw3 ?_|refine zw4 (fun h=>?_) (fun h=>?_)|refine zw5 _ rfl ?_|refine zw6 rfl ?_)
   conv=>whnf
   exact ⟨(q + 1,false,n),⟨hq',hend⟩,by show g.length - (q + 1) < g.length - q; omega,Weak.by ⟨rfl,rfl,rfl,rfl,rfl,rfl,rfl,congrArg I hwq,trivial⟩⟩
theorem call_closed : ∀ xss,TyA C.P Tryz.f6.params.toList xss → (∀ xs ∈ xss,∀ y ∈ xs,Dsm reachBytes y) → CallP C 6 (argVs C.P Tryz.f6.params.toList xss) [] fun X L=>L = [] ∧ X = .d (.bool true):=by
 intro xss h hsm
 match xss,h,hsm with
 | [x1,x2,x3,x4,x5,x6],⟨h1,h2,h3,h4,h5,h6,_⟩,hsm =>
  obtain ⟨x1,rfl,b1⟩:=ress19 h1 (hsm _ (by simp))
  obtain ⟨x2,rfl,b2⟩:=ints19 h2 (hsm _ (by simp))
  obtain ⟨x3,rfl,b3⟩:=ints19 h3 (hsm _ (by simp))
  obtain ⟨x4,rfl,b4⟩:=rulesT h4 (hsm _ (by simp))
  obtain ⟨x5,rfl,b5⟩:=bool19 h5 (hsm _ (by simp))
  obtain ⟨x6,rfl,b6⟩:=ints19 h6 (hsm _ (by simp))
  exact law ⟨x1,x2,x3,x4,x6⟩ x5 b4
theorem contract (H : Type) (enc : TypeId × Value → H) (W : World) (base : Nat) (args : Array Value) (ds gs : List (DataW H)) (before : List MemPlace)
  (hval : ∀ (j : Nat) t v,Tryz.f6.params[j]? = some t → args[j]? = some v → Value.okWide Tryz.prog W .any base t v)
  (hW : DataW.Whole enc Tryz.prog Tryz.f6.params.toList Rows.orderPointsSpec.vars false W args.toList ds gs before)
  (hz : (DataW.weightsEach Tryz.prog (Tryz.f6.params.toList ++ Rows.orderPointsSpec.plain.varTypes Tryz.prog) (ds ++ gs)).all (· ≤ reachBytes) = true) (hL : laidMetH Tryz.prog Rows.orderPointsRow.laid W) :
  Calls Tryz.prog 6 args W fun e W'=>∃ v,e = .returned v ∧ Rows.orderPointsSpec.post enc Tryz.prog Tryz.f6 false true false false W args v W':=by
 refine law_ofB (C:=C) (l:=plainTys19) kids full plainOk19 bytesOk19 plainLt19 (fun t ht=>?_) rfl rfl Tryz.underlying4 (fun ds hd=>?_) call_closed hval hW hz (glob_ok hL)
 ·have : Tryz.f6.params.toList.all (fun t=>plainTys19.contains t) = true:=by kernel_rfl
  simpa using List.all_eq_true.1 this t ht
 ·match ds,hd with
  | [d1,d2,d3,d4,d5,d6],_=>rfl
theorem laid_met (os : Os) : laidMet Tryz.prog Rows.orderPointsRow.laid ((laidWorld os).forCall (fun _ _=>0) ⟨#[],#[.slice none 0 0,.slice none 0 0,.slice none 0 0,.agg #[.string ⟨#[]⟩,.int .i64 0,.int .i64 0,.int .i64 0,.slice none 0 0,.slice none 0 0],.bool false,.slice none 0 0],[]⟩).memory :=
 laidMet_of_run' 8 (by kernel_rfl) (by kernel_rfl)
theorem reads (os : Os) {H : Type} (enc : TypeId × Value → H) : ∃ places,DataW.whole enc Tryz.prog ((laidWorld os).forCall (fun _ _=>0) ⟨#[],#[.slice none 0 0,.slice none 0 0,.slice none 0 0,.agg #[.string ⟨#[]⟩,.int .i64 0,.int .i64 0,.int .i64 0,.slice none 0 0,.slice none 0 0],.bool false,.slice none 0 0],[]⟩).memory Tryz.f6.params.toList Rows.orderPointsSpec.vars false #[.slice none 0 0,.slice none 0 0,.slice none 0 0,.agg #[.string ⟨#[]⟩,.int .i64 0,.int .i64 0,.int .i64 0,.slice none 0 0,.slice none 0 0],.bool false,.slice none 0 0].toList 8 = some ([.nil,.nil,.nil,.agg [.lit (.string []),.lit (.int .i64 0),.lit (.int .i64 0),.lit (.int .i64 0),.nil,.nil],.lit (.bool false),.nil],[],places) :=
 ⟨[],by kernel_rfl⟩
set_option maxRecDepth 100000 in
theorem lifted (os : Os) (started : os.Started) (H : Type) (enc : TypeId × Value → H) (F : Stop.Interp) :
  ReturnsInHanded {} Tryz.checked os 6 .any ((OpenSpec.ofChange Rows.orderPointsSpec).preRow enc Tryz.prog Tryz.f6 Rows.orderPointsRow.domain false Rows.orderPointsRow.laid) (((OpenSpec.ofChange Rows.orderPointsSpec).at F).post enc Tryz.prog Tryz.f6 false true false false):=by
 obtain ⟨places,hx⟩:=reads os enc
 refine returnsInHanded_of_row (C:=Tryz.checked) (s:=OpenSpec.ofChange Rows.orderPointsSpec) own started (by kernel_rfl) Tryz.func6
  (witness_row_at (enc:=enc) (C:=Tryz.checked) false (laidWorld os) #[.slice none 0 0,.slice none 0 0,.slice none 0 0,.agg #[.string ⟨#[]⟩,.int .i64 0,.int .i64 0,.int .i64 0,.slice none 0 0,.slice none 0 0],.bool false,.slice none 0 0] rfl (by kernel_rfl) (by kernel_rfl) (by kernel_rfl)
   (OpenSpec.preRow_of_cond 8 hx (by kernel_rfl) (fun k hk=>by cases hk) (by kernel_rfl) (laid_met os))) ?_
 intro W base args ds gs before hval hW _ _ hz hL _ _
 exact contract H enc W base args ds gs before hval hW hz hL
theorem said : Rows.OrderPointsSaid :=
 OpenClaim.holds_of_cond 6 Tryz.f6 rfl rfl rfl rfl rfl rfl rfl ⟨rfl,rfl,rfl,rfl,rfl⟩ rfl rfl rfl rfl rfl (by kernel_rfl) Tryz.func6 (by kernel_rfl)
  (of_decide_eq_true (by kernel_rfl)) (by unfold Func.isWrapper; first | (rw [if_pos (by decide +kernel)]; kernel_rfl) | (rw [if_neg (by decide +kernel)]; exact ⟨rfl,rfl⟩))
  (fun os started H enc _ F=>by rw [OpenClaim.pre_eq_preRow]; exact lifted os started H enc F)
theorem plain (f : FuncId) (fn : Func) (hf : Tryz.pinned.checked.prog.funcNamed "assize/assizelaw19.OrderPoints" = some f) (hfn : Tryz.pinned.checked.prog.funcs[f]? = some fn) :
  true = Tryz.pinned.checked.prog.looks [] ∧ ∀ (j : Nat) t,fn.params[j]? = some t → Tryz.pinned.checked.prog.wantsStandIn t = false:=by
 obtain rfl : f = 6 := Option.some.inj ((show Tryz.prog.funcNamed "assize/assizelaw19.OrderPoints" = some 6 by kernel_rfl).symm.trans hf) |>.symm
 obtain rfl : fn = Tryz.f6:=(Option.some.inj (Tryz.func6.symm.trans hfn)).symm
 refine ⟨by kernel_rfl,fun j t ht=>?_⟩
 have hall : Tryz.f6.params.toList.all (fun t=>!Tryz.prog.wantsStandIn t) = true:=by kernel_rfl
 have:=List.all_eq_true.1 hall t (by simpa using Array.mem_of_getElem? ht)
 show Tryz.prog.wantsStandIn t = false
 simpa using this
theorem proved : Rows.OrderPointsCardSaid :=
 Claim7.holds_tied_plain_at .later [] _ _ _ _ said (fun _ h=>by cases h) (by kernel_rfl) (fun _ h=>by cases h) orderPoints_row_tie rfl ⟨rfl,rfl⟩ (by kernel_rfl) rfl plain (by kernel_rfl)
end Go.Proofs.YtihibgcojdfndaaGreatDoor.orderPoints
