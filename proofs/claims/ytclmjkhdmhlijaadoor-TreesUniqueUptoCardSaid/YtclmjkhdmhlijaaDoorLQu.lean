import Derived.Test.YtclmjkhdmhlijaaDoorJUF
set_option maxRecDepth 100000
set_option maxHeartbeats 0
set_option linter.unusedSimpArgs false
set_option linter.unusedVariables false
namespace Go.Proofs.YtclmjkhdmhlijaaDoor.treesUnique
open Go.Tidy Go.ChangeShapes Go.WideShapes Go.ChangeAt Go.RowKit
def val (l m : List Sp) (a b c d : Int) : Bool:=decide (directB l ⟨a,b,c,d⟩ = directB m ⟨a,b,c,d⟩)
theorem all_next {α : Type} {z : List α} {i : Nat} (h : i < z.length) (p : α → Bool) : (z.take (i + 1)).all p = ((z.take i).all p && p z[i]):=by
 rw [take_next h,List.all_append,List.all_cons,List.all_nil,Bool.and_true]
def G (p : Int → Bool) (z : List Int) (i : Nat) : Bool:=(z.take i).all p
theorem G_next {p : Int → Bool} {z : List Int} {i : Nat} (h : i < z.length) : G p z (i + 1) = (G p z i && p (z.getD i 0)):=by
 unfold G; rw [all_next h,getD_at h]
theorem G_end {p : Int → Bool} {z : List Int} {i : Nat} (h : z.length ≤ i) : G p z i = z.all p:=by unfold G; rw [List.take_of_length_le h]
theorem law (l m : List Sp) (hl : LSu l) (hm : LSu m) : CallP C 6 [.d (sps l),.d (sps m)] [] fun X L=>L = [] ∧ X = .d (.bool true):=by
 have hlm:=lss_app2 hl hm
 have f1 : ∀ {L : List Blk} {k : V → List Blk → Prop},k (B (fewR (l ++ m))) L → CallP C 21 [.d (sps (l ++ m))] L k:=fun h=>rfew_c _ hlm h
 have nl:=hl.len
 have nm:=hm.len
 have n1 : 0 + ((l.map Sp.cells).map fun x=>x.map V.d).length ≤ 268435456:=by rw [ap8l]; omega
 have n2 : 0 + ((l.map Sp.cells).map fun x=>x.map V.d).length + ((m.map Sp.cells).map fun x=>x.map V.d).length ≤ 268435456:=by rw [ap8l,ap8l]; omega
 cases hfw : fewR (l ++ m) with
 | false =>
  rw [hfw] at f1
  refine callP_of C_ok Tryd.func6 rfl rfl (n:=_) rfl (zw18 rfl) (rs:=_) rfl ?_
  repeat' ((conv=>whnf); first|refine sane16_c ?_|refine zw6 (sps_e l) ?_|refine zw6 (sps_e m) ?_|refine zw6 (zw23 n1 (zw18 rfl)) ?_|refine zw6 (zw23 n2 (zw18 rfl)) ?_|refine CallP.freeze [0] rfl rfl (.cv (y:=.d (sps (l ++ m))) (.d (.rowL (ds:=(l ++ m).map Sp.cells) (List.mem_singleton.2 rfl) rfl (ap8 l m) (ap8n l m) (sps_e _))) .nil) (f1 ?_)|refine zw0 ?_|refine zw1 ?_|refine zw2 (fun h=>?_) (fun h=>?_)|refine zw3 ?_|refine zw4 (fun h=>?_) (fun h=>?_)|refine zw5 _ rfl ?_|refine zw6 rfl ?_|refine zw7 mixed rfl ?_)
  conv=>whnf
  exact FinP.drop (n:=0) rfl (zw21 0) rfl rfl ⟨rfl,rfl⟩
 | true =>
 rw [hfw] at f1
 have hf3 : few3 (vq (l ++ m)):=by
  unfold fewR at hfw
  rw [Bool.and_eq_true,decide_eq_true_eq] at hfw
  exact hfw.2
 have f2 : ∀ {L : List Blk} {k : V → List Blk → Prop},k (.tup [treV (cmpX l),I (orderF l)]) L → CallP C 22 [.d (sps l)] L k:=fun h=>compile_c l hl.ls (fun _=>few_l hf3) h
 have f3 : ∀ {L : List Blk} {k : V → List Blk → Prop},k (.tup [treV (cmpX m),I (orderF m)]) L → CallP C 22 [.d (sps m)] L k:=fun h=>compile_c m hm.ls (fun _=>few_m hf3) h
 by_cases o1 : orderF l = 0
 rotate_left
 ·generalize cmpX l = t at *
  generalize cmpX m = u at *
  generalize orderF l = e at *
  generalize orderF m = f at *
  refine callP_of C_ok Tryd.func6 rfl rfl (n:=_) rfl (zw18 rfl) (rs:=_) rfl ?_
  repeat' ((conv=>whnf); first|refine sane16_c ?_|refine zw3 ?_|refine zw9 (zw20 o1) ?_|refine zw6 (sps_e l) ?_|refine zw6 (sps_e m) ?_|refine zw6 (zw23 n1 (zw18 rfl)) ?_|refine zw6 (zw23 n2 (zw18 rfl)) ?_|refine CallP.freeze [0] rfl rfl (.cv (y:=.d (sps (l ++ m))) (.d (.rowL (ds:=(l ++ m).map Sp.cells) (List.mem_singleton.2 rfl) rfl (ap8 l m) (ap8n l m) (sps_e _))) .nil) (f1 ?_)|refine f2 ?_|refine f3 ?_|refine zw0 ?_|refine zw1 ?_|refine zw2 (fun h=>?_) (fun h=>?_)|refine zw3 ?_|refine zw4 (fun h=>?_) (fun h=>?_)|refine zw5 _ rfl ?_|refine zw6 rfl ?_|refine zw7 mixed rfl ?_)
  conv=>whnf
  exact FinP.drop (n:=0) rfl (zw21 0) rfl rfl ⟨rfl,rfl⟩
 by_cases o2 : orderF m = 0
 rotate_left
 ·rw [o1] at f2
  generalize cmpX l = t at *
  generalize cmpX m = u at *
  generalize orderF m = f at *
  refine callP_of C_ok Tryd.func6 rfl rfl (n:=_) rfl (zw18 rfl) (rs:=_) rfl ?_
  repeat' ((conv=>whnf); first|refine sane16_c ?_|refine zw3 ?_|refine zw9 (zw20 o2) ?_|refine zw6 (sps_e l) ?_|refine zw6 (sps_e m) ?_|refine zw6 (zw23 n1 (zw18 rfl)) ?_|refine zw6 (zw23 n2 (zw18 rfl)) ?_|refine CallP.freeze [0] rfl rfl (.cv (y:=.d (sps (l ++ m))) (.d (.rowL (ds:=(l ++ m).map Sp.cells) (List.mem_singleton.2 rfl) rfl (ap8 l m) (ap8n l m) (sps_e _))) .nil) (f1 ?_)|refine f2 ?_|refine f3 ?_|refine zw0 ?_|refine zw1 ?_|refine zw2 (fun h=>?_) (fun h=>?_)|refine zw3 ?_|refine zw4 (fun h=>?_) (fun h=>?_)|refine zw5 _ rfl ?_|refine zw6 rfl ?_|refine zw7 mixed rfl ?_)
  conv=>whnf
  exact FinP.drop (n:=0) rfl (zw21 0) rfl rfl ⟨rfl,rfl⟩
 have hU:=unique hl.ls hm.ls o1 o2 hf3
 have s1:=(cmp_sm hl.ls (fun _=>few_l hf3)).1
 have s2:=(cmp_sm hm.ls (fun _=>few_m hf3)).1
 rw [show cmpX l = cmpN l from if_pos o1] at f2 s1
 rw [show cmpX m = cmpN m from if_pos o2] at f3 s2
 rw [o1] at f2
 rw [o2] at f3
 have hts : ∀ {L : List Blk} {k : V → List Blk → Prop},k (B (decide (cmpN l = cmpN m))) L → CallP C 13 [treV (cmpN l),treV (cmpN m)] L k:=fun h=>tsame_c _ _ (zw23 s1.len (by decide)) (zw23 s2.len (by decide)) (fun x hx=>big62 (s1.by_ x hx)) (fun x hx=>big62 (s2.by_ x hx)) h
 have hin:=tsL_in (l ++ m)
 have hgb:=fun {x y z w : Int} hx hy hz hw=>grid_box (a:=x) (b:=y) (c:=z) (d:=w) hin hx hy hz hw
 have VV:=fun (v : Int) (hv : 1 ≤ v ∧ v ≤ 4) (L : List Blk) (k : V → List Blk → Prop) h=>values_c (L:=L) (k:=k) l m v hl hm hv h
 have g1 : ∀ {L : List Blk} {k : V → List Blk → Prop},k (.d (ins (tv 1 (tsL (l ++ m))))) L → CallP C 25 [.d (sps l),.d (sps m),I 1] L k:=fun h=>VV 1 (by decide) _ _ h
 have g2 : ∀ {L : List Blk} {k : V → List Blk → Prop},k (.d (ins (tv 2 (tsL (l ++ m))))) L → CallP C 25 [.d (sps l),.d (sps m),I 2] L k:=fun h=>VV 2 (by decide) _ _ h
 have g3 : ∀ {L : List Blk} {k : V → List Blk → Prop},k (.d (ins (tv 3 (tsL (l ++ m))))) L → CallP C 25 [.d (sps l),.d (sps m),I 3] L k:=fun h=>VV 3 (by decide) _ _ h
 have g4 : ∀ {L : List Blk} {k : V → List Blk → Prop},k (.d (ins (tv 4 (tsL (l ++ m))))) L → CallP C 25 [.d (sps l),.d (sps m),I 4] L k:=fun h=>VV 4 (by decide) _ _ h
 have l1:=(tv_out 1 (by decide) hin).len
 have l2:=(tv_out 2 (by decide) hin).len
 have l3:=(tv_out 3 (by decide) hin).len
 have l4:=(tv_out 4 (by decide) hin).len
 unfold sameAt at hU
 clear VV
 generalize tv 1 (tsL (l ++ m)) = a at *
 generalize tv 2 (tsL (l ++ m)) = b at *
 generalize tv 3 (tsL (l ++ m)) = c at *
 generalize tv 4 (tsL (l ++ m)) = d at *
 generalize cmpN l = t at *
 generalize cmpN m = u at *
 refine callP_of C_ok Tryd.func6 rfl rfl (n:=_) rfl (zw18 rfl) (rs:=_) rfl ?_
 repeat' ((conv=>whnf); first|refine sane16_c ?_|refine zw3 ?_|refine zw6 (sps_e l) ?_|refine zw6 (sps_e m) ?_|refine zw6 (zw23 n1 (zw18 rfl)) ?_|refine zw6 (zw23 n2 (zw18 rfl)) ?_|refine CallP.freeze [0] rfl rfl (.cv (y:=.d (sps (l ++ m))) (.d (.rowL (ds:=(l ++ m).map Sp.cells) (List.mem_singleton.2 rfl) rfl (ap8 l m) (ap8n l m) (sps_e _))) .nil) (f1 ?_)|refine f2 ?_|refine f3 ?_|refine g1 ?_|refine zw0 ?_|refine zw1 ?_|refine zw2 (fun h=>?_) (fun h=>?_)|refine zw3 ?_|refine zw4 (fun h=>?_) (fun h=>?_)|refine zw5 _ rfl ?_|refine zw6 rfl ?_|refine zw7 mixed rfl ?_)
 conv=>whnf
 have ml : ∀ z : List Int,(z.map fun n=>[DI n]).length = z.length:=fun z=>List.length_map _
 have nat1 : ∀ n : Nat,n ≤ 1000000 → IntKind.i64.wrap ((n : Int) + 1) = ((n + 1 : Nat) : Int):=fun n hn=>by rw [wrap_in (by omega)]; omega
 have at_ : ∀ (z : List Int) (i : Nat) (hi : i < z.length),(z.map fun n=>[DI n])[i]? = some [DI (z.getD i 0)]:=fun z i hi=>by rw [List.getElem?_map,List.getElem?_eq_getElem hi,getD_at hi]; rfl
 have mem_ : ∀ (z : List Int) (i : Nat) (hi : i < z.length),z.getD i 0 ∈ z:=fun z i hi=>by rw [getD_at hi]; exact List.getElem_mem hi
 obtain ⟨pd,hpd⟩ : ∃ pd : Int → Int → Int → Int → Bool,pd = fun x y z w=>val l m x y z w:=⟨_,rfl⟩
 obtain ⟨pc,hpc⟩ : ∃ pc : Int → Int → Int → Bool,pc = fun x y z=>d.all (pd x y z):=⟨_,rfl⟩
 obtain ⟨pb,hpb⟩ : ∃ pb : Int → Int → Bool,pb = fun x y=>c.all (pc x y):=⟨_,rfl⟩
 obtain ⟨pa,hpa⟩ : ∃ pa : Int → Bool,pa = fun x=>b.all (pb x):=⟨_,rfl⟩
 have epc : ∀ x y z,pc x y z = d.all (pd x y z):=fun x y z=>by rw [hpc]
 have epb : ∀ x y,pb x y = c.all (pc x y):=fun x y=>by rw [hpb]
 have epa : ∀ x,pa x = b.all (pb x):=fun x=>by rw [hpa]
 have epd : ∀ x y z w,pd x y z w = decide (directB l ⟨x,y,z,w⟩ = directB m ⟨x,y,z,w⟩):=fun x y z w=>by rw [hpd]; rfl
 clear hpc hpb hpa hpd
 refine LoopP.inv (fun i : Nat=>i ≤ a.length) (fun i=>⟨[(0,.d (sps l)),(1,.d (sps m)),(5,.ptr 1 0),(7,.ptr 2 0),(9,B (G pa a i)),(50,.d (ins a)),(51,I a.length),(52,I i)],Tryd.f6.ntmps,[.dead,.cells [.d (nds t)],.cells [.d (nds u)]],[],none⟩) (fun i=>a.length - i) 0 (zw22 _) ?_ ?_
 ·exact Weak.by ⟨rfl,rfl,rfl,rfl,rfl,rfl,congrArg I (congrArg Nat.cast (ml a)),rfl,trivial⟩
 intro i hi
 by_cases hi' : i < a.length
 rotate_left
 ·have hlt1 : ¬ (i : Int) < (a.length : Int):=by omega
  have hfl : G pa a i = decide (t = u):=by
   rw [G_end (z:=a) (show a.length ≤ i by omega),Bool.eq_iff_iff,decide_eq_true_eq,← hU]
   simp only [List.all_eq_true,epa,epb,epc,epd,decide_eq_true_eq]
  rw [hfl]
  generalize decide (t = u) = w at *
  have q3 : (w == w) = true:=beq_self_eq_true w
  repeat' ((conv=>whnf); first|refine zw9 (zw20 hlt1) ?_|refine hts ?_|refine zw0 ?_|refine zw1 ?_|refine zw2 (fun h=>?_) (fun h=>?_)|refine zw3 ?_|refine zw4 (fun h=>?_) (fun h=>?_)|refine zw5 _ rfl ?_|refine zw6 rfl ?_|refine zw7 mixed rfl ?_)
  conv=>whnf
  exact FinP.drop (n:=0) rfl (zw21 0) rfl rfl ⟨rfl,congrArg B q3⟩
 have hlt1 : (i : Int) < (a.length : Int):=by omega
 have w1:=nat1 i (by omega)
 have ra:=at_ a i hi'
 have ma:=mem_ a i hi'
 have na:=G_next (p:=pa) hi'
 repeat' ((conv=>whnf); first|refine zw8 (zw19 hlt1) ?_|refine zw10 i _ rfl ra ?_|refine g2 ?_|refine zw0 ?_|refine zw1 ?_|refine zw2 (fun h=>?_) (fun h=>?_)|refine zw3 ?_|refine zw4 (fun h=>?_) (fun h=>?_)|refine zw5 _ rfl ?_|refine zw6 rfl ?_|refine zw7 mixed rfl ?_)
 conv=>whnf
 generalize a.getD i 0 = x at *
 refine LoopP.inv (fun j : Nat=>j ≤ b.length) (fun j=>⟨[(0,.d (sps l)),(1,.d (sps m)),(5,.ptr 1 0),(7,.ptr 2 0),(9,B (G pa a i && G (pb x) b j)),(50,.d (ins a)),(51,I a.length),(52,I i),(11,I x),(58,.d (ins b)),(59,I b.length),(60,I j)],Tryd.f6.ntmps,[.dead,.cells [.d (nds t)],.cells [.d (nds u)]],[],none⟩) (fun j=>b.length - j) 0 (zw22 _) ?_ ?_
 ·exact Weak.by ⟨rfl,rfl,rfl,rfl,congrArg B (Bool.and_true _).symm,rfl,rfl,rfl,rfl,rfl,congrArg I (congrArg Nat.cast (ml b)),rfl,trivial⟩
 intro j hj
 by_cases hj' : j < b.length
 rotate_left
 ·have hlt2 : ¬ (j : Int) < (b.length : Int):=by omega
  have e : (G pa a i && G (pb x) b j) = G pa a (i + 1):=by rw [na,G_end (z:=b) (show b.length ≤ j by omega),epa]
  repeat' ((conv=>whnf); first|refine zw9 (zw20 hlt2) ?_|refine zw0 ?_|refine zw1 ?_|refine zw2 (fun h=>?_) (fun h=>?_)|refine zw3 ?_|refine zw4 (fun h=>?_) (fun h=>?_)|refine zw5 _ rfl ?_|refine zw6 rfl ?_|refine zw7 mixed rfl ?_)
  conv=>whnf
  exact ⟨i + 1,hi',by omega,Weak.by ⟨rfl,rfl,rfl,rfl,congrArg B e,rfl,rfl,congrArg I w1,trivial⟩⟩
 have hlt2 : (j : Int) < (b.length : Int):=by omega
 have w2:=nat1 j (by omega)
 have rb:=at_ b j hj'
 have mb:=mem_ b j hj'
 have nb:=G_next (p:=pb x) hj'
 repeat' ((conv=>whnf); first|refine zw8 (zw19 hlt2) ?_|refine zw10 j _ rfl rb ?_|refine g3 ?_|refine zw0 ?_|refine zw1 ?_|refine zw2 (fun h=>?_) (fun h=>?_)|refine zw3 ?_|refine zw4 (fun h=>?_) (fun h=>?_)|refine zw5 _ rfl ?_|refine zw6 rfl ?_|refine zw7 mixed rfl ?_)
 conv=>whnf
 generalize b.getD j 0 = y at *
 refine LoopP.inv (fun kk : Nat=>kk ≤ c.length) (fun kk=>⟨[(0,.d (sps l)),(1,.d (sps m)),(5,.ptr 1 0),(7,.ptr 2 0),(9,B ((G pa a i && G (pb x) b j) && G (pc x y) c kk)),(50,.d (ins a)),(51,I a.length),(52,I i),(11,I x),(58,.d (ins b)),(59,I b.length),(60,I j),(13,I y),(66,.d (ins c)),(67,I c.length),(68,I kk)],Tryd.f6.ntmps,[.dead,.cells [.d (nds t)],.cells [.d (nds u)]],[],none⟩) (fun kk=>c.length - kk) 0 (zw22 _) ?_ ?_
 ·exact Weak.by ⟨rfl,rfl,rfl,rfl,congrArg B (Bool.and_true _).symm,rfl,rfl,rfl,rfl,rfl,rfl,rfl,rfl,rfl,congrArg I (congrArg Nat.cast (ml c)),rfl,trivial⟩
 intro kk hk
 by_cases hk' : kk < c.length
 rotate_left
 ·have hlt3 : ¬ (kk : Int) < (c.length : Int):=by omega
  have e : ((G pa a i && G (pb x) b j) && G (pc x y) c kk) = (G pa a i && G (pb x) b (j + 1)):=by rw [nb,G_end (z:=c) (show c.length ≤ kk by omega),epb,Bool.and_assoc]
  repeat' ((conv=>whnf); first|refine zw9 (zw20 hlt3) ?_|refine zw0 ?_|refine zw1 ?_|refine zw2 (fun h=>?_) (fun h=>?_)|refine zw3 ?_|refine zw4 (fun h=>?_) (fun h=>?_)|refine zw5 _ rfl ?_|refine zw6 rfl ?_|refine zw7 mixed rfl ?_)
  conv=>whnf
  exact ⟨j + 1,hj',by omega,Weak.by ⟨rfl,rfl,rfl,rfl,congrArg B e,rfl,rfl,rfl,rfl,rfl,rfl,congrArg I w2,trivial⟩⟩
 have hlt3 : (kk : Int) < (c.length : Int):=by omega
 have w3:=nat1 kk (by omega)
 have rc:=at_ c kk hk'
 have mc:=mem_ c kk hk'
 have nc:=G_next (p:=pc x y) hk'
 repeat' ((conv=>whnf); first|refine zw8 (zw19 hlt3) ?_|refine zw10 kk _ rfl rc ?_|refine g4 ?_|refine zw0 ?_|refine zw1 ?_|refine zw2 (fun h=>?_) (fun h=>?_)|refine zw3 ?_|refine zw4 (fun h=>?_) (fun h=>?_)|refine zw5 _ rfl ?_|refine zw6 rfl ?_|refine zw7 mixed rfl ?_)
 conv=>whnf
 generalize c.getD kk 0 = z at *
 refine LoopP.inv (fun q : Nat=>q ≤ d.length) (fun q=>⟨[(0,.d (sps l)),(1,.d (sps m)),(5,.ptr 1 0),(7,.ptr 2 0),(9,B (((G pa a i && G (pb x) b j) && G (pc x y) c kk) && G (pd x y z) d q)),(50,.d (ins a)),(51,I a.length),(52,I i),(11,I x),(58,.d (ins b)),(59,I b.length),(60,I j),(13,I y),(66,.d (ins c)),(67,I c.length),(68,I kk),(15,I z),(74,.d (ins d)),(75,I d.length),(76,I q)],Tryd.f6.ntmps,[.dead,.cells [.d (nds t)],.cells [.d (nds u)]],[],none⟩) (fun q=>d.length - q) 0 (zw22 _) ?_ ?_
 ·exact Weak.by ⟨rfl,rfl,rfl,rfl,congrArg B (Bool.and_true _).symm,rfl,rfl,rfl,rfl,rfl,rfl,rfl,rfl,rfl,rfl,rfl,rfl,rfl,congrArg I (congrArg Nat.cast (ml d)),rfl,trivial⟩
 intro q hq
 by_cases hq' : q < d.length
 rotate_left
 ·have hlt4 : ¬ (q : Int) < (d.length : Int):=by omega
  have e : (((G pa a i && G (pb x) b j) && G (pc x y) c kk) && G (pd x y z) d q) = ((G pa a i && G (pb x) b j) && G (pc x y) c (kk + 1)):=by rw [nc,G_end (z:=d) (show d.length ≤ q by omega),epc,Bool.and_assoc]
  repeat' ((conv=>whnf); first|refine zw9 (zw20 hlt4) ?_|refine zw0 ?_|refine zw1 ?_|refine zw2 (fun h=>?_) (fun h=>?_)|refine zw3 ?_|refine zw4 (fun h=>?_) (fun h=>?_)|refine zw5 _ rfl ?_|refine zw6 rfl ?_|refine zw7 mixed rfl ?_)
  conv=>whnf
  exact ⟨kk + 1,hk',by omega,Weak.by ⟨rfl,rfl,rfl,rfl,congrArg B e,rfl,rfl,rfl,rfl,rfl,rfl,rfl,rfl,rfl,rfl,congrArg I w3,trivial⟩⟩
 have hlt4 : (q : Int) < (d.length : Int):=by omega
 have w4:=nat1 q (by omega)
 have rd:=at_ d q hq'
 have md:=mem_ d q hq'
 have nd:=G_next (p:=pd x y z) hq'
 generalize d.getD q 0 = w at *
 have hB:=hgb ma mb mc md
 have d1 : ∀ {L : List Blk} {k : V → List Blk → Prop},k (.tup [.d (ins (directB l ⟨x,y,z,w⟩)),I 0]) L → CallP C 24 [.d (sps l),enV ⟨x,y,z,w⟩] L k:=fun h=>Direct_c l _ hl.ls (order_dsp hl.ls) (by unfold directE; rw [if_neg (fun hn=>hn o1),box_env.2 hB]; exact h)
 have d2 : ∀ {L : List Blk} {k : V → List Blk → Prop},k (.tup [.d (ins (directB m ⟨x,y,z,w⟩)),I 0]) L → CallP C 24 [.d (sps m),enV ⟨x,y,z,w⟩] L k:=fun h=>Direct_c m _ hm.ls (order_dsp hm.ls) (by unfold directE; rw [if_neg (fun hn=>hn o2),box_env.2 hB]; exact h)
 have hsm : ∀ {L : List Blk} {k : V → List Blk → Prop},k (B (pd x y z w)) L → CallP C 18 [.d (ins (directB l ⟨x,y,z,w⟩)),.d (ins (directB m ⟨x,y,z,w⟩))] L k:=fun h=>same_c _ _ (Nat.le_trans (directB_ok hl.ls _).len (by decide)) (Nat.le_trans (directB_ok hm.ls _).len (by decide)) (by rw [epd] at h; exact h)
 have e : ((((G pa a i && G (pb x) b j) && G (pc x y) c kk) && G (pd x y z) d q) && pd x y z w) = (((G pa a i && G (pb x) b j) && G (pc x y) c kk) && G (pd x y z) d (q + 1)):=by rw [nd,← Bool.and_assoc]
 cases hF : (((G pa a i && G (pb x) b j) && G (pc x y) c kk) && G (pd x y z) d q) with
 | true =>
  rw [hF,Bool.true_and] at e
  repeat' ((conv=>whnf); first|refine zw8 (zw19 hlt4) ?_|refine zw10 q _ rfl rd ?_|refine d1 ?_|refine d2 ?_|refine hsm ?_|refine zw0 ?_|refine zw1 ?_|refine zw2 (fun h=>?_) (fun h=>?_)|refine zw3 ?_|refine zw4 (fun h=>?_) (fun h=>?_)|refine zw5 _ rfl ?_|refine zw6 rfl ?_|refine zw7 mixed rfl ?_)
  conv=>whnf
  exact ⟨q + 1,hq',by omega,Weak.to 3 rfl (zw22 _) (zw18 rfl) ⟨rfl,rfl,rfl,rfl,congrArg B e,rfl,rfl,rfl,rfl,rfl,rfl,rfl,rfl,rfl,rfl,rfl,rfl,rfl,rfl,congrArg I w4,trivial⟩⟩
 | false =>
  rw [hF,Bool.false_and] at e
  repeat' ((conv=>whnf); first|refine zw8 (zw19 hlt4) ?_|refine zw10 q _ rfl rd ?_|refine d1 ?_|refine d2 ?_|refine hsm ?_|refine zw0 ?_|refine zw1 ?_|refine zw2 (fun h=>?_) (fun h=>?_)|refine zw3 ?_|refine zw4 (fun h=>?_) (fun h=>?_)|refine zw5 _ rfl ?_|refine zw6 rfl ?_|refine zw7 mixed rfl ?_)
  conv=>whnf
  exact ⟨q + 1,hq',by omega,Weak.to 3 rfl (zw22 _) (zw18 rfl) ⟨rfl,rfl,rfl,rfl,congrArg B e,rfl,rfl,rfl,rfl,rfl,rfl,rfl,rfl,rfl,rfl,rfl,rfl,rfl,rfl,congrArg I w4,trivial⟩⟩
theorem call_closed : ∀ xss,TyA C.P Tryd.f6.params.toList xss → (∀ xs ∈ xss,∀ y ∈ xs,Dsm 4294967296 y) → CallP C 6 (argVs C.P Tryd.f6.params.toList xss) [] fun X L=>L = [] ∧ X = .d (.bool true):=by
 intro xss h hsm
 match xss,h,hsm with
 | [x1,x2],⟨h1,h2,_⟩,hsm =>
  obtain ⟨x1,rfl,b1⟩:=stepsU h1 (hsm _ (by simp))
  obtain ⟨x2,rfl,b2⟩:=stepsU h2 (hsm _ (by simp))
  exact law x1 x2 b1 b2
theorem contract (H : Type) (enc : TypeId × Value → H) (W : World) (base : Nat) (args : Array Value) (ds gs : List (DataW H)) (before : List MemPlace)
  (hval : ∀ (j : Nat) t v,Tryd.f6.params[j]? = some t → args[j]? = some v → Value.okWide Tryd.prog W .any base t v)
  (hW : DataW.Whole enc Tryd.prog Tryd.f6.params.toList Rows.treesUniqueSpec.vars false W args.toList ds gs before)
  (hU : Rows.uptoSmall H (ds ++ gs) = true) (hL : laidMetH Tryd.prog Rows.treesUniqueUptoRow.laid W) :
  Calls Tryd.prog 6 args W fun e W'=>∃ v,e = .returned v ∧ Rows.treesUniqueSpec.post enc Tryd.prog Tryd.f6 false true false false W args v W':=by
 refine law_ofB (C:=C) (l:=plainTys) kids full plainOk bytesOk plainLt (fun t ht=>?_) rfl rfl Tryd.underlying4 (fun ds hd=>?_) call_closed hval hW (upto_wt (fun t ht=>?_) hU) (glob_ok hL)
 ·have : Tryd.f6.params.toList.all (fun t=>plainTys.contains t) = true:=by kernel_rfl
  simpa using List.all_eq_true.1 this t ht
 ·match ds,hd with
  | [d1,d2],_=>rfl
 ·rw [List.mem_append] at ht
  rcases ht with ht | ht
  ·have : Tryd.f6.params.toList.all (fun t=>plainTys.contains t) = true:=by kernel_rfl
   simpa using List.all_eq_true.1 this t ht
  ·cases ht
theorem laid_met (os : Os) : laidMet Tryd.prog Rows.treesUniqueUptoRow.laid ((laidWorld os).forCall (fun _ _=>0) ⟨#[],#[.slice none 0 0,.slice none 0 0],[]⟩).memory :=
 laidMet_of_run' 8 (by kernel_rfl) (by kernel_rfl)
theorem reads (os : Os) {H : Type} (enc : TypeId × Value → H) : ∃ places,DataW.whole enc Tryd.prog ((laidWorld os).forCall (fun _ _=>0) ⟨#[],#[.slice none 0 0,.slice none 0 0],[]⟩).memory Tryd.f6.params.toList Rows.treesUniqueSpec.vars false #[.slice none 0 0,.slice none 0 0].toList 8 = some ([.nil,.nil],[],places) :=
 ⟨[],by kernel_rfl⟩
set_option maxRecDepth 100000 in
theorem lifted (os : Os) (started : os.Started) (H : Type) (enc : TypeId × Value → H) (F : Stop.Interp) :
  ReturnsInHanded {} Tryd.checked os 6 .any ((Rows.OpenSpec.upto Rows.treesUniqueSpec).preRow enc Tryd.prog Tryd.f6 Rows.treesUniqueUptoRow.domain false Rows.treesUniqueUptoRow.laid) (((Rows.OpenSpec.upto Rows.treesUniqueSpec).at F).post enc Tryd.prog Tryd.f6 false true false false):=by
 obtain ⟨places,hx⟩:=reads os enc
 refine returnsInHanded_of_row (C:=Tryd.checked) (s:=Rows.OpenSpec.upto Rows.treesUniqueSpec) own started (by kernel_rfl) Tryd.func6
  (witness_row_at (enc:=enc) (C:=Tryd.checked) false (laidWorld os) #[.slice none 0 0,.slice none 0 0] rfl (by kernel_rfl) (by kernel_rfl) (by kernel_rfl)
   (OpenSpec.preRow_of_cond 8 hx (by kernel_rfl) (fun k hk=>by cases hk; kernel_rfl) (by kernel_rfl) (laid_met os))) ?_
 intro W base args ds gs before hval hW _ hcond _ hL _ _
 exact contract H enc W base args ds gs before hval hW (hcond _ rfl) hL
theorem said : Rows.TreesUniqueUptoSaid :=
 OpenClaim.holds_of_cond 6 Tryd.f6 rfl rfl rfl rfl rfl rfl rfl ⟨rfl,rfl,rfl,rfl,rfl⟩ rfl rfl rfl rfl rfl (by kernel_rfl) Tryd.func6 (by kernel_rfl)
  (of_decide_eq_true (by kernel_rfl)) (by unfold Func.isWrapper; first | (rw [if_pos (by decide +kernel)]; kernel_rfl) | (rw [if_neg (by decide +kernel)]; exact ⟨rfl,rfl⟩))
  (fun os started H enc _ F=>by rw [OpenClaim.pre_eq_preRow]; exact lifted os started H enc F)
theorem plain (f : FuncId) (fn : Func) (hf : Tryd.pinned.checked.prog.funcNamed "assize/assizelaw16.TreesUnique" = some f) (hfn : Tryd.pinned.checked.prog.funcs[f]? = some fn) :
  true = Tryd.pinned.checked.prog.looks [] ∧ ∀ (j : Nat) t,fn.params[j]? = some t → Tryd.pinned.checked.prog.wantsStandIn t = false:=by
 obtain rfl : f = 6 := Option.some.inj ((show Tryd.prog.funcNamed "assize/assizelaw16.TreesUnique" = some 6 by kernel_rfl).symm.trans hf) |>.symm
 obtain rfl : fn = Tryd.f6:=(Option.some.inj (Tryd.func6.symm.trans hfn)).symm
 refine ⟨by kernel_rfl,fun j t ht=>?_⟩
 have hall : Tryd.f6.params.toList.all (fun t=>!Tryd.prog.wantsStandIn t) = true:=by kernel_rfl
 have:=List.all_eq_true.1 hall t (by simpa using Array.mem_of_getElem? ht)
 show Tryd.prog.wantsStandIn t = false
 simpa using this
theorem proved : Rows.TreesUniqueUptoCardSaid :=
 Claim7.holds_tied_plain_at .later [] _ _ _ _ said (fun _ h=>by cases h) (by kernel_rfl) (fun _ h=>by cases h) treesUniqueUpto_row_tie rfl ⟨rfl,rfl⟩ (by kernel_rfl) rfl plain (by kernel_rfl)
end Go.Proofs.YtclmjkhdmhlijaaDoor.treesUnique
