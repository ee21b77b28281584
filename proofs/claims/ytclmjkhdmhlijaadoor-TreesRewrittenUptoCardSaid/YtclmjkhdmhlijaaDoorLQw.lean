import Derived.Test.YtclmjkhdmhlijaaDoorJUF
set_option maxRecDepth 100000
set_option maxHeartbeats 0
set_option linter.unusedSimpArgs false
set_option linter.unusedVariables false
namespace Go.Proofs.YtclmjkhdmhlijaaDoor.treesRewritten
open Go.Tidy Go.ChangeShapes Go.WideShapes Go.ChangeAt Go.RowKit
theorem apc {S : Nat → Prop} {L : List Blk} (d : List D) (l m : List Sp) : CvLL S L ((((([d.map V.d].take 1 ++ ((l.map Sp.cells).map fun x=>x.map V.d)).take (1 + ((l.map Sp.cells).map fun x=>x.map V.d).length) ++ ((m.map Sp.cells).map fun x=>x.map V.d)).drop 0).take (1 + ((l.map Sp.cells).map fun x=>x.map V.d).length + ((m.map Sp.cells).map fun x=>x.map V.d).length))) (d :: (l ++ m).map Sp.cells):=by
 have e : ((l ++ m).map Sp.cells) = l.map Sp.cells ++ m.map Sp.cells:=List.map_append
 rw [e]
 generalize l.map Sp.cells = p
 generalize m.map Sp.cells = q
 rw [List.take_of_length_le (l:=[d.map V.d]) (Nat.le_refl 1)]
 rw [List.take_of_length_le (l:=[d.map V.d] ++ p.map fun x=>x.map V.d) (by simp; omega),List.drop_zero,List.take_of_length_le (by simp; omega)]
 rw [List.append_assoc,← List.map_append]
 exact cvll_data (d :: (p ++ q))
theorem apcn (d : List D) (l m : List Sp) : 1 + ((l.map Sp.cells).map fun x=>x.map V.d).length + ((m.map Sp.cells).map fun x=>x.map V.d).length = (d :: (l ++ m).map Sp.cells).length:=by simp; omega
theorem apce (a b c e f g h i : D) (l : List Sp) : ∀ x ∈ [a,b,c,e,f,g,h,i] :: l.map Sp.cells,x.length = 8:=fun x hx=>by
 rcases List.mem_cons.1 hx with rfl | hx
 ·rfl
 ·exact sps_e l x hx
theorem len8 (a b c d e f g h : D) : ∀ x ∈ [[a,b,c,d,e,f,g,h]],x.length = 8:=fun x hx=>by rw [List.mem_singleton.1 hx]; rfl
theorem len4 (a b c d : D) : ∀ x ∈ [[a,b,c,d]],x.length = 4:=fun x hx=>by rw [List.mem_singleton.1 hx]; rfl
theorem whole_f {c : Co} {l m : List Sp} {x : List Sp} (hs : ∀ p ∈ tsL x,p ∈ tcC c ++ tsL l ++ tsL m) (h : few3 (vq (chC c l m ++ (l ++ m)))) : few3 (vq x):=few_sub (fun p hp=>by
 rw [tsL_app,ts_ch]
 exact List.mem_append.2 (.inl (hs p hp))) h
theorem law (c : Co) (l m : List Sp) (hc : LCo c) (hl : LSu l) (hm : LSu m) : CallP C 7 [.agg (c.cells.map .d),.d (sps l),.d (sps m)] [] fun X L=>L = [] ∧ X = .d (.bool true):=by
 have f0 : ∀ {L : List Blk} {k : V → List Blk → Prop},k (B (fewC c)) L → CallP C 26 [.agg (c.cells.map .d)] L k:=fun h=>fewc_c _ hc h
 have hch:=lss_choice hl.ls hm.ls hc
 have hnc : LCo (notC c):=.mk (by show 1 ≤ _; decide) (fun p hp=>by rw [List.mem_singleton.1 hp]; exact hc)
 have hcn:=lss_choice hm.ls hl.ls hnc
 have hlm:=lss_app2 hl hm
 have hll:=lss_app2 hl hl
 have hw : LSs (chC c l m ++ (l ++ m)):=⟨by
  rw [List.length_append,List.length_append]; show 1 + _ ≤ _; have:=hl.len; have:=hm.len; omega,fun s hs=>(List.mem_append.1 hs).elim (hch.all s) (hlm.all s)⟩
 obtain ⟨d0,hd0⟩ : ∃ d0,d0 = [DI 2,DI 0,DI c.kind,DI c.var,DI c.n,cos c.parts,sps l,sps m]:=⟨_,rfl⟩
 obtain ⟨d1,hd1⟩ : ∃ d1,d1 = [DI 2,DI 0,DI 4,DI 0,DI 0,.sl [[DI c.kind,DI c.var,DI c.n,cos c.parts]],sps m,sps l]:=⟨_,rfl⟩
 have e0 : (Sp.mk 2 0 c l m).cells = d0:=by rw [hd0]; exact Sp.cells_eq _
 have e1 : (Sp.mk 2 0 (notC c) m l).cells = d1:=by
  rw [hd1,Sp.cells_eq]
  show [DI 2,DI 0,DI 4,DI 0,DI 0,cos [c],sps m,sps l] = _
  rw [show cos [c] = .sl [c.cells] from rfl,Co.cells_eq]
 have s0 : sps (chC c l m) = .sl [d0]:=by unfold sps chC; rw [List.map_cons,List.map_nil,e0]
 have s1 : sps (chC (notC c) m l) = .sl [d1]:=by unfold sps chC; rw [List.map_cons,List.map_nil,e1]
 have sw : sps (chC c l m ++ (l ++ m)) = .sl (d0 :: (l ++ m).map Sp.cells):=by unfold sps chC; rw [List.map_append,List.map_cons,List.map_nil,e0]; rfl
 have f1 : ∀ {L : List Blk} {k : V → List Blk → Prop},k (B (fewR (chC c l m ++ (l ++ m)))) L → CallP C 21 [.d (.sl (d0 :: (l ++ m).map Sp.cells))] L k:=fun h=>by rw [← sw]; exact rfew_c _ hw h
 have nl:=hl.len
 have nm:=hm.len
 have n1 : 1 + ((l.map Sp.cells).map fun x=>x.map V.d).length ≤ 4294967296:=by rw [ap8l]; omega
 have n2 : 1 + ((l.map Sp.cells).map fun x=>x.map V.d).length + ((m.map Sp.cells).map fun x=>x.map V.d).length ≤ 4294967296:=by rw [ap8l,ap8l]; omega
 have n3 : 0 + ((l.map Sp.cells).map fun x=>x.map V.d).length ≤ 4294967296:=by rw [ap8l]; omega
 have n4 : 0 + ((l.map Sp.cells).map fun x=>x.map V.d).length + ((l.map Sp.cells).map fun x=>x.map V.d).length ≤ 4294967296:=by rw [ap8l]; omega
 rw [Co.cells_eq] at f0 ⊢
 subst hd0
 cases h1 : fewC c with
 | false =>
  rw [h1] at f0
  refine callP_of C_ok Tryd.func7 rfl rfl (n:=_) rfl (zw18 rfl) (rs:=_) rfl ?_
  repeat' ((conv=>whnf); first|refine sane16_c ?_|refine f0 ?_|refine zw0 ?_|refine zw1 ?_|refine zw2 (fun h=>?_) (fun h=>?_)|refine zw3 ?_|refine zw4 (fun h=>?_) (fun h=>?_)|refine zw5 _ rfl ?_|refine zw6 rfl ?_|refine zw7 mixed rfl ?_)
  conv=>whnf
  exact FinP.drop (n:=0) rfl (zw21 0) rfl rfl ⟨rfl,rfl⟩
 | true =>
 rw [h1] at f0
 cases hfw : fewR (chC c l m ++ (l ++ m)) with
 | false =>
  rw [hfw] at f1
  refine callP_of C_ok Tryd.func7 rfl rfl (n:=_) rfl (zw18 rfl) (rs:=_) rfl ?_
  repeat' ((conv=>whnf); first|refine sane16_c ?_|refine f0 ?_|refine zw6 (sps_e l) ?_|refine zw6 (sps_e m) ?_|refine zw6 (zw23 n1 (zw18 rfl)) ?_|refine zw6 (zw23 n2 (zw18 rfl)) ?_|refine CallP.freeze [1] rfl rfl (.cv (y:=.d (.sl ([DI 2,DI 0,DI c.kind,DI c.var,DI c.n,cos c.parts,sps l,sps m] :: (l ++ m).map Sp.cells))) (.d (.rowL (ds:=[DI 2,DI 0,DI c.kind,DI c.var,DI c.n,cos c.parts,sps l,sps m] :: (l ++ m).map Sp.cells) (List.mem_singleton.2 rfl) rfl (apc [DI 2,DI 0,DI c.kind,DI c.var,DI c.n,cos c.parts,sps l,sps m] l m) (apcn _ l m) (apce _ _ _ _ _ _ _ _ _))) .nil) (f1 ?_)|refine zw0 ?_|refine zw1 ?_|refine zw2 (fun h=>?_) (fun h=>?_)|refine zw3 ?_|refine zw4 (fun h=>?_) (fun h=>?_)|refine zw5 _ rfl ?_|refine zw6 rfl ?_|refine zw7 mixed rfl ?_)
  conv=>whnf
  exact FinP.drop (n:=0) rfl (zw21 0) rfl rfl ⟨rfl,rfl⟩
 | true =>
 rw [hfw] at f1
 have hf3 : few3 (vq (chC c l m ++ (l ++ m))):=by
  unfold fewR at hfw
  rw [Bool.and_eq_true,decide_eq_true_eq] at hfw
  exact hfw.2
 have q0 : few3 (vq (chC c l m)):=whole_f (fun p hp=>by rw [ts_ch] at hp; exact hp) hf3
 have q1 : few3 (vq (chC (notC c) m l)):=whole_f (fun p hp=>by
  rw [ts_ch,ts_not] at hp
  simp only [List.mem_append] at hp ⊢
  rcases hp with (h | h) | h
  ·exact .inl (.inl h)
  ·exact .inr h
  ·exact .inl (.inr h)) hf3
 have q2 : few3 (vq l):=whole_f (fun p hp=>List.mem_append.2 (.inl (List.mem_append.2 (.inr hp)))) hf3
 have q3 : few3 (vq (l ++ l)):=whole_f (fun p hp=>by
  rw [tsL_app] at hp
  exact List.mem_append.2 (.inl (List.mem_append.2 (.inr ((List.mem_append.1 hp).elim id id))))) hf3
 have c0 : ∀ {L : List Blk} {k : V → List Blk → Prop},k (.tup [treV (cmpX (chC c l m)),I (orderF (chC c l m))]) L → CallP C 22 [.d (.sl [[DI 2,DI 0,DI c.kind,DI c.var,DI c.n,cos c.parts,sps l,sps m]])] L k:=fun h=>by rw [← s0]; exact compile_c _ hch (fun _=>q0) h
 have c1 : ∀ {L : List Blk} {k : V → List Blk → Prop},k (.tup [treV (cmpX (chC (notC c) m l)),I (orderF (chC (notC c) m l))]) L → CallP C 22 [.d (.sl [[DI 2,DI 0,DI 4,DI 0,DI 0,.sl [[DI c.kind,DI c.var,DI c.n,cos c.parts]],sps m,sps l]])] L k:=fun h=>by rw [← hd1,← s1]; exact compile_c _ hcn (fun _=>q1) h
 have c2 : ∀ {L : List Blk} {k : V → List Blk → Prop},k (.tup [treV (cmpX l),I (orderF l)]) L → CallP C 22 [.d (sps l)] L k:=fun h=>compile_c _ hl.ls (fun _=>q2) h
 have c3 : ∀ {L : List Blk} {k : V → List Blk → Prop},k (.tup [treV (cmpX (l ++ l)),I (orderF (l ++ l))]) L → CallP C 22 [.d (sps (l ++ l))] L k:=fun h=>compile_c _ hll (fun _=>q3) h
 by_cases hl0 : ((l.map Sp.cells).length : Int) = 0
 ·refine callP_of C_ok Tryd.func7 rfl rfl (n:=_) rfl (zw18 rfl) (rs:=_) rfl ?_
  repeat' ((conv=>whnf); first|refine sane16_c ?_|refine f0 ?_|refine zw3 ?_|refine zw8 (zw19 hl0) ?_|refine zw6 (sps_e l) ?_|refine zw6 (sps_e m) ?_|refine zw6 (zw23 n1 (zw18 rfl)) ?_|refine zw6 (zw23 n2 (zw18 rfl)) ?_|refine CallP.freeze [1] rfl rfl (.cv (y:=.d (.sl ([DI 2,DI 0,DI c.kind,DI c.var,DI c.n,cos c.parts,sps l,sps m] :: (l ++ m).map Sp.cells))) (.d (.rowL (ds:=[DI 2,DI 0,DI c.kind,DI c.var,DI c.n,cos c.parts,sps l,sps m] :: (l ++ m).map Sp.cells) (List.mem_singleton.2 rfl) rfl (apc [DI 2,DI 0,DI c.kind,DI c.var,DI c.n,cos c.parts,sps l,sps m] l m) (apcn _ l m) (apce _ _ _ _ _ _ _ _ _))) .nil) (f1 ?_)|refine zw0 ?_|refine zw1 ?_|refine zw2 (fun h=>?_) (fun h=>?_)|refine zw3 ?_|refine zw4 (fun h=>?_) (fun h=>?_)|refine zw5 _ rfl ?_|refine zw6 rfl ?_|refine zw7 mixed rfl ?_)
  conv=>whnf
  exact FinP.drop (n:=0) rfl (zw21 0) rfl rfl ⟨rfl,rfl⟩
 by_cases hm0 : ((m.map Sp.cells).length : Int) = 0
 ·refine callP_of C_ok Tryd.func7 rfl rfl (n:=_) rfl (zw18 rfl) (rs:=_) rfl ?_
  repeat' ((conv=>whnf); first|refine sane16_c ?_|refine f0 ?_|refine zw3 ?_|refine zw9 (zw20 hl0) ?_|refine zw8 (zw19 hm0) ?_|refine zw6 (sps_e l) ?_|refine zw6 (sps_e m) ?_|refine zw6 (zw23 n1 (zw18 rfl)) ?_|refine zw6 (zw23 n2 (zw18 rfl)) ?_|refine CallP.freeze [1] rfl rfl (.cv (y:=.d (.sl ([DI 2,DI 0,DI c.kind,DI c.var,DI c.n,cos c.parts,sps l,sps m] :: (l ++ m).map Sp.cells))) (.d (.rowL (ds:=[DI 2,DI 0,DI c.kind,DI c.var,DI c.n,cos c.parts,sps l,sps m] :: (l ++ m).map Sp.cells) (List.mem_singleton.2 rfl) rfl (apc [DI 2,DI 0,DI c.kind,DI c.var,DI c.n,cos c.parts,sps l,sps m] l m) (apcn _ l m) (apce _ _ _ _ _ _ _ _ _))) .nil) (f1 ?_)|refine zw0 ?_|refine zw1 ?_|refine zw2 (fun h=>?_) (fun h=>?_)|refine zw3 ?_|refine zw4 (fun h=>?_) (fun h=>?_)|refine zw5 _ rfl ?_|refine zw6 rfl ?_|refine zw7 mixed rfl ?_)
  conv=>whnf
  exact FinP.drop (n:=0) rfl (zw21 0) rfl rfl ⟨rfl,rfl⟩
 have hfin : orderF (chC c l m) = 0 → orderF (chC (notC c) m l) = 0 → orderF l = 0 ∧ (orderF (l ++ l) = 2 ∨ orderF (l ++ l) = 0 ∧ cmpX l = cmpX (l ++ l)) ∧ cmpX (chC c l m) = cmpX (chC (notC c) m l):=fun o1 o2=>by
  obtain ⟨_,ol,_⟩:=choice_ok o1
  refine ⟨ol,?_,?_⟩
  ·by_cases o3 : orderF (l ++ l) = 0
   ·exact .inr ⟨o3,by unfold cmpX; rw [if_pos ol,if_pos o3]; exact twice hl.ls hll ol o3 q2 q3⟩
   ·exact .inl (order_app ol ol o3)
  ·unfold cmpX; rw [if_pos o1,if_pos o2]; exact rewritten hc hl.ls hm.ls hnc o1 o2 q0 q1
 have z1:=(cmp_sm (l:=chC c l m) hch (fun _=>q0)).1
 have z2:=(cmp_sm hl.ls (fun _=>q2)).1
 have k1 : ∀ {L : List Blk} {k : V → List Blk → Prop},k (B true) L → CallP C 13 [treV (cmpX (chC c l m)),treV (cmpX (chC c l m))] L k:=fun h=>tsame_c _ _ (Nat.le_trans z1.len (by decide)) (Nat.le_trans z1.len (by decide)) (fun x hx=>big62 (z1.by_ x hx)) (fun x hx=>big62 (z1.by_ x hx)) (by rw [decide_eq_true rfl]; exact h)
 have k2 : ∀ {L : List Blk} {k : V → List Blk → Prop},k (B true) L → CallP C 13 [treV (cmpX l),treV (cmpX l)] L k:=fun h=>tsame_c _ _ (Nat.le_trans z2.len (by decide)) (Nat.le_trans z2.len (by decide)) (fun x hx=>big62 (z2.by_ x hx)) (fun x hx=>big62 (z2.by_ x hx)) (by rw [decide_eq_true rfl]; exact h)
 generalize orderF (chC c l m) = v1 at *
 generalize orderF (chC (notC c) m l) = v2 at *
 generalize orderF l = v3 at *
 generalize orderF (l ++ l) = v4 at *
 generalize cmpX (chC c l m) = t1 at *
 generalize cmpX (chC (notC c) m l) = t2 at *
 generalize cmpX l = t3 at *
 generalize cmpX (l ++ l) = t4 at *
 refine callP_cut (fun c=>match c with | .region 5 _ _=>true | .region 6 _ _=>true | .region 7 _ _=>true | .region 10 _ _=>true | .region 11 _ _=>true | _=>false) C_ok Tryd.func7 rfl rfl (n:=_) rfl (zw18 rfl) (rs:=_) rfl ?_
 repeat' ((conv=>whnf); first|refine sane16_c ?_|refine f0 ?_|refine zw3 ?_|refine zw9 (zw20 hl0) ?_|refine zw9 (zw20 hm0) ?_|refine zw6 (sps_e l) ?_|refine zw6 (sps_e m) ?_|refine zw6 (zw23 n1 (zw18 rfl)) ?_|refine zw6 (zw23 n2 (zw18 rfl)) ?_|refine CallP.freeze [1] rfl rfl (.cv (y:=.d (.sl ([DI 2,DI 0,DI c.kind,DI c.var,DI c.n,cos c.parts,sps l,sps m] :: (l ++ m).map Sp.cells))) (.d (.rowL (ds:=[DI 2,DI 0,DI c.kind,DI c.var,DI c.n,cos c.parts,sps l,sps m] :: (l ++ m).map Sp.cells) (List.mem_singleton.2 rfl) rfl (apc [DI 2,DI 0,DI c.kind,DI c.var,DI c.n,cos c.parts,sps l,sps m] l m) (apcn _ l m) (apce _ _ _ _ _ _ _ _ _))) .nil) (f1 ?_)|refine zw0 ?_|refine zw1 ?_|refine zw2 (fun h=>?_) (fun h=>?_)|refine zw3 ?_|refine zw4 (fun h=>?_) (fun h=>?_)|refine zw5 _ rfl ?_|refine zw6 rfl ?_|refine zw7 mixed rfl ?_)
 conv=>whnf
 refine CutP.intro (ι:=Unit) (fun _=>⟨[(1,.d (sps l)),(2,.d (sps m)),(3,.ptr 0 0),(7,.ptr 3 0)],Tryd.f7.ntmps,[.cells [I c.kind,I c.var,I c.n,.d (cos c.parts)],.dead,.row 0 4 [[I c.kind,I c.var,I c.n,.d (cos c.parts)]],.cells [I 4,I 0,I 0,.own 2 0 0 1]],[],none⟩) ?_ (fun _=>?_)
 ·repeat' (conv => whnf
           first|refine zw0 ?_|refine zw1 ?_|refine zw2 (fun h=>?_) (fun h=>?_)|refine zw3 ?_|refine zw4 (fun h=>?_) (fun h=>?_)|refine zw5 _ rfl ?_|refine zw6 rfl ?_)
  conv=>whnf
  exact ⟨(),Weak.by ⟨rfl,rfl,rfl,rfl,trivial⟩⟩
 conv=>whnf
 refine CutP.intro (ι:=Unit) (fun _=>⟨[(1,.d (sps l)),(2,.d (sps m)),(3,.ptr 0 0),(7,.ptr 3 0),(8,.ptr 5 0),(9,I v1)],Tryd.f7.ntmps,[.cells [I c.kind,I c.var,I c.n,.d (cos c.parts)],.dead,.row 0 4 [[I c.kind,I c.var,I c.n,.d (cos c.parts)]],.cells [I 4,I 0,I 0,.own 2 0 0 1],.dead,.cells [.d (nds t1)]],[],none⟩) ?_ (fun _=>?_)
 ·repeat' (conv => whnf
           first|refine CallP.freeze [4] rfl rfl (.cv (y:=.d (.sl [[DI 2,DI 0,DI c.kind,DI c.var,DI c.n,cos c.parts,sps l,sps m]])) (.d (.rowL (ds:=[[DI 2,DI 0,DI c.kind,DI c.var,DI c.n,cos c.parts,sps l,sps m]]) (List.mem_singleton.2 rfl) rfl (.cons (CvL.data [DI 2,DI 0,DI c.kind,DI c.var,DI c.n,cos c.parts,sps l,sps m]) .nil) rfl (len8 _ _ _ _ _ _ _ _))) .nil) (c0 ?_)|refine zw0 ?_|refine zw1 ?_|refine zw2 (fun h=>?_) (fun h=>?_)|refine zw3 ?_|refine zw4 (fun h=>?_) (fun h=>?_)|refine zw5 _ rfl ?_|refine zw6 rfl ?_)
  conv=>whnf
  exact ⟨(),Weak.by ⟨rfl,rfl,rfl,rfl,rfl,rfl,trivial⟩⟩
 conv=>whnf
 refine CutP.intro (ι:=Unit) (fun _=>⟨[(1,.d (sps l)),(2,.d (sps m)),(8,.ptr 5 0),(9,I v1),(10,.ptr 7 0),(11,I v2)],Tryd.f7.ntmps,[.cells [I c.kind,I c.var,I c.n,.d (cos c.parts)],.dead,.dead,.cells [I 4,I 0,I 0,.own 2 0 0 1],.dead,.cells [.d (nds t1)],.dead,.cells [.d (nds t2)]],[],none⟩) ?_ (fun _=>?_)
 ·repeat' (conv => whnf
           first|refine CallP.freeze [2,6] rfl rfl (.cv (y:=.d (.sl [[DI 2,DI 0,DI 4,DI 0,DI 0,.sl [[DI c.kind,DI c.var,DI c.n,cos c.parts]],sps m,sps l]])) (.d (.rowL (ds:=[[DI 2,DI 0,DI 4,DI 0,DI 0,.sl [[DI c.kind,DI c.var,DI c.n,cos c.parts]],sps m,sps l]]) (List.mem_cons_of_mem _ (List.mem_singleton.2 rfl)) rfl (.cons (.cons (.d _) (.cons (.d _) (.cons (.d _) (.cons (.d _) (.cons (.d _) (.cons (.rowL (ds:=[[DI c.kind,DI c.var,DI c.n,cos c.parts]]) (List.mem_cons_self) rfl (.cons (CvL.data [DI c.kind,DI c.var,DI c.n,cos c.parts]) .nil) rfl (len4 _ _ _ _)) (.cons (.d _) (.cons (.d _) .nil)))))))) .nil) rfl (len8 _ _ _ _ _ _ _ _))) .nil) (c1 ?_)|refine zw0 ?_|refine zw1 ?_|refine zw2 (fun h=>?_) (fun h=>?_)|refine zw3 ?_|refine zw4 (fun h=>?_) (fun h=>?_)|refine zw5 _ rfl ?_|refine zw6 rfl ?_)
  conv=>whnf
  exact ⟨(),Weak.by ⟨rfl,rfl,rfl,rfl,rfl,rfl,trivial⟩⟩
 by_cases o1 : v1 = 0
 rotate_left
 ·repeat' (conv => whnf
           first|refine zw3 ?_|refine zw9 (zw20 o1) ?_|refine zw0 ?_|refine zw1 ?_|refine zw2 (fun h=>?_) (fun h=>?_)|refine zw3 ?_|refine zw4 (fun h=>?_) (fun h=>?_)|refine zw5 _ rfl ?_|refine zw6 rfl ?_|refine zw7 mixed rfl ?_)
  conv=>whnf
  exact FinP.drop (n:=0) rfl (zw21 0) rfl rfl ⟨rfl,rfl⟩
 by_cases o2 : v2 = 0
 rotate_left
 ·repeat' (conv => whnf
           first|refine zw3 ?_|refine zw8 (zw19 o1) ?_|refine zw9 (zw20 o2) ?_|refine zw0 ?_|refine zw1 ?_|refine zw2 (fun h=>?_) (fun h=>?_)|refine zw3 ?_|refine zw4 (fun h=>?_) (fun h=>?_)|refine zw5 _ rfl ?_|refine zw6 rfl ?_|refine zw7 mixed rfl ?_)
  conv=>whnf
  exact FinP.drop (n:=0) rfl (zw21 0) rfl rfl ⟨rfl,rfl⟩
 obtain ⟨o3,o4,rfl⟩:=hfin o1 o2
 subst o3
 repeat' ((conv=>whnf); first|refine zw3 ?_|refine zw8 (zw19 o1) ?_|refine zw8 (zw19 o2) ?_|refine zw0 ?_|refine zw1 ?_|refine zw2 (fun h=>?_) (fun h=>?_)|refine zw3 ?_|refine zw4 (fun h=>?_) (fun h=>?_)|refine zw5 _ rfl ?_|refine zw6 rfl ?_|refine zw7 mixed rfl ?_)
 conv=>whnf
 refine CutP.intro (ι:=Unit) (fun _=>⟨[(1,.d (sps l)),(8,.ptr 5 0),(10,.ptr 7 0),(12,.ptr 8 0),(13,I 0)],Tryd.f7.ntmps,[.cells [I c.kind,I c.var,I c.n,.d (cos c.parts)],.dead,.dead,.cells [I 4,I 0,I 0,.own 2 0 0 1],.dead,.cells [.d (nds t1)],.dead,.cells [.d (nds t1)],.cells [.d (nds t3)]],[],none⟩) ?_ (fun _=>?_)
 ·repeat' (conv => whnf
           first|refine c2 ?_|refine zw0 ?_|refine zw1 ?_|refine zw2 (fun h=>?_) (fun h=>?_)|refine zw3 ?_|refine zw4 (fun h=>?_) (fun h=>?_)|refine zw5 _ rfl ?_|refine zw6 rfl ?_)
  conv=>whnf
  exact ⟨(),Weak.by ⟨rfl,rfl,rfl,rfl,rfl,trivial⟩⟩
 conv=>whnf
 refine CutP.intro (ι:=Unit) (fun _=>⟨[(8,.ptr 5 0),(10,.ptr 7 0),(12,.ptr 8 0),(13,I 0),(14,.ptr 10 0),(15,I v4)],Tryd.f7.ntmps,[.cells [I c.kind,I c.var,I c.n,.d (cos c.parts)],.dead,.dead,.cells [I 4,I 0,I 0,.own 2 0 0 1],.dead,.cells [.d (nds t1)],.dead,.cells [.d (nds t1)],.cells [.d (nds t3)],.dead,.cells [.d (nds t4)]],[],none⟩) ?_ (fun _=>?_)
 ·repeat' (conv => whnf
           first|refine zw6 (sps_e l) ?_|refine zw6 (zw23 n3 (zw18 rfl)) ?_|refine zw6 (zw23 n4 (zw18 rfl)) ?_|refine CallP.freeze [9] rfl rfl (.cv (y:=.d (sps (l ++ l))) (.d (.rowL (ds:=(l ++ l).map Sp.cells) (List.mem_singleton.2 rfl) rfl (ap8 l l) (ap8n l l) (sps_e _))) .nil) (c3 ?_)|refine zw0 ?_|refine zw1 ?_|refine zw2 (fun h=>?_) (fun h=>?_)|refine zw3 ?_|refine zw4 (fun h=>?_) (fun h=>?_)|refine zw5 _ rfl ?_|refine zw6 rfl ?_)
  conv=>whnf
  exact ⟨(),Weak.by ⟨rfl,rfl,rfl,rfl,rfl,rfl,trivial⟩⟩
 rcases o4 with o4 | ⟨o4,rfl⟩
 ·repeat' (conv => whnf
           first|refine k1 ?_|refine zw8 (zw19 o4) ?_|refine zw0 ?_|refine zw1 ?_|refine zw2 (fun h=>?_) (fun h=>?_)|refine zw3 ?_|refine zw4 (fun h=>?_) (fun h=>?_)|refine zw5 _ rfl ?_|refine zw6 rfl ?_|refine zw7 mixed rfl ?_)
  conv=>whnf
  exact FinP.drop (n:=0) rfl (zw21 0) rfl rfl ⟨rfl,rfl⟩
 ·have o5 : ¬ v4 = 2:=by omega
  repeat' ((conv=>whnf); first|refine k1 ?_|refine k2 ?_|refine zw8 (zw19 o4) ?_|refine zw9 (zw20 o5) ?_|refine zw0 ?_|refine zw1 ?_|refine zw2 (fun h=>?_) (fun h=>?_)|refine zw3 ?_|refine zw4 (fun h=>?_) (fun h=>?_)|refine zw5 _ rfl ?_|refine zw6 rfl ?_|refine zw7 mixed rfl ?_)
  conv=>whnf
  exact FinP.drop (n:=0) rfl (zw21 0) rfl rfl ⟨rfl,rfl⟩
theorem call_closed : ∀ xss,TyA C.P Tryd.f7.params.toList xss → (∀ xs ∈ xss,∀ y ∈ xs,Dsm 4294967296 y) → CallP C 7 (argVs C.P Tryd.f7.params.toList xss) [] fun X L=>L = [] ∧ X = .d (.bool true):=by
 intro xss h hsm
 match xss,h,hsm with
 | [x1,x2,x3],⟨h1,h2,h3,_⟩,hsm =>
  obtain ⟨x1,rfl,b1⟩:=condU h1 (hsm _ (by simp))
  obtain ⟨x2,rfl,b2⟩:=stepsU h2 (hsm _ (by simp))
  obtain ⟨x3,rfl,b3⟩:=stepsU h3 (hsm _ (by simp))
  exact law x1 x2 x3 b1 b2 b3
theorem contract (H : Type) (enc : TypeId × Value → H) (W : World) (base : Nat) (args : Array Value) (ds gs : List (DataW H)) (before : List MemPlace)
  (hval : ∀ (j : Nat) t v,Tryd.f7.params[j]? = some t → args[j]? = some v → Value.okWide Tryd.prog W .any base t v)
  (hW : DataW.Whole enc Tryd.prog Tryd.f7.params.toList Rows.treesRewrittenSpec.vars false W args.toList ds gs before)
  (hU : Rows.uptoSmall H (ds ++ gs) = true) (hL : laidMetH Tryd.prog Rows.treesRewrittenUptoRow.laid W) :
  Calls Tryd.prog 7 args W fun e W'=>∃ v,e = .returned v ∧ Rows.treesRewrittenSpec.post enc Tryd.prog Tryd.f7 false true false false W args v W':=by
 refine law_ofB (C:=C) (l:=plainTys) kids full plainOk bytesOk plainLt (fun t ht=>?_) rfl rfl Tryd.underlying4 (fun ds hd=>?_) call_closed hval hW (upto_wt (fun t ht=>?_) hU) (glob_ok hL)
 ·have : Tryd.f7.params.toList.all (fun t=>plainTys.contains t) = true:=by kernel_rfl
  simpa using List.all_eq_true.1 this t ht
 ·match ds,hd with
  | [d1,d2,d3],_=>rfl
 ·rw [List.mem_append] at ht
  rcases ht with ht | ht
  ·have : Tryd.f7.params.toList.all (fun t=>plainTys.contains t) = true:=by kernel_rfl
   simpa using List.all_eq_true.1 this t ht
  ·cases ht
theorem laid_met (os : Os) : laidMet Tryd.prog Rows.treesRewrittenUptoRow.laid ((laidWorld os).forCall (fun _ _=>0) ⟨#[],#[.agg #[.int .i64 0,.int .i64 0,.int .i64 0,.slice none 0 0],.slice none 0 0,.slice none 0 0],[]⟩).memory :=
 laidMet_of_run' 8 (by kernel_rfl) (by kernel_rfl)
theorem reads (os : Os) {H : Type} (enc : TypeId × Value → H) : ∃ places,DataW.whole enc Tryd.prog ((laidWorld os).forCall (fun _ _=>0) ⟨#[],#[.agg #[.int .i64 0,.int .i64 0,.int .i64 0,.slice none 0 0],.slice none 0 0,.slice none 0 0],[]⟩).memory Tryd.f7.params.toList Rows.treesRewrittenSpec.vars false #[.agg #[.int .i64 0,.int .i64 0,.int .i64 0,.slice none 0 0],.slice none 0 0,.slice none 0 0].toList 8 = some ([.agg [.lit (.int .i64 0),.lit (.int .i64 0),.lit (.int .i64 0),.nil],.nil,.nil],[],places) :=
 ⟨[],by kernel_rfl⟩
set_option maxRecDepth 100000 in
theorem lifted (os : Os) (started : os.Started) (H : Type) (enc : TypeId × Value → H) (F : Stop.Interp) :
  ReturnsInHanded {} Tryd.checked os 7 .any ((Rows.OpenSpec.upto Rows.treesRewrittenSpec).preRow enc Tryd.prog Tryd.f7 Rows.treesRewrittenUptoRow.domain false Rows.treesRewrittenUptoRow.laid) (((Rows.OpenSpec.upto Rows.treesRewrittenSpec).at F).post enc Tryd.prog Tryd.f7 false true false false):=by
 obtain ⟨places,hx⟩:=reads os enc
 refine returnsInHanded_of_row (C:=Tryd.checked) (s:=Rows.OpenSpec.upto Rows.treesRewrittenSpec) own started (by kernel_rfl) Tryd.func7
  (witness_row_at (enc:=enc) (C:=Tryd.checked) false (laidWorld os) #[.agg #[.int .i64 0,.int .i64 0,.int .i64 0,.slice none 0 0],.slice none 0 0,.slice none 0 0] rfl (by kernel_rfl) (by kernel_rfl) (by kernel_rfl)
   (OpenSpec.preRow_of_cond 8 hx (by kernel_rfl) (fun k hk=>by cases hk; kernel_rfl) (by kernel_rfl) (laid_met os))) ?_
 intro W base args ds gs before hval hW _ hcond _ hL _ _
 exact contract H enc W base args ds gs before hval hW (hcond _ rfl) hL
theorem said : Rows.TreesRewrittenUptoSaid :=
 OpenClaim.holds_of_cond 7 Tryd.f7 rfl rfl rfl rfl rfl rfl rfl ⟨rfl,rfl,rfl,rfl,rfl⟩ rfl rfl rfl rfl rfl (by kernel_rfl) Tryd.func7 (by kernel_rfl)
  (of_decide_eq_true (by kernel_rfl)) (by unfold Func.isWrapper; first | (rw [if_pos (by decide +kernel)]; kernel_rfl) | (rw [if_neg (by decide +kernel)]; exact ⟨rfl,rfl⟩))
  (fun os started H enc _ F=>by rw [OpenClaim.pre_eq_preRow]; exact lifted os started H enc F)
theorem plain (f : FuncId) (fn : Func) (hf : Tryd.pinned.checked.prog.funcNamed "assize/assizelaw16.TreesRewritten" = some f) (hfn : Tryd.pinned.checked.prog.funcs[f]? = some fn) :
  true = Tryd.pinned.checked.prog.looks [] ∧ ∀ (j : Nat) t,fn.params[j]? = some t → Tryd.pinned.checked.prog.wantsStandIn t = false:=by
 obtain rfl : f = 7 := Option.some.inj ((show Tryd.prog.funcNamed "assize/assizelaw16.TreesRewritten" = some 7 by kernel_rfl).symm.trans hf) |>.symm
 obtain rfl : fn = Tryd.f7:=(Option.some.inj (Tryd.func7.symm.trans hfn)).symm
 refine ⟨by kernel_rfl,fun j t ht=>?_⟩
 have hall : Tryd.f7.params.toList.all (fun t=>!Tryd.prog.wantsStandIn t) = true:=by kernel_rfl
 have:=List.all_eq_true.1 hall t (by simpa using Array.mem_of_getElem? ht)
 show Tryd.prog.wantsStandIn t = false
 simpa using this
theorem proved : Rows.TreesRewrittenUptoCardSaid :=
 Claim7.holds_tied_plain_at .later [] _ _ _ _ said (fun _ h=>by cases h) (by kernel_rfl) (fun _ h=>by cases h) treesRewrittenUpto_row_tie rfl ⟨rfl,rfl⟩ (by kernel_rfl) rfl plain (by kernel_rfl)
end Go.Proofs.YtclmjkhdmhlijaaDoor.treesRewritten
