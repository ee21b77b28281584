import Derived.Test.YtihibgcojdfndaaGreatDoorJBG
set_option maxRecDepth 100000
set_option maxHeartbeats 0
set_option linter.unusedSimpArgs false
set_option linter.unusedVariables false
namespace Go.Proofs.YtihibgcojdfndaaGreatDoor.orderPartition
open Go.Tidy Go.ChangeShapes Go.WideShapes Go.ChangeAt Go.RowKit
open Sts (Res ress fieldOk)
theorem flat_next {G : List (List Int)} {i : Nat} (h : i < G.length) : (G.take (i + 1)).flatten = (G.take i).flatten ++ G[i]:=by
 rw [Sts.take_next h,List.flatten_append]; simp
theorem rd_app (A x : List Int) : (rdI A).take A.length ++ ((x.map fun n=>[DI n]).map fun e=>e.map V.d) = rdI (A ++ x):=by
 unfold rdI
 rw [List.take_of_length_le (by simp),List.map_append,List.map_map]; rfl
theorem law (p : Cp) (fin : Bool) (hr : LRu p.ru) : CallP C 5 [.d (ress p.res),.d (ins p.clubs),.d (ins p.off),.agg (p.ru.cells.map .d),B fin,.d (ins p.lots)] [] fun X L=>L = [] ∧ X = .d (.bool true):=by
 have f1 : ∀ {L : List Blk} {k : V → List Blk → Prop},k (B (few19 p)) L → CallP C 12 [.d (ress p.res),.d (ins p.clubs),.d (ins p.off),.d (ins p.lots),.agg (p.ru.cells.map .d)] L k:=fun h=>few19_c p hr h
 cases hfw : few19 p with
 | false =>
  rw [hfw] at f1
  refine callP_of C_ok Tryz.func5 rfl rfl (n:=_) rfl (zw18 rfl) (rs:=_) rfl ?_
  repeat' ((conv=>whnf); first|refine sane19_c ?_|refine f1 ?_|refine zw3 ?_|refine zw0 ?_|refine zw1 ?_|refine zw2 (fun h=>?_) (fun h=>?_)|refine zw3 ?_|refine zw4 (fun h=>?_) (fun h=>?_)|refine zw5 _ rfl ?_|refine zw6 rfl ?_)
  conv=>whnf
  exact FinP.drop (n:=0) rfl (zw21 0) rfl rfl ⟨rfl,rfl⟩
 | true =>
 rw [hfw] at f1
 obtain ⟨n1,n2,n3,n4,hL⟩:=few_p hfw hr
 have f2 : ∀ {L : List Blk} {k : V → List Blk → Prop},k (rankX p fin) L → CallP C 13 [.d (ress p.res),.d (ins p.clubs),.d (ins p.off),.agg (p.ru.cells.map .d),B fin,.d (ins p.lots)] L k:=fun h=>Rank_c p hL (by omega) fin h
 by_cases h0 : openE p 2 p.clubs.contains = 0
 rotate_left
 ·have e2 : rankX p fin = .tup [.d (.sl []),.d (.sl []),I (openE p 2 p.clubs.contains)]:=by unfold rankX; rw [if_pos h0]
  rw [e2] at f2
  generalize openE p 2 p.clubs.contains = e at *
  refine callP_of C_ok Tryz.func5 rfl rfl (n:=_) rfl (zw18 rfl) (rs:=_) rfl ?_
  repeat' ((conv=>whnf); first|refine zw9 (zw20 h0) ?_|refine sane19_c ?_|refine f1 ?_|refine f2 ?_|refine zw3 ?_|refine zw0 ?_|refine zw1 ?_|refine zw2 (fun h=>?_) (fun h=>?_)|refine zw3 ?_|refine zw4 (fun h=>?_) (fun h=>?_)|refine zw5 _ rfl ?_|refine zw6 rfl ?_)
  conv=>whnf
  exact FinP.drop (n:=0) rfl (zw21 0) rfl rfl ⟨rfl,rfl⟩
 obtain ⟨o1,o2,o3,o4,o5,o6⟩:=open_of h0
 obtain ⟨hn,hc2,hc24⟩:=field_of o1
 have h1 : 1 ≤ p.clubs.length:=by omega
 have e2 : rankX p fin = .tup [.d (insL ((p.gs fin).map (·.1))),.d (ins ((p.gs fin).map (·.2))),I 0]:=by unfold rankX; rw [if_neg (fun h=>h h0)]
 rw [e2] at f2
 have ho:=rules_order o4
 have fb : ∀ (x y : Int),x ∈ p.clubs → y ∈ p.clubs → ∀ {L : List Blk} {k : V → List Blk → Prop},k (.tup [I (bet x y (p.evs fin) 0),I 0]) L → CallP C 19 [.d (ress p.res),.d (ins p.clubs),.d (ins p.off),.agg (p.ru.cells.map .d),B fin,.d (ins p.lots),I x,I y] L k:=fun x y hx hy _ _ h =>
  Between_c p hL (by omega) fin x y (by
   have e : betX p fin x y = .tup [I (bet x y (p.evs fin) 0),I 0]:=by
    unfold betX
    rw [if_neg (fun h=>h h0),if_neg (by rw [List.contains_iff_mem.2 hx,List.contains_iff_mem.2 hy]; decide)]
   rw [e]; exact h)
 have fe : ∀ (g : List Int),g.Sublist p.clubs → 2 ≤ g.length → ∀ {L : List Blk} {k : V → List Blk → Prop},k (.tup [enV (envO p.res p.clubs g.length fin),I 0]) L → CallP C 21 [.d (ress p.res),.d (ins p.clubs),.d (ins g),B fin] L k:=fun g hg h2 _ _ h =>
  Env_c _ _ _ fin (by omega) (by omega) (by have:=hg.length_le; omega) (by rw [envX_ok h0 hg h2]; exact h)
 have fd : ∀ (n : Nat),2 ≤ n → n ≤ 24 → ∀ {L : List Blk} {k : V → List Blk → Prop},k (.tup [.d (ins ((p.rk fin).cr n)),I 0]) L → CallP C 23 [.d (sps p.ru.order),enV (envO p.res p.clubs n fin)] L k:=fun n h2 h24 _ _ h =>
  Direct_c _ _ hL.ru.order (fun h=>order_dsp hL.ru.order h) (by
   have:=direct_ok ho (envO_ok p.res fin h2 h24 hc2 hc24)
   rw [this.2]; exact h)
 have fo : ∀ (g : List Int),g.Sublist p.clubs → ∀ {L : List Blk} {k : V → List Blk → Prop},k (.d (ins (p.of g).off)) L → CallP C 24 [.d (ins p.clubs),.d (ins p.off),.d (ins g)] L k:=fun g hg _ _ h =>
  offs19_c _ _ _ hn o2 (by omega) (by have:=hg.length_le; omega) (fun c hc=>hg.subset hc) h
 have fs : ∀ (g : List Int) (b : Int),g.Sublist p.clubs → 1 ≤ g.length → 1 ≤ b ∧ b ≤ 12 → (p.rk fin).sp g b = [g] → ∀ {L : List Blk} {k : V → List Blk → Prop},k (.tup [.d (insL [g]),I 0]) L → CallP C 17 [.d (ress p.res),.d (ins g),.d (ins (p.of g).off),I b,.agg (p.ru.cells.map .d),.d (ins p.lots)] L k:=fun g b hg hg1 hb hs _ _ h=>by
  have hgl:=hg.length_le
  exact Split_c (p.of g) (lcp _ (by show p.res.length ≤ _; omega) (by show g.length ≤ _; omega) (by show (g.map _).length ≤ _; rw [List.length_map]; omega) (by show p.lots.length ≤ _; omega) hr) (by show g.length ≤ _; omega) b (by rw [of_split h0 hg hg1 fin hb,hs]; exact h)
 have hby:=fun n=>rk_ok hL fin n
 have hperm:=gs_perm p fin h1
 have hnec : ∀ g ∈ (p.gs fin).map (·.1),g ≠ []:=fun g hg=>by
  obtain ⟨x,hx,rfl⟩:=List.mem_map.1 hg; exact gs_ne h1 hx
 have hsub : ∀ g ∈ (p.gs fin).map (·.1),List.Sublist g p.clubs:=fun g hg=>by
  obtain ⟨x,hx,rfl⟩:=List.mem_map.1 hg; exact (gs_mem hx).1
 have hfst : ∀ g ∈ (p.gs fin).map (·.1),(p.rk fin).fst g = none:=fun g hg=>by
  obtain ⟨x,hx,rfl⟩:=List.mem_map.1 hg; exact (gs_mem hx).2
 have hlen : ((p.gs fin).map (·.2)).length = ((p.gs fin).map (·.1)).length:=by rw [List.length_map,List.length_map]
 have hgc : ((p.gs fin).map (·.1)).length ≤ 24:=by rw [List.length_map]; have:=gs_count p fin h1; omega
 have hb0 : ∀ b,((p.gs fin).map (·.2))[0]? = some b → b = 0:=fun b h=>by
  have hl:=lt_of_get h
  rw [List.getElem?_eq_getElem hl,List.getElem_map] at h
  cases h
  exact gs_head h1 (by rw [List.length_map] at hl; exact hl)
 have hadj : ∀ (i : Nat) (x y : List Int) (b : Int),0 < i → ((p.gs fin).map (·.1))[i - 1]? = some x → ((p.gs fin).map (·.1))[i]? = some y → ((p.gs fin).map (·.2))[i]? = some b → ∀ a ∈ x,∀ z ∈ y,bet a z (p.evs fin) 0 = b ∧ 1 ≤ b ∧ b ≤ 12:=fun i x y b hp hx hy hb a ha z hz=>by
  have l1:=lt_of_get hx
  have l2:=lt_of_get hy
  have l3:=lt_of_get hb
  rw [List.getElem?_eq_getElem l1,List.getElem_map] at hx
  rw [List.getElem?_eq_getElem l2,List.getElem_map] at hy
  rw [List.getElem?_eq_getElem l3,List.getElem_map] at hb
  cases hx; cases hy; cases hb
  exact gs_adj hL h1 hn hp (by rw [List.length_map] at l2; exact l2) ha hz
 generalize (p.gs fin).map (·.1) = G at *
 generalize (p.gs fin).map (·.2) = Bs at *
 have hgl : ((G.map fun es=>[ins es]).length : Int) = (G.length : Int):=by rw [List.length_map]
 have hbl : ((Bs.map fun n=>[DI n]).length : Int) = ((G.map fun es=>[ins es]).length : Int):=by rw [List.length_map,List.length_map,hlen]
 have hflen : ∀ i,(G.take i).flatten.length ≤ 24:=fun i=>by
  have e : G.flatten = (G.take i).flatten ++ (G.drop i).flatten:=by rw [← List.flatten_append,List.take_append_drop]
  have:=hperm.length_eq
  rw [e,List.length_append] at this
  omega
 refine callP_cut (fun c=>match c with | .seq (.region 15 _ _) _=>true | _=>false) C_ok Tryz.func5 rfl rfl (n:=_) rfl (zw18 rfl) (rs:=_) rfl ?_
 repeat' ((conv=>whnf); first|refine sane19_c ?_|refine f1 ?_|refine f2 ?_|refine zw3 ?_|refine zw0 ?_|refine zw1 ?_|refine zw2 (fun h=>?_) (fun h=>?_)|refine zw3 ?_|refine zw4 (fun h=>?_) (fun h=>?_)|refine zw5 _ rfl ?_|refine zw6 rfl ?_)
 conv=>whnf
 refine LoopP.inv (fun i : Nat=>i ≤ G.length) (fun i=>⟨[(0,.d (ress p.res)),(1,.d (ins p.clubs)),(2,.d (ins p.off)),(4,B fin),(5,.d (ins p.lots)),(9,.ptr 0 0),(13,.d (insL G)),(14,.d (ins Bs)),(16,.own 1 i 0 (G.take i).flatten.length),(17,I i)],Tryz.f5.ntmps,[.cells (p.ru.cells.map .d),.row i 1 (rdI (G.take i).flatten)],[],none⟩) (fun i=>G.length - i) 0 (zw22 _) ?_ ?_
 ·exact (Weak.nilOwn 16 1 rfl (by decide)).trans (Weak.by ⟨rfl,rfl,rfl,rfl,rfl,rfl,rfl,rfl,rfl,rfl,trivial⟩)
 intro i hi
 by_cases hi' : i < G.length
 ·have hlt : (i : Int) < ((G.map fun es=>[ins es]).length : Int):=by omega
  have hw : IntKind.i64.wrap ((i : Int) + 1) = ((i + 1 : Nat) : Int):=by rw [wrap_in (by omega)]; omega
  have r1:=insL_at hi'
  have rb:=ins_at (l:=Bs) (i:=i) (by omega)
  have rb0:=ins_at (l:=Bs) (i:=0) (by omega)
  have hfn:=flat_next hi'
  have hfl:=hflen i
  have hfl1:=hflen (i + 1)
  have hgm:=List.getElem_mem hi'
  have hgp:=List.length_pos_iff.2 (hnec _ hgm)
  have hgs:=hsub _ hgm
  have hgf:=hfst _ hgm
  have hbz:=hb0 _ (List.getElem?_eq_getElem (show 0 < Bs.length by omega))
  have hne0 : ¬ ((G[i].map fun n=>[DI n]).length : Int) = 0:=by rw [insl]; omega
  have rp : 0 < i → ∃ g,(G.map fun es=>[ins es])[i - 1]? = some [ins g] ∧ g ≠ [] ∧ List.Sublist g p.clubs ∧ ∀ a ∈ g,∀ z ∈ G[i],bet a z (p.evs fin) 0 = Bs[i]'(by omega) ∧ 1 ≤ Bs[i]'(by omega) ∧ Bs[i]'(by omega) ≤ 12:=fun h =>
   ⟨G[i - 1],insL_at (by omega),hnec _ (List.getElem_mem _),hsub _ (List.getElem_mem _),hadj i _ _ _ h (List.getElem?_eq_getElem _) (List.getElem?_eq_getElem _) (List.getElem?_eq_getElem _)⟩
  obtain ⟨g,hg⟩ : ∃ g,g = G[i]:=⟨_,rfl⟩
  obtain ⟨bi,hbi⟩ : ∃ b,b = Bs[i]'(by omega):=⟨_,rfl⟩
  obtain ⟨b0,hb0'⟩ : ∃ b,b = Bs[0]'(by omega):=⟨_,rfl⟩
  rw [← hg] at r1 hfn hgp hgs hgf hne0
  rw [← hbi] at rb
  rw [← hb0'] at rb0 hbz
  rw [← hg,← hbi] at rp
  clear hg hbi hb0' hgm
  generalize (G.take i).flatten = A at *
  rw [hfn] at hfl1
  rw [List.length_append] at hfl1
  have hap : A.length + ((g.map fun n=>[DI n]).map fun e=>e.map V.d).length ≤ 100:=by rw [List.length_map,insl]; omega
  have hnl : A.length + ((g.map fun n=>[DI n]).map fun e=>e.map V.d).length = (A ++ g).length:=by rw [List.length_map,insl,List.length_append]
  have hrd : [Blk.cells (p.ru.cells.map .d),.row (i + 1) 1 ((rdI A).take A.length ++ ((g.map fun n=>[DI n]).map fun e=>e.map V.d))] = [.cells (p.ru.cells.map .d),.row (i + 1) 1 (rdI (A ++ g))]:=by rw [rd_app]
  repeat' ((conv=>whnf); first|refine zw8 (zw19 hlt) ?_|refine zw9 (zw20 hne0) ?_|refine zw3 ?_|refine zw8 (zw19 hbl) ?_|refine zw8 (zw19 hbz) ?_|refine zw10 i _ rfl r1 ?_|refine zw10 0 _ rfl rb0 ?_|refine zw6 (rdI_e g) ?_|refine zw6 (zw23 hap (zw18 rfl)) ?_|simp only [Nat.beq_refl,Bool.and_self]|refine zw0 ?_|refine zw1 ?_|refine zw2 (fun h=>?_) (fun h=>?_)|refine zw3 ?_|refine zw4 (fun h=>?_) (fun h=>?_)|refine zw5 _ rfl ?_|refine zw6 rfl ?_)
  conv=>whnf
  refine CutP.intro (ι:=Unit) (fun _=>⟨[(0,.d (ress p.res)),(1,.d (ins p.clubs)),(2,.d (ins p.off)),(4,B fin),(5,.d (ins p.lots)),(9,.ptr 0 0),(13,.d (insL G)),(14,.d (ins Bs)),(16,.own 1 (i + 1) 0 (A ++ g).length),(17,I i)],Tryz.f5.ntmps,[.cells (p.ru.cells.map .d),.row (i + 1) 1 (rdI (A ++ g))],[],none⟩) ?_ (fun _=>?_)
  ·by_cases hi0 : (0 : Int) < (i : Int)
   rotate_left
   ·repeat' (conv => whnf
             first|refine zw9 (zw20 hi0) ?_|refine zw0 ?_|refine zw1 ?_|refine zw2 (fun h=>?_) (fun h=>?_)|refine zw3 ?_|refine zw4 (fun h=>?_) (fun h=>?_)|refine zw5 _ rfl ?_|refine zw6 rfl ?_)
    conv=>whnf
    exact ⟨(),Weak.to 2 (Eq.trans rfl hrd) (Nat.zero_le _) (Nat.le_of_ble_eq_true rfl) ⟨rfl,rfl,rfl,rfl,rfl,rfl,rfl,rfl,congrArg (fun n=>norm (V.own 1 (i + 1) 0 n)) hnl,rfl,trivial⟩ (hB:=by show (V.belL 2 _ && (belR 2 (rdI (A ++ g)) && true)) = true; rw [rdI_bel,V.belL_d]; rfl)⟩
   obtain ⟨gp,rp1,rp2,rp3,rp4⟩:=rp (by omega)
   obtain ⟨a,ga,rfl⟩:=List.exists_cons_of_ne_nil rp2
   obtain ⟨z,gz,rfl⟩:=List.exists_cons_of_ne_nil (List.length_pos_iff.1 hgp)
   focus
    have q0 : ((a :: ga).map fun n=>[DI n])[0]? = some [DI a]:=rfl
    have q1 : ((z :: gz).map fun n=>[DI n])[0]? = some [DI z]:=rfl
    have hw1 : IntKind.i64.wrap ((i : Int) - 1) = ((i - 1 : Nat) : Int):=by rw [wrap_in (by omega)]; omega
    obtain ⟨t1,t2,t3⟩:=rp4 a (by simp) z (by simp)
    have hB:=fun {L : List Blk} {k : V → List Blk → Prop} h=>fb a z (rp3.subset (by simp)) (hgs.subset (by simp)) (L:=L) (k:=k) h
    rw [t1] at hB
    have c1 : ¬ bi < 1:=by omega
    have c2 : ¬ 12 < bi:=by omega
    have c3 : decide (bi = bi) = true:=zw19 rfl
    repeat' ((conv=>whnf); first|refine zw8 (zw19 hi0) ?_|refine zw10 (i - 1) _ hw1 rp1 ?_|refine zw10 i _ rfl r1 ?_|refine zw10 0 _ rfl q0 ?_|refine zw10 0 _ rfl q1 ?_|refine zw12 _ (hB ⟨rfl,rfl⟩) ?_|refine zw10 i _ rfl rb ?_|refine zw3 ?_|refine zw8 c3 ?_|refine zw9 (zw20 c1) ?_|refine zw9 (zw20 c2) ?_|refine zw0 ?_|refine zw1 ?_|refine zw2 (fun h=>?_) (fun h=>?_)|refine zw3 ?_|refine zw4 (fun h=>?_) (fun h=>?_)|refine zw5 _ rfl ?_|refine zw6 rfl ?_|refine zw7 mixed rfl ?_)
    conv=>whnf
    exact ⟨(),Weak.to 2 (Eq.trans rfl hrd) (Nat.zero_le _) (Nat.le_of_ble_eq_true rfl) ⟨rfl,rfl,rfl,rfl,rfl,rfl,rfl,rfl,congrArg (fun n=>norm (V.own 1 (i + 1) 0 n)) hnl,rfl,trivial⟩ (hB:=by show (V.belL 2 _ && (belR 2 (rdI (A ++ z :: gz)) && true)) = true; rw [rdI_bel,V.belL_d]; rfl)⟩
  by_cases hl1 : ((g.map fun n=>[DI n]).length : Int) = 1
  ·repeat' (conv => whnf
            first|refine zw8 (zw19 hl1) ?_|refine zw10 i _ rfl r1 ?_|refine zw0 ?_|refine zw1 ?_|refine zw2 (fun h=>?_) (fun h=>?_)|refine zw3 ?_|refine zw4 (fun h=>?_) (fun h=>?_)|refine zw5 _ rfl ?_|refine zw6 rfl ?_)
   conv=>whnf
   refine ⟨i + 1,hi',by omega,?_⟩
   rw [hfn]
   exact Weak.to 2 rfl (Nat.zero_le _) (Nat.le_of_ble_eq_true rfl) ⟨rfl,rfl,rfl,rfl,rfl,rfl,rfl,rfl,rfl,congrArg I hw,trivial⟩ (hB:=by show (V.belL 2 _ && (belR 2 (rdI (A ++ g)) && true)) = true; rw [rdI_bel,V.belL_d]; rfl)
  have hg2 : 2 ≤ g.length:=by rw [insl] at hl1; omega
  have hgn:=hgs.length_le
  have hE:=fun {L : List Blk} {k : V → List Blk → Prop} h=>fe g hgs hg2 (L:=L) (k:=k) h
  have hD:=fun {L : List Blk} {k : V → List Blk → Prop} h=>fd g.length hg2 (by omega) (L:=L) (k:=k) h
  have hO:=fun {L : List Blk} {k : V → List Blk → Prop} h=>fo g hgs (L:=L) (k:=k) h
  have hbyg:=hby g.length
  have hone : ∀ c ∈ (p.rk fin).cr g.length,(p.rk fin).sp g c = [g]:=by
   rcases fst_none hgf with h | h
   ·omega
   ·exact h
  obtain ⟨y,hy⟩ : ∃ y,y = envO p.res p.clubs g.length fin:=⟨_,rfl⟩
  rw [← hy] at hE hD
  have hs:=fun (b : Int) hb hs=>fun {L : List Blk} {k : V → List Blk → Prop} h=>fs g b hgs (by omega) hb hs (L:=L) (k:=k) h
  have hsl:=fun {L : List Blk} {k : V → List Blk → Prop} (h : k (B true) L)=>rsameL19_c (L:=L) (k:=k) g g (by omega) (by omega) (by rw [decide_eq_true rfl]; exact h)
  generalize (p.rk fin).cr g.length = cs at *
  generalize (p.of g).off = og at *
  have hcsl:=hbyg.len
  repeat' ((conv=>whnf); first|refine zw9 (zw20 hl1) ?_|refine zw10 i _ rfl r1 ?_|refine hE ?_|refine hD ?_|refine zw0 ?_|refine zw1 ?_|refine zw2 (fun h=>?_) (fun h=>?_)|refine zw3 ?_|refine zw4 (fun h=>?_) (fun h=>?_)|refine zw5 _ rfl ?_|refine zw6 rfl ?_)
  conv=>whnf
  refine LoopP.inv (fun j : Nat=>j ≤ cs.length) (fun j=>⟨[(0,.d (ress p.res)),(1,.d (ins p.clubs)),(2,.d (ins p.off)),(4,B fin),(5,.d (ins p.lots)),(9,.ptr 0 0),(13,.d (insL G)),(14,.d (ins Bs)),(16,.own 1 (i + 1) 0 (A ++ g).length),(17,I i),(22,.d (ins cs)),(24,I j)],Tryz.f5.ntmps,[.cells (p.ru.cells.map .d),.row (i + 1) 1 (rdI (A ++ g))],[],none⟩) (fun j=>cs.length - j) 0 (zw22 _) ?_ ?_
  ·exact Weak.to 2 rfl (Nat.zero_le _) (Nat.le_of_ble_eq_true rfl) ⟨rfl,rfl,rfl,rfl,rfl,rfl,rfl,rfl,rfl,rfl,rfl,rfl,trivial⟩ (hB:=by show (V.belL 2 _ && (belR 2 (rdI (A ++ g)) && true)) = true; rw [rdI_bel,V.belL_d]; rfl)
  intro j hj
  by_cases hj' : j < cs.length
  ·have hltj : (j : Int) < ((cs.map fun n=>[DI n]).length : Int):=by rw [insl]; omega
   have hwj : IntKind.i64.wrap ((j : Int) + 1) = ((j + 1 : Nat) : Int):=by rw [wrap_in (by omega)]; omega
   have rc:=ins_at hj'
   have hcm:=List.getElem_mem hj'
   have hs1:=fun {L : List Blk} {k : V → List Blk → Prop} h=>hs _ (hbyg.rg _ hcm) (hone _ hcm) (L:=L) (k:=k) h
   generalize cs[j] = c at *
   have q3 : ([g].map fun es=>[ins es])[0]? = some [ins g]:=rfl
   repeat' ((conv=>whnf); first|refine zw8 (zw19 hltj) ?_|refine zw10 i _ rfl r1 ?_|refine zw10 j _ rfl rc ?_|refine zw10 0 _ rfl q3 ?_|refine zw12 _ (hO ⟨rfl,rfl⟩) ?_|refine zw12 _ (hs1 ⟨rfl,rfl⟩) ?_|refine zw12 _ (hsl ⟨rfl,rfl⟩) ?_|refine zw3 ?_|refine zw0 ?_|refine zw1 ?_|refine zw2 (fun h=>?_) (fun h=>?_)|refine zw3 ?_|refine zw4 (fun h=>?_) (fun h=>?_)|refine zw5 _ rfl ?_|refine zw6 rfl ?_|refine zw7 mixed rfl ?_)
   conv=>whnf
   exact ⟨j + 1,hj',by omega,Weak.to 2 rfl (Nat.zero_le _) (Nat.le_of_ble_eq_true rfl) ⟨rfl,rfl,rfl,rfl,rfl,rfl,rfl,rfl,rfl,rfl,rfl,congrArg I hwj,trivial⟩ (hB:=by show (V.belL 2 _ && (belR 2 (rdI (A ++ g)) && true)) = true; rw [rdI_bel,V.belL_d]; rfl)⟩
  have hltj : ¬ (j : Int) < ((cs.map fun n=>[DI n]).length : Int):=by rw [insl]; omega
  repeat' ((conv=>whnf); first|refine zw9 (zw20 hltj) ?_|refine zw0 ?_|refine zw1 ?_|refine zw2 (fun h=>?_) (fun h=>?_)|refine zw3 ?_|refine zw4 (fun h=>?_) (fun h=>?_)|refine zw5 _ rfl ?_|refine zw6 rfl ?_)
  conv=>whnf
  refine ⟨i + 1,hi',by omega,?_⟩
  rw [hfn]
  exact Weak.to 2 rfl (Nat.zero_le _) (Nat.le_of_ble_eq_true rfl) ⟨rfl,rfl,rfl,rfl,rfl,rfl,rfl,rfl,rfl,congrArg I hw,trivial⟩ (hB:=by show (V.belL 2 _ && (belR 2 (rdI (A ++ g)) && true)) = true; rw [rdI_bel,V.belL_d]; rfl)
 have hlt : ¬ (i : Int) < ((G.map fun es=>[ins es]).length : Int):=by omega
 obtain rfl : i = G.length:=by omega
 rw [List.take_length]
 have hfe:=hperm.length_eq
 have hmem:=fun c=>hperm.mem_iff (a:=c)
 generalize G.flatten = A at *
 have hml : ((p.clubs.map fun n=>[DI n]).length : Int) = (p.clubs.length : Int):=by rw [insl]
 have hee : (A.length : Int) = ((p.clubs.map fun n=>[DI n]).length : Int):=by omega
 repeat' ((conv=>whnf); first|refine zw9 (zw20 hlt) ?_|refine zw3 ?_|refine zw8 (zw19 hee) ?_|refine zw0 ?_|refine zw1 ?_|refine zw2 (fun h=>?_) (fun h=>?_)|refine zw3 ?_|refine zw4 (fun h=>?_) (fun h=>?_)|refine zw5 _ rfl ?_|refine zw6 rfl ?_)
 conv=>whnf
 refine LoopP.inv (fun j : Nat=>j ≤ p.clubs.length) (fun j=>⟨[(1,.d (ins p.clubs)),(16,.own 1 G.length 0 A.length),(27,I j)],Tryz.f5.ntmps,[.cells (p.ru.cells.map .d),.row G.length 1 (rdI A)],[],none⟩) (fun j=>p.clubs.length - j) 0 (zw22 _) ?_ ?_
 ·exact Weak.by ⟨rfl,rfl,rfl,trivial⟩
 intro j hj
 by_cases hj' : j < p.clubs.length
 ·have hltj : (j : Int) < ((p.clubs.map fun n=>[DI n]).length : Int):=by omega
  have hwj : IntKind.i64.wrap ((j : Int) + 1) = ((j + 1 : Nat) : Int):=by rw [wrap_in (by omega)]; omega
  have rc:=ins_at hj'
  have hcm:=(hmem _).2 (List.getElem_mem hj')
  generalize p.clubs[j] = c at *
  have hin : CallP C 25 [.d (ins A),I c] [] fun X L'=>L' = [] ∧ X = B true:=rin19_c A c (by omega) (by rw [List.contains_iff_mem.2 hcm]; exact ⟨rfl,rfl⟩)
  repeat' ((conv=>whnf); first|refine zw8 (zw19 hltj) ?_|refine zw10 j _ rfl rc ?_|refine CallP.lent hin (.cv (.d (cvJ A trivial rfl rfl)) (.keep .nil)) rfl rfl ?_|refine zw3 ?_|refine zw0 ?_|refine zw1 ?_|refine zw2 (fun h=>?_) (fun h=>?_)|refine zw3 ?_|refine zw4 (fun h=>?_) (fun h=>?_)|refine zw5 _ rfl ?_|refine zw6 rfl ?_)
  conv=>whnf
  exact ⟨j + 1,hj',by omega,Weak.by ⟨rfl,rfl,congrArg I hwj,trivial⟩⟩
 have hltj : ¬ (j : Int) < ((p.clubs.map fun n=>[DI n]).length : Int):=by omega
 repeat' ((conv=>whnf); first|refine zw9 (zw20 hltj) ?_|refine zw0 ?_|refine zw1 ?_|refine zw2 (fun h=>?_) (fun h=>?_)|refine zw3 ?_|refine zw4 (fun h=>?_) (fun h=>?_)|refine zw5 _ rfl ?_|refine zw6 rfl ?_)
 conv=>whnf
 exact FinP.drop (n:=0) rfl (zw21 0) rfl rfl ⟨rfl,rfl⟩
theorem call_closed : ∀ xss,TyA C.P Tryz.f5.params.toList xss → (∀ xs ∈ xss,∀ y ∈ xs,Dsm reachBytes y) → CallP C 5 (argVs C.P Tryz.f5.params.toList xss) [] fun X L=>L = [] ∧ X = .d (.bool true):=by
 intro xss h hsm
 match xss,h,hsm with
 | [x1,x2,x3,x4,x5,x6],⟨h1,h2,h3,h4,h5,h6,_⟩,hsm =>
  obtain ⟨x1,rfl,b1⟩:=ress19 h1 (hsm _ (by simp))
  obtain ⟨x2,rfl,b2⟩:=ints19 h2 (hsm _ (by simp))
  obtain ⟨x3,rfl,b3⟩:=ints19 h3 (hsm _ (by simp))
  obtain ⟨x4,rfl,b4⟩:=rulesT h4 (hsm _ (by simp))
  obtain ⟨x5,rfl,b5⟩:=bool19 h5 (hsm _ (by simp))
  obtain ⟨x6,rfl,b6⟩:=ints19 h6 (hsm _ (by simp))
  exact law ⟨x1,x2,x3,x4,x6⟩ x5 b4
theorem contract (H : Type) (enc : TypeId × Value → H) (W : World) (base : Nat) (args : Array Value) (ds gs : List (DataW H)) (before : List MemPlace)
  (hval : ∀ (j : Nat) t v,Tryz.f5.params[j]? = some t → args[j]? = some v → Value.okWide Tryz.prog W .any base t v)
  (hW : DataW.Whole enc Tryz.prog Tryz.f5.params.toList Rows.orderPartitionSpec.vars false W args.toList ds gs before)
  (hz : (DataW.weightsEach Tryz.prog (Tryz.f5.params.toList ++ Rows.orderPartitionSpec.plain.varTypes Tryz.prog) (ds ++ gs)).all (· ≤ reachBytes) = true) (hL : laidMetH Tryz.prog Rows.orderPartitionRow.laid W) :
  Calls Tryz.prog 5 args W fun e W'=>∃ v,e = .returned v ∧ Rows.orderPartitionSpec.post enc Tryz.prog Tryz.f5 false true false false W args v W':=by
 refine law_ofB (C:=C) (l:=plainTys19) kids full plainOk19 bytesOk19 plainLt19 (fun t ht=>?_) rfl rfl Tryz.underlying4 (fun ds hd=>?_) call_closed hval hW hz (glob_ok hL)
 ·have : Tryz.f5.params.toList.all (fun t=>plainTys19.contains t) = true:=by kernel_rfl
  simpa using List.all_eq_true.1 this t ht
 ·match ds,hd with
  | [d1,d2,d3,d4,d5,d6],_=>rfl
theorem laid_met (os : Os) : laidMet Tryz.prog Rows.orderPartitionRow.laid ((laidWorld os).forCall (fun _ _=>0) ⟨#[],#[.slice none 0 0,.slice none 0 0,.slice none 0 0,.agg #[.string ⟨#[]⟩,.int .i64 0,.int .i64 0,.int .i64 0,.slice none 0 0,.slice none 0 0],.bool false,.slice none 0 0],[]⟩).memory :=
 laidMet_of_run' 8 (by kernel_rfl) (by kernel_rfl)
theorem reads (os : Os) {H : Type} (enc : TypeId × Value → H) : ∃ places,DataW.whole enc Tryz.prog ((laidWorld os).forCall (fun _ _=>0) ⟨#[],#[.slice none 0 0,.slice none 0 0,.slice none 0 0,.agg #[.string ⟨#[]⟩,.int .i64 0,.int .i64 0,.int .i64 0,.slice none 0 0,.slice none 0 0],.bool false,.slice none 0 0],[]⟩).memory Tryz.f5.params.toList Rows.orderPartitionSpec.vars false #[.slice none 0 0,.slice none 0 0,.slice none 0 0,.agg #[.string ⟨#[]⟩,.int .i64 0,.int .i64 0,.int .i64 0,.slice none 0 0,.slice none 0 0],.bool false,.slice none 0 0].toList 8 = some ([.nil,.nil,.nil,.agg [.lit (.string []),.lit (.int .i64 0),.lit (.int .i64 0),.lit (.int .i64 0),.nil,.nil],.lit (.bool false),.nil],[],places) :=
 ⟨[],by kernel_rfl⟩
set_option maxRecDepth 100000 in
theorem lifted (os : Os) (started : os.Started) (H : Type) (enc : TypeId × Value → H) (F : Stop.Interp) :
  ReturnsInHanded {} Tryz.checked os 5 .any ((OpenSpec.ofChange Rows.orderPartitionSpec).preRow enc Tryz.prog Tryz.f5 Rows.orderPartitionRow.domain false Rows.orderPartitionRow.laid) (((OpenSpec.ofChange Rows.orderPartitionSpec).at F).post enc Tryz.prog Tryz.f5 false true false false):=by
 obtain ⟨places,hx⟩:=reads os enc
 refine returnsInHanded_of_row (C:=Tryz.checked) (s:=OpenSpec.ofChange Rows.orderPartitionSpec) own started (by kernel_rfl) Tryz.func5
  (witness_row_at (enc:=enc) (C:=Tryz.checked) false (laidWorld os) #[.slice none 0 0,.slice none 0 0,.slice none 0 0,.agg #[.string ⟨#[]⟩,.int .i64 0,.int .i64 0,.int .i64 0,.slice none 0 0,.slice none 0 0],.bool false,.slice none 0 0] rfl (by kernel_rfl) (by kernel_rfl) (by kernel_rfl)
   (OpenSpec.preRow_of_cond 8 hx (by kernel_rfl) (fun k hk=>by cases hk) (by kernel_rfl) (laid_met os))) ?_
 intro W base args ds gs before hval hW _ _ hz hL _ _
 exact contract H enc W base args ds gs before hval hW hz hL
theorem said : Rows.OrderPartitionSaid :=
 OpenClaim.holds_of_cond 5 Tryz.f5 rfl rfl rfl rfl rfl rfl rfl ⟨rfl,rfl,rfl,rfl,rfl⟩ rfl rfl rfl rfl rfl (by kernel_rfl) Tryz.func5 (by kernel_rfl)
  (of_decide_eq_true (by kernel_rfl)) (by unfold Func.isWrapper; first | (rw [if_pos (by decide +kernel)]; kernel_rfl) | (rw [if_neg (by decide +kernel)]; exact ⟨rfl,rfl⟩))
  (fun os started H enc _ F=>by rw [OpenClaim.pre_eq_preRow]; exact lifted os started H enc F)
theorem plain (f : FuncId) (fn : Func) (hf : Tryz.pinned.checked.prog.funcNamed "assize/assizelaw19.OrderPartition" = some f) (hfn : Tryz.pinned.checked.prog.funcs[f]? = some fn) :
  true = Tryz.pinned.checked.prog.looks [] ∧ ∀ (j : Nat) t,fn.params[j]? = some t → Tryz.pinned.checked.prog.wantsStandIn t = false:=by
 obtain rfl : f = 5 := Option.some.inj ((show Tryz.prog.funcNamed "assize/assizelaw19.OrderPartition" = some 5 by kernel_rfl).symm.trans hf) |>.symm
 obtain rfl : fn = Tryz.f5:=(Option.some.inj (Tryz.func5.symm.trans hfn)).symm
 refine ⟨by kernel_rfl,fun j t ht=>?_⟩
 have hall : Tryz.f5.params.toList.all (fun t=>!Tryz.prog.wantsStandIn t) = true:=by kernel_rfl
 have:=List.all_eq_true.1 hall t (by simpa using Array.mem_of_getElem? ht)
 show Tryz.prog.wantsStandIn t = false
 simpa using this
theorem proved : Rows.OrderPartitionCardSaid :=
 Claim7.holds_tied_plain_at .later [] _ _ _ _ said (fun _ h=>by cases h) (by kernel_rfl) (fun _ h=>by cases h) orderPartition_row_tie rfl ⟨rfl,rfl⟩ (by kernel_rfl) rfl plain (by kernel_rfl)
end Go.Proofs.YtihibgcojdfndaaGreatDoor.orderPartition
