import Derived.Test.YtihibgcojdfndaaGreatDoorJGG
set_option maxRecDepth 100000
set_option maxHeartbeats 0
set_option linter.unusedSimpArgs false
set_option linter.unusedVariables false
namespace Go.Proofs.YtihibgcojdfndaaGreatDoor
open Go.Tidy
open Sts (Res Row Worth Game rowsF addF rowC valueF inG known worthOk resOk fieldOk gameV resV ress rowV rowsD)
variable {L : List Blk} {k : V → List Blk → Prop}
theorem gv_app (A x : List (List Int)) : (grV A).take A.length ++ ((x.map fun es=>[ins es]).map fun e=>e.map V.d) = grV (A ++ x):=by
 unfold grV
 rw [List.take_of_length_le (by simp),List.map_append,List.map_map]; rfl
noncomputable def Cp.pt (p : Cp) (fin : Bool) (f : Nat) (g : List Int) : List (List Int):=(grs (rankT (p.rk fin) f g 0)).map (·.1)
theorem go_groups (K : Rk) (f : Nat) (c : Int) : ∀ (ps : List (List Int)) (b : Int),(grs (goT (rankT K f) c ps b)).map (·.1) = (ps.map fun q=>(grs (rankT K f q 0)).map (·.1)).flatten
 | [],b=>rfl
 | q :: ps,b=>by rw [goT,grs_app,List.map_append,go_groups K f c ps c,rank_b K f q b 0]; rfl
theorem pt_count {p : Cp} {fin : Bool} {f : Nat} {g : List Int} (h1 : g.length ≤ f) (h2 : 1 ≤ f) (h3 : 0 < g.length) : (p.pt fin f g).length ≤ g.length:=by
 unfold Cp.pt
 rw [List.length_map]
 exact grs_count _ h1 h2 (List.length_pos_iff.1 h3)
theorem flat_count {f : List Int → List (List Int)} : ∀ ps : List (List Int),(∀ q ∈ ps,(f q).length ≤ q.length) → ((ps.map f).flatten).length ≤ ps.flatten.length
 | [],_=>zw21 _
 | q :: ps,h=>by
  have h1:=h q (by simp)
  have h2:=flat_count ps fun r hr=>h r (by simp [hr])
  rw [List.map_cons,List.flatten_cons,List.flatten_cons,List.length_append,List.length_append]; omega
theorem flat_le (ps : List (List Int)) (j : Nat) : (ps.take j).flatten.length ≤ ps.flatten.length:=by
 have e : ps.flatten = (ps.take j).flatten ++ (ps.drop j).flatten:=by rw [← List.flatten_append,List.take_append_drop]
 rw [e,List.length_append]; omega
theorem insL_e (l : List (List Int)) : ∀ e ∈ l.map (fun es=>[ins es]),e.length = 1:=by
 intro e he; obtain ⟨v,_,rfl⟩:=List.mem_map.1 he; rfl
theorem ranked19t_s (p : Cp) (hL : LCp p) (h0 : openE p 2 p.clubs.contains = 0) (hl1 : p.res.length ≤ 100) (hl2 : p.lots.length ≤ 100) (hl19 : p.clubs.length ≤ 19) (fin : Bool) (h4 : (cmpN p.ru.order).length ≤ 4096) :
  ∀ (d : Nat) (g : List Int),d ≤ 30 → g.Sublist p.clubs → g.length ≤ d → 1 ≤ d → 0 < g.length → ∀ (L : List Blk) (k : V → List Blk → Prop),k (.tup [.d (insL (p.pt fin d g)),B true]) L →
   CallP C 29 [.d (ress p.res),.d (ins p.clubs),.d (ins p.off),.d (ins g),.agg (p.ru.cells.map .d),treV (cmpN p.ru.order),B fin,.d (ins p.lots),I d] L k
 | 0,g,_,_,_,h,_=>absurd h (by decide)
 | d + 1,g,hd30,hsub,hgd,_,hg=>by
  intro L k h
  have ih:=ranked19t_s p hL h0 hl1 hl2 hl19 fin h4 d
  obtain ⟨o1,o2,o3,o4,o5,o6⟩:=open_of h0
  have hfo:=field_of o1
  have ho:=rules_order o4
  have hgl : g.length ≤ p.clubs.length:=hsub.length_le
  have hml : ((g.map fun n=>[DI n]).length : Int) = (g.length : Int):=by rw [insl]
  have hpt:=pt_count (p:=p) (fin:=fin) hgd (by omega) hg
  refine zw25 ?_ rfl (fun _=>rfl) h
  clear h
  have hroot : p.pt fin (d + 1) g = (grs (rankT (p.rk fin) (d + 1) g 0)).map (·.1):=rfl
  rw [rankT] at hroot
  have hdp : (0 : Int) < ((d + 1 : Nat) : Int):=by omega
  by_cases h1 : ((g.map fun n=>[DI n]).length : Int) < 2
  ·have hf : (p.rk fin).fst g = none:=by unfold Rk.fst; rw [if_pos (by omega)]
   rw [hf] at hroot
   simp only [grs,List.map_cons,List.map_nil] at hroot
   rw [hroot,show B true = B (decide ((0 : Int) < ((d + 1 : Nat) : Int))) by rw [decide_eq_true hdp]]
   refine zw24 C_ok Tryz.func29 rfl rfl rfl (zw18 rfl) rfl ?_
   repeat' ((conv=>whnf); first|refine zw8 (zw19 h1) ?_|simp only [Nat.beq_refl,Bool.and_self])
   conv=>whnf
   exact zw16 (L':=[]) (.pair (cvG [g] (zw22 _) rfl rfl) (.d (.d _))) rfl rfl ⟨rfl,rfl⟩
  have h1' : ¬ g.length ≤ 1:=by omega
  have hd0 : ¬ ((d + 1 : Nat) : Int) = 0:=by omega
  have hfst : (p.rk fin).fst g = ((p.rk fin).cr g.length).findSome? ((p.rk fin).try1 g):=by unfold Rk.fst; rw [if_neg h1']
  have heo:=envO_ok p.res (clubs:=p.clubs) (n:=g.length) fin (by omega) (by omega) (by omega) (by omega)
  have hE : ∀ {L : List Blk} {k : V → List Blk → Prop},k (.tup [enV (envO p.res p.clubs g.length fin),I 0]) L → CallP C 21 [.d (ress p.res),.d (ins p.clubs),.d (ins g),B fin] L k:=fun h =>
   Env_c _ _ _ fin (by omega) (by omega) (by omega) (by rw [envX_ok h0 hsub (by omega)]; exact h)
  obtain ⟨hV,hev⟩:=mean_w hL.ru.order ho h4
  have hck0:=checkT_iff.2 hV
  have hX : ∀ {L : List Blk} {k : V → List Blk → Prop},k (.tup [.d (ins ((p.rk fin).cr g.length)),I 0]) L → CallP C 73 [treV (cmpN p.ru.order),enV (envO p.res p.clubs g.length fin)] L k:=fun h =>
   eval_c _ _ (sm_w hL.ru.order ho h4) (by
    unfold evalB evalE
    rw [if_pos ⟨hck0,heo⟩,if_neg (fun hn=>hn hck0),hev _ (box_env.1 heo),heo]; exact h)
  have hof : ∀ {L : List Blk} {k : V → List Blk → Prop},k (.d (ins (p.of g).off)) L → CallP C 24 [.d (ins p.clubs),.d (ins p.off),.d (ins g)] L k:=fun h =>
   offs19_c _ _ _ hfo.1 o2 (by omega) (by omega) (fun c hc=>hsub.subset hc) h
  have hsp : ∀ (b : Int),1 ≤ b ∧ b ≤ 12 → ∀ {L : List Blk} {k : V → List Blk → Prop},k (.tup [.d (insL ((p.rk fin).sp g b)),I 0]) L → CallP C 17 [.d (ress p.res),.d (ins g),.d (ins (p.of g).off),I b,.agg (p.ru.cells.map .d),.d (ins p.lots)] L k:=fun b hb _ _ h =>
   Split_c (p.of g) (lcp _ hl1 (by show g.length ≤ _; omega) (by show (g.map _).length ≤ _; rw [List.length_map]; omega) hl2 hL.ru) (by show g.length ≤ _; omega) b (by rw [of_split h0 hsub hg fin hb]; exact h)
  have hby:=rk_ok hL fin g.length
  generalize envO p.res p.clubs g.length fin = eo at *
  clear heo hev
  generalize cmpN p.ru.order = t at *
  generalize (p.rk fin).cr g.length = cs at *
  have hcl : ((cs.map fun n=>[DI n]).length : Int) = (cs.length : Int):=by rw [insl]
  refine zw24 C_ok Tryz.func29 rfl rfl rfl (zw18 rfl) rfl ?_
  repeat' ((conv=>whnf); first|refine zw9 (zw20 h1) ?_|refine zw9 (zw20 hd0) ?_|refine hE ?_|refine hX ?_)
  conv=>whnf
  refine zw26 (fun i : Nat=>i ≤ cs.length ∧ (p.rk fin).fst g = (cs.drop i).findSome? ((p.rk fin).try1 g)) (fun i=>⟨[(0,.d (ress p.res)),(1,.d (ins p.clubs)),(2,.d (ins p.off)),(3,.d (ins g)),(6,B fin),(7,.d (ins p.lots)),(8,I ((d + 1 : Nat) : Int)),(13,.ptr 0 0),(14,.ptr 1 0),(22,.d (ins cs)),(24,I i)],Tryz.f29.ntmps,[.cells (p.ru.cells.map .d),.cells [.d (nds t)],.cells (eo.cells.map .d)],[],none⟩) (fun i=>cs.length - i) 0 ⟨zw22 _,by rw [List.drop_zero]; exact hfst⟩ ?_ ?_
  ·exact zw27 ⟨rfl,rfl,rfl,rfl,rfl,rfl,rfl,rfl,rfl,rfl,rfl,trivial⟩
  rintro i ⟨hi,hd⟩
  by_cases hi' : i < cs.length
  rotate_left
  ·have hlt : ¬ (i : Int) < ((cs.map fun n=>[DI n]).length : Int):=by omega
   rw [List.drop_eq_nil_of_le (by omega)] at hd
   rw [hd] at hroot
   simp only [List.findSome?_nil,grs,List.map_cons,List.map_nil] at hroot
   rw [hroot]
   repeat' ((conv=>whnf); first|refine zw9 (zw20 hlt) ?_|simp only [Nat.beq_refl,Bool.and_self])
   conv=>whnf
   exact zw16 (L':=[]) (.pair (cvG [g] (zw22 _) rfl rfl) (.d (.d _))) rfl rfl ⟨rfl,rfl⟩
  have hlt : (i : Int) < ((cs.map fun n=>[DI n]).length : Int):=by omega
  have hcl12:=hby.len
  have hw:=zwW i (by omega)
  have r1:=ins_at hi'
  rw [fst_drop hi'] at hd
  have hrg:=hby.rg _ (List.getElem_mem hi')
  generalize cs[i] = c at *
  have hsc:=fun {L : List Blk} {k : V → List Blk → Prop} h=>hsp c hrg (L:=L) (k:=k) h
  have hms : ((((p.rk fin).sp g c).map fun es=>[ins es]).length : Int) = (((p.rk fin).sp g c).length : Int):=by rw [List.length_map]
  have hne':=sp_ne (p.rk fin) g c
  have hper:=(sp_perm (p.rk fin) g c).length_eq
  have hp0 : ¬ ((((p.rk fin).sp g c).map fun es=>[ins es]).length : Int) = 0:=fun e=>by
   have e : (p.rk fin).sp g c = []:=List.eq_nil_of_length_eq_zero (by omega)
   rw [e] at hper
   simp only [List.flatten_nil,List.length_nil] at hper
   omega
  by_cases h2 : ((((p.rk fin).sp g c).map fun es=>[ins es]).length : Int) = 1
  ·have ht : (p.rk fin).try1 g c = none:=by unfold Rk.try1; rw [if_pos (by omega)]
   rw [ht] at hd
   repeat' ((conv=>whnf); first|refine zw8 (zw19 hlt) ?_|refine zw8 (zw19 h2) ?_|refine zw9 (zw20 hp0) ?_|refine zw3 ?_|refine zw10 i _ rfl r1 ?_|refine zw12 _ (hof ⟨rfl,rfl⟩) ?_|refine zw12 _ (hsc ⟨rfl,rfl⟩) ?_|refine zw0 ?_|refine zw6 rfl ?_|refine zw7 mixed rfl ?_)
   conv=>whnf
   exact ⟨i + 1,⟨hi',hd⟩,by omega,Weak.by ⟨rfl,rfl,rfl,rfl,rfl,rfl,rfl,rfl,rfl,rfl,congrArg I hw,trivial⟩⟩
  have ht : (p.rk fin).try1 g c = some (c,(p.rk fin).sp g c):=by unfold Rk.try1; rw [if_neg (by omega)]
  rw [ht] at hd
  rw [hd] at hroot
  simp only at hroot
  rw [grs,go_groups] at hroot
  have hlt':=fun q hq=>sp_lt (K:=p.rk fin) (g:=g) (c:=c) (by omega) (p:=q) hq
  have hps : ∀ q ∈ (p.rk fin).sp g c,q.Sublist p.clubs:=fun q hq=>(sp_sub hq).trans hsub
  clear hd ht hE hX hsp hV hck0
  generalize (p.rk fin).sp g c = ps at *
  have hrt : p.pt fin (d + 1) g = (ps.map (p.pt fin d)).flatten:=hroot
  have hfl : ∀ j,((ps.take j).map (p.pt fin d)).flatten.length ≤ 100:=fun j=>by
   have h1:=flat_count (f:=p.pt fin d) (ps.take j) fun q hq=>by
    have hq:=List.mem_of_mem_take hq
    have:=hlt' q hq
    have:=List.length_pos_iff.2 (hne' q hq)
    exact pt_count (by omega) (by omega) (by omega)
   have h2:=flat_le ps j
   omega
  rw [hrt]
  repeat' ((conv=>whnf); first|refine zw8 (zw19 hlt) ?_|refine zw9 (zw20 h2) ?_|refine zw9 (zw20 hp0) ?_|refine zw3 ?_|refine zw10 i _ rfl r1 ?_|refine zw12 _ (hof ⟨rfl,rfl⟩) ?_|refine zw12 _ (hsc ⟨rfl,rfl⟩) ?_|refine zw0 ?_|refine zw6 rfl ?_|refine zw7 mixed rfl ?_)
  conv=>whnf
  clear hsc hof hi hi' r1 hlt
  refine zw26 (fun j : Nat=>j ≤ ps.length) (fun j=>⟨[(0,.d (ress p.res)),(1,.d (ins p.clubs)),(2,.d (ins p.off)),(3,.d (ins g)),(6,B fin),(7,.d (ins p.lots)),(8,I ((d + 1 : Nat) : Int)),(13,.ptr 0 0),(14,.ptr 1 0),(25,.d (insL ps)),(27,.own 3 j 0 ((ps.take j).map (p.pt fin d)).flatten.length),(28,I j)],Tryz.f29.ntmps,[.cells (p.ru.cells.map .d),.cells [.d (nds t)],.cells (eo.cells.map .d),.row j 1 (grV ((ps.take j).map (p.pt fin d)).flatten)],[],none⟩) (fun j=>ps.length - j) 0 (zw22 _) ?_ ?_
  ·exact (Weak.nilOwn 27 1 rfl (by decide)).trans (zw27 ⟨rfl,rfl,rfl,rfl,rfl,rfl,rfl,rfl,rfl,rfl,rfl,rfl,trivial⟩)
  intro j hj
  by_cases hj' : j < ps.length
  rotate_left
  ·have hltj : ¬ (j : Int) < ((ps.map fun es=>[ins es]).length : Int):=by omega
   obtain rfl : j = ps.length:=by omega
   rw [List.take_length]
   repeat' ((conv=>whnf); refine zw9 (zw20 hltj) ?_)
   conv=>whnf
   exact zw16 (L':=[]) (.pair (cvG _ (zw22 _) rfl rfl) (.d (.d _))) rfl rfl ⟨rfl,rfl⟩
  have hltj : (j : Int) < ((ps.map fun es=>[ins es]).length : Int):=by omega
  have hpl : ps.length ≤ 100:=by have:=flat_ge ps hne'; omega
  have hwj:=zwW j (by omega)
  have hwd : IntKind.i64.wrap (((d + 1 : Nat) : Int) - 1) = (d : Int):=by rw [wrap_in (by omega)]; omega
  have r2:=insL_at hj'
  have hqm:=List.getElem_mem hj'
  have l1:=hlt' _ hqm
  have l2:=List.length_pos_iff.2 (hne' _ hqm)
  have hq:=ih ps[j] (by omega) (hps _ hqm) (by omega) (by omega) l2
  rw [← hwd] at hq
  have hft : ((ps.take (j + 1)).map (p.pt fin d)).flatten = ((ps.take j).map (p.pt fin d)).flatten ++ p.pt fin d ps[j]:=by
   rw [List.take_succ_eq_append_getElem hj',List.map_append,List.flatten_append]; simp
  have hf1:=hfl (j + 1)
  rw [hft,List.length_append] at hf1
  have hge : ¬ (((g.map fun n=>[DI n]).length : Nat) : Int) ≤ (((ps[j]).map fun n=>[DI n]).length : Int):=by rw [insl,insl]; omega
  have hap : ((ps.take j).map (p.pt fin d)).flatten.length + (((p.pt fin d ps[j]).map fun es=>[ins es]).map fun e=>e.map V.d).length ≤ 100:=by rw [List.length_map,List.length_map]; exact hf1
  have hnl : ((ps.take j).map (p.pt fin d)).flatten.length + (((p.pt fin d ps[j]).map fun es=>[ins es]).map fun e=>e.map V.d).length = ((ps.take (j + 1)).map (p.pt fin d)).flatten.length:=by rw [List.length_map,List.length_map,hft,List.length_append]
  have hrd : [Blk.cells (p.ru.cells.map .d),.cells [.d (nds t)],.cells (eo.cells.map .d),.row (j + 1) 1 ((grV ((ps.take j).map (p.pt fin d)).flatten).take ((ps.take j).map (p.pt fin d)).flatten.length ++ (((p.pt fin d ps[j]).map fun es=>[ins es]).map fun e=>e.map V.d))] = [.cells (p.ru.cells.map .d),.cells [.d (nds t)],.cells (eo.cells.map .d),.row (j + 1) 1 (grV ((ps.take (j + 1)).map (p.pt fin d)).flatten)]:=by rw [gv_app,hft]
  clear hft hf1
  generalize p.pt fin d ps[j] = u at *
  generalize ((ps.take j).map (p.pt fin d)).flatten = A at *
  generalize ps[j] = q at *
  repeat' ((conv=>whnf); first|refine zw8 (zw19 hltj) ?_|refine zw9 (zw20 hge) ?_|refine zw3 ?_|refine zw10 j _ rfl r2 ?_|refine zw12 _ (hq _ _ ⟨rfl,rfl⟩) ?_|refine zw6 (insL_e u) ?_|refine zw6 (zw23 hap (zw18 rfl)) ?_|simp only [Nat.beq_refl,Bool.and_self]|refine zw0 ?_|refine zw6 rfl ?_|refine zw7 mixed rfl ?_)
  conv=>whnf
  exact ⟨j + 1,hj',by omega,Weak.to 4 (Eq.trans rfl hrd) (zw22 _) (zw18 rfl) ⟨rfl,rfl,rfl,rfl,rfl,rfl,rfl,rfl,rfl,rfl,congrArg (fun n=>norm (V.own 3 (j + 1) 0 n)) hnl,congrArg I hwj,trivial⟩ (hB:=by show (V.belL 4 _ && (V.belL 4 _ && (V.belL 4 _ && (belR 4 _ && true)))) = true; rw [V.belL_d,V.belL_d,gr_bel]; rfl)⟩
end Go.Proofs.YtihibgcojdfndaaGreatDoor
