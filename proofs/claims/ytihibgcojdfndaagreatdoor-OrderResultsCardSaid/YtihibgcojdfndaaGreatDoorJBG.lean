import Derived.Test.YtihibgcojdfndaaGreatDoorJBF
set_option maxRecDepth 100000
set_option maxHeartbeats 0
set_option linter.unusedSimpArgs false
set_option linter.unusedVariables false
namespace Go.Proofs.YtihibgcojdfndaaGreatDoor
open Go.Tidy
open Sts (Res Row Worth Game rowsF addF rowC valueF inG known worthOk resOk fieldOk gameV resV ress rowV)
variable {L : List Blk} {k : V → List Blk → Prop}
def offsA (clubs off g : List Int) (i k : Nat) : List Int:=(g.take i).map (offF clubs off) ++ (if clubs.idxOf (g.getD i 0) < k then [offF clubs off (g.getD i 0)] else [])
theorem offs19_c (clubs off g : List Int) (hn : clubs.Nodup) (hl : off.length = clubs.length) (hc : clubs.length ≤ 100) (hgl : g.length ≤ 100) (hg : ∀ c ∈ g,c ∈ clubs) (h : k (.d (ins (g.map (offF clubs off)))) L) : CallP C 24 [.d (ins clubs),.d (ins off),.d (ins g)] L k:=by
 have hml : ((clubs.map fun n=>[DI n]).length : Int) = (clubs.length : Int):=by rw [insl]
 have hmo : ((off.map fun n=>[DI n]).length : Int) = (off.length : Int):=by rw [insl]
 have hmg : ((g.map fun n=>[DI n]).length : Int) = (g.length : Int):=by rw [insl]
 refine CallP.pure ?_ rfl (fun _=>rfl) h
 clear h
 refine callP_of C_ok Tryz.func24 rfl rfl (n:=_) rfl (zw18 rfl) (rs:=_) rfl ?_
 repeat' ((conv=>whnf); first|refine zw0 ?_|refine zw1 ?_|refine zw2 (fun h=>?_) (fun h=>?_)|refine zw3 ?_|refine zw4 (fun h=>?_) (fun h=>?_)|refine zw5 _ rfl ?_|refine zw6 rfl ?_)
 conv=>whnf
 refine LoopP.inv (fun i : Nat=>i ≤ g.length) (fun i=>⟨[(0,.d (ins clubs)),(1,.d (ins off)),(2,.d (ins g)),(7,.own 0 ((g.take i).map (offF clubs off)).length 0 ((g.take i).map (offF clubs off)).length),(8,I i)],Tryz.f24.ntmps,[.row ((g.take i).map (offF clubs off)).length 1 (rdI ((g.take i).map (offF clubs off)))],[],none⟩) (fun i=>g.length - i) 0 (zw22 _) ?_ ?_
 ·exact (Weak.nilOwn 7 1 rfl (by decide)).trans (Weak.by ⟨rfl,rfl,rfl,rfl,rfl,trivial⟩)
 intro i hi
 by_cases hi' : i < g.length
 ·have hlt : (i : Int) < ((g.map fun n=>[DI n]).length : Int):=by omega
  have hw : IntKind.i64.wrap ((i : Int) + 1) = ((i + 1 : Nat) : Int):=by rw [wrap_in (by omega)]; omega
  have r1:=ins_at hi'
  have hgd : g.getD i 0 = g[i]:=getDI hi'
  have hm:=hg _ (List.getElem_mem hi')
  have hix:=List.idxOf_lt_length_of_mem hm
  have hA0 : offsA clubs off g i 0 = (g.take i).map (offF clubs off):=by unfold offsA; rw [if_neg (Nat.not_lt_zero _),List.append_nil]
  have hA1 : offsA clubs off g i clubs.length = (g.take (i + 1)).map (offF clubs off):=by unfold offsA; rw [hgd,if_pos hix,take_next hi',List.map_append]; rfl
  have hAl : ∀ k,(offsA clubs off g i k).length ≤ i + 1:=fun k=>by
   unfold offsA
   rw [List.length_append,List.length_map,List.length_take]
   split
   ·simp only [List.length_singleton]; omega
   ·simp only [List.length_nil]; omega
  have hAk : ∀ (k : Nat) (h : k < clubs.length),(clubs[k] = g[i] → offsA clubs off g i (k + 1) = offsA clubs off g i k ++ [off[k]'(by omega)]) ∧ (clubs[k] ≠ g[i] → offsA clubs off g i (k + 1) = offsA clubs off g i k):=fun k h=>by
   have hxk:=idx_take hn h
   refine ⟨fun e=>?_,fun e=>?_⟩
   ·have e2 : clubs.idxOf (g.getD i 0) = k:=by rw [hgd,← e]; exact hxk
    unfold offsA
    rw [e2,if_pos (by omega),if_neg (by omega),List.append_nil]
    congr 2
    unfold offF
    rw [if_pos (by rw [hgd]; exact hm),e2,getDI (by omega)]
   ·have e2 : clubs.idxOf (g.getD i 0) ≠ k:=fun e3=>e (by
     rw [hgd] at e3
     have : clubs[clubs.idxOf g[i]] = g[i]:=List.getElem_idxOf hix
     rw [← this]
     congr 1
     exact e3.symm)
    unfold offsA
    by_cases h2 : clubs.idxOf (g.getD i 0) < k
    ·rw [if_pos h2,if_pos (by omega)]
    ·rw [if_neg h2,if_neg (by omega)]
  generalize offsA clubs off g i = A at *
  rw [← hA0]
  repeat' ((conv=>whnf); first|refine zw8 (zw19 hlt) ?_|refine zw0 ?_|refine zw1 ?_|refine zw2 (fun h=>?_) (fun h=>?_)|refine zw3 ?_|refine zw4 (fun h=>?_) (fun h=>?_)|refine zw5 _ rfl ?_|refine zw6 rfl ?_)
  conv=>whnf
  refine LoopP.inv (fun j : Nat=>j ≤ clubs.length) (fun j=>⟨[(0,.d (ins clubs)),(1,.d (ins off)),(2,.d (ins g)),(7,.own 0 (A j).length 0 (A j).length),(8,I i),(9,I j)],Tryz.f24.ntmps,[.row (A j).length 1 (rdI (A j))],[],none⟩) (fun j=>clubs.length - j) 0 (zw22 _) ?_ ?_
  ·exact Weak.by ⟨rfl,rfl,rfl,rfl,rfl,rfl,trivial⟩
  intro j hj
  by_cases hj' : j < clubs.length
  ·have hltj : (j : Int) < ((clubs.map fun n=>[DI n]).length : Int):=by omega
   have hlto : (j : Int) < ((off.map fun n=>[DI n]).length : Int):=by omega
   have hwj : IntKind.i64.wrap ((j : Int) + 1) = ((j + 1 : Nat) : Int):=by rw [wrap_in (by omega)]; omega
   have r2:=ins_at hj'
   have r3:=ins_at (l:=off) (i:=j) (by omega)
   have hk:=hAk j hj'
   have hal:=hAl j
   by_cases hq : clubs[j] = g[i]
   ·have e:=hk.1 hq
    have hap : ∀ {X : Prop},X → Need ((A j).length + 1 ≤ 4294967296) X:=fun h=>zw6 (by omega) h
    have e1 : [Blk.row ((A j).length + 1) 1 ((rdI (A j)).take (A j).length ++ [[I (off[j]'(by omega))]])] = [.row (A (j + 1)).length 1 (rdI (A (j + 1)))]:=by
     rw [e,List.length_append,List.length_singleton,List.take_of_length_le (by unfold rdI; simp)]
     unfold rdI; rw [List.map_append]; rfl
    have e2 : (A j).length + 1 = (A (j + 1)).length:=by rw [e]; simp
    generalize clubs[j] = x at *
    generalize g[i] = y at *
    generalize off[j]'(by omega) = z at *
    repeat' ((conv=>whnf); first|refine zw8 (zw19 hltj) ?_|refine zw8 (zw19 hlto) ?_|refine zw8 (zw19 hq) ?_|refine zw10 j _ rfl r2 ?_|refine zw10 i _ rfl r1 ?_|refine zw10 j _ rfl r3 ?_|simp only [Nat.beq_refl,Bool.and_self]|refine hap ?_|refine zw0 ?_|refine zw1 ?_|refine zw2 (fun h=>?_) (fun h=>?_)|refine zw3 ?_|refine zw4 (fun h=>?_) (fun h=>?_)|refine zw5 _ rfl ?_|refine zw6 rfl ?_|refine zw7 mixed rfl ?_)
    conv=>whnf
    refine ⟨j + 1,hj',by omega,Weak.to 1 (Eq.trans rfl e1) (zw22 _) (zw18 rfl) ⟨rfl,rfl,rfl,?_,rfl,congrArg I hwj,trivial⟩ (hB:=by show (belR 1 (rdI (A (j + 1))) && true) = true; rw [rdI_bel]; rfl)⟩
    show norm (.own 0 ((A j).length + 1) 0 ((A j).length + 1)) = norm (.own 0 (A (j + 1)).length 0 (A (j + 1)).length)
    rw [e2]
   ·have e:=hk.2 hq
    generalize clubs[j] = x at *
    generalize g[i] = y at *
    repeat' ((conv=>whnf); first|refine zw8 (zw19 hltj) ?_|refine zw8 (zw19 hlto) ?_|refine zw9 (zw20 hq) ?_|refine zw10 j _ rfl r2 ?_|refine zw10 i _ rfl r1 ?_|refine zw0 ?_|refine zw1 ?_|refine zw2 (fun h=>?_) (fun h=>?_)|refine zw3 ?_|refine zw4 (fun h=>?_) (fun h=>?_)|refine zw5 _ rfl ?_|refine zw6 rfl ?_|refine zw7 mixed rfl ?_)
    conv=>whnf
    refine ⟨j + 1,hj',by omega,?_⟩
    rw [e]
    exact Weak.by ⟨rfl,rfl,rfl,rfl,rfl,congrArg I hwj,trivial⟩
  have hltj : ¬ (j : Int) < ((clubs.map fun n=>[DI n]).length : Int):=by omega
  obtain rfl : j = clubs.length:=by omega
  rw [hA1]
  repeat' ((conv=>whnf); first|refine zw9 (zw20 hltj) ?_|refine zw0 ?_|refine zw1 ?_|refine zw2 (fun h=>?_) (fun h=>?_)|refine zw3 ?_|refine zw4 (fun h=>?_) (fun h=>?_)|refine zw5 _ rfl ?_|refine zw6 rfl ?_|refine zw7 mixed rfl ?_)
  conv=>whnf
  exact ⟨i + 1,hi',by omega,Weak.by ⟨rfl,rfl,rfl,rfl,congrArg I hw,trivial⟩⟩
 have hlt : ¬ (i : Int) < ((g.map fun n=>[DI n]).length : Int):=by omega
 obtain rfl : i = g.length:=by omega
 rw [List.take_length]
 repeat' ((conv=>whnf); first|refine zw9 (zw20 hlt) ?_|refine zw0 ?_|refine zw1 ?_|refine zw2 (fun h=>?_) (fun h=>?_)|refine zw3 ?_|refine zw4 (fun h=>?_) (fun h=>?_)|refine zw5 _ rfl ?_|refine zw6 rfl ?_|refine zw7 mixed rfl ?_)
 conv=>whnf
 exact FinP.data (L':=[]) (.d (cvJ _ (zw22 _) rfl rfl)) rfl rfl ⟨rfl,rfl⟩
def Cp.of (p : Cp) (g : List Int) : Cp:=⟨p.res,g,g.map (offF p.clubs p.off),p.ru,p.lots⟩
theorem of_field {g l : List Int} {n m : Nat} (h : fieldOk l n = true) (hg : g.Sublist l) (h2 : m ≤ g.length) : fieldOk g m = true:=by
 unfold fieldOk at h ⊢
 simp only [Bool.and_eq_true,decide_eq_true_eq] at h ⊢
 refine ⟨⟨?_,h2⟩,Nat.le_trans hg.length_le h.2⟩
 have hlt:=Sts.incr_lt h.1.1
 rw [Sts.incr_iff]
 intro j c hj
 have hjl:=lt_of_get hj
 have hr : ∀ d ∈ l,0 ≤ d ∧ d < 192:=fun d hd=>by
  obtain ⟨i,hi,rfl⟩:=List.mem_iff_getElem.1 hd
  exact ((Sts.incr_iff _).1 h.1.1 i _ (List.getElem?_eq_getElem hi)).1
 refine ⟨hr c (hg.subset (List.mem_of_getElem? hj)),fun d h0 hd=>?_⟩
 have hp : g.Pairwise (· < ·):=List.Pairwise.sublist hg (hlt.imp fun h=>by omega)
 have hdl:=lt_of_get hd
 rw [List.pairwise_iff_getElem] at hp
 have:=hp (j - 1) j hdl hjl (by omega)
 rw [List.getElem?_eq_getElem hjl] at hj
 rw [List.getElem?_eq_getElem hdl] at hd
 cases hj; cases hd
 exact this
theorem of_open {p : Cp} {g : List Int} (h0 : openE p 2 p.clubs.contains = 0) (hg : g.Sublist p.clubs) (h1 : 1 ≤ g.length) : openE (p.of g) 1 (fun _=>true) = 0:=by
 obtain ⟨o1,o2,o3,o4,o5,o6⟩:=open_of h0
 refine open_iff.2 ⟨of_field o1 hg h1,?_,?_,o4,?_,o6⟩
 ·show (g.map _).length = g.length
  rw [List.length_map]
 ·show offOk (g.map (offF p.clubs p.off)) = true
  unfold offOk at o3 ⊢
  rw [List.all_eq_true] at o3 ⊢
  intro x hx
  obtain ⟨c,hc,rfl⟩:=List.mem_map.1 hx
  have hcc:=hg.subset hc
  have hi:=List.idxOf_lt_length_of_mem hcc
  unfold offF
  rw [if_pos hcc,getDI (by omega)]
  exact o3 _ (List.getElem_mem _)
 ·have h:=ressV_alt.1 o5
  exact ressV_alt.2 ⟨fun y hy=>⟨(h.1 y hy).1,rfl,rfl⟩,h.2⟩
theorem of_val {p : Cp} {g : List Int} (h0 : openE p 2 p.clubs.contains = 0) (hg : g.Sublist p.clubs) (b : Int) {c : Int} (hc : c ∈ g) : valC (p.of g) g b c = valC p g b c:=by
 obtain ⟨o1,o2,o3,o4,o5,o6⟩:=open_of h0
 have hn:=(field_of o1).1
 have hgn : g.Nodup:=hg.nodup hn
 have hcc:=hg.subset hc
 unfold valC
 have e1 : valP (lotTab (p.of g).clubs (p.of g).lots (p.of g).lots.length) c = valP (lotTab p.clubs p.lots p.lots.length) c:=by
  rw [lot_val (lots_nodup o6) hcc]
  exact lot_val (clubs:=g) (lots_nodup o6) hc
 have e2 : valP (offTab (p.of g).clubs (p.of g).off (p.of g).clubs.length) c = valP (offTab p.clubs p.off p.clubs.length) c:=by
  rw [off_val hn o2]
  refine (off_val (clubs:=g) (off:=g.map (offF p.clubs p.off)) hgn (by rw [List.length_map]) c).trans ?_
  have hi:=List.idxOf_lt_length_of_mem hc
  have h3 : offF g (g.map (offF p.clubs p.off)) c = (g.map (offF p.clubs p.off)).getD (g.idxOf c) 0:=if_pos hc
  rw [h3,getDI (by rw [List.length_map]; exact hi),List.getElem_map,List.getElem_idxOf]
 rw [e1,e2]
 rfl
theorem of_split {p : Cp} {g : List Int} (h0 : openE p 2 p.clubs.contains = 0) (hg : g.Sublist p.clubs) (h1 : 1 ≤ g.length) (fin : Bool) {b : Int} (hb : 1 ≤ b ∧ b ≤ 12) : splitX (p.of g) b = .tup [.d (insL ((p.rk fin).sp g b)),I 0]:=by
 unfold splitX
 rw [if_neg (fun h=>h (of_open h0 hg h1)),if_neg (by omega)]
 have e : splitF (valC (p.of g) (p.of g).clubs b) (p.of g).clubs = (p.rk fin).sp g b:=by
  show (clsF (valC (p.of g) g b) g).map (·.2) = (clsF (valC p g b) g).map (·.2)
  rw [show clsF (valC (p.of g) g b) g = clsF (valC p g b) g from cls_congr fun x hx=>of_val h0 hg b hx]
 rw [e]
theorem gs_adj {p : Cp} (hL : LCp p) {fin : Bool} (h1 : 1 ≤ p.clubs.length) (hn : p.clubs.Nodup) {i : Nat} (h0 : 0 < i) (hi : i < (p.gs fin).length) {a z : Int} (ha : a ∈ ((p.gs fin)[i - 1]'(by omega)).1) (hz : z ∈ (p.gs fin)[i].1) : bet a z (p.evs fin) 0 = (p.gs fin)[i].2 ∧ 1 ≤ (p.gs fin)[i].2 ∧ (p.gs fin)[i].2 ≤ 12:=by
 have hsp : p.gs fin = (p.gs fin).take (i - 1) ++ (p.gs fin)[i - 1] :: (p.gs fin)[i] :: (p.gs fin).drop (i + 1):=by
  have e1:=List.take_append_drop (i - 1) (p.gs fin)
  rw [List.drop_eq_getElem_cons (show i - 1 < (p.gs fin).length by omega),show i - 1 + 1 = i by omega,List.drop_eq_getElem_cons hi] at e1
  exact e1.symm
 have hb:=bet_adj (p.rk fin) p.clubs.length p.clubs 0 hn (zw21 _) _ _ _ _ hsp ha hz 0
 refine ⟨hb,?_⟩
 have hma:=(gs_mem (List.getElem_mem (show i - 1 < (p.gs fin).length by omega))).1.subset ha
 have hmz:=(gs_mem (List.getElem_mem hi)).1.subset hz
 have hnd:=gs_nodup p fin h1 hn
 have hd:=bet_diff19 hL (fin:=fin) h1 hn hma hmz fun e=>by
  have l1 : i - 1 < ((p.gs fin).map (·.1)).length:=by rw [List.length_map]; omega
  have l2 : i < ((p.gs fin).map (·.1)).length:=by rw [List.length_map]; omega
  rw [inP_at hnd l1 (a:=a) (by rw [List.getElem_map]; exact ha),inP_at hnd l2 (a:=z) (by rw [List.getElem_map]; exact hz)] at e
  omega
 rw [show bet a z (p.evs fin) 0 = (p.gs fin)[i].2 from hb] at hd
 exact hd
theorem gs_head {p : Cp} {fin : Bool} (h1 : 1 ≤ p.clubs.length) (h : 0 < (p.gs fin).length) : (p.gs fin)[0].2 = 0:=by
 obtain ⟨g,r,e⟩:=rank_head (p.rk fin) p.clubs.length p.clubs 0 (zw21 _) h1
 have e : p.gs fin = (g,0) :: r:=e
 simp only [e,List.getElem_cons_zero]
end Go.Proofs.YtihibgcojdfndaaGreatDoor
namespace Go.Proofs.YtihibgcojdfndaaGreatDoor
open Go.Tidy
open Sts (Res Row Worth Game rowsF addF rowC valueF inG known worthOk resOk fieldOk gameV resV ress rowV)
theorem pair_field {y : Res} (h : resOk y) : fieldOk (pairI y.game.home y.game.away) 1 = true ∧ (pairI y.game.home y.game.away).contains y.game.home = true ∧ (pairI y.game.home y.game.away).contains y.game.away = true:=by
 unfold Sts.resOk Sts.Game.ok at h
 obtain ⟨⟨_,_,h3,h4,h5⟩,_⟩:=h
 unfold pairI
 split
 ·refine ⟨?_,by simp,by simp⟩
  unfold Sts.fieldOk
  simp only [Sts.incr,Bool.and_eq_true,decide_eq_true_eq,List.length_cons,List.length_nil]
  omega
 ·refine ⟨?_,by simp,by simp⟩
  unfold Sts.fieldOk
  simp only [Sts.incr,Bool.and_eq_true,decide_eq_true_eq,List.length_cons,List.length_nil]
  omega
theorem tally_club (w : Worth) (y : Res) (hw : worthOk w) (h : resOk y) (c : Int) : (Sts.tally w [y] rowC c).club = c:=by
 rw [(Sts.tally_sum hw (l:=[y]) (fun r hr=>by rw [List.mem_singleton.1 hr]; exact h) (by simp) c).1]; rfl
theorem rows_one {w : Worth} {y : Res} (hw : worthOk w) (h : resOk y) : rowsF [y] (pairI y.game.home y.game.away) w = ((pairI y.game.home y.game.away).map (Sts.tally w [y] rowC),0):=by
 obtain ⟨h1,h2,h3⟩:=pair_field h
 refine Sts.rowsF_ok ⟨h1,hw,fun r hr=>by rw [List.mem_singleton.1 hr]; exact h,fun r hr=>?_⟩
 rw [List.mem_singleton.1 hr]
 unfold Sts.known
 rw [h2,h3]; rfl
theorem step_sum {w : Worth} (hw : worthOk w) {l : List Res} (hl : ∀ r ∈ l,resOk r) (hll : l.length ≤ 90) {y : Res} (h : resOk y) {c : Int} (hc : 0 ≤ c ∧ c ≤ 191) : rowStep w c (Sts.sumRow w c l) y = Sts.sumRow w c (l ++ [y]):=by
 have hy : ∀ r ∈ [y],resOk r:=fun r hr=>by rw [List.mem_singleton.1 hr]; exact h
 have hne : y.game.home ≠ y.game.away:=by unfold Sts.resOk Sts.Game.ok at h; exact h.1.2.2.2.2
 have hadd:=Sts.add_sums hw hl hy (by omega) (by simp) hc
 rw [Sts.sumRow_comm] at hadd
 have ht:=(Sts.tally_sum hw hy (by simp) c).1
 unfold rowStep
 cases hh : hasC c y with
 | false =>
  rw [if_neg (by decide)]
  unfold hasC at hh
  rw [Bool.or_eq_false_iff,decide_eq_false_iff_not,decide_eq_false_iff_not] at hh
  have hz : ∀ δ : Sts.Side → Int,Sts.tsum δ c (l ++ [y]) = Sts.tsum δ c l:=fun δ=>by
   rw [Sts.tsum_append]
   simp only [Sts.tsum]
   rw [if_neg (fun e=>hh.1 e.symm),if_neg (fun e=>hh.2 e.symm)]; omega
  unfold Sts.sumRow
  simp only [hz]
 | true =>
  rw [if_pos rfl,rows_one hw h]
  unfold hasC at hh
  rw [Bool.or_eq_true,decide_eq_true_eq,decide_eq_true_eq] at hh
  have hcl:=tally_club w y hw h
  have hcs : (Sts.sumRow w c (l ++ [y])).club = c:=rfl
  unfold addS
  have key : ∀ a b : Int,a ≠ b → (c = a ∨ c = b) → (List.foldl (fun r s=>if s.club = c then (addF r s).1 else r) (Sts.sumRow w c l) ([a,b].map (Sts.tally w [y] rowC))) = Sts.sumRow w c (l ++ [y]):=fun a b hab hcab=>by
   simp only [List.map_cons,List.map_nil,List.foldl_cons,List.foldl_nil,hcl]
   rcases hcab with e | e
   ·subst e
    rw [if_neg (fun e=>hab e.symm),if_pos rfl,ht,hadd]
   ·subst e
    rw [if_pos rfl,if_neg hab,ht,hadd]
  unfold pairI
  split
  ·exact key _ _ (Ne.symm hne) (hh.elim (fun e=>.inr e.symm) (fun e=>.inl e.symm))
  ·exact key _ _ hne (hh.elim (fun e=>.inl e.symm) (fun e=>.inr e.symm))
theorem rowS_sum {w : Worth} (hw : worthOk w) {l : List Res} (hl : ∀ r ∈ l,resOk r) (hll : l.length ≤ 90) {c : Int} (hc : 0 ≤ c ∧ c ≤ 191) : rowS w l c = Sts.sumRow w c l:=by
 have key : ∀ i,i ≤ l.length → rowS w (l.take i) c = Sts.sumRow w c (l.take i):=by
  intro i
  induction i with
  | zero=>intro _; rfl
  | succ i ih =>
   intro h
   have hi : i < l.length:=by omega
   rw [rowS_next w c hi,ih (by omega),Sts.take_next hi]
   exact step_sum hw (fun r hr=>hl r (List.mem_of_mem_take hr)) (by rw [List.length_take]; omega) (hl _ (List.getElem_mem hi)) hc
 have:=key l.length (zw21 _)
 rwa [List.take_length] at this
theorem tsum_perm (δ : Sts.Side → Int) (c : Int) {l m : List Res} (h : l.Perm m) : Sts.tsum δ c l = Sts.tsum δ c m:=by
 induction h with
 | nil=>rfl
 | cons x _ ih=>simp only [Sts.tsum,ih]
 | swap x y l=>simp only [Sts.tsum]; omega
 | trans _ _ h1 h2=>exact h1.trans h2
theorem sumRow_perm (w : Worth) (c : Int) {l m : List Res} (h : l.Perm m) : Sts.sumRow w c l = Sts.sumRow w c m:=by
 unfold Sts.sumRow
 simp only [tsum_perm _ c h]
theorem worth_of {r : Ru} (h : rulesF r = 0) : worthOk r.w:=by
 unfold rulesF at h
 split at h
 ·cases h
 rename_i hb
 unfold headBad at hb
 unfold Sts.worthOk Ru.w
 simp only
 omega
theorem club_rng {l : List Int} {n : Nat} (h : fieldOk l n = true) {c : Int} (hc : c ∈ l) : 0 ≤ c ∧ c ≤ 191:=by
 unfold Sts.fieldOk at h
 simp only [Bool.and_eq_true,decide_eq_true_eq] at h
 obtain ⟨j,hj,rfl⟩:=List.mem_iff_getElem.1 hc
 have:=((Sts.incr_iff l).1 h.1.1 j _ (List.getElem?_eq_getElem hj)).1
 omega
theorem go_congr19 {r s : List Int → Int → List Ev} {c : Int} {P : List Int → Prop} (h : ∀ p b,P p → r p b = s p b) : ∀ {ps : List (List Int)} {b : Int},(∀ p ∈ ps,P p) → goT r c ps b = goT s c ps b
 | [],_,_=>rfl
 | p :: ps,b,hp=>by rw [goT,goT,h p b (hp p (by simp)),go_congr19 h fun q hq=>hp q (by simp [hq])]
theorem rank_congr {K K' : Rk} {U : List Int} (h : ∀ g,g.Sublist U → K.fst g = K'.fst g) : ∀ (f : Nat) (g : List Int) (b : Int),g.Sublist U → rankT K f g b = rankT K' f g b
 | 0,g,b,_=>rfl
 | f + 1,g,b,hg=>by
  rw [rankT,rankT,← h g hg]
  cases hf : K.fst g with
  | none=>rfl
  | some x =>
   obtain ⟨c,parts⟩:=x
   simp only
   obtain ⟨_,rfl,_,_⟩:=fst_some hf
   rw [go_congr19 (P:=fun p=>p.Sublist U) (fun p b hp=>rank_congr h f p b hp) (fun p hp=>(sp_sub hp).trans hg)]
theorem fst_congr {K K' : Rk} {g : List Int} (h1 : K.cr g.length = K'.cr g.length) (h2 : ∀ c ∈ K.cr g.length,∀ x ∈ g,K.val g c x = K'.val g c x) : K.fst g = K'.fst g:=by
 unfold Rk.fst
 split
 ·rfl
 rw [← h1]
 have key : ∀ cs : List Int,(∀ c ∈ cs,∀ x ∈ g,K.val g c x = K'.val g c x) → cs.findSome? (K.try1 g) = cs.findSome? (K'.try1 g):=by
  intro cs
  induction cs with
  | nil=>exact fun _=>rfl
  | cons c cs ih =>
   intro h
   have e : K.sp g c = K'.sp g c:=by unfold Rk.sp splitF; rw [cls_congr (h c (by simp))]
   have e2 : K.try1 g c = K'.try1 g c:=by unfold Rk.try1; rw [e]
   rw [List.findSome?_cons,List.findSome?_cons,e2,ih fun d hd=>h d (by simp [hd])]
 exact key _ h2
def Cp.with (p : Cp) (m : List Res) : Cp:=⟨m,p.clubs,p.off,p.ru,p.lots⟩
theorem ressV_perm {l m : List Res} (h : l.Perm m) (ok : Int → Bool) : ressV l ok = ressV m ok:=by
 have key : ∀ {l m : List Res},l.Perm m → ressV l ok = true → ressV m ok = true:=fun {l m} h h1=>by
  rw [ressV_alt] at h1 ⊢
  exact ⟨fun y hy=>h1.1 y (h.mem_iff.2 hy),fun y hy z hz=>h1.2.1 y (h.mem_iff.2 hy) z (h.mem_iff.2 hz),(h.map _).nodup_iff.1 h1.2.2⟩
 cases h1 : ressV l ok with
 | true=>exact (key h h1).symm
 | false =>
  cases h2 : ressV m ok with
  | false=>rfl
  | true=>rw [key h.symm h2] at h1; cases h1
theorem open_perm (p : Cp) {m : List Res} (h : p.res.Perm m) (n : Nat) (ok : Int → Bool) : openE (p.with m) n ok = openE p n ok:=by
 unfold openE
 show (if _ then _ else if _ then _ else if _ then _ else if ressV m ok = false then _ else _) = _
 rw [← ressV_perm h ok]; rfl
theorem plays_perm {l m : List Res} (h : l.Perm m) (c : Int) : playsN l c = playsN m c:=by
 unfold playsN
 rw [(h.filter (hasC c)).length_eq]
theorem env_perm {l m : List Res} (h : l.Perm m) (clubs : List Int) (n : Int) (fin : Bool) : envO l clubs n fin = envO m clubs n fin:=by
 have e : (fun (n : Int) (c : Int)=>min n (playsN l c)) = fun n c=>min n (playsN m c):=by
  funext n c; rw [plays_perm h]
 unfold envO roundF
 rw [e]
theorem val_perm {p : Cp} {m : List Res} (h : p.res.Perm m) (h0 : openE p 2 p.clubs.contains = 0) (hl : p.res.length ≤ 90) (g : List Int) (b : Int) {c : Int} (hc : c ∈ p.clubs) : valC p g b c = valC (p.with m) g b c:=by
 obtain ⟨o1,o2,o3,o4,o5,o6⟩:=open_of h0
 have hw:=worth_of o4
 have hr:=club_rng o1 hc
 have hres:=fun y hy=>(ress_of o5 y hy).1
 have e1 : rowS p.ru.w p.res c = rowS p.ru.w m c:=by
  rw [rowS_sum hw hres hl hr,rowS_sum hw (fun y hy=>hres y (h.mem_iff.2 hy)) (by rw [← h.length_eq]; exact hl) hr]
  exact sumRow_perm _ c h
 have hf : (inG g p.res).Perm (inG g m):=by unfold Sts.inG; exact h.filter _
 have e2 : rowS p.ru.w (inG g p.res) c = rowS p.ru.w (inG g m) c:=by
  have hm : ∀ {l : List Res},∀ y ∈ inG g l,y ∈ l:=fun y hy=>by unfold Sts.inG at hy; exact (List.mem_filter.1 hy).1
  have hle : (inG g p.res).length ≤ p.res.length:=by unfold Sts.inG; exact List.length_filter_le _ _
  rw [rowS_sum hw (fun y hy=>hres y (hm y hy)) (by omega) hr,rowS_sum hw (fun y hy=>hres y (h.mem_iff.2 (hm y hy))) (by rw [← hf.length_eq]; omega) hr]
  exact sumRow_perm _ c hf
 unfold valC
 show (if _ then _ else if _ then valueF (rowS p.ru.w (inG g p.res) c) b else if _ then IntKind.i64.wrap ((rowS p.ru.w p.res c).points - _) else valueF (rowS p.ru.w p.res c) b) = _
 rw [e1,e2]; rfl
theorem evs_perm {p : Cp} {m : List Res} (h : p.res.Perm m) (h0 : openE p 2 p.clubs.contains = 0) (hl : p.res.length ≤ 90) (fin : Bool) : (p.with m).evs fin = p.evs fin:=by
 refine (rank_congr (K:=p.rk fin) (K':=(p.with m).rk fin) (U:=p.clubs) (fun g hg=>?_) _ _ _ (List.Sublist.refl _)).symm
 refine fst_congr ?_ fun c _ x hx=>val_perm h h0 hl g c (hg.subset hx)
 show directB p.ru.order (envO p.res p.clubs g.length fin) = directB p.ru.order (envO m p.clubs g.length fin)
 rw [env_perm h]
theorem rankX_perm {p : Cp} {m : List Res} (h : p.res.Perm m) (hl : p.res.length ≤ 90) (fin : Bool) : rankX (p.with m) fin = rankX p fin:=by
 have e:=open_perm p h 2 p.clubs.contains
 unfold rankX
 show (if openE (p.with m) 2 p.clubs.contains ≠ 0 then V.tup [_,_,I (openE (p.with m) 2 p.clubs.contains)] else _) = _
 rw [e]
 by_cases h0 : openE p 2 p.clubs.contains = 0
 ·rw [if_neg (fun h=>h h0),if_neg (fun h=>h h0)]
  have e2 : (p.with m).gs fin = p.gs fin:=by unfold Cp.gs; rw [evs_perm h h0 hl]
  rw [e2]
 ·rw [if_pos h0,if_pos h0]
end Go.Proofs.YtihibgcojdfndaaGreatDoor
namespace Go.Proofs.YtihibgcojdfndaaGreatDoor
open Go.Tidy
open Sts (Res Row Worth Game rowsF addF rowC valueF inG known worthOk resOk fieldOk gameV resV ress rowV)
theorem first_one {p : Cp} {s : Sp} {r : List Sp} (ho : p.ru.order = s :: r) (hk : s.kind = 1) (hb : s.by_ = 1) (h0 : orderF p.ru.order = 0) (fin : Bool) {n : Nat} (he : envE (envO p.res p.clubs n fin) = 0) : ∃ t,(p.rk fin).cr n = 1 :: t:=by
 have h1 : (p.rk fin).cr n = dSs (envO p.res p.clubs n fin) [] p.ru.order:=(direct_ok h0 he).1
 have e : dSs (envO p.res p.clubs n fin) [] [s] = [1]:=by
  obtain ⟨kd,bb,c,t,e⟩:=s
  simp only [Sp.kind,Sp.by_] at hk hb
  subst hk hb
  rw [dSs,dSs,dS]; rfl
 rw [h1,ho,← List.singleton_append,dSs_app,e]
 exact ⟨_,rfl⟩
def FallG (v : Int → Int) (gs : List (List Int)) : Prop:=(∀ g ∈ gs,∀ a ∈ g,∀ b ∈ g,v a = v b) ∧ gs.Pairwise fun g h=>∀ a ∈ g,∀ b ∈ h,v b ≤ v a
theorem fall_same {v : Int → Int} {gs : List (List Int)} {g : List Int} (hp : gs.flatten.Perm g) (hv : ∀ a ∈ g,∀ b ∈ g,v a = v b) : FallG v gs:=by
 have hm : ∀ x ∈ gs,∀ a ∈ x,a ∈ g:=fun x hx a ha=>hp.mem_iff.1 (List.mem_flatten.2 ⟨x,hx,ha⟩)
 refine ⟨fun x hx a ha b hb=>hv a (hm x hx a ha) b (hm x hx b hb),?_⟩
 rw [List.pairwise_iff_getElem]
 intro i j hi hj _ a ha b hb
 exact Int.le_of_eq (hv b (hm _ (List.getElem_mem hj) b hb) a (hm _ (List.getElem_mem hi) a ha))
theorem fall_app {v : Int → Int} {a b : List (List Int)} (ha : FallG v a) (hb : FallG v b) (h : ∀ g ∈ a,∀ x ∈ g,∀ k ∈ b,∀ y ∈ k,v y ≤ v x) : FallG v (a ++ b):=by
 refine ⟨fun g hg=>(List.mem_append.1 hg).elim (ha.1 g) (hb.1 g),?_⟩
 rw [List.pairwise_append]
 exact ⟨ha.2,hb.2,fun g hg k hk x hx y hy=>h g hg x hx k hk y hy⟩
theorem fall_go {v : Int → Int} {rank : List Int → Int → List Ev} {c : Int} (hr : ∀ p : List Int,p ≠ [] → ∀ b,((grs (rank p b)).map (·.1)).flatten.Perm p) : ∀ {cs : List (Int × List Int)},Fall cs → (∀ q ∈ cs,∀ x ∈ q.2,v x = q.1) → ∀ b,FallG v ((grs (goT rank c (cs.map (·.2)) b)).map (·.1))
 | [],_,_,b=>⟨fun g hg=>(by cases hg),List.Pairwise.nil⟩
 | (u,es) :: r,hf,hv,b=>by
  cases hf with
  | cons hfr hu he =>
  have h1:=hr es he b
  have hes : ∀ x ∈ es,v x = u:=fun x hx=>hv (u,es) (by simp) x hx
  have ih:=fall_go (c:=c) hr hfr (fun q hq=>hv q (by simp [hq])) c
  rw [List.map_cons,goT,grs_app,List.map_append]
  refine fall_app (fall_same h1 fun a ha b hb=>(hes a ha).trans (hes b hb).symm) ih fun g hg x hx k hk y hy=>?_
  have hx' : x ∈ es:=h1.mem_iff.1 (List.mem_flatten.2 ⟨g,hg,hx⟩)
  have hgp:=go_perm (rank:=rank) (c:=c) (r.map (·.2)) c fun p hp b=>by
   obtain ⟨q,hq,rfl⟩:=List.mem_map.1 hp
   exact hr _ (fall_ne hfr q hq) b
  have hy':=hgp.mem_iff.1 (List.mem_flatten.2 ⟨k,hk,hy⟩)
  obtain ⟨es',hes',hy'⟩:=List.mem_flatten.1 hy'
  obtain ⟨q,hq,rfl⟩:=List.mem_map.1 hes'
  rw [hes x hx',hv q (by simp [hq]) y hy']
  have:=hu q hq
  omega
theorem points_fall {p : Cp} {fin : Bool} (hcl : 2 ≤ p.clubs.length) (hcr : ∃ t,(p.rk fin).cr p.clubs.length = 1 :: t) : FallG (valC p p.clubs 1) ((p.gs fin).map (·.1)):=by
 have hper:=gs_perm p fin (by omega)
 obtain ⟨t,ht⟩:=hcr
 by_cases h1 : ((p.rk fin).sp p.clubs 1).length = 1
 ·have h2:=sp_one h1
  exact fall_same hper fun a ha b hb=>split_one (v:=valC p p.clubs 1) h2 ha hb
 ·have hf : (p.rk fin).fst p.clubs = some (1,(p.rk fin).sp p.clubs 1):=by
   unfold Rk.fst
   rw [if_neg (by omega),ht,List.findSome?_cons]
   unfold Rk.try1
   rw [if_neg h1]
  have hlt:=fun q hq=>sp_lt (K:=p.rk fin) (g:=p.clubs) (c:=1) h1 (p:=q) hq
  unfold Cp.gs Cp.evs
  obtain ⟨f,hfu⟩ : ∃ f,p.clubs.length = f + 1:=⟨p.clubs.length - 1,by omega⟩
  rw [hfu,rankT,hf]
  simp only
  rw [grs]
  have hF:=cls_fall (valC p p.clubs 1) p.clubs
  have hv : ∀ q ∈ clsF (valC p p.clubs 1) p.clubs,∀ x ∈ q.2,valC p p.clubs 1 x = q.1:=fun q hq x hx=>(cls_mem.1 ⟨q.2,hq,hx⟩).2
  have hcs : ∀ q ∈ clsF (valC p p.clubs 1) p.clubs,q.2.length ≤ f ∧ 1 ≤ f:=fun q hq=>by
   have:=hlt q.2 (List.mem_map.2 ⟨q,hq,rfl⟩)
   omega
  have e : (p.rk fin).sp p.clubs 1 = (clsF (valC p p.clubs 1) p.clubs).map (·.2):=rfl
  rw [e]
  -- beyond the parts,ranking is of no matter
  have key : goT (rankT (p.rk fin) f) 1 ((clsF (valC p p.clubs 1) p.clubs).map (·.2)) 0 = goT (fun g b=>if g.length ≤ f ∧ 1 ≤ f then rankT (p.rk fin) f g b else [.gr g b]) 1 ((clsF (valC p p.clubs 1) p.clubs).map (·.2)) 0 :=
   go_congr19 (P:=fun g=>g.length ≤ f ∧ 1 ≤ f) (fun g b hg=>by rw [if_pos hg]) fun g hg=>by
    obtain ⟨q,hq,rfl⟩:=List.mem_map.1 hg
    exact hcs q hq
  rw [key]
  refine fall_go (fun g hg b=>?_) hF hv 0
  split
  ·rename_i h; exact rank_perm (p.rk fin) f g b h.1 h.2
  ·simp [grs]
theorem rows_pts {p : Cp} (h0 : openE p 2 p.clubs.contains = 0) (hl : p.res.length ≤ 40) : rowsF p.res p.clubs p.ru.w = (p.clubs.map (Sts.tally p.ru.w p.res rowC),0) ∧ ∀ c ∈ p.clubs,valC p p.clubs 1 c = IntKind.i64.wrap ((Sts.tally p.ru.w p.res rowC c).points - offF p.clubs p.off c):=by
 obtain ⟨o1,o2,o3,o4,o5,o6⟩:=open_of h0
 have hw:=worth_of o4
 have hres:=ress_of o5
 refine ⟨Sts.rowsF_ok ⟨?_,hw,fun r hr=>(hres r hr).1,fun r hr=>?_⟩,fun c hc=>?_⟩
 ·unfold Sts.fieldOk at o1 ⊢
  simp only [Bool.and_eq_true,decide_eq_true_eq] at o1 ⊢
  exact ⟨⟨o1.1.1,by omega⟩,o1.2⟩
 ·unfold Sts.known
  rw [(hres r hr).2.1,(hres r hr).2.2]; rfl
 ·unfold valC
  rw [if_neg (by decide),if_neg (by decide),if_pos rfl,off_val (field_of o1).1 o2,rowS_sum hw (fun r hr=>(hres r hr).1) (by omega) (club_rng o1 hc),← (Sts.tally_sum hw (fun r hr=>(hres r hr).1) (by omega) c).1]
end Go.Proofs.YtihibgcojdfndaaGreatDoor
namespace Go.Tidy
theorem Weak.thawT {k : Nat} {σ σ' : TS} (n : Nat) (hk : k ≤ n) (hn : n ≤ σ.L.length) (hL : σ.L.take n = σ'.L) (hbel : belB n σ'.L = true) (hfr : FC n σ.L σ.fr σ'.fr) (h1 : σ'.n = σ.n:=by rfl) (h2 : σ.df = []:=by rfl) (h2' : σ'.df = []:=by rfl) (h3 : σ'.ro = σ.ro:=by rfl) (h3' : ∀ lb,σ.ro = some lb → lb < n:=by intro _ h; cases h) : Weak k σ σ':=by
 refine Weak.thaw n hk hn (by rw [← hL,List.length_take]; omega) hfr (fun b x y hx hy=>?_) h1 h2 h2' h3 h3'
 rw [← hL] at hy
 have hb : b < n:=by have:=lt_of_get hy; rw [List.length_take] at this; omega
 rw [List.getElem?_take,if_pos hb,hx] at hy
 cases hy
 refine .inl ⟨rfl,?_⟩
 rw [← hL] at hbel
 exact belB_get hbel (i:=b) (by rw [List.getElem?_take,if_pos hb]; exact hx)
end Go.Tidy
namespace Go.Proofs.YtihibgcojdfndaaGreatDoor
open Go.Tidy
open Sts (Res Row Worth Game rowsF addF rowC valueF inG known worthOk resOk fieldOk gameV resV ress rowV)
def rdR (l : List Res) : List (List V):=l.map fun y=>y.cells.map V.d
theorem rdR_bel (n : Nat) : ∀ l : List Res,belR n (rdR l) = true
 | []=>rfl
 | y :: l=>by
  have:=rdR_bel n l
  unfold rdR at this ⊢
  simp only [List.map_cons,belR,this,V.belL_d,Bool.and_true]
theorem rdR_data (l : List Res) : ((l.map Res.cells).map fun e=>e.map V.d) = rdR l:=by unfold rdR; rw [List.map_map]; rfl
theorem rdR_app (l m : List Res) : rdR l ++ rdR m = rdR (l ++ m):=by unfold rdR; rw [List.map_append]
theorem wrap_u {n : Int} (h : 0 ≤ n ∧ n < 18446744073709551616) : IntKind.u64.wrap n = n:=by
 have : IntKind.u64.wrap n = n % 18446744073709551616:=rfl
 rw [this]; omega
theorem wrap_u0 (n : Int) : 0 ≤ IntKind.u64.wrap n:=by
 have : IntKind.u64.wrap n = n % 18446744073709551616:=rfl
 rw [this]; omega
theorem pick_at {n : Int} (hn : 0 ≤ n) {len : Nat} (h : 0 < len) (hl : len ≤ 1000) : ∃ j : Nat,j < len ∧ IntKind.i64.wrap (n.tmod (IntKind.u64.wrap (len : Int))) = (j : Int):=by
 rw [wrap_u (by omega)]
 have h1:=Int.tmod_nonneg (len : Int) hn
 have h2:=Int.tmod_lt_of_pos n (b:=(len : Int)) (by omega)
 refine ⟨(n.tmod len).toNat,by omega,?_⟩
 rw [wrap_in (by omega)]; omega
theorem erase_eq {l : List Res} {j : Nat} (h : j < l.length) : l.take j ++ l.drop (j + 1) = l.eraseIdx j:=(List.eraseIdx_eq_take_drop_succ l j).symm
theorem pick_perm {l r m : List Res} {j : Nat} (h : j < r.length) (hp : (m ++ r).Perm l) : ((m ++ [r[j]]) ++ r.eraseIdx j).Perm l:=by
 refine List.Perm.trans ?_ hp
 rw [List.append_assoc,List.singleton_append]
 have e : (r[j] :: r.eraseIdx j).Perm r:=by
  have e1 : r = r.take j ++ r[j] :: r.drop (j + 1):=by rw [← List.drop_eq_getElem_cons h,List.take_append_drop]
  rw [← erase_eq h]
  exact (List.perm_middle.symm).trans (List.Perm.of_eq e1.symm)
 exact e.append_left m
end Go.Proofs.YtihibgcojdfndaaGreatDoor
