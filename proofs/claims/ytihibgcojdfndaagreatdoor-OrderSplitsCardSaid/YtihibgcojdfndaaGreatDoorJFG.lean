import Derived.Test.YtihibgcojdfndaaGreatDoorJFF
set_option maxRecDepth 100000
set_option maxHeartbeats 0
set_option linter.unusedSimpArgs false
set_option linter.unusedVariables false
namespace Go.Proofs.YtihibgcojdfndaaGreatDoor
open Go.Tidy
open Sts (Res Row Worth Game rowsF addF rowC valueF inG known worthOk resOk fieldOk gameV resV ress rowV)
variable {L : List Blk} {k : V → List Blk → Prop}
theorem rindexFunc_c (l : List (List Int)) (hl : l.length ≤ 4611686018427387904) (f : FuncId) (caps : List D) (p : List Int → Bool) (hp : ∀ n ∈ l,∀ (L : List Blk) (k : V → List Blk → Prop),k (B (p n)) L → CallP C f ([.d (ins n)] ++ caps.map .d) L k)
  (h : k (I (findI p l)) L) : CallP C 47 [.d (insL l),.d (.fn f caps)] L k:=by
 have hml : ((l.map fun es=>[ins es]).length : Int) = (l.length : Int):=by rw [List.length_map]
 refine zw25 ?_ rfl (fun _=>rfl) h
 clear h
 refine zw24 C_ok Tryz.func47 rfl rfl rfl (zw18 rfl) rfl ?_
 refine zw26 (fun i : Nat=>i ≤ l.length ∧ ∀ (j : Nat) (hj : j < l.length),j < i → p l[j] = false) (fun i=>⟨[(0,.d (insL l)),(1,.d (.fn f caps)),(7,I l.length),(8,I i)],Tryz.f47.ntmps,[],[],none⟩) (fun i=>l.length - i) 0 ⟨zw22 _,fun j _ h=>absurd h (Nat.not_lt_zero j)⟩ ?_ ?_
 ·exact zw27 ⟨rfl,rfl,congrArg I hml,rfl,trivial⟩
 rintro i ⟨hi,h1⟩
 by_cases hi' : i < l.length
 ·have hlt : (i : Int) < (l.length : Int):=by omega
  have hw:=zwW i (by omega)
  have r1 : (l.map fun es=>[ins es])[i]? = some [ins l[i]]:=by rw [List.getElem?_map,List.getElem?_eq_getElem hi']; rfl
  have hpi:=fun {L : List Blk} {k : V → List Blk → Prop}=>hp l[i] (List.getElem_mem hi') L k
  cases hq : p l[i] with
  | true =>
   rw [hq] at hpi
   rw [findI_hit hi' hq h1]
   generalize l[i] = q at *
   repeat' ((conv=>whnf); first|refine zw8 (zw19 hlt) ?_|refine zw10 i _ rfl r1 ?_|refine hpi ?_|refine zw0 ?_|refine zw6 rfl ?_)
   conv=>whnf
   exact FinP.zz rfl ⟨rfl,rfl⟩
  | false =>
   rw [hq] at hpi
   have h1' : ∀ (j : Nat) (hj : j < l.length),j < i + 1 → p l[j] = false:=fun j hj hji=>by
    by_cases e : j = i
    ·subst e; exact hq
    ·exact h1 j hj (by omega)
   generalize l[i] = q at *
   repeat' ((conv=>whnf); first|refine zw8 (zw19 hlt) ?_|refine zw10 i _ rfl r1 ?_|refine hpi ?_|refine zw1 ?_|refine zw6 rfl ?_)
   conv=>whnf
   exact ⟨i + 1,⟨hi',h1'⟩,by omega,Weak.by ⟨rfl,rfl,rfl,congrArg I hw,trivial⟩⟩
 ·have hlt : ¬ (i : Int) < (l.length : Int):=by omega
  rw [findI_miss fun j hj=>h1 j hj (by omega)]
  repeat' ((conv=>whnf); refine zw9 (zw20 hlt) ?_)
  conv=>whnf
  exact FinP.zz rfl ⟨rfl,rfl⟩
theorem bet11_c (l : List Int) (a : Int) (hl : l.length ≤ 4611686018427387904) (h : k (B (l.contains a)) L) : CallP C 48 [.d (ins l),.d (.rptr [DI a])] L k:=by
 have h1 : ∀ {L : List Blk} {k : V → List Blk → Prop},k (B (l.contains a)) L → CallP C 45 [.d (ins l),I a] L k:=fun h=>Sts.contains_c l a hl h
 refine zw25 ?_ rfl (fun _=>rfl) h
 clear h
 refine zw24 C_ok Tryz.func48 rfl rfl rfl (zw18 rfl) rfl ?_
 repeat' ((conv=>whnf); refine h1 ?_)
 conv=>whnf
 exact FinP.zz rfl ⟨rfl,rfl⟩
theorem bet12_c (l : List Int) (a : Int) (hl : l.length ≤ 4611686018427387904) (h : k (B (l.contains a)) L) : CallP C 49 [.d (ins l),.d (.rptr [DI a])] L k:=by
 have h1 : ∀ {L : List Blk} {k : V → List Blk → Prop},k (B (l.contains a)) L → CallP C 45 [.d (ins l),I a] L k:=fun h=>Sts.contains_c l a hl h
 refine zw25 ?_ rfl (fun _=>rfl) h
 clear h
 refine zw24 C_ok Tryz.func49 rfl rfl rfl (zw18 rfl) rfl ?_
 repeat' ((conv=>whnf); refine h1 ?_)
 conv=>whnf
 exact FinP.zz rfl ⟨rfl,rfl⟩
def tM (n a b : Int) : List Blk:=[.cells [I n],.cells [I a],.cells [I b]]
theorem bet1_c (n a b c : Int) (parts : List (List Int)) (hp : parts.length ≤ 100) (hq : ∀ q ∈ parts,q.length ≤ 100) : CallP C 46 [I c,.d (insL parts),.ptr 1 0,.ptr 2 0,.ptr 0 0] (tM n a b) fun X L'=>X = .tup [] ∧ L' = tM (if apartB parts a b then c else n) a b:=by
 have q1 : CallP C 47 [.d (insL parts),.d (.fn 48 [.rptr [DI a]])] [] fun X L'=>L' = [] ∧ X = I (inP parts a) :=
  rindexFunc_c parts (by omega) 48 [.rptr [DI a]] (fun p=>p.contains a) (fun q hm L k h=>bet11_c q a (by have:=hq q hm; omega) h) ⟨rfl,rfl⟩
 have q2 : CallP C 47 [.d (insL parts),.d (.fn 49 [.rptr [DI b]])] [] fun X L'=>L' = [] ∧ X = I (inP parts b) :=
  rindexFunc_c parts (by omega) 49 [.rptr [DI b]] (fun p=>p.contains b) (fun q hm L k h=>bet12_c q b (by have:=hq q hm; omega) h) ⟨rfl,rfl⟩
 unfold apartB
 generalize inP parts a = i at *
 generalize inP parts b = j at *
 by_cases c1 : (0 : Int) ≤ i
 rotate_left
 ·rw [decide_eq_false (fun h=>c1 h.1)]
  refine zw24 C_ok Tryz.func46 rfl rfl rfl (zw18 rfl) rfl ?_
  repeat' ((conv=>whnf); first|refine zw29 q1 (.keep (.cv (.d (.fnL (.cons (.ptrL trivial rfl (.data [DI a])) .nil))) .nil)) rfl rfl ?_|refine zw29 q2 (.keep (.cv (.d (.fnL (.cons (.ptrL trivial rfl (.data [DI b])) .nil))) .nil)) rfl rfl ?_|refine zw9 (zw20 c1) ?_)
  conv=>whnf
  exact zw15 (n:=3) rfl (zw21 3) rfl rfl ⟨rfl,rfl⟩
 by_cases c2 : (0 : Int) ≤ j
 rotate_left
 ·rw [decide_eq_false (fun h=>c2 h.2.1)]
  refine zw24 C_ok Tryz.func46 rfl rfl rfl (zw18 rfl) rfl ?_
  repeat' ((conv=>whnf); first|refine zw29 q1 (.keep (.cv (.d (.fnL (.cons (.ptrL trivial rfl (.data [DI a])) .nil))) .nil)) rfl rfl ?_|refine zw29 q2 (.keep (.cv (.d (.fnL (.cons (.ptrL trivial rfl (.data [DI b])) .nil))) .nil)) rfl rfl ?_|refine zw8 (zw19 c1) ?_|refine zw9 (zw20 c2) ?_)
  conv=>whnf
  exact zw15 (n:=3) rfl (zw21 3) rfl rfl ⟨rfl,rfl⟩
 by_cases c3 : i = j
 ·rw [decide_eq_false (fun h=>h.2.2 c3)]
  refine zw24 C_ok Tryz.func46 rfl rfl rfl (zw18 rfl) rfl ?_
  repeat' ((conv=>whnf); first|refine zw29 q1 (.keep (.cv (.d (.fnL (.cons (.ptrL trivial rfl (.data [DI a])) .nil))) .nil)) rfl rfl ?_|refine zw29 q2 (.keep (.cv (.d (.fnL (.cons (.ptrL trivial rfl (.data [DI b])) .nil))) .nil)) rfl rfl ?_|refine zw8 (zw19 c1) ?_|refine zw8 (zw19 c2) ?_|refine zw3 ?_|refine zw8 (zw19 c3) ?_)
  conv=>whnf
  exact zw15 (n:=3) rfl (zw21 3) rfl rfl ⟨rfl,rfl⟩
 ·rw [decide_eq_true ⟨c1,c2,c3⟩]
  refine zw24 C_ok Tryz.func46 rfl rfl rfl (zw18 rfl) rfl ?_
  repeat' ((conv=>whnf); first|refine zw29 q1 (.keep (.cv (.d (.fnL (.cons (.ptrL trivial rfl (.data [DI a])) .nil))) .nil)) rfl rfl ?_|refine zw29 q2 (.keep (.cv (.d (.fnL (.cons (.ptrL trivial rfl (.data [DI b])) .nil))) .nil)) rfl rfl ?_|refine zw8 (zw19 c1) ?_|refine zw8 (zw19 c2) ?_|refine zw3 ?_|refine zw9 (zw20 c3) ?_)
  conv=>whnf
  exact zw15 (n:=3) rfl (zw21 3) rfl rfl ⟨rfl,rfl⟩
noncomputable def Cp.evs (p : Cp) (fin : Bool) : List Ev:=rankT (p.rk fin) p.clubs.length p.clubs 0
noncomputable def Cp.gs (p : Cp) (fin : Bool) : List (List Int × Int):=grs (p.evs fin)
theorem grV_data {S : Nat → Prop} {L : List Blk} : ∀ d : List (List Int),CvLL S L (grV d) (d.map fun es=>[ins es])
 | []=>.nil
 | e :: d=>.cons (.cons (.d _) .nil) (grV_data d)
theorem two_cw {L : List Blk} {gs : List (List Int × Int)} {x y : Nat} (h1 : L[x]? = some (.row gs.length 1 (grV (gs.map (·.1))))) (h2 : L[y]? = some (.row gs.length 1 (rdI (gs.map (·.2))))) {n : Nat} (hx : n ≤ x) (hy : n ≤ y) :
  Cw (n ≤ ·) L (.agg [.own x gs.length 0 gs.length,.own y gs.length 0 gs.length]) (.agg [.d (insL (gs.map (·.1))),.d (ins (gs.map (·.2)))]):=by
 refine .aggL (ys:=[insL (gs.map (·.1)),ins (gs.map (·.2))]) (.cons (.rowL (ds:=(gs.map (·.1)).map fun es=>[ins es]) hx h1 ?_ (show gs.length = ((gs.map (·.1)).map fun es=>[ins es]).length by simp) (fun e he=>?_)) (.cons (.rowL (ds:=(gs.map (·.2)).map fun n=>[DI n]) hy h2 ?_ (show gs.length = ((gs.map (·.2)).map fun n=>[DI n]).length by simp) (fun e he=>?_)) .nil))
 ·rw [List.drop_zero,List.take_of_length_le (by rw [grV_len,List.length_map]; exact zw21 _)]
  exact grV_data _
 ·obtain ⟨_,_,rfl⟩:=List.mem_map.1 he; rfl
 ·rw [List.drop_zero,List.take_of_length_le (by unfold rdI; simp)]
  exact rdI_rows _
 ·obtain ⟨_,_,rfl⟩:=List.mem_map.1 he; rfl
theorem rank_c (p : Cp) (hL : LCp p) (fin : Bool) (hne : ∀ y ∈ p.res,y.game.home ≠ y.game.away) (ho : orderF p.ru.order = 0) (hc0 : 0 < p.clubs.length) (hc19 : p.clubs.length ≤ 19) (f : FuncId) (tcaps : List V) (tc : Int → List V) (c1 c2 : Blk) (step : Int → Int → List (List Int) → Int)
  (htb : ∀ n s,6 ≤ n → V.belL n (tc s) = true) (hcb : ∀ n,6 ≤ n → V.belL n tcaps = true) (hb1 : ∀ n,6 ≤ n → c1.bel n = true) (hb2 : ∀ n,6 ≤ n → c2.bel n = true)
  (htold : ∀ gs s c parts,PartsOk parts → ∀ (k : V → List Blk → Prop),k (.tup []) (mR p fin (.fn f tcaps) gs (tc (step s c parts)) c1 c2) → CallP C f (I c :: .d (insL parts) :: tcaps) (mR p fin (.fn f tcaps) gs (tc s) c1 c2) k) (s : Int) :
  CallP C 37 [.ptr 0 0,B fin,.fn f tcaps] (cM p ++ [.cells (tc s),c1,c2]) fun X L'=>X = .agg [.d (insL ((p.gs fin).map (·.1))),.d (ins ((p.gs fin).map (·.2)))] ∧ L' = cM p ++ [.cells (tc (toldF step s (p.evs fin))),c1,c2]:=by
 have hr:=rank1_s p hL fin hne ho f tcaps tc c1 c2 step (fun s=>htb 13 s (by decide)) (hcb 13 (by decide)) (hb1 13 (by decide)) (hb2 13 (by decide)) htold p.clubs.length p.clubs 0 (Nat.le_refl _) hc0 hc0 hc19 [] s (by simp only [List.length_nil]; omega)
 rw [List.nil_append] at hr
 have e1 : rankT (p.rk fin) p.clubs.length p.clubs 0 = p.evs fin:=rfl
 have e2 : grs (p.evs fin) = p.gs fin:=rfl
 rw [e1,e2] at hr
 generalize p.gs fin = gs at *
 generalize toldF step s (p.evs fin) = s' at *
 have hB : ∀ s,belB 6 (cM p ++ [.cells (tc s),c1,c2]) = true:=fun s=>belB_app' (cM_bel' 6 (by decide) p) (by show (V.belL 6 (tc s) && (c1.bel 6 && (c2.bel 6 && true))) = true; rw [htb 6 s (by decide),hb1 6 (by decide),hb2 6 (by decide)]; rfl)
 refine zw24 C_ok Tryz.func37 rfl rfl rfl (zw18 rfl) rfl ?_
 repeat' ((conv=>whnf); simp only [forceL_eq])
 conv=>whnf
 refine DrawP.por mixed [5] [[(0,0),(1,0),(2,0),(3,0),(4,0),(5,2)]] (by kernel_rfl) ?_
 repeat' ((conv=>whnf); first|simp only [forceL_eq]|refine QCallW.intro _ _ (CallP.nilCell 9 0 1 _ rfl rfl (by decide) (CallP.nilCell 9 1 1 _ rfl rfl (by decide) (CallP.cnvO (L':=mR p fin (.fn f tcaps) [] (tc s) c1 c2) rfl rfl (hr _ ⟨rfl,rfl⟩)))) ?_)
 conv=>whnf
 exact zw16 (two_cw (x:=11) (y:=12) rfl rfl (zw18 rfl) (zw18 rfl)) rfl (hB s') ⟨rfl,rfl⟩
end Go.Proofs.YtihibgcojdfndaaGreatDoor
namespace Go.Tidy
section
variable {C : Ctx} [Quiet C] {L : List Blk}
theorem CallP.phantom {f : FuncId} {args : List V} {k : V → List Blk → Prop} (h : CallP C f args (L ++ [Blk.row 0 1 []]) k) : CallP C f args L k:=by
 rw [CallP_q] at h ⊢
 refine ⟨h.1,fun g w vs hg hv=>?_⟩
 have hp:=add_prog hg (Ext.refl w) (.row 0 1 []) none (fun q h=>by cases h) 0
 have hg1:=add_good (k':=.row 0 1 []) hg (Ext.refl w) none (fun q h=>by cases h) 0 ⟨by decide,by simp,.inl ⟨by simp [Gh.add],rfl⟩⟩
 have hlen : L.length ≤ (L ++ [Blk.row 0 1 []]).length:=by simp
 refine (h.2 _ w vs hg1 ⟨hv.1,fun i x v hx hvi=>add_mono hg (Ext.refl w) _ none 0 (hv.2 i x v hx hvi)⟩).mono ?_
 rintro e w' ⟨v,X,L',g',he,hX,hr,hgood,hpr⟩
 exact ⟨v,X,L',g',he,hX,hr,hgood,hp.trans (hpr.le hlen (zw21 _))⟩
end
end Go.Tidy
namespace Go.Proofs.YtihibgcojdfndaaGreatDoor
open Go.Tidy
open Sts (Res Row Worth Game rowsF addF rowC valueF inG known worthOk resOk fieldOk gameV resV ress rowV)
variable {L : List Blk} {k : V → List Blk → Prop}
noncomputable def rankX (p : Cp) (fin : Bool) : V :=
 if openE p 2 p.clubs.contains ≠ 0 then .tup [.d (.sl []),.d (.sl []),I (openE p 2 p.clubs.contains)] else .tup [.d (insL ((p.gs fin).map (·.1))),.d (ins ((p.gs fin).map (·.2))),I 0]
noncomputable def betX (p : Cp) (fin : Bool) (a b : Int) : V :=
 if openE p 2 p.clubs.contains ≠ 0 then .tup [I 0,I (openE p 2 p.clubs.contains)] else if (p.clubs.contains a && p.clubs.contains b) = false then .tup [I 0,I 190] else .tup [I (bet a b (p.evs fin) 0),I 0]
theorem rtold_c (c : Int) (x : D) (h : k (.tup []) L) : CallP C 38 [I c,.d x] L k:=by
 refine zw25 ?_ rfl (fun _=>rfl) h
 clear h
 refine zw24 C_ok Tryz.func38 rfl rfl rfl (zw18 rfl) rfl ?_
 skip
 conv=>whnf
 exact FinP.zz rfl ⟨rfl,rfl⟩
def cMn (p : Cp) (n : Nat) : List Blk:=[.cells [.d (ress p.res),.d (ins p.clubs),.map (n + 1),.d (.str p.ru.name),I p.ru.win,I p.ru.draw,I p.ru.loss,.d (sps p.ru.order),.d (zns p.ru.zones),.map (n + 2)],.map (esP (offTab p.clubs p.off p.clubs.length)),.map (esP (lotTab p.clubs p.lots p.lots.length))]
theorem cMn_up (p : Cp) (n : Nat) (ρ : Nat → Nat) (h1 : ρ 1 = n + 1) (h2 : ρ 2 = n + 2) : rnB ρ (cM p) = cMn p n:=by
 show [Blk.cells [.d (ress p.res),.d (ins p.clubs),.map (ρ 1),.d (.str p.ru.name),I p.ru.win,I p.ru.draw,I p.ru.loss,.d (sps p.ru.order),.d (zns p.ru.zones),.map (ρ 2)],.map (rnM ρ _),.map (rnM ρ _)] = _
 rw [h1,h2,rnM_esP,rnM_esP]; rfl
def mB1 (p : Cp) : List Blk:=[.cells (p.ru.cells.map .d)] ++ cMn p 1 ++ [.row 0 1 []] ++ [.row 0 1 []]
def mB4 (p : Cp) (a b r : Int) : List Blk:=[.cells (p.ru.cells.map .d),.cells [I a],.cells [I b],.cells [I r]] ++ cMn p 4
theorem rank_r (p : Cp) (hL : LCp p) (fin : Bool) (hne : ∀ y ∈ p.res,y.game.home ≠ y.game.away) (ho : orderF p.ru.order = 0) (hc0 : 0 < p.clubs.length) (hc19 : p.clubs.length ≤ 19)
  (h : k (.agg [.d (insL ((p.gs fin).map (·.1))),.d (ins ((p.gs fin).map (·.2)))]) ([.cells (p.ru.cells.map .d)] ++ cMn p 1 ++ [.row 0 1 [],.row 0 1 []])) :
  CallP C 37 [.ptr 1 0,B fin,.fn 38 []] ([.cells (p.ru.cells.map .d)] ++ cMn p 1) k:=by
 refine CallP.phantom (CallP.phantom ?_)
 refine CallP.embed (L:=mB1 p) [1,2,3,0,4,5] (rank_c p hL fin hne ho hc0 hc19 38 [] (fun _=>p.ru.cells.map .d) (.row 0 1 []) (.row 0 1 []) (fun s _ _=>s) (fun n s _=>V.belL_d n _) (fun n _=>rfl) (fun n _=>rfl) (fun n _=>rfl) (fun gs s c parts _ k h=>rtold_c c _ h) 0) ⟨by decide,fun c hc=>?_,rfl,fun c d hc=>?_,?_,rfl⟩ rfl ?_
 ·simp only [List.mem_cons,List.not_mem_nil,or_false] at hc
  show c < 6; omega
 ·have e:=cMn_up p 1 (rnI [1,2,3,0,4,5] 6) rfl rfl
  have e2 : ∀ (i : Nat),(cMn p 1)[i]? = ((cM p)[i]?).map (Blk.rn (rnI [1,2,3,0,4,5] 6)):=fun i=>by
   rw [← List.getElem?_map,← e]; rfl
  match c,hc with
  | 0,hc=>cases hc; exact e2 0
  | 1,hc=>cases hc; exact e2 1
  | 2,hc=>cases hc; exact e2 2
  | 3,hc=>cases hc; rfl
  | 4,hc=>cases hc; rfl
  | 5,hc=>cases hc; rfl
  | c + 6,hc=>simp at hc
 ·exact belB_app' (cM_bel' 6 (by decide) p) rfl
 ·rintro X L1 ⟨rfl,rfl⟩
  have e : putB [1,2,3,0,4,5] (rnB (rnI [1,2,3,0,4,5] (mB1 p).length) (cM p ++ [.cells (p.ru.cells.map .d),.row 0 1 [],.row 0 1 []])) (mB1 p) = [.cells (p.ru.cells.map .d)] ++ cMn p 1 ++ [.row 0 1 [],.row 0 1 []]:=by
   have e0 : rnB (rnI [1,2,3,0,4,5] (mB1 p).length) (cM p ++ [.cells (p.ru.cells.map .d),.row 0 1 [],.row 0 1 []]) = cMn p 1 ++ [.cells (p.ru.cells.map .d),.row 0 1 [],.row 0 1 []]:=by
    rw [← cMn_up p 1 (rnI [1,2,3,0,4,5] (mB1 p).length) rfl rfl]; rfl
   rw [e0]; rfl
  rw [e]
  exact h
theorem Rank_0 (p : Cp) (hL : LCp p) (h19 : p.clubs.length ≤ 19) (fin : Bool) : CallP C 13 [.d (ress p.res),.d (ins p.clubs),.d (ins p.off),.agg (p.ru.cells.map .d),B fin,.d (ins p.lots)] [] fun X L'=>X = rankX p fin ∧ L' = []:=by
 have ho:=fun {L : List Blk} {k : V → List Blk → Prop} h1 h2=>open_1 (L:=L) p 2 hL 77 [.rptr [ins p.clubs]] p.clubs.contains (fun n L k h=>among1_c p.clubs n (by have:=hL.clubs; omega) h) (k:=k) h1 h2
 unfold rankX
 by_cases h0 : openE p 2 p.clubs.contains = 0
 ·rw [if_neg (fun h=>h h0)]
  obtain ⟨o1,o2,o3,o4,o5,o6⟩:=open_of h0
  have hf:=field_of o1
  have hop : ∀ {k : V → List Blk → Prop},k (.tup [.ptr 1 0,I 0]) ([.cells (p.ru.cells.map .d)] ++ cMn p 1) → CallP C 35 [.d (ress p.res),.d (ins p.clubs),I ((2 : Nat) : Int),.d (.fn 77 [.rptr [ins p.clubs]]),.d (ins p.off),.agg (p.ru.cells.map .d),.d (ins p.lots)] [.cells (p.ru.cells.map .d)] k:=fun h =>
   ho (fun _=>by rw [cMn_up p 1 (rnI [] [Blk.cells (p.ru.cells.map .d)].length) rfl rfl]; exact h) (fun h'=>absurd h0 h')
  have hrk:=fun {k : V → List Blk → Prop} h=>rank_r (k:=k) p hL fin (ress_ne o5) (rules_order o4) (by omega) h19 h
  refine zw24 C_ok Tryz.func13 rfl rfl rfl (zw18 rfl) rfl ?_
  skip
  conv=>whnf
  refine DrawP.por mixed [7] [[(0,0),(1,0),(2,0),(3,0),(4,0),(5,0),(6,0),(7,2),(8,0),(9,0),(10,0),(11,0),(12,0)]] (by kernel_rfl) ?_
  repeat' ((conv=>whnf); first|refine zw12 _ (among_c _ ⟨rfl,rfl⟩) ?_|refine zw13 _ _ (hop ⟨rfl,rfl⟩) ?_|refine hrk ?_|refine zw1 ?_)
  conv=>whnf
  refine DrawP.por mixed [] [[(0,0),(1,0),(2,0),(3,0),(4,0),(5,0),(6,0)]] (by kernel_rfl) ?_
  skip
  conv=>whnf
  exact FinP.zz rfl ⟨rfl,rfl⟩
 ·rw [if_pos h0]
  have hop : ∀ {L : List Blk} {k : V → List Blk → Prop},k (.tup [.d .nilptr,I (openE p 2 p.clubs.contains)]) L → CallP C 35 [.d (ress p.res),.d (ins p.clubs),I ((2 : Nat) : Int),.d (.fn 77 [.rptr [ins p.clubs]]),.d (ins p.off),.agg (p.ru.cells.map .d),.d (ins p.lots)] L k:=fun h =>
   ho (fun h'=>absurd h' h0) (fun _=>h)
  generalize openE p 2 p.clubs.contains = e at *
  refine zw24 C_ok Tryz.func13 rfl rfl rfl (zw18 rfl) rfl ?_
  skip
  conv=>whnf
  refine DrawP.por mixed [7] [[(0,0),(1,0),(2,0),(3,0),(4,0),(5,0),(6,0),(7,2),(8,0),(9,0),(10,0),(11,0),(12,0)]] (by kernel_rfl) ?_
  repeat' ((conv=>whnf); first|refine zw12 _ (among_c _ ⟨rfl,rfl⟩) ?_|refine zw13 _ _ (hop ⟨rfl,rfl⟩) ?_|refine zw3 ?_|refine zw9 (zw20 h0) ?_)
  conv=>whnf
  exact zw16 (L':=[]) (.triple (.d .nil) (.d .nil) (.d (.d _))) rfl rfl ⟨rfl,rfl⟩
theorem told_b (p : Cp) (fin : Bool) (a b : Int) (gs : List (List Int × Int)) (s c : Int) (parts : List (List Int)) (hp : PartsOk parts) {k : V → List Blk → Prop}
  (h : k (.tup []) (mR p fin (.fn 46 [.ptr 4 0,.ptr 5 0,.ptr 3 0]) gs [I (if apartB parts a b then c else s)] (.cells [I a]) (.cells [I b]))) :
  CallP C 46 (I c :: .d (insL parts) :: [.ptr 4 0,.ptr 5 0,.ptr 3 0]) (mR p fin (.fn 46 [.ptr 4 0,.ptr 5 0,.ptr 3 0]) gs [I s] (.cells [I a]) (.cells [I b])) k:=by
 refine CallP.embed (L:=mR p fin (.fn 46 [.ptr 4 0,.ptr 5 0,.ptr 3 0]) gs [I s] (.cells [I a]) (.cells [I b])) [3,4,5] (bet1_c s a b c parts hp.1 hp.2) ⟨by decide,fun d hd=>?_,rfl,fun c d hc=>?_,rfl,rfl⟩ rfl ?_
 ·simp only [List.mem_cons,List.not_mem_nil,or_false] at hd
  show d < 13; omega
 ·match c,hc with
  | 0,hc=>cases hc; rfl
  | 1,hc=>cases hc; rfl
  | 2,hc=>cases hc; rfl
  | c + 3,hc=>simp at hc
 ·rintro X L1 ⟨rfl,rfl⟩
  exact h
theorem rank_b0 (p : Cp) (hL : LCp p) (fin : Bool) (hne : ∀ y ∈ p.res,y.game.home ≠ y.game.away) (ho : orderF p.ru.order = 0) (hc0 : 0 < p.clubs.length) (hc19 : p.clubs.length ≤ 19) (a b : Int)
  (h : ∀ x y : D,k (.agg [.d x,.d y]) ([.cells (p.ru.cells.map .d),.cells [I a],.cells [I b],.cells [I (bet a b (p.evs fin) 0)]] ++ cMn p 4)) :
  CallP C 37 [.ptr 4 0,B fin,.fn 46 [.ptr 1 0,.ptr 2 0,.ptr 3 0]] ([.cells (p.ru.cells.map .d),.cells [I a],.cells [I b],.cells [I 0]] ++ cMn p 4) k:=by
 refine CallP.embed (L:=mB4 p a b 0) [4,5,6,3,1,2] (rank_c p hL fin hne ho hc0 hc19 46 [.ptr 4 0,.ptr 5 0,.ptr 3 0] (fun s=>[I s]) (.cells [I a]) (.cells [I b]) (fun s c parts=>if apartB parts a b then c else s) (fun n s _=>rfl) (fun n hn=>?_) (fun n _=>rfl) (fun n _=>rfl) (fun gs s c parts hp k h=>told_b p fin a b gs s c parts hp h) 0) ⟨by decide,fun c hc=>?_,rfl,fun c d hc=>?_,?_,rfl⟩ rfl ?_
 ·simp only [V.belL,V.bel,decide_eq_true (show 4 < n by omega),decide_eq_true (show 5 < n by omega),decide_eq_true (show 3 < n by omega)]; rfl
 ·simp only [List.mem_cons,List.not_mem_nil,or_false] at hc
  show c < 7; omega
 ·have e:=cMn_up p 4 (rnI [4,5,6,3,1,2] 7) rfl rfl
  have e2 : ∀ (i : Nat),(cMn p 4)[i]? = ((cM p)[i]?).map (Blk.rn (rnI [4,5,6,3,1,2] 7)):=fun i=>by
   rw [← List.getElem?_map,← e]; rfl
  match c,hc with
  | 0,hc=>cases hc; exact e2 0
  | 1,hc=>cases hc; exact e2 1
  | 2,hc=>cases hc; exact e2 2
  | 3,hc=>cases hc; rfl
  | 4,hc=>cases hc; rfl
  | 5,hc=>cases hc; rfl
  | c + 6,hc=>simp at hc
 ·exact belB_app' (cM_bel' 6 (by decide) p) rfl
 ·rintro X L1 ⟨rfl,rfl⟩
  rw [told_bet]
  generalize bet a b (p.evs fin) 0 = r at *
  have e : putB [4,5,6,3,1,2] (rnB (rnI [4,5,6,3,1,2] (mB4 p a b 0).length) (cM p ++ [.cells [I r],.cells [I a],.cells [I b]])) (mB4 p a b 0) = mB4 p a b r:=by
   have e0 : rnB (rnI [4,5,6,3,1,2] (mB4 p a b 0).length) (cM p ++ [.cells [I r],.cells [I a],.cells [I b]]) = cMn p 4 ++ [.cells [I r],.cells [I a],.cells [I b]]:=by
    rw [← cMn_up p 4 (rnI [4,5,6,3,1,2] (mB4 p a b 0).length) rfl rfl]; rfl
   rw [e0]; rfl
  rw [e]
  exact h _ _
theorem Between_0 (p : Cp) (hL : LCp p) (h19 : p.clubs.length ≤ 19) (fin : Bool) (a b : Int) : CallP C 19 [.d (ress p.res),.d (ins p.clubs),.d (ins p.off),.agg (p.ru.cells.map .d),B fin,.d (ins p.lots),I a,I b] [] fun X L'=>X = betX p fin a b ∧ L' = []:=by
 have ho:=fun {L : List Blk} {k : V → List Blk → Prop} h1 h2=>open_1 (L:=L) p 2 hL 77 [.rptr [ins p.clubs]] p.clubs.contains (fun n L k h=>among1_c p.clubs n (by have:=hL.clubs; omega) h) (k:=k) h1 h2
 have hca : ∀ (n : Int) {L : List Blk} {k : V → List Blk → Prop},k (B (p.clubs.contains n)) L → CallP C 45 [.d (ins p.clubs),I n] L k:=fun n _ _ h=>Sts.contains_c p.clubs n (by have:=hL.clubs; omega) h
 unfold betX
 by_cases h0 : openE p 2 p.clubs.contains = 0
 ·rw [if_neg (fun h=>h h0)]
  obtain ⟨o1,o2,o3,o4,o5,o6⟩:=open_of h0
  have hf:=field_of o1
  have hop : ∀ {k : V → List Blk → Prop},k (.tup [.ptr 4 0,I 0]) ([.cells (p.ru.cells.map .d),.cells [I a],.cells [I b],.cells [I 0]] ++ cMn p 4) → CallP C 35 [.d (ress p.res),.d (ins p.clubs),I ((2 : Nat) : Int),.d (.fn 77 [.rptr [ins p.clubs]]),.d (ins p.off),.agg (p.ru.cells.map .d),.d (ins p.lots)] [.cells (p.ru.cells.map .d),.cells [I a],.cells [I b],.cells [I 0]] k:=fun h =>
   ho (fun _=>by rw [cMn_up p 4 (rnI [] [Blk.cells (p.ru.cells.map .d),.cells [I a],.cells [I b],.cells [I 0]].length) rfl rfl]; exact h) (fun h'=>absurd h0 h')
  have hrk:=fun {k : V → List Blk → Prop} h=>rank_b0 (k:=k) p hL fin (ress_ne o5) (rules_order o4) (by omega) h19 a b h
  have hA:=fun {L : List Blk} {k : V → List Blk → Prop} h=>hca a (L:=L) (k:=k) h
  have hB:=fun {L : List Blk} {k : V → List Blk → Prop} h=>hca b (L:=L) (k:=k) h
  generalize bet a b (p.evs fin) 0 = r at *
  cases c1 : p.clubs.contains a with
  | false =>
   rw [c1] at hA
   rw [Bool.false_and,if_pos rfl]
   refine zw24 C_ok Tryz.func19 rfl rfl rfl (zw18 rfl) rfl ?_
   skip
   conv=>whnf
   refine DrawP.por mixed [7] [[(0,0),(1,0),(2,0),(3,0),(4,0),(5,0),(6,0),(7,2),(8,0),(9,0),(10,0),(11,0),(12,0)]] (by kernel_rfl) ?_
   repeat' ((conv=>whnf); first|refine zw12 _ (among_c _ ⟨rfl,rfl⟩) ?_|refine zw13 _ _ (hop ⟨rfl,rfl⟩) ?_|refine hA ?_|refine zw3 ?_|refine zw0 ?_|refine zw1 ?_)
   conv=>whnf
   exact FinP.zz rfl ⟨rfl,rfl⟩
  | true =>
  rw [c1] at hA
  cases c2 : p.clubs.contains b with
  | false =>
   rw [c2] at hB
   rw [Bool.true_and,if_pos rfl]
   refine zw24 C_ok Tryz.func19 rfl rfl rfl (zw18 rfl) rfl ?_
   skip
   conv=>whnf
   refine DrawP.por mixed [7] [[(0,0),(1,0),(2,0),(3,0),(4,0),(5,0),(6,0),(7,2),(8,0),(9,0),(10,0),(11,0),(12,0)]] (by kernel_rfl) ?_
   repeat' ((conv=>whnf); first|refine zw12 _ (among_c _ ⟨rfl,rfl⟩) ?_|refine zw13 _ _ (hop ⟨rfl,rfl⟩) ?_|refine hA ?_|refine hB ?_|refine zw3 ?_|refine zw0 ?_|refine zw1 ?_)
   conv=>whnf
   exact FinP.zz rfl ⟨rfl,rfl⟩
  | true =>
   rw [c2] at hB
   rw [Bool.true_and,if_neg (by decide)]
   refine zw24 C_ok Tryz.func19 rfl rfl rfl (zw18 rfl) rfl ?_
   skip
   conv=>whnf
   refine DrawP.por mixed [7] [[(0,0),(1,0),(2,0),(3,0),(4,0),(5,0),(6,0),(7,2),(8,0),(9,0),(10,0),(11,0),(12,0)]] (by kernel_rfl) ?_
   repeat' ((conv=>whnf); first|refine zw12 _ (among_c _ ⟨rfl,rfl⟩) ?_|refine zw13 _ _ (hop ⟨rfl,rfl⟩) ?_|refine hA ?_|refine hB ?_|refine zw3 ?_|refine hrk (fun _ _=>?_)|refine zw0 ?_)
   conv=>whnf
   exact FinP.zz rfl ⟨rfl,rfl⟩
 ·rw [if_pos h0]
  have hop : ∀ {L : List Blk} {k : V → List Blk → Prop},k (.tup [.d .nilptr,I (openE p 2 p.clubs.contains)]) L → CallP C 35 [.d (ress p.res),.d (ins p.clubs),I ((2 : Nat) : Int),.d (.fn 77 [.rptr [ins p.clubs]]),.d (ins p.off),.agg (p.ru.cells.map .d),.d (ins p.lots)] L k:=fun h =>
   ho (fun h'=>absurd h' h0) (fun _=>h)
  generalize openE p 2 p.clubs.contains = e at *
  refine zw24 C_ok Tryz.func19 rfl rfl rfl (zw18 rfl) rfl ?_
  skip
  conv=>whnf
  refine DrawP.por mixed [7] [[(0,0),(1,0),(2,0),(3,0),(4,0),(5,0),(6,0),(7,2),(8,0),(9,0),(10,0),(11,0),(12,0)]] (by kernel_rfl) ?_
  repeat' ((conv=>whnf); first|refine zw12 _ (among_c _ ⟨rfl,rfl⟩) ?_|refine zw13 _ _ (hop ⟨rfl,rfl⟩) ?_|refine zw3 ?_|refine zw9 (zw20 h0) ?_)
  conv=>whnf
  exact zw16 (L':=[]) (.pair (.d (.d _)) (.d (.d _))) rfl rfl ⟨rfl,rfl⟩
end Go.Proofs.YtihibgcojdfndaaGreatDoor
namespace Go.Proofs.YtihibgcojdfndaaGreatDoor
open Go.Tidy
open Sts (Res Row Worth Game rowsF addF rowC valueF inG known worthOk resOk fieldOk gameV resV ress rowV)
variable {L : List Blk} {k : V → List Blk → Prop}
theorem rin19_c (l : List Int) (n : Int) (hl : l.length ≤ 4611686018427387904) (h : k (B (l.contains n)) L) : CallP C 25 [.d (ins l),I n] L k:=by
 have hml : ((l.map fun n=>[DI n]).length : Int) = (l.length : Int):=by rw [insl]
 refine zw25 ?_ rfl (fun _=>rfl) h
 clear h
 refine zw24 C_ok Tryz.func25 rfl rfl rfl (zw18 rfl) rfl ?_
 skip
 conv=>whnf
 refine zw26 (fun i : Nat=>i ≤ l.length ∧ ∀ (j : Nat) (hj : j < l.length),j < i → l[j] ≠ n) (fun i=>⟨[(0,.d (ins l)),(1,I n),(5,I i)],Tryz.f25.ntmps,[],[],none⟩) (fun i=>l.length - i) 0 ⟨zw22 _,fun j _ h=>absurd h (Nat.not_lt_zero j)⟩ ?_ ?_
 ·exact zw27 ⟨rfl,rfl,rfl,trivial⟩
 rintro i ⟨hi,h1⟩
 by_cases hi' : i < l.length
 ·have hlt : (i : Int) < ((l.map fun n=>[DI n]).length : Int):=by omega
  have hw:=zwW i (by omega)
  have r1:=ins_at hi'
  by_cases hq : l[i] = n
  ·have e : l.contains n = true:=List.contains_iff_mem.2 (hq ▸ List.getElem_mem hi')
   rw [e]
   repeat' ((conv=>whnf); first|refine zw8 (zw19 hlt) ?_|refine zw8 (zw19 hq) ?_|refine zw10 i _ rfl r1 ?_|refine zw6 rfl ?_)
   conv=>whnf
   exact FinP.zz rfl ⟨rfl,rfl⟩
  ·repeat' (conv => whnf
            first|refine zw8 (zw19 hlt) ?_|refine zw9 (zw20 hq) ?_|refine zw10 i _ rfl r1 ?_|refine zw6 rfl ?_)
   conv=>whnf
   exact ⟨i + 1,⟨hi',fun j hj hji=>by
    by_cases e : j = i
    ·subst e; exact hq
    ·exact h1 j hj (by omega)⟩,by omega,Weak.by ⟨rfl,rfl,congrArg I hw,trivial⟩⟩
 ·have hlt : ¬ (i : Int) < ((l.map fun n=>[DI n]).length : Int):=by omega
  have e : l.contains n = false:=by
   cases hc : l.contains n with
   | false=>rfl
   | true =>
    obtain ⟨j,hj,hje⟩:=List.mem_iff_getElem.1 (List.contains_iff_mem.1 hc)
    exact absurd hje (h1 j hj (by omega))
  rw [e]
  repeat' ((conv=>whnf); refine zw9 (zw20 hlt) ?_)
  conv=>whnf
  exact FinP.zz rfl ⟨rfl,rfl⟩
theorem rsameL19_c (a b : List Int) (ha : a.length ≤ 1073741824) (hb : b.length ≤ 1073741824) (h : k (B (decide (a = b))) L) : CallP C 16 [.d (ins a),.d (ins b)] L k:=by
 refine zw25 ?_ rfl (fun _=>rfl) h
 clear h
 refine zw24 C_ok Tryz.func16 rfl rfl rfl (zw18 rfl) rfl ?_
 by_cases h1 : ((a.map fun n=>[DI n]).length : Int) = ((b.map fun n=>[DI n]).length : Int)
 rotate_left
 ·have hne : a ≠ b:=fun e=>h1 (by rw [e])
  repeat' ((conv=>whnf); first|refine zw3 ?_|refine zw9 (zw20 h1) ?_)
  conv=>whnf
  exact FinP.zz rfl ⟨rfl,congrArg B (zw20 hne).symm⟩
 have hl : a.length = b.length:=by rw [List.length_map,List.length_map] at h1; omega
 repeat' ((conv=>whnf); first|refine zw3 ?_|refine zw8 (zw19 h1) ?_)
 conv=>whnf
 refine zw26 (fun i=>i ≤ a.length ∧ ∀ (j : Nat) (h : j < a.length) (h' : j < b.length),j < i → a[j] = b[j]) (fun i=>⟨[(0,.d (ins a)),(1,.d (ins b)),(5,I i)],Tryz.f16.ntmps,[],[],none⟩) (fun i=>a.length - i) 0 ⟨zw22 _,fun j _ _ h=>absurd h (Nat.not_lt_zero j)⟩ ?_ ?_
 ·exact zw27 ⟨rfl,rfl,rfl,trivial⟩
 rintro i ⟨hi,heq⟩
 by_cases hi' : i < a.length
 ·have hlt : (i : Int) < ((a.map fun n=>[DI n]).length : Int):=by rw [List.length_map]; omega
  have hib : i < b.length:=by omega
  have hw:=zwW i (by omega)
  have r1:=ins_at hi'
  have r2:=ins_at hib
  by_cases hq : a[i] = b[i]
  ·have heq' : ∀ (j : Nat) (h : j < a.length) (h' : j < b.length),j < i + 1 → a[j] = b[j]:=fun j hj hj' hji=>by
    by_cases e : j = i
    ·subst e; exact hq
    ·exact heq j hj hj' (by omega)
   generalize a[i] = x at *
   generalize b[i] = y at *
   repeat' ((conv=>whnf); first|refine zw3 ?_|refine zw8 (zw19 hlt) ?_|refine zw8 (zw19 hq) ?_|refine zw10 i _ rfl r1 ?_|refine zw10 i _ rfl r2 ?_|refine zw6 rfl ?_|refine zw7 mixed rfl ?_)
   conv=>whnf
   exact ⟨i + 1,⟨hi',heq'⟩,by omega,Weak.by ⟨rfl,rfl,congrArg I hw,trivial⟩⟩
  ·have hne : a ≠ b:=fun e=>hq (by subst e; rfl)
   generalize a[i] = x at *
   generalize b[i] = y at *
   repeat' ((conv=>whnf); first|refine zw3 ?_|refine zw8 (zw19 hlt) ?_|refine zw9 (zw20 hq) ?_|refine zw10 i _ rfl r1 ?_|refine zw10 i _ rfl r2 ?_|refine zw6 rfl ?_|refine zw7 mixed rfl ?_)
   conv=>whnf
   exact FinP.zz rfl ⟨rfl,congrArg B (zw20 hne).symm⟩
 ·have hlt : ¬ (i : Int) < ((a.map fun n=>[DI n]).length : Int):=by rw [List.length_map]; omega
  have hab : a = b:=List.ext_getElem hl fun j h1 h2=>heq j h1 h2 (by omega)
  repeat' ((conv=>whnf); refine zw9 (zw20 hlt) ?_)
  conv=>whnf
  exact FinP.zz rfl ⟨rfl,congrArg B (zw19 hab).symm⟩
theorem insL_at {l : List (List Int)} {i : Nat} (h : i < l.length) : (l.map fun es=>[ins es])[i]? = some [ins l[i]]:=by rw [List.getElem?_map,List.getElem?_eq_getElem h]; rfl
theorem rsame19_c (a b : List (List Int)) (ha : a.length ≤ 1073741824) (hb : b.length ≤ 1073741824) (hs : ∀ x ∈ a,x.length ≤ 1073741824) (ht : ∀ x ∈ b,x.length ≤ 1073741824) (h : k (B (decide (a = b))) L) : CallP C 15 [.d (insL a),.d (insL b)] L k:=by
 refine zw25 ?_ rfl (fun _=>rfl) h
 clear h
 refine zw24 C_ok Tryz.func15 rfl rfl rfl (zw18 rfl) rfl ?_
 by_cases h1 : ((a.map fun es=>[ins es]).length : Int) = ((b.map fun es=>[ins es]).length : Int)
 rotate_left
 ·have hne : a ≠ b:=fun e=>h1 (by rw [e])
  repeat' ((conv=>whnf); first|refine zw3 ?_|refine zw9 (zw20 h1) ?_)
  conv=>whnf
  exact FinP.zz rfl ⟨rfl,congrArg B (zw20 hne).symm⟩
 have hl : a.length = b.length:=by rw [List.length_map,List.length_map] at h1; omega
 repeat' ((conv=>whnf); first|refine zw3 ?_|refine zw8 (zw19 h1) ?_)
 conv=>whnf
 refine zw26 (fun i=>i ≤ a.length ∧ ∀ (j : Nat) (h : j < a.length) (h' : j < b.length),j < i → a[j] = b[j]) (fun i=>⟨[(0,.d (insL a)),(1,.d (insL b)),(5,I i)],Tryz.f15.ntmps,[],[],none⟩) (fun i=>a.length - i) 0 ⟨zw22 _,fun j _ _ h=>absurd h (Nat.not_lt_zero j)⟩ ?_ ?_
 ·exact zw27 ⟨rfl,rfl,rfl,trivial⟩
 rintro i ⟨hi,heq⟩
 by_cases hi' : i < a.length
 ·have hlt : (i : Int) < ((a.map fun es=>[ins es]).length : Int):=by rw [List.length_map]; omega
  have hib : i < b.length:=by omega
  have hw:=zwW i (by omega)
  have r1:=insL_at hi'
  have r2:=insL_at hib
  have hsn:=fun {L : List Blk} {k : V → List Blk → Prop} (h : k (B (decide (a[i] = b[i]))) L)=>rsameL19_c (L:=L) (k:=k) a[i] b[i] (hs _ (List.getElem_mem hi')) (ht _ (List.getElem_mem hib)) h
  by_cases hq : a[i] = b[i]
  ·have heq' : ∀ (j : Nat) (h : j < a.length) (h' : j < b.length),j < i + 1 → a[j] = b[j]:=fun j hj hj' hji=>by
    by_cases e : j = i
    ·subst e; exact hq
    ·exact heq j hj hj' (by omega)
   generalize a[i] = x at *
   generalize b[i] = y at *
   repeat' ((conv=>whnf); first|refine zw3 ?_|refine zw8 (zw19 hlt) ?_|refine zw8 (zw19 hq) ?_|refine zw10 i _ rfl r1 ?_|refine zw10 i _ rfl r2 ?_|refine zw12 _ (hsn ⟨rfl,rfl⟩) ?_|refine zw6 rfl ?_|refine zw7 mixed rfl ?_)
   conv=>whnf
   exact ⟨i + 1,⟨hi',heq'⟩,by omega,Weak.by ⟨rfl,rfl,congrArg I hw,trivial⟩⟩
  ·have hne : a ≠ b:=fun e=>hq (by subst e; rfl)
   generalize a[i] = x at *
   generalize b[i] = y at *
   repeat' ((conv=>whnf); first|refine zw3 ?_|refine zw8 (zw19 hlt) ?_|refine zw9 (zw20 hq) ?_|refine zw10 i _ rfl r1 ?_|refine zw10 i _ rfl r2 ?_|refine zw12 _ (hsn ⟨rfl,rfl⟩) ?_|refine zw6 rfl ?_|refine zw7 mixed rfl ?_)
   conv=>whnf
   exact FinP.zz rfl ⟨rfl,congrArg B (zw20 hne).symm⟩
 ·have hlt : ¬ (i : Int) < ((a.map fun es=>[ins es]).length : Int):=by rw [List.length_map]; omega
  have hab : a = b:=List.ext_getElem hl fun j h1 h2=>heq j h1 h2 (by omega)
  repeat' ((conv=>whnf); refine zw9 (zw20 hlt) ?_)
  conv=>whnf
  exact FinP.zz rfl ⟨rfl,congrArg B (zw19 hab).symm⟩
def fpL (f : Co → Int) : List Co → Int → Int
 | [],n=>n
 | p :: ps,n=>if n < 1000 then fpL f ps (IntKind.i64.wrap (n + f p)) else n
def fpF : Nat → Co → Int
 | 0,_=>1000
 | d + 1,c=>fpL (fpF d) c.parts c.parts.length
theorem fpL_big {f : Co → Int} : ∀ {l : List Co} {n : Int},¬ n < 1000 → fpL f l n = n
 | [],n,_=>rfl
 | p :: ps,n,h=>by rw [fpL,if_neg h]
theorem fpL_drop {f : Co → Int} {l : List Co} {i : Nat} {n : Int} (h : i < l.length) (hn : n < 1000) : fpL f (l.drop i) n = fpL f (l.drop (i + 1)) (IntKind.i64.wrap (n + f l[i])):=by
 rw [List.drop_eq_getElem_cons h,fpL,if_pos hn]
theorem fewParts_c : ∀ (d : Nat) (c : Co),d ≤ 100 → LCo c → ∀ (L : List Blk) (k : V → List Blk → Prop),k (I (fpF d c)) L → CallP C 74 [.agg (c.cells.map .d),I d] L k
 | 0,c,hd,hc=>by
  intro L k h
  rw [Co.cells_eq]
  refine zw25 ?_ rfl (fun _=>rfl) h
  clear h
  refine zw24 C_ok Tryz.func74 rfl rfl rfl (zw18 rfl) rfl ?_
  repeat' ((conv=>whnf); refine zw8 (zw19 (show ((0 : Nat) : Int) = 0 by decide)) ?_)
  conv=>whnf
  exact FinP.zz rfl ⟨rfl,rfl⟩
 | d + 1,c,hd,hc=>by
  intro L k h
  have ih:=fewParts_c d
  have hlen:=hc.len
  rw [Co.cells_eq]
  refine zw25 ?_ rfl (fun _=>rfl) h
  clear h
  refine zw24 C_ok Tryz.func74 rfl rfl rfl (zw18 rfl) rfl ?_
  have h1 : ¬ ((d + 1 : Nat) : Int) = 0:=by omega
  have hml : ((c.parts.map Co.cells).length : Int) = (c.parts.length : Int):=by rw [List.length_map]
  repeat' ((conv=>whnf); refine zw9 (zw20 h1) ?_)
  conv=>whnf
  refine zw26 (α:=Nat × Int) (fun s=>s.1 ≤ c.parts.length ∧ fpL (fpF d) (c.parts.drop s.1) s.2 = fpF (d + 1) c) (fun s=>⟨[(1,I ((d + 1 : Nat) : Int)),(2,.ptr 0 0),(5,I s.2),(6,I s.1)],Tryz.f74.ntmps,[.cells [I c.kind,I c.var,I c.n,.d (cos c.parts)]],[],none⟩) (fun s=>c.parts.length - s.1) (0,(c.parts.length : Int)) ⟨zw22 _,rfl⟩ ?_ ?_
  ·exact zw27 ⟨rfl,rfl,congrArg I hml,rfl,trivial⟩
  rintro ⟨i,n⟩ ⟨hi,ht⟩
  simp only at hi ht
  by_cases h2 : (i : Int) < ((c.parts.map Co.cells).length : Int)
  rotate_left
  ·have h2' : c.parts.length ≤ i:=by rw [List.length_map] at h2; omega
   rw [List.drop_eq_nil_of_le h2',fpL] at ht
   repeat' ((conv=>whnf); refine zw9 (zw20 h2) ?_)
   conv=>whnf
   exact FinP.zz rfl ⟨rfl,congrArg I ht⟩
  have hi' : i < c.parts.length:=by rw [List.length_map] at h2; omega
  by_cases h3 : n < 1000
  rotate_left
  ·rw [fpL_big h3] at ht
   repeat' ((conv=>whnf); first|refine zw8 (zw19 h2) ?_|refine zw9 (zw20 h3) ?_)
   conv=>whnf
   exact FinP.zz rfl ⟨rfl,congrArg I ht⟩
  rw [fpL_drop hi' h3] at ht
  have hpm : c.parts[i] ∈ c.parts:=List.getElem_mem hi'
  obtain ⟨p,hp⟩ : ∃ p,p = c.parts[i]:=⟨_,rfl⟩
  have r1 : (c.parts.map Co.cells)[i]? = some [DI p.kind,DI p.var,DI p.n,cos p.parts]:=by rw [List.getElem?_map,List.getElem?_eq_getElem hi',← hp,← Co.cells_eq]; rfl
  have hcall:=ih p (by omega) (by rw [hp]; exact hc.sub _ hpm)
  rw [← hp] at ht
  have hw1 : IntKind.i64.wrap (((d + 1 : Nat) : Int) - 1) = (d : Int):=by rw [wrap_in (by omega)]; omega
  have hw2:=zwW i (by omega)
  rw [Co.cells_eq,← hw1] at hcall
  repeat' ((conv=>whnf); first|refine zw8 (zw19 h2) ?_|refine zw8 (zw19 h3) ?_|refine zw10 i _ rfl r1 ?_|refine hcall _ _ ?_|refine zw6 rfl ?_)
  conv=>whnf
  exact ⟨(i + 1,IntKind.i64.wrap (n + fpF d p)),⟨hi',ht⟩,by show c.parts.length - (i + 1) < c.parts.length - i; omega,Weak.to 1 rfl (zw22 _) (zw18 rfl) ⟨rfl,rfl,rfl,congrArg I hw2,trivial⟩⟩
def fsL (g : Sp → Int → Int) : List Sp → Int → Int
 | [],n=>n
 | s :: r,n=>if n < 1000 then fsL g r (g s n) else n
def fsF : Nat → List Sp → Int
 | 0,_=>1000
 | d + 1,l=>fsL (fun s n=>IntKind.i64.wrap (IntKind.i64.wrap (IntKind.i64.wrap (IntKind.i64.wrap (n + 1) + fpF 20 s.cond) + fsF d s.thn) + fsF d s.els)) l 0
theorem fsL_big {f : Sp → Int → Int} : ∀ {l : List Sp} {n : Int},¬ n < 1000 → fsL f l n = n
 | [],n,_=>rfl
 | p :: ps,n,h=>by rw [fsL,if_neg h]
theorem fsL_drop {f : Sp → Int → Int} {l : List Sp} {i : Nat} {n : Int} (h : i < l.length) (hn : n < 1000) : fsL f (l.drop i) n = fsL f (l.drop (i + 1)) (f l[i] n):=by
 rw [List.drop_eq_getElem_cons h,fsL,if_pos hn]
theorem fewSteps_c : ∀ (d : Nat) (l : List Sp),d ≤ 100 → LSs l → ∀ (L : List Blk) (k : V → List Blk → Prop),k (I (fsF d l)) L → CallP C 34 [.d (sps l),I d] L k
 | 0,l,hd,hl=>by
  intro L k h
  refine zw25 ?_ rfl (fun _=>rfl) h
  clear h
  refine zw24 C_ok Tryz.func34 rfl rfl rfl (zw18 rfl) rfl ?_
  repeat' ((conv=>whnf); refine zw8 (zw19 (show ((0 : Nat) : Int) = 0 by decide)) ?_)
  conv=>whnf
  exact FinP.zz rfl ⟨rfl,rfl⟩
 | d + 1,l,hd,hl=>by
  intro L k h
  have ih:=fewSteps_c d
  have hlen:=hl.len
  refine zw25 ?_ rfl (fun _=>rfl) h
  clear h
  refine zw24 C_ok Tryz.func34 rfl rfl rfl (zw18 rfl) rfl ?_
  have h1 : ¬ ((d + 1 : Nat) : Int) = 0:=by omega
  have hml : ((l.map Sp.cells).length : Int) = (l.length : Int):=by rw [List.length_map]
  repeat' ((conv=>whnf); refine zw9 (zw20 h1) ?_)
  conv=>whnf
  refine zw26 (α:=Nat × Int) (fun s=>s.1 ≤ l.length ∧ fsL (fun s n=>IntKind.i64.wrap (IntKind.i64.wrap (IntKind.i64.wrap (IntKind.i64.wrap (n + 1) + fpF 20 s.cond) + fsF d s.thn) + fsF d s.els)) (l.drop s.1) s.2 = fsF (d + 1) l) (fun s=>⟨[(0,.d (sps l)),(1,I ((d + 1 : Nat) : Int)),(5,I s.2),(6,I s.1)],Tryz.f34.ntmps,[],[],none⟩) (fun s=>l.length - s.1) (0,0) ⟨zw22 _,rfl⟩ ?_ ?_
  ·exact zw27 ⟨rfl,rfl,rfl,rfl,trivial⟩
  rintro ⟨i,n⟩ ⟨hi,ht⟩
  simp only at hi ht
  by_cases h2 : (i : Int) < ((l.map Sp.cells).length : Int)
  rotate_left
  ·have h2' : l.length ≤ i:=by rw [List.length_map] at h2; omega
   rw [List.drop_eq_nil_of_le h2',fsL] at ht
   repeat' ((conv=>whnf); refine zw9 (zw20 h2) ?_)
   conv=>whnf
   exact FinP.zz rfl ⟨rfl,congrArg I ht⟩
  have hi' : i < l.length:=by rw [List.length_map] at h2; omega
  by_cases h3 : n < 1000
  rotate_left
  ·rw [fsL_big h3] at ht
   repeat' ((conv=>whnf); first|refine zw8 (zw19 h2) ?_|refine zw9 (zw20 h3) ?_)
   conv=>whnf
   exact FinP.zz rfl ⟨rfl,congrArg I ht⟩
  rw [fsL_drop hi' h3] at ht
  have hsm : l[i] ∈ l:=List.getElem_mem hi'
  have hsp:=hl.all _ hsm
  obtain ⟨s,hs⟩ : ∃ s,s = l[i]:=⟨_,rfl⟩
  rw [← hs] at ht hsp
  have r1 : (l.map Sp.cells)[i]? = some [DI s.kind,DI s.by_,DI s.cond.kind,DI s.cond.var,DI s.cond.n,cos s.cond.parts,sps s.thn,sps s.els]:=by rw [List.getElem?_map,List.getElem?_eq_getElem hi',← hs,← Sp.cells_eq]; rfl
  have hw1 : IntKind.i64.wrap (((d + 1 : Nat) : Int) - 1) = (d : Int):=by rw [wrap_in (by omega)]; omega
  have hw2:=zwW i (by omega)
  have hp:=fewParts_c 20 s.cond (by decide) hsp.cond
  rw [Co.cells_eq] at hp
  have hT:=ih s.thn (by omega) (by cases hsp with | mk h1 h2 hc ht he=>exact ⟨h1,ht⟩)
  have hE:=ih s.els (by omega) (by cases hsp with | mk h1 h2 hc ht he=>exact ⟨h2,he⟩)
  rw [← hw1] at hT hE
  generalize fpF 20 s.cond = a at *
  generalize fsF d s.thn = b at *
  generalize fsF d s.els = c at *
  repeat' ((conv=>whnf); first|refine zw8 (zw19 h2) ?_|refine zw8 (zw19 h3) ?_|refine zw10 i _ rfl r1 ?_|refine zw12 _ (hp _ _ ⟨rfl,rfl⟩) ?_|refine zw12 _ (hT _ _ ⟨rfl,rfl⟩) ?_|refine zw12 _ (hE _ _ ⟨rfl,rfl⟩) ?_|refine zw6 rfl ?_|refine zw7 mixed rfl ?_)
  conv=>whnf
  exact ⟨(i + 1,IntKind.i64.wrap (IntKind.i64.wrap (IntKind.i64.wrap (IntKind.i64.wrap (n + 1) + a) + b) + c)),⟨hi',ht⟩,by show l.length - (i + 1) < l.length - i; omega,Weak.by ⟨rfl,rfl,rfl,congrArg I hw2,trivial⟩⟩
def few19 (p : Cp) : Bool:=decide (p.res.length ≤ 40 ∧ p.clubs.length ≤ 8 ∧ p.off.length ≤ 30 ∧ p.lots.length ≤ 30 ∧ p.ru.name.size ≤ 100 ∧ p.ru.zones.length ≤ 20) && decide (fsF 20 p.ru.order ≤ 40)
theorem few19_c (p : Cp) (hr : LRu p.ru) (h : k (B (few19 p)) L) : CallP C 12 [.d (ress p.res),.d (ins p.clubs),.d (ins p.off),.d (ins p.lots),.agg (p.ru.cells.map .d)] L k:=by
 have hs:=fewSteps_c 20 p.ru.order (by decide) hr.order
 have hl1 : ((p.res.map Res.cells).length : Int) = (p.res.length : Int):=by rw [List.length_map]
 have hl2 : ((p.clubs.map fun n=>[DI n]).length : Int) = (p.clubs.length : Int):=by rw [List.length_map]
 have hl3 : ((p.off.map fun n=>[DI n]).length : Int) = (p.off.length : Int):=by rw [List.length_map]
 have hl4 : ((p.lots.map fun n=>[DI n]).length : Int) = (p.lots.length : Int):=by rw [List.length_map]
 have hl5 : ((p.ru.zones.map Zn.cells).length : Int) = (p.ru.zones.length : Int):=by rw [List.length_map]
 refine zw25 ?_ rfl (fun _=>rfl) h
 clear h
 refine zw24 C_ok Tryz.func12 rfl rfl rfl (zw18 rfl) rfl ?_
 unfold few19
 generalize fsF 20 p.ru.order = n at *
 repeat' ((conv=>whnf); first|refine zw2 (fun h=>?_) (fun h=>?_)|refine hs _ _ ?_)
 all_goals conv=>whnf
 all_goals refine FinP.zz rfl ⟨rfl,congrArg B ?_⟩
 all_goals first
  | (rw [decide_eq_false (p:=_ ∧ _) (by omega)]; rfl)
  | (rw [decide_eq_true (p:=_ ∧ _) (by omega)]; rfl)
theorem ressV_alt {l : List Res} {ok : Int → Bool} : ressV l ok = true ↔ (∀ y ∈ l,resOk y ∧ ok y.game.home = true ∧ ok y.game.away = true) ∧ (∀ y ∈ l,∀ z ∈ l,y.game.season = z.game.season ∧ y.game.comp = z.game.comp) ∧ (l.map (·.game)).Nodup:=by
 rw [ressV_iff]
 constructor
 ·intro h
  have h0 : ∀ y ∈ l,∀ s,l[0]? = some s → y.game.season = s.game.season ∧ y.game.comp = s.game.comp:=fun y hy s hs=>by
   obtain ⟨i,hi,rfl⟩:=List.mem_iff_getElem.1 hy
   exact (h i _ (List.getElem?_eq_getElem hi)).2.1 s hs
  refine ⟨ress_of (ressV_iff.2 h),fun y hy z hz=>?_,?_⟩
  ·have hl : 0 < l.length:=List.length_pos_of_mem hy
   have e1:=h0 y hy _ (List.getElem?_eq_getElem hl)
   have e2:=h0 z hz _ (List.getElem?_eq_getElem hl)
   exact ⟨e1.1.trans e2.1.symm,e1.2.trans e2.2.symm⟩
  ·rw [List.Nodup,List.pairwise_iff_getElem]
   intro i j hi hj hij
   rw [List.length_map] at hi hj
   rw [List.getElem_map,List.getElem_map]
   exact (h j _ (List.getElem?_eq_getElem hj)).2.2.2.2 i hij _ (List.getElem?_eq_getElem hi)
 ·rintro ⟨h1,h2,h3⟩ j r hr
  have hj:=lt_of_get hr
  have hm:=List.mem_of_getElem? hr
  refine ⟨(h1 r hm).1,fun s hs=>h2 r hm s (List.mem_of_getElem? hs),(h1 r hm).2.1,(h1 r hm).2.2,fun i hij s hs e=>?_⟩
  rw [List.Nodup,List.pairwise_iff_getElem] at h3
  have hi:=lt_of_get hs
  have:=h3 i j (by rw [List.length_map]; exact hi) (by rw [List.length_map]; exact hj) hij
  rw [List.getElem_map,List.getElem_map] at this
  rw [List.getElem?_eq_getElem hi] at hs
  rw [List.getElem?_eq_getElem hj] at hr
  cases hs; cases hr
  exact this e
theorem Rank_c (p : Cp) (hL : LCp p) (h19 : p.clubs.length ≤ 19) (fin : Bool) (h : k (rankX p fin) L) : CallP C 13 [.d (ress p.res),.d (ins p.clubs),.d (ins p.off),.agg (p.ru.cells.map .d),B fin,.d (ins p.lots)] L k :=
 (Rank_0 p hL h19 fin).frame rfl fun X L' ⟨h1,h2⟩=>by
  subst h1 h2
  have e : (rankX p fin).sh L.length = rankX p fin:=by unfold rankX; split <;> rfl
  rw [e]; simpa [shB] using h
theorem Between_c (p : Cp) (hL : LCp p) (h19 : p.clubs.length ≤ 19) (fin : Bool) (a b : Int) (h : k (betX p fin a b) L) : CallP C 19 [.d (ress p.res),.d (ins p.clubs),.d (ins p.off),.agg (p.ru.cells.map .d),B fin,.d (ins p.lots),I a,I b] L k :=
 (Between_0 p hL h19 fin a b).frame rfl fun X L' ⟨h1,h2⟩=>by
  subst h1 h2
  have e : (betX p fin a b).sh L.length = betX p fin a b:=by
   unfold betX; split
   ·rfl
   ·split <;> rfl
  rw [e]; simpa [shB] using h
theorem Split_c (p : Cp) (hL : LCp p) (h19 : p.clubs.length ≤ 19) (b : Int) (h : k (splitX p b) L) : CallP C 17 [.d (ress p.res),.d (ins p.clubs),.d (ins p.off),I b,.agg (p.ru.cells.map .d),.d (ins p.lots)] L k :=
 (Split_0 p hL h19 b).frame rfl fun X L' ⟨h1,h2⟩=>by
  subst h1 h2
  have e : (splitX p b).sh L.length = splitX p b:=by
   unfold splitX; split
   ·rfl
   ·split <;> rfl
  rw [e]; simpa [shB] using h
def wonF (a b g : Int) : Res:=⟨⟨0,0,a,b⟩,g,0,0,0,0,0,0,false,false⟩
def nameR : ByteArray:=⟨#[114]⟩
def usualR (l : List Int) : Ru:=⟨nameR,3,1,0,l.map bySp,[]⟩
def pL (l : List Res) : Cp:=⟨l,[0,1,2,3],[0,0,0,0],usualR [1,8,9,12],[]⟩
def p3 : Cp:=⟨[wonF 0 1 1,wonF 1 0 1,wonF 0 2 1,wonF 1 2 1],[0,1,2],[0,0,0],usualR [1,8],[]⟩
def p2 : Cp:=⟨[wonF 0 1 1],[0,1],[0,0],usualR [1,8],[]⟩
def pS : Cp:=⟨[],[1,2,3],[0,0,0],usualR [1,8],[3,1,2]⟩
def p1 : Cp:=⟨[],[1],[0],usualR [1,8],[]⟩
theorem lbys : ∀ l : List Int,l.length ≤ 20 → LSs (l.map bySp):=fun l hl=>⟨by rw [List.length_map]; omega,fun s hs=>by
 obtain ⟨n,_,rfl⟩:=List.mem_map.1 hs
 exact lsp0 n⟩
theorem lusual (l : List Int) (hl : l.length ≤ 20) : LRu (usualR l):=⟨by show nameR.size ≤ _; decide,lbys l hl,by show ([] : List Zn).length ≤ _; decide,fun z hz=>by cases hz⟩
theorem rules0 {l : List Int} (h : orderF (l.map bySp) = 0) : rulesF (usualR l) = 0:=by
 unfold rulesF
 rw [if_neg,if_neg (by rw [show (usualR l).order = l.map bySp from rfl,h]; decide),if_neg (by show ¬ 16 < 0; decide),if_neg (by rintro ⟨z,hz,_⟩; cases hz)]
 rintro (h | h | h | h | h)
 ·exact absurd h (by show ¬ nameF nameR = false; decide)
 ·exact absurd h (by show ¬ (99 : Int) < 3; decide)
 ·exact absurd h (by show ¬ (3 : Int) < 1; decide)
 ·exact absurd h (by show ¬ (1 : Int) < 0; decide)
 ·exact absurd h (by show ¬ (0 : Int) < -99; decide)
def resB (l : List Res) (ok : Int → Bool) : Bool:=l.all (fun y=>decide (resOk y) && ok y.game.home && ok y.game.away && l.all fun z=>decide (y.game.season = z.game.season) && decide (y.game.comp = z.game.comp)) && decide (l.map (·.game)).Nodup
theorem resB_ok {l : List Res} {ok : Int → Bool} (h : resB l ok = true) : ressV l ok = true:=by
 unfold resB at h
 simp only [Bool.and_eq_true,List.all_eq_true,decide_eq_true_eq] at h
 exact ressV_alt.2 ⟨fun y hy=>⟨(h.1 y hy).1.1.1,(h.1 y hy).1.1.2,(h.1 y hy).1.2⟩,fun y hy z hz=>(h.1 y hy).2 z hz,h.2⟩
def openB (p : Cp) (n : Nat) (ok : Int → Bool) : Bool:=fieldOk p.clubs n && decide (p.off.length = p.clubs.length) && offOk p.off && resB p.res ok && lotsOk p.lots
theorem openB_ok {p : Cp} {n : Nat} {ok : Int → Bool} (h : openB p n ok = true) (hr : rulesF p.ru = 0) : openE p n ok = 0:=by
 unfold openB at h
 simp only [Bool.and_eq_true,decide_eq_true_eq] at h
 exact open_iff.2 ⟨h.1.1.1.1,h.1.1.1.2,h.1.1.2,hr,resB_ok h.1.2,h.2⟩
theorem r4 : rulesF (usualR [1,8,9,12]) = 0:=rules0 (by decide)
theorem r2 : rulesF (usualR [1,8]) = 0:=rules0 (by decide)
def l1 : List Res:=[wonF 0 1 1,wonF 2 3 1]
def l2 : List Res:=[wonF 0 1 1,wonF 1 2 1,wonF 2 0 1]
def l3 : List Res:=[wonF 0 1 2,wonF 1 2 1,wonF 2 0 1]
theorem vo : openB (pL []) 2 [0,1,2,3].contains = true ∧ openB (pL l1) 2 [0,1,2,3].contains = true ∧ openB (pL l2) 2 [0,1,2,3].contains = true ∧ openB (pL l3) 2 [0,1,2,3].contains = true ∧ openB p3 2 [0,1,2].contains = true ∧ openB p2 2 [0,1].contains = true ∧ openB pS 1 (fun _=>true) = true:=by decide +kernel
theorem vg : ((pL []).gs false).map (·.1) = [[0,1,2,3]] ∧ ((pL l1).gs false).map (·.1) = [[0,2],[1,3]] ∧ ((pL l2).gs false).map (·.1) = [[0,1,2],[3]] ∧ ((pL l3).gs false).map (·.1) = [[0],[2],[1],[3]]:=by decide +kernel
theorem vh : p3.gs false = [([0,1],0),([2],1)] ∧ bet 1 0 (p2.evs false) 0 = 1 ∧ splitF (valC pS pS.clubs 12) pS.clubs = [[3],[1],[2]] ∧ envO [] [0,1,2] 2 true = ⟨2,0,1,3⟩:=by decide +kernel
theorem won19_c (a b g : Int) (h : k (resV (wonF a b g)) L) : CallP C 31 [I a,I b,I g] L k:=by
 refine zw25 ?_ rfl (fun _=>rfl) h
 clear h
 refine zw24 C_ok Tryz.func31 rfl rfl rfl (zw18 rfl) rfl ?_
 skip
 conv=>whnf
 exact FinP.zz rfl ⟨rfl,rfl⟩
def rdB (l : List Int) : List (List V):=l.map fun n=>[I 1,I n,I 0,I 0,I 0,.nil,.nil,.nil]
theorem rdB_bel (n : Nat) : ∀ l : List Int,belR n (rdB l) = true
 | []=>rfl
 | e :: l=>by
  have:=rdB_bel n l
  unfold rdB at this ⊢
  simp only [List.map_cons,belR,this]
  rfl
theorem rdB_cv {S : Nat → Prop} {L : List Blk} : ∀ l : List Int,CvLL S L (rdB l) ((l.map bySp).map Sp.cells)
 | []=>.nil
 | e :: l=>.cons (.cons (.d _) (.cons (.d _) (.cons (.d _) (.cons (.d _) (.cons (.d _) (.cons .nil (.cons .nil (.cons .nil .nil)))))))) (rdB_cv l)
theorem steps19_c (l : List Int) (hl : l.length ≤ 20) (h : k (.d (sps (l.map bySp))) L) : CallP C 33 [.d (ins l)] L k:=by
 have hml : ((l.map fun n=>[DI n]).length : Int) = (l.length : Int):=by rw [insl]
 refine zw25 ?_ rfl (fun _=>rfl) h
 clear h
 refine zw24 C_ok Tryz.func33 rfl rfl rfl (zw18 rfl) rfl ?_
 skip
 conv=>whnf
 refine zw26 (fun i : Nat=>i ≤ l.length) (fun i=>⟨[(0,.d (ins l)),(3,.own 0 i 0 i),(4,I i)],Tryz.f33.ntmps,[.row i 8 (rdB (l.take i))],[],none⟩) (fun i=>l.length - i) 0 (zw22 _) ?_ ?_
 ·exact (Weak.nilOwn 3 8 rfl (by decide)).trans (zw27 ⟨rfl,rfl,rfl,trivial⟩)
 intro i hi
 by_cases hi' : i < l.length
 ·have hlt : (i : Int) < ((l.map fun n=>[DI n]).length : Int):=by omega
  have hw:=zwW i (by omega)
  have r1:=ins_at hi'
  have e : (rdB (l.take i)).take i ++ [[I 1,I l[i],I 0,I 0,I 0,.nil,.nil,.nil]] = rdB (l.take (i + 1)):=by
   rw [take_next hi']
   unfold rdB
   rw [List.take_of_length_le (by simp; omega),List.map_append]; rfl
  have hap : ∀ {X : Prop} {m : Nat},100 ≤ m → X → Need (i + 1 ≤ m) X:=fun hm h=>zw6 (by omega) h
  repeat' ((conv=>whnf); first|refine zw8 (zw19 hlt) ?_|refine zw10 i _ rfl r1 ?_|simp only [Nat.beq_refl,Bool.and_self]|refine hap (zw18 rfl) ?_|refine zw6 rfl ?_)
  conv=>whnf
  exact ⟨i + 1,hi',by omega,Weak.to 1 (Eq.trans rfl (congrArg (fun z=>[Blk.row (i + 1) 8 z]) e)) (zw22 _) (zw18 rfl) ⟨rfl,rfl,congrArg I hw,trivial⟩ (hB:=by show (belR 1 _ && true) = true; rw [rdB_bel]; rfl)⟩
 have hlt : ¬ (i : Int) < ((l.map fun n=>[DI n]).length : Int):=by omega
 obtain rfl : i = l.length:=by omega
 repeat' ((conv=>whnf); refine zw9 (zw20 hlt) ?_)
 conv=>whnf
 rw [List.take_length]
 refine zw16 (L':=[]) (.d (.rowL (ds:=(l.map bySp).map Sp.cells) (zw22 _) rfl ?_ (show l.length = ((l.map bySp).map Sp.cells).length by simp) fun e he=>?_)) rfl rfl ⟨rfl,rfl⟩
 ·rw [List.drop_zero,List.take_of_length_le (by unfold rdB; simp)]
  exact rdB_cv l
 ·obtain ⟨s,_,rfl⟩:=List.mem_map.1 he
  rw [Sp.cells_eq]; rfl
theorem usual19_c (l : List Int) (h : k (.agg ((usualR l).cells.map .d)) L) : CallP C 32 [.d (sps (l.map bySp))] L k:=by
 refine zw25 ?_ rfl (fun _=>rfl) h
 clear h
 refine zw24 C_ok Tryz.func32 rfl rfl rfl (zw18 rfl) rfl ?_
 skip
 conv=>whnf
 exact zw16 (L':=[]) (Cw.aggL (.cons (.d _) (.cons (.d _) (.cons (.d _) (.cons (.d _) (.cons (.d _) (.cons .nil .nil))))))) rfl rfl ⟨rfl,rfl⟩
theorem lcp (p : Cp) (h1 : p.res.length ≤ 100) (h2 : p.clubs.length ≤ 100) (h3 : p.off.length ≤ 100) (h4 : p.lots.length ≤ 100) (h5 : LRu p.ru) : LCp p:=⟨by omega,by omega,by omega,by omega,h5⟩
theorem lpL (l : List Res) (h : l.length ≤ 100) : LCp (pL l):=lcp _ h (by show [(0 : Int),1,2,3].length ≤ _; decide) (by show [(0 : Int),0,0,0].length ≤ _; decide) (by show ([] : List Int).length ≤ _; decide) (lusual _ (by decide))
theorem cvI {S : Nat → Prop} {L : List Blk} {b gen n : Nat} {l : List Int} (hb : S b) (hL : L[b]? = some (.row gen 1 (rdI l))) (hn : n = l.length) : Cw S L (.own b gen 0 n) (.d (ins l)):=by
 subst hn
 refine .d (.rowL (ds:=l.map fun n=>[DI n]) hb hL ?_ (by simp) fun e he=>?_)
 ·rw [List.drop_zero,List.take_of_length_le (by unfold rdI; simp)]; exact rdI_rows _
 ·obtain ⟨_,_,rfl⟩:=List.mem_map.1 he; rfl
theorem kill19 {i g sz : Nat} {els : List (List V)} (h : L[i]? = some (.row g sz els)) : CellEq L (killB [i] L):=CellEq.set h
def spine : List Blk → (List Blk → Prop) → Prop
 | [],K=>K []
 | x :: r,K=>spine r fun r=>K (x :: r)
theorem spine_eq : ∀ (l : List Blk) (K : List Blk → Prop),spine l K = K l
 | [],K=>rfl
 | x :: r,K=>by simp only [spine,spine_eq r]
theorem QCallK.introF {f : (V → List Blk → Prop) → Prop} {L : List Blk} {k : V → List Blk → Prop} (v : V) (M : List Blk) (h : f fun x N=>x = v ∧ N = M) (hc : CellEq L M) (hk : spine M fun M=>k v M) : QCallK f L k:=by
 rw [spine_eq] at hk
 exact QCallK.intro v M h hc hk
theorem QCallW.introF {f : (V → List Blk → Prop) → Prop} {k : V → List Blk → Prop} (v : V) (M : List Blk) (h : f fun x N=>x = v ∧ N = M) (hk : spine M fun M=>k v M) : QCallW f k:=by
 rw [spine_eq] at hk
 exact zw13 v M h hk
theorem stepsK {i gen n : Nat} (l : List Int) (hl : l.length ≤ 20) (hL : L[i]? = some (.row gen 1 (rdI l))) (hn : n = l.length) : CallP C 33 [.own i gen 0 n] L fun x N=>x = .d (sps (l.map bySp)) ∧ N = killB [i] L :=
 CallP.freeze [i] rfl (by show ([i].all _) = true; simp only [List.all_cons,List.all_nil,Bool.and_true]; rw [hL]) (.cv (cvI (List.mem_singleton.2 rfl) hL hn) .nil) (steps19_c l hl ⟨rfl,rfl⟩)
theorem rankK (p : Cp) (hp : LCp p) (h19 : p.clubs.length ≤ 19) (fin : Bool) {i j gi gj ni nj : Nat} (hi : L[i]? = some (.row gi 1 (rdI p.clubs))) (hj : L[j]? = some (.row gj 1 (rdI p.off))) (hni : ni = p.clubs.length) (hnj : nj = p.off.length) (hlo : p.lots = []) {X : V} (hX : rankX p fin = X) :
  CallP C 13 [.d (ress p.res),.own i gi 0 ni,.own j gj 0 nj,.agg (p.ru.cells.map .d),B fin,.nil] L fun x N=>x = X ∧ N = killB [i,j] L :=
 CallP.freeze [i,j] rfl (by show ([i,j].all _) = true; simp only [List.all_cons,List.all_nil,Bool.and_true]; rw [hi,hj]; rfl) (.keep (.cv (cvI (by simp) hi hni) (.cv (cvI (by simp) hj hnj) (.keep (.keep (.cv (y:=.d (ins p.lots)) (.d (by rw [hlo]; exact .nil)) .nil)))))) (Rank_c p hp h19 fin ⟨hX,rfl⟩)
theorem leads_c (l : List Res) (want : List (List Int)) (h100 : l.length ≤ 100) (hw : want.length ≤ 100) (hw2 : ∀ x ∈ want,x.length ≤ 100) (ho : openE (pL l) 2 (pL l).clubs.contains = 0) (hv : ((pL l).gs false).map (·.1) = want) (h : k (B true) L) : CallP C 30 [.d (ress l),.d (insL want)] L k:=by
 have hX : rankX (pL l) false = .tup [.d (insL want),.d (ins (((pL l).gs false).map (·.2))),I 0]:=by unfold rankX; rw [if_neg (fun h=>h ho),hv]
 have hrank:=fun {L : List Blk} {i j gi gj ni nj : Nat} (hi : L[i]? = some (.row gi 1 (rdI [0,1,2,3]))) (hj : L[j]? = some (.row gj 1 (rdI [0,0,0,0]))) (hni : ni = 4) (hnj : nj = 4)=>rankK (L:=L) (pL l) (lpL l h100) (by show [(0 : Int),1,2,3].length ≤ 19; decide) false hi hj hni hnj rfl hX
 have hlen : (((((pL l).gs false).map (·.2)).map fun n=>[DI n]).length : Int) = ((want.map fun es=>[ins es]).length : Int):=by rw [← hv]; simp
 have hs : ∀ {L : List Blk} {k : V → List Blk → Prop},k (B true) L → CallP C 15 [.d (insL want),.d (insL want)] L k:=fun h=>rsame19_c want want (by omega) (by omega) (fun x hx=>by have:=hw2 x hx; omega) (fun x hx=>by have:=hw2 x hx; omega) (by rw [decide_eq_true rfl]; exact h)
 clear hX ho hv
 generalize ((pL l).gs false).map (·.2) = bys at *
 refine zw25 ?_ rfl (fun _=>rfl) h
 clear h
 refine zw24 C_ok Tryz.func30 rfl rfl rfl (zw18 rfl) rfl ?_
 skip
 conv=>whnf
 refine DrawP.por mixed [1004,6] [[(0,0),(1,0),(2,0),(3,0),(4,5),(5,0),(6,2),(7,0),(8,0),(9,0),(10,0),(11,0),(12,0),(13,0)],[(0,0),(1,0),(3,0),(2,0),(4,5),(5,0),(6,2),(7,0),(8,0),(9,0),(10,0),(11,0),(12,0),(13,0)],[(0,0),(1,0),(3,0),(4,5),(5,1),(2,0),(6,2),(7,0),(8,0),(9,0),(10,0),(11,0),(12,0),(13,0)],[(0,0),(2,0),(1,0),(3,0),(4,5),(5,0),(6,2),(7,0),(8,0),(9,0),(10,0),(11,0),(12,0),(13,0)],[(0,0),(2,0),(3,0),(1,0),(4,5),(5,0),(6,2),(7,0),(8,0),(9,0),(10,0),(11,0),(12,0),(13,0)],[(0,0),(2,0),(3,0),(4,5),(5,1),(1,0),(6,2),(7,0),(8,0),(9,0),(10,0),(11,0),(12,0),(13,0)],[(0,0),(3,0),(1,0),(2,0),(4,5),(5,0),(6,2),(7,0),(8,0),(9,0),(10,0),(11,0),(12,0),(13,0)],[(0,0),(3,0),(1,0),(4,5),(5,1),(2,0),(6,2),(7,0),(8,0),(9,0),(10,0),(11,0),(12,0),(13,0)],[(0,0),(3,0),(2,0),(1,0),(4,5),(5,0),(6,2),(7,0),(8,0),(9,0),(10,0),(11,0),(12,0),(13,0)],[(0,0),(3,0),(2,0),(4,5),(5,1),(1,0),(6,2),(7,0),(8,0),(9,0),(10,0),(11,0),(12,0),(13,0)],[(0,0),(3,0),(4,5),(5,1),(1,0),(2,0),(6,2),(7,0),(8,0),(9,0),(10,0),(11,0),(12,0),(13,0)],[(0,0),(3,0),(4,5),(5,1),(2,0),(1,0),(6,2),(7,0),(8,0),(9,0),(10,0),(11,0),(12,0),(13,0)]] (by kernel_rfl) ?_
 conv=>whnf
 refine And.intro ?_ ?_
 rotate_left 1
 conv=>whnf
 refine And.intro ?_ ?_
 rotate_left 1
 conv=>whnf
 refine And.intro ?_ ?_
 rotate_left 1
 conv=>whnf
 refine And.intro ?_ ?_
 rotate_left 1
 conv=>whnf
 refine And.intro ?_ ?_
 rotate_left 1
 conv=>whnf
 refine And.intro ?_ ?_
 rotate_left 1
 conv=>whnf
 refine And.intro ?_ ?_
 rotate_left 1
 conv=>whnf
 refine And.intro ?_ ?_
 rotate_left 1
 conv=>whnf
 refine And.intro ?_ ?_
 rotate_left 1
 conv=>whnf
 refine And.intro ?_ ?_
 rotate_left 1
 conv=>whnf
 refine And.intro ?_ ?_
 all_goals
  repeat' ((conv=>whnf); first|refine QCallK.introF _ _ (stepsK [1,8,9,12] (zw18 rfl) rfl rfl) (kill19 rfl) ?_|refine zw12 _ (usual19_c [1,8,9,12] ⟨rfl,rfl⟩) ?_|refine QCallW.introF _ _ (hrank rfl rfl rfl rfl) ?_|refine hs ?_|refine zw8 (zw19 hlen) ?_|refine MakeP.intro 4 4 rfl rfl (zw21 4) (zw18 rfl) ?_|refine zw0 ?_|refine zw6 rfl ?_)
 all_goals conv=>whnf
 all_goals exact FinP.zz rfl ⟨rfl,rfl⟩
theorem cvJ {S : Nat → Prop} {L : List Blk} {b gen n : Nat} (l : List Int) (hb : S b) (hL : L[b]? = some (.row gen 1 (rdI l))) (hn : n = l.length) : Cv S L (.own b gen 0 n) (ins l):=by
 subst hn
 refine .rowL (ds:=l.map fun n=>[DI n]) hb hL ?_ (by simp) fun e he=>?_
 ·rw [List.drop_zero,List.take_of_length_le (by unfold rdI; simp)]; exact rdI_rows _
 ·obtain ⟨_,_,rfl⟩:=List.mem_map.1 he; rfl
theorem cvR {S : Nat → Prop} {L : List Blk} {b gen n : Nat} (l : List Res) (hb : S b) (hL : L[b]? = some (.row gen 13 (l.map fun y=>y.cells.map .d))) (hn : n = l.length) : Cw S L (.own b gen 0 n) (.d (ress l)):=by
 subst hn
 refine .d (.rowL (ds:=l.map Res.cells) hb hL ?_ (by simp) fun e he=>?_)
 ·rw [List.drop_zero,List.take_of_length_le (by simp)]
  clear hL
  induction l with
  | nil=>exact .nil
  | cons y l ih=>exact .cons (CvL.data _) ih
 ·obtain ⟨y,_,rfl⟩:=List.mem_map.1 he; rfl
theorem insE (l : List (List Int)) : ∀ e ∈ l.map fun es=>[ins es],e.length = 1:=fun e he=>by
 obtain ⟨_,_,rfl⟩:=List.mem_map.1 he; rfl
theorem leadsK {bs : List Nat} {a b : V} {L' : List Blk} (l : List Res) (want : List (List Int)) (ha : Cw (· ∈ bs) L a (.d (ress l))) (hb : Cw (· ∈ bs) L b (.d (insL want))) (hbs : plainBlk L bs = true) (hL : killB bs L = L') (h100 : l.length ≤ 100) (hw : want.length ≤ 100) (hw2 : ∀ x ∈ want,x.length ≤ 100) (ho : openE (pL l) 2 (pL l).clubs.contains = 0) (hv : ((pL l).gs false).map (·.1) = want)
  (h : k (B true) L') : CallP C 30 [a,b] L k:=CallP.freeze bs hL hbs (.cv ha (.cv hb .nil)) (leads_c l want h100 hw hw2 ho hv h)
theorem rankG (p : Cp) (hp : LCp p) (h19 : p.clubs.length ≤ 19) (fin : Bool) {bs : List Nat} {a b c d : V} {X : V} (hX : rankX p fin = X) (ha : Cw (· ∈ bs) L a (.d (ress p.res))) (hb : Cw (· ∈ bs) L b (.d (ins p.clubs))) (hc : Cw (· ∈ bs) L c (.d (ins p.off))) (hd : Cw (· ∈ bs) L d (.d (ins p.lots))) (hbs : plainBlk L bs = true) :
  CallP C 13 [a,b,c,.agg (p.ru.cells.map .d),B fin,d] L fun x N=>x = X ∧ N = killB bs L :=
 CallP.freeze bs rfl hbs (.cv ha (.cv hb (.cv hc (.keep (.keep (.cv hd .nil)))))) (Rank_c p hp h19 fin ⟨hX,rfl⟩)
theorem betG (p : Cp) (hp : LCp p) (h19 : p.clubs.length ≤ 19) (fin : Bool) (x y : Int) {bs : List Nat} {a b c d : V} {X : V} (hX : betX p fin x y = X) (ha : Cw (· ∈ bs) L a (.d (ress p.res))) (hb : Cw (· ∈ bs) L b (.d (ins p.clubs))) (hc : Cw (· ∈ bs) L c (.d (ins p.off))) (hd : Cw (· ∈ bs) L d (.d (ins p.lots))) (hbs : plainBlk L bs = true) :
  CallP C 19 [a,b,c,.agg (p.ru.cells.map .d),B fin,d,I x,I y] L fun x N=>x = X ∧ N = killB bs L :=
 CallP.freeze bs rfl hbs (.cv ha (.cv hb (.cv hc (.keep (.keep (.cv hd (.keep (.keep .nil)))))))) (Between_c p hp h19 fin x y ⟨hX,rfl⟩)
theorem splitG (p : Cp) (hp : LCp p) (h19 : p.clubs.length ≤ 19) (x : Int) {bs : List Nat} {a b c d : V} {X : V} (hX : splitX p x = X) (ha : Cw (· ∈ bs) L a (.d (ress p.res))) (hb : Cw (· ∈ bs) L b (.d (ins p.clubs))) (hc : Cw (· ∈ bs) L c (.d (ins p.off))) (hd : Cw (· ∈ bs) L d (.d (ins p.lots))) (hbs : plainBlk L bs = true) :
  CallP C 17 [a,b,c,I x,.agg (p.ru.cells.map .d),d] L fun x N=>x = X ∧ N = killB bs L :=
 CallP.freeze bs rfl hbs (.cv ha (.cv hb (.cv hc (.keep (.keep (.cv hd .nil)))))) (Split_c p hp h19 x ⟨hX,rfl⟩)
theorem envG (l : List Res) (cs g : List Int) (fin : Bool) (hl : l.length ≤ 1073741824) (hc : cs.length ≤ 1073741824) (hg : g.length ≤ 1073741824) {bs : List Nat} {L' : List Blk} {a b c : V} {X : V} (hX : envX l cs g fin = X) (ha : Cw (· ∈ bs) L a (.d (ress l))) (hb : Cw (· ∈ bs) L b (.d (ins cs))) (hcc : Cw (· ∈ bs) L c (.d (ins g))) (hbs : plainBlk L bs = true) (hL : killB bs L = L') (h : k X L') :
  CallP C 21 [a,b,c,B fin] L k :=
 CallP.freeze bs hL hbs (.cv ha (.cv hb (.cv hcc (.keep .nil)))) (Env_c l cs g fin hl hc hg (by rw [hX]; exact h))
theorem x3 : rankX p3 false = .tup [.d (insL [[0,1],[2]]),.d (ins [0,1]),I 0]:=by
 unfold rankX
 rw [if_neg (fun h=>h (openB_ok vo.2.2.2.2.1 r2)),vh.1]; rfl
theorem xb : betX p2 false 1 0 = .tup [I 1,I 0]:=by
 unfold betX
 rw [if_neg (fun h=>h (openB_ok vo.2.2.2.2.2.1 r2)),if_neg (by decide),vh.2.1]
theorem xs : splitX pS 12 = .tup [.d (insL [[3],[1],[2]]),I 0]:=by
 unfold splitX
 rw [if_neg (fun h=>h (openB_ok vo.2.2.2.2.2.2 r2)),if_neg (by decide),vh.2.2.1]
theorem x1 : rankX p1 false = .tup [.d (.sl []),.d (.sl []),I 190]:=by
 have e : openE p1 2 p1.clubs.contains = 190:=by unfold openE; rw [if_pos (by decide)]
 unfold rankX
 rw [e,if_pos (by decide)]
theorem xe : envX [] [0,1,2] [0,2] true = .tup [enV ⟨2,0,1,3⟩,I 0]:=by
 unfold envX
 rw [if_pos ⟨by decide,resB_ok (by decide),by decide,by decide⟩]
 exact congrArg (fun e=>V.tup [enV e,I 0]) vh.2.2.2
theorem small4 {l : List (List Int)} (h : (l.all fun x=>decide (x.length ≤ 100)) = true) : ∀ x ∈ l,x.length ≤ 100:=fun x hx=>of_decide_eq_true (List.all_eq_true.1 h x hx)
theorem mem_of {l : List Nat} {b : Nat} (h : l.elem b = true) : b ∈ l:=List.mem_of_elem_eq_true h
abbrev ruM : Blk:=.cells ((usualR [1,8]).cells.map .d)
theorem lp3 : LCp p3:=lcp _ (by decide) (by decide) (by decide) (by decide) (lusual _ (by decide))
theorem lp2 : LCp p2:=lcp _ (by decide) (by decide) (by decide) (by decide) (lusual _ (by decide))
theorem lpS : LCp pS:=lcp _ (by decide) (by decide) (by decide) (by decide) (lusual _ (by decide))
theorem lp1 : LCp p1:=lcp _ (by decide) (by decide) (by decide) (by decide) (lusual _ (by decide))
theorem c19 : p3.clubs.length ≤ 19 ∧ p2.clubs.length ≤ 19 ∧ pS.clubs.length ≤ 19 ∧ p1.clubs.length ≤ 19:=by decide
theorem lead0 {L' : List Blk} (hL : killB [0,1] L = L') {a : V} (ha : Cw (· ∈ [0,1]) L a (.d (insL [[0,1,2,3]]))) (hbs : plainBlk L [0,1] = true) (h : k (B true) L') : CallP C 30 [.nil,a] L k :=
 leadsK [] [[0,1,2,3]] (.d .nil) ha hbs hL (by decide) (by decide) (small4 rfl) (openB_ok vo.1 r4) vg.1 h
theorem lead1 {L' : List Blk} (hL : killB [2,3,4,5] L = L') {a b : V} (ha : Cw (· ∈ [2,3,4,5]) L a (.d (ress l1))) (hb : Cw (· ∈ [2,3,4,5]) L b (.d (insL [[0,2],[1,3]]))) (hbs : plainBlk L [2,3,4,5] = true) (h : k (B true) L') : CallP C 30 [a,b] L k :=
 leadsK l1 _ ha hb hbs hL (by decide) (by decide) (small4 rfl) (openB_ok vo.2.1 r4) vg.2.1 h
theorem lead2 {L' : List Blk} (hL : killB [6,7,8,9] L = L') {a b : V} (ha : Cw (· ∈ [6,7,8,9]) L a (.d (ress l2))) (hb : Cw (· ∈ [6,7,8,9]) L b (.d (insL [[0,1,2],[3]]))) (hbs : plainBlk L [6,7,8,9] = true) (h : k (B true) L') : CallP C 30 [a,b] L k :=
 leadsK l2 _ ha hb hbs hL (by decide) (by decide) (small4 rfl) (openB_ok vo.2.2.1 r4) vg.2.2.1 h
theorem lead3 {L' : List Blk} (hL : killB [10,11,12,13,14,15] L = L') {a b : V} (ha : Cw (· ∈ [10,11,12,13,14,15]) L a (.d (ress l3))) (hb : Cw (· ∈ [10,11,12,13,14,15]) L b (.d (insL [[0],[2],[1],[3]]))) (hbs : plainBlk L [10,11,12,13,14,15] = true) (h : k (B true) L') : CallP C 30 [a,b] L k :=
 leadsK l3 _ ha hb hbs hL (by decide) (by decide) (small4 rfl) (openB_ok vo.2.2.2.1 r4) vg.2.2.2 h
abbrev D2 : List Blk:=[.dead,.dead]
abbrev D4 : List Blk:=[.dead,.dead,.dead,.dead]
theorem sane19_c (h : k (B true) L) : CallP C 11 [] L k:=by
 refine zw25 ?_ rfl (fun _=>rfl) h
 clear h
 refine callP_cut (fun c=>match c with | .region 1 _ _=>true | .region 3 _ _=>true | .region 4 _ _=>true | .region 5 _ _=>true | .region 6 _ _=>true | .region 7 _ _=>true | .region 8 _ _=>true | _=>false) C_ok Tryz.func11 rfl rfl rfl (zw18 rfl) rfl ?_
 conv=>whnf
 refine CutP.intro (ι:=Unit) (fun _=>⟨[(51,B false),(0,B false)],Tryz.f11.ntmps,[],[],none⟩) ?_ (fun _=>?_)
 ·repeat' (conv => whnf
           first|refine won19_c _ _ _ ?_|refine lead0 (L':=D2) rfl (.d (.rowL (ds:=[[ins [0,1,2,3]]]) (mem_of rfl) rfl (.cons (.cons (cvJ [0,1,2,3] (mem_of rfl) rfl rfl) .nil) .nil) rfl (insE [[0,1,2,3]]))) rfl ?_|refine lead1 (L':=D2 ++ D4) rfl (cvR l1 (mem_of rfl) rfl rfl) (.d (.rowL (ds:=[[ins [0,2]],[ins [1,3]]]) (mem_of rfl) rfl (.cons (.cons (cvJ [0,2] (mem_of rfl) rfl rfl) .nil) (.cons (.cons (cvJ [1,3] (mem_of rfl) rfl rfl) .nil) .nil)) rfl (insE [[0,2],[1,3]]))) rfl ?_|refine lead2 (L':=D2 ++ D4 ++ D4) rfl (cvR l2 (mem_of rfl) rfl rfl) (.d (.rowL (ds:=[[ins [0,1,2]],[ins [3]]]) (mem_of rfl) rfl (.cons (.cons (cvJ [0,1,2] (mem_of rfl) rfl rfl) .nil) (.cons (.cons (cvJ [3] (mem_of rfl) rfl rfl) .nil) .nil)) rfl (insE [[0,1,2],[3]]))) rfl ?_|refine lead3 (L':=D2 ++ D4 ++ D4 ++ D4 ++ D2) rfl (cvR l3 (mem_of rfl) rfl rfl) (.d (.rowL (ds:=[[ins [0]],[ins [2]],[ins [1]],[ins [3]]]) (mem_of rfl) rfl (.cons (.cons (cvJ [0] (mem_of rfl) rfl rfl) .nil) (.cons (.cons (cvJ [2] (mem_of rfl) rfl rfl) .nil) (.cons (.cons (cvJ [1] (mem_of rfl) rfl rfl) .nil) (.cons (.cons (cvJ [3] (mem_of rfl) rfl rfl) .nil) .nil)))) rfl (insE [[0],[2],[1],[3]]))) rfl ?_|refine zw1 ?_)
  conv=>whnf
  exact ⟨(),Weak.to 0 rfl (zw21 0) (zw22 _) ⟨rfl,rfl,trivial⟩⟩
 repeat' ((conv=>whnf); refine zw1 ?_)
 conv=>whnf
 refine CutP.intro (ι:=Unit) (fun _=>⟨[(0,B false),(1,.ptr 0 0)],Tryz.f11.ntmps,[ruM],[],none⟩) ?_ (fun _=>?_)
 ·repeat' (conv => whnf
           first|refine CallP.freeze (L':=[.dead]) [0] rfl rfl (.cv (.d (cvJ [1,8] (mem_of rfl) rfl rfl)) .nil) (steps19_c [1,8] (zw18 rfl) ?_)|refine usual19_c [1,8] ?_)
  conv=>whnf
  exact ⟨(),Weak.re [1] ⟨rfl,rfl,trivial⟩ rfl (by decide) rfl⟩
 conv=>whnf
 refine CutP.intro (ι:=Unit) (fun _=>⟨[(0,B false),(1,.ptr 0 0),(2,.d (insL [[0,1],[2]])),(3,.d (ins [0,1])),(4,I 0)],Tryz.f11.ntmps,[ruM],[],none⟩) ?_ (fun _=>?_)
 ·skip
  conv=>whnf
  refine DrawP.por mixed [8] [[(0,1),(1,1),(2,1),(3,1),(7,3),(4,0),(5,0),(6,0),(8,2),(9,0),(10,0),(11,0),(12,0),(13,0),(14,0),(15,0)],[(0,1),(1,1),(2,1),(3,1),(7,3),(4,0),(6,0),(5,0),(8,2),(9,0),(10,0),(11,0),(12,0),(13,0),(14,0),(15,0)],[(0,1),(1,1),(2,1),(3,1),(7,3),(5,0),(4,0),(6,0),(8,2),(9,0),(10,0),(11,0),(12,0),(13,0),(14,0),(15,0)],[(0,1),(1,1),(2,1),(3,1),(7,3),(5,0),(6,0),(4,0),(8,2),(9,0),(10,0),(11,0),(12,0),(13,0),(14,0),(15,0)],[(0,1),(1,1),(2,1),(3,1),(7,3),(6,0),(4,0),(5,0),(8,2),(9,0),(10,0),(11,0),(12,0),(13,0),(14,0),(15,0)],[(0,1),(1,1),(2,1),(3,1),(7,3),(6,0),(5,0),(4,0),(8,2),(9,0),(10,0),(11,0),(12,0),(13,0),(14,0),(15,0)]] (by kernel_rfl) ?_
  conv=>whnf
  refine And.intro ?_ ?_
  rotate_left 1
  conv=>whnf
  refine And.intro ?_ ?_
  rotate_left 1
  conv=>whnf
  refine And.intro ?_ ?_
  rotate_left 1
  conv=>whnf
  refine And.intro ?_ ?_
  rotate_left 1
  conv=>whnf
  refine And.intro ?_ ?_
  all_goals
   repeat' ((conv=>whnf); first|refine zw12 _ (won19_c 0 1 1 ⟨rfl,rfl⟩) ?_|refine zw12 _ (won19_c 1 0 1 ⟨rfl,rfl⟩) ?_|refine zw12 _ (won19_c 0 2 1 ⟨rfl,rfl⟩) ?_|refine zw12 _ (won19_c 1 2 1 ⟨rfl,rfl⟩) ?_|refine MakeP.intro 3 3 rfl rfl (zw21 3) (zw18 rfl) ?_|refine QCallW.introF _ _ (rankG (bs:=[1,2,3]) p3 lp3 c19.1 false x3 (cvR p3.res (mem_of rfl) rfl rfl) (.d (cvJ p3.clubs (mem_of rfl) rfl rfl)) (.d (cvJ p3.off (mem_of rfl) rfl rfl)) (.d .nil) rfl) ?_|refine zw6 rfl ?_)
  all_goals conv=>whnf
  all_goals exact ⟨(),Weak.to 1 rfl (zw22 _) (zw18 rfl) ⟨rfl,rfl,rfl,rfl,rfl,trivial⟩⟩
 conv=>whnf
 refine CutP.intro (ι:=Unit) (fun _=>⟨[(0,B false),(1,.ptr 0 0),(2,.d (insL [[0,1],[2]])),(3,.d (ins [0,1])),(4,I 0),(5,I 1),(6,I 0)],Tryz.f11.ntmps,[ruM],[],none⟩) ?_ (fun _=>?_)
 ·skip
  conv=>whnf
  refine DrawP.por mixed [5] [[(0,1),(4,3),(1,0),(2,0),(3,0),(5,2),(6,0),(7,0),(8,0),(9,0),(10,0)],[(0,1),(4,3),(1,0),(3,0),(2,0),(5,2),(6,0),(7,0),(8,0),(9,0),(10,0)],[(0,1),(4,3),(2,0),(1,0),(3,0),(5,2),(6,0),(7,0),(8,0),(9,0),(10,0)],[(0,1),(4,3),(2,0),(3,0),(1,0),(5,2),(6,0),(7,0),(8,0),(9,0),(10,0)],[(0,1),(4,3),(3,0),(1,0),(2,0),(5,2),(6,0),(7,0),(8,0),(9,0),(10,0)],[(0,1),(4,3),(3,0),(2,0),(1,0),(5,2),(6,0),(7,0),(8,0),(9,0),(10,0)]] (by kernel_rfl) ?_
  conv=>whnf
  refine And.intro ?_ ?_
  rotate_left 1
  conv=>whnf
  refine And.intro ?_ ?_
  rotate_left 1
  conv=>whnf
  refine And.intro ?_ ?_
  rotate_left 1
  conv=>whnf
  refine And.intro ?_ ?_
  rotate_left 1
  conv=>whnf
  refine And.intro ?_ ?_
  all_goals
   repeat' ((conv=>whnf); first|refine zw12 _ (won19_c 0 1 1 ⟨rfl,rfl⟩) ?_|refine MakeP.intro 2 2 rfl rfl (zw21 2) (zw18 rfl) ?_|refine QCallW.introF _ _ (betG (bs:=[1,2,3]) p2 lp2 c19.2.1 false 1 0 xb (cvR p2.res (mem_of rfl) rfl rfl) (.d (cvJ p2.clubs (mem_of rfl) rfl rfl)) (.d (cvJ p2.off (mem_of rfl) rfl rfl)) (.d .nil) rfl) ?_|refine zw6 rfl ?_)
  all_goals conv=>whnf
  all_goals exact ⟨(),Weak.to 1 rfl (zw22 _) (zw18 rfl) ⟨rfl,rfl,rfl,rfl,rfl,rfl,rfl,trivial⟩⟩
 conv=>whnf
 refine CutP.intro (ι:=Unit) (fun _=>⟨[(0,B false),(1,.ptr 0 0),(2,.d (insL [[0,1],[2]])),(3,.d (ins [0,1])),(4,I 0),(5,I 1),(6,I 0),(7,.d (insL [[3],[1],[2]])),(8,I 0)],Tryz.f11.ntmps,[ruM],[],none⟩) ?_ (fun _=>?_)
 ·skip
  conv=>whnf
  refine DrawP.por mixed [4] [[(2,3),(0,0),(1,0),(3,0),(4,2),(5,0),(6,0),(7,0),(8,0),(9,0)],[(2,3),(0,0),(3,0),(1,0),(4,2),(5,0),(6,0),(7,0),(8,0),(9,0)],[(2,3),(1,0),(0,0),(3,0),(4,2),(5,0),(6,0),(7,0),(8,0),(9,0)],[(2,3),(1,0),(3,0),(0,0),(4,2),(5,0),(6,0),(7,0),(8,0),(9,0)],[(2,3),(3,0),(0,0),(1,0),(4,2),(5,0),(6,0),(7,0),(8,0),(9,0)],[(2,3),(3,0),(1,0),(0,0),(4,2),(5,0),(6,0),(7,0),(8,0),(9,0)]] (by kernel_rfl) ?_
  conv=>whnf
  refine And.intro ?_ ?_
  rotate_left 1
  conv=>whnf
  refine And.intro ?_ ?_
  rotate_left 1
  conv=>whnf
  refine And.intro ?_ ?_
  rotate_left 1
  conv=>whnf
  refine And.intro ?_ ?_
  rotate_left 1
  conv=>whnf
  refine And.intro ?_ ?_
  all_goals
   repeat' ((conv=>whnf); first|refine MakeP.intro 3 3 rfl rfl (zw21 3) (zw18 rfl) ?_|refine QCallW.introF _ _ (splitG (bs:=[1,2,3]) pS lpS c19.2.2.1 12 xs (.d .nil) (.d (cvJ pS.clubs (mem_of rfl) rfl rfl)) (.d (cvJ pS.off (mem_of rfl) rfl rfl)) (.d (cvJ pS.lots (mem_of rfl) rfl rfl)) rfl) ?_)
  all_goals conv=>whnf
  all_goals exact ⟨(),Weak.to 1 rfl (zw22 _) (zw18 rfl) ⟨rfl,rfl,rfl,rfl,rfl,rfl,rfl,rfl,rfl,trivial⟩⟩
 conv=>whnf
 refine CutP.intro (ι:=Unit) (fun _=>⟨[(0,B false),(1,.ptr 0 0),(2,.d (insL [[0,1],[2]])),(3,.d (ins [0,1])),(4,I 0),(5,I 1),(6,I 0),(7,.d (insL [[3],[1],[2]])),(8,I 0),(9,.ptr 1 0),(10,I 0)],Tryz.f11.ntmps,[ruM,.cells [I 2,I 0,I 1,I 3]],[],none⟩) ?_ (fun _=>?_)
 ·repeat' (conv => whnf
           first|refine envG [] [0,1,2] [0,2] true (zw18 rfl) (zw18 rfl) (zw18 rfl) (bs:=[1,2]) (L':=[ruM,.dead,.dead]) xe (.d .nil) (.d (cvJ [0,1,2] (mem_of rfl) rfl rfl)) (.d (cvJ [0,2] (mem_of rfl) rfl rfl)) rfl rfl ?_)
  conv=>whnf
  exact ⟨(),Weak.re [0,3] ⟨rfl,rfl,rfl,rfl,rfl,rfl,rfl,rfl,rfl,rfl,rfl,trivial⟩ rfl (by decide) rfl⟩
 conv=>whnf
 refine CutP.intro (ι:=Unit) (fun _=>⟨[(0,B false),(2,.d (insL [[0,1],[2]])),(3,.d (ins [0,1])),(4,I 0),(5,I 1),(6,I 0),(7,.d (insL [[3],[1],[2]])),(8,I 0),(9,.ptr 1 0),(10,I 0),(13,I 190)],Tryz.f11.ntmps,[ruM,.cells [I 2,I 0,I 1,I 3]],[],none⟩) ?_ (fun _=>?_)
 ·repeat' (conv => whnf
           first|refine (rankG (bs:=[2,3]) p1 lp1 c19.2.2.2 false x1 (.d .nil) (.d (cvJ p1.clubs (mem_of rfl) rfl rfl)) (.d (cvJ p1.off (mem_of rfl) rfl rfl)) (.d .nil) rfl).mono ?_)
  rintro X L' ⟨rfl,rfl⟩
  skip
  conv=>whnf
  exact ⟨(),Weak.to 2 rfl (zw22 _) (zw18 rfl) ⟨rfl,rfl,rfl,rfl,rfl,rfl,rfl,rfl,rfl,rfl,rfl,trivial⟩⟩
 have s1 : CallP C 15 [.d (insL [[0,1],[2]]),.d (insL [[0,1],[2]])] [] fun X L'=>L' = [] ∧ X = B true:=rsame19_c [[0,1],[2]] [[0,1],[2]] (by decide) (by decide) (fun x hx=>by have:=small4 (l:=[[0,1],[2]]) rfl x hx; omega) (fun x hx=>by have:=small4 (l:=[[0,1],[2]]) rfl x hx; omega) ⟨rfl,rfl⟩
 have s2 : CallP C 15 [.d (insL [[3],[1],[2]]),.d (insL [[3],[1],[2]])] [] fun X L'=>L' = [] ∧ X = B true:=rsame19_c [[3],[1],[2]] [[3],[1],[2]] (by decide) (by decide) (fun x hx=>by have:=small4 (l:=[[3],[1],[2]]) rfl x hx; omega) (fun x hx=>by have:=small4 (l:=[[3],[1],[2]]) rfl x hx; omega) ⟨rfl,rfl⟩
 have s3 : CallP C 16 [.d (ins [0,1]),.d (ins [0,1])] [] fun X L'=>L' = [] ∧ X = B true:=rsameL19_c [0,1] [0,1] (by decide) (by decide) ⟨rfl,rfl⟩
 repeat' ((conv=>whnf); first|refine zw29 s1 (.keep (.cv (.d (.rowL (ds:=[[ins [0,1]],[ins [2]]]) trivial rfl (.cons (.cons (cvJ [0,1] trivial rfl rfl) .nil) (.cons (.cons (cvJ [2] trivial rfl rfl) .nil) .nil)) rfl (insE [[0,1],[2]]))) .nil)) rfl rfl ?_|refine zw29 s3 (.keep (.cv (.d (cvJ [0,1] trivial rfl rfl)) .nil)) rfl rfl ?_|refine zw29 s2 (.keep (.cv (.d (.rowL (ds:=[[ins [3]],[ins [1]],[ins [2]]]) trivial rfl (.cons (.cons (cvJ [3] trivial rfl rfl) .nil) (.cons (.cons (cvJ [1] trivial rfl rfl) .nil) (.cons (.cons (cvJ [2] trivial rfl rfl) .nil) .nil))) rfl (insE [[3],[1],[2]]))) .nil)) rfl rfl ?_|refine zw0 ?_)
 conv=>whnf
 exact FinP.zz rfl ⟨rfl,rfl⟩
end Go.Proofs.YtihibgcojdfndaaGreatDoor
namespace Go.Proofs.YtihibgcojdfndaaGreatDoor
open Go.Tidy Go.ChangeShapes Go.WideShapes Go.ChangeAt Go.RowKit
open Sts (Res Row Worth Game rowsF addF rowC valueF inG known worthOk resOk fieldOk gameV resV ress rowV)
variable {L : List Blk} {k : V → List Blk → Prop}
def plainTys19 : List TypeId:=[3,4,9,5,60,185,25,27,23,62,64,22,42,52,50,54,24]
theorem plainOk19 : plainB Tryz.prog plainTys19 = true:=by kernel_rfl
theorem bytesOk19 : bytesB Tryz.prog plainTys19 = true:=by kernel_rfl
theorem plainLt19 : ∀ t ∈ plainTys19,t < Tryz.prog.types.size:=by
 have : plainTys19.all (fun t=>decide (t < Tryz.prog.types.size)) = true:=by kernel_rfl
 intro t ht
 simpa using List.all_eq_true.1 this t ht
theorem ints19 {xs : List D} (h : TyI C.P 23 xs) (hs : ∀ y ∈ xs,Dsm reachBytes y) : ∃ l : List Int,xs = [ins l] ∧ True:=by
 obtain ⟨els,rfl,h1,h2⟩:=h.slI Tryz.underlying23
 obtain ⟨l,rfl,_⟩:=map_of2 (f:=fun n=>[DI n]) (p:=fun _=>True) (l:=els) fun y hy=>by
  obtain ⟨n,e,_⟩:=(h2 y hy).intI Tryz.underlying3
  exact ⟨n,e,trivial⟩
 exact ⟨l,rfl,trivial⟩
theorem bool19 {xs : List D} (h : TyI C.P 4 xs) (_ : ∀ y ∈ xs,Dsm reachBytes y) : ∃ b : Bool,xs = [.bool b] ∧ True:=by
 obtain ⟨b,h⟩:=h.boolI Tryz.underlying4
 exact ⟨b,h,trivial⟩
theorem cells_bool : C.P.cellsOf 4 = 1:=by kernel_rfl
theorem cells_game : C.P.cellsOf 62 = 4:=by kernel_rfl
theorem cells_res : C.P.cellsOf 64 = 13:=by kernel_rfl
theorem at_bool {xs : List D} {i : Nat} (h : TyI C.P 4 ((xs.drop i).take (C.P.cellsOf 4))) : ∃ b : Bool,xs[i]? = some (.bool b):=by
 obtain ⟨b,hn⟩:=h.boolI Tryz.underlying4
 rw [cells_bool] at hn
 exact ⟨b,at_one hn⟩
theorem res19T {xs : List D} (h : TyI C.P 64 xs) : ∃ r : Res,xs = r.cells:=by
 obtain ⟨h1,h2⟩:=h.structI Tryz.underlying64
 rw [cells_res] at h1
 simp only [List.mem_cons,List.not_mem_nil,or_false,forall_eq_or_imp,forall_eq] at h2
 obtain ⟨g,a4,a5,a6,a7,a8,a9,a10,a11,a12⟩:=h2
 obtain ⟨_,h3⟩:=g.structI Tryz.underlying62
 simp only [List.mem_cons,List.not_mem_nil,or_false,forall_eq_or_imp,forall_eq] at h3
 obtain ⟨a0,a1,a2,a3⟩:=h3
 rw [cells_game] at a0 a1 a2 a3
 obtain ⟨n0,b0⟩:=at_int a0
 have b0 : xs[0]? = some (DI n0):=by simpa [List.getElem?_take] using b0
 obtain ⟨n1,b1⟩:=at_int a1
 have b1 : xs[1]? = some (DI n1):=by simpa [List.getElem?_take] using b1
 obtain ⟨n2,b2⟩:=at_int a2
 have b2 : xs[2]? = some (DI n2):=by simpa [List.getElem?_take] using b2
 obtain ⟨n3,b3⟩:=at_int a3
 have b3 : xs[3]? = some (DI n3):=by simpa [List.getElem?_take] using b3
 obtain ⟨n4,b4⟩:=at_int a4
 obtain ⟨n5,b5⟩:=at_int a5
 obtain ⟨n6,b6⟩:=at_int a6
 obtain ⟨n7,b7⟩:=at_int a7
 obtain ⟨n8,b8⟩:=at_int a8
 obtain ⟨n9,b9⟩:=at_int a9
 obtain ⟨n10,b10⟩:=at_int a10
 obtain ⟨n11,b11⟩:=at_bool a11
 obtain ⟨n12,b12⟩:=at_bool a12
 refine ⟨⟨⟨n0,n1,n2,n3⟩,n4,n5,n6,n7,n8,n9,n10,n11,n12⟩,?_⟩
 apply List.ext_getElem?
 intro i
 match i with
 | 0=>exact b0
 | 1=>exact b1
 | 2=>exact b2
 | 3=>exact b3
 | 4=>exact b4
 | 5=>exact b5
 | 6=>exact b6
 | 7=>exact b7
 | 8=>exact b8
 | 9=>exact b9
 | 10=>exact b10
 | 11=>exact b11
 | 12=>exact b12
 | i + 13=>rw [List.getElem?_eq_none (by omega)]; rfl
theorem ress19 {xs : List D} (h : TyI C.P 22 xs) (_ : ∀ y ∈ xs,Dsm reachBytes y) : ∃ l : List Res,xs = [ress l] ∧ True:=by
 obtain ⟨els,rfl,h1,h2⟩:=h.slI Tryz.underlying22
 obtain ⟨l,rfl,_⟩:=map_of2 (f:=Res.cells) (p:=fun _=>True) (l:=els) fun y hy=>by
  obtain ⟨r,e⟩:=res19T (h2 y hy)
  exact ⟨r,e,trivial⟩
 exact ⟨l,rfl,trivial⟩
theorem few_p {p : Cp} (h : few19 p = true) (hr : LRu p.ru) : p.res.length ≤ 40 ∧ p.clubs.length ≤ 8 ∧ p.off.length ≤ 30 ∧ p.lots.length ≤ 30 ∧ LCp p:=by
 unfold few19 at h
 rw [Bool.and_eq_true,decide_eq_true_eq] at h
 exact ⟨h.1.1,h.1.2.1,h.1.2.2.1,h.1.2.2.2.1,lcp p (by omega) (by omega) (by omega) (by omega) hr⟩
theorem gs_mem {p : Cp} {fin : Bool} {x : List Int × Int} (h : x ∈ p.gs fin) : x.1.Sublist p.clubs ∧ (p.rk fin).fst x.1 = none:=rank_mem _ _ _ _ _ h
theorem gs_count (p : Cp) (fin : Bool) (h : 1 ≤ p.clubs.length) : (p.gs fin).length ≤ p.clubs.length:=grs_count (p.rk fin) (zw21 _) h (fun e=>by rw [e] at h; exact absurd h (by decide))
theorem gs_small {p : Cp} {fin : Bool} {x : List Int} (h : x ∈ (p.gs fin).map (·.1)) : x.length ≤ p.clubs.length:=by
 obtain ⟨y,hy,rfl⟩:=List.mem_map.1 h
 exact (gs_mem hy).1.length_le
end Go.Proofs.YtihibgcojdfndaaGreatDoor
namespace Go.Proofs.YtihibgcojdfndaaGreatDoor
open Go.Tidy
open Sts (Res Row Worth Game rowsF addF rowC valueF inG known worthOk resOk fieldOk gameV resV ress rowV)
theorem idx_take {l : List Int} (hn : l.Nodup) {i : Nat} (h : i < l.length) : l.idxOf l[i] = i:=by
 have h1:=List.idxOf_lt_length_of_mem (List.getElem_mem h)
 have h2 : l[l.idxOf l[i]] = l[i]:=List.getElem_idxOf h1
 exact (List.getElem_inj hn).1 h2
theorem offTab_val {clubs off : List Int} (hn : clubs.Nodup) (hl : off.length = clubs.length) (c : Int) : ∀ i,i ≤ clubs.length → valP (offTab clubs off i) c = if c ∈ clubs.take i then off.getD (clubs.idxOf c) 0 else 0
 | 0,_=>by simp [offTab,valP,keysP]
 | i + 1,h=>by
  have hi : i < clubs.length:=by omega
  rw [offTab,valP_ins,offTab_val hn hl c i (by omega),getDI hi,take_next hi]
  by_cases e : c = clubs[i]
  ·subst e
   rw [if_pos rfl,if_pos (List.mem_append.2 (.inr (List.mem_singleton.2 rfl))),idx_take hn hi]
  ·rw [if_neg e]
   simp only [List.mem_append,List.mem_singleton,e,or_false]
theorem off_val {clubs off : List Int} (hn : clubs.Nodup) (hl : off.length = clubs.length) (c : Int) : valP (offTab clubs off clubs.length) c = offF clubs off c:=by
 rw [offTab_val hn hl c clubs.length (Nat.le_refl _),List.take_length]; rfl
theorem lot0_val {clubs : List Int} (n : Int) (c : Int) : ∀ i,i ≤ clubs.length → valP (lot0 clubs n i) c = if c ∈ clubs.take i then n else 0
 | 0,_=>by simp [lot0,valP,keysP]
 | i + 1,h=>by
  have hi : i < clubs.length:=by omega
  rw [lot0,valP_ins,lot0_val n c i (by omega),getDI hi,take_next hi]
  by_cases e : c = clubs[i]
  ·rw [if_pos e,if_pos (List.mem_append.2 (.inr (List.mem_singleton.2 e)))]
  ·rw [if_neg e]
   simp only [List.mem_append,List.mem_singleton,e,or_false]
theorem lotTab_val {clubs lots : List Int} (hn : lots.Nodup) (c : Int) : ∀ i,i ≤ lots.length → valP (lotTab clubs lots i) c = if c ∈ lots.take i then (lots.idxOf c : Int) else if c ∈ clubs then (lots.length : Int) else 0
 | 0,_=>by rw [lotTab,lot0_val _ _ _ (Nat.le_refl _),List.take_length]; simp
 | i + 1,h=>by
  have hi : i < lots.length:=by omega
  rw [lotTab,valP_ins,lotTab_val hn c i (by omega),getDI hi,take_next hi]
  by_cases e : c = lots[i]
  ·subst e
   rw [if_pos rfl,if_pos (List.mem_append.2 (.inr (List.mem_singleton.2 rfl))),idx_take hn hi]
  ·rw [if_neg e]
   simp only [List.mem_append,List.mem_singleton,e,or_false]
theorem lot_val {clubs lots : List Int} (hn : lots.Nodup) {c : Int} (hc : c ∈ clubs) : valP (lotTab clubs lots lots.length) c = lotF lots c:=by
 rw [lotTab_val hn c lots.length (Nat.le_refl _),List.take_length]
 unfold lotF
 by_cases h : c ∈ lots
 ·rw [if_pos h,if_pos h]
 ·rw [if_neg h,if_neg h,if_pos hc]
theorem lots_nodup {l : List Int} (h : lotsOk l = true) : l.Nodup:=by
 unfold lotsOk at h
 rw [Bool.and_eq_true,decide_eq_true_eq] at h
 exact h.1
def Cp.with (p : Cp) (m : List Res) : Cp:=⟨m,p.clubs,p.off,p.ru,p.lots⟩
end Go.Proofs.YtihibgcojdfndaaGreatDoor
namespace Go.Tidy
theorem Weak.thawT {k : Nat} {σ σ' : TS} (n : Nat) (hk : k ≤ n) (hn : n ≤ σ.L.length) (hL : σ.L.take n = σ'.L) (hbel : belB n σ'.L = true) (hfr : FC n σ.L σ.fr σ'.fr) (h1 : σ'.n = σ.n:=by rfl) (h2 : σ.df = []:=by rfl) (h2' : σ'.df = []:=by rfl) (h3 : σ'.ro = σ.ro:=by rfl) (h3' : ∀ lb,σ.ro = some lb → lb < n:=by intro _ h; cases h) : Weak k σ σ':=by
 refine Weak.thaw n hk hn (by rw [← hL,List.length_take]; omega) hfr (fun b x y hx hy=>?_) h1 h2 h2' h3 h3'
 rw [← hL] at hy
 have hb : b < n:=by have:=lt_of_get hy; rw [List.length_take] at this; omega
 rw [List.getElem?_take,if_pos hb,hx] at hy
 cases hy
 refine .inl ⟨rfl,?_⟩
 rw [← hL] at hbel
 exact belB_get hbel (i:=b) (by rw [List.getElem?_take,if_pos hb]; exact hx)
end Go.Tidy
namespace Go.Proofs.YtihibgcojdfndaaGreatDoor
open Go.Tidy
open Sts (Res Row Worth Game rowsF addF rowC valueF inG known worthOk resOk fieldOk gameV resV ress rowV)
def rdR (l : List Res) : List (List V):=l.map fun y=>y.cells.map V.d
theorem rdR_bel (n : Nat) : ∀ l : List Res,belR n (rdR l) = true
 | []=>rfl
 | y :: l=>by
  have:=rdR_bel n l
  unfold rdR at this ⊢
  simp only [List.map_cons,belR,this,V.belL_d,Bool.and_true]
end Go.Proofs.YtihibgcojdfndaaGreatDoor
namespace Go.Proofs.YtihibgcojdfndaaGreatDoor
open Go.Tidy
open Sts (Res Row Worth Game rowsF addF rowC valueF inG known worthOk resOk fieldOk gameV resV ress rowV)
variable {L : List Blk} {k : V → List Blk → Prop}
theorem rincr_c (l : List Int) (n : Nat) (hl : l.length ≤ 4611686018427387904) (h : k (B (fieldOk l n)) L) : CallP C 55 [.d (ins l),I n] L k:=by
 have hml : ((l.map fun n=>[DI n]).length : Int) = (l.length : Int):=by rw [insl]
 refine zw25 ?_ rfl (fun _=>rfl) h
 clear h
 refine zw24 C_ok Tryz.func55 rfl rfl rfl (zw18 rfl) rfl ?_
 by_cases c1 : ((l.map fun n=>[DI n]).length : Int) < (n : Int)
 ·have e : fieldOk l n = false:=by
   unfold fieldOk
   rw [decide_eq_false (show ¬ n ≤ l.length by omega)]; simp
  rw [e]
  repeat' ((conv=>whnf); refine zw8 (zw19 c1) ?_)
  conv=>whnf
  exact FinP.zz rfl ⟨rfl,rfl⟩
 by_cases c2 : (24 : Int) < ((l.map fun n=>[DI n]).length : Int)
 ·have e : fieldOk l n = false:=by
   unfold fieldOk
   rw [decide_eq_false (show ¬ l.length ≤ 24 by omega)]; simp
  rw [e]
  repeat' ((conv=>whnf); first|refine zw9 (zw20 c1) ?_|refine zw8 (zw19 c2) ?_)
  conv=>whnf
  exact FinP.zz rfl ⟨rfl,rfl⟩
 repeat' ((conv=>whnf); first|refine zw9 (zw20 c1) ?_|refine zw9 (zw20 c2) ?_)
 conv=>whnf
 refine zw26 (fun i : Nat=>i ≤ l.length ∧ ∀ j,j < i → Sts.okAt l j) (fun i=>⟨[(0,.d (ins l)),(5,I i)],Tryz.f55.ntmps,[],[],none⟩) (fun i=>l.length - i) 0 ⟨zw22 _,fun j h=>absurd h (Nat.not_lt_zero j)⟩ ?_ ?_
 ·exact zw27 ⟨rfl,rfl,trivial⟩
 rintro i ⟨hi,h1⟩
 by_cases hi' : i < l.length
 ·have hlt : (i : Int) < ((l.map fun n=>[DI n]).length : Int):=by omega
  have hw:=zwW i (by omega)
  have r1:=ins_at hi'
  have hok:=Sts.okAt_at hi'
  by_cases d1 : l[i] < 0
  ·rw [← Sts.fieldOk_no (l:=l) (j:=i) (least:=n) (fun h=>by have:=(hok.1 h).1; omega)]
   repeat' ((conv=>whnf); first|refine zw8 (zw19 hlt) ?_|refine zw8 (zw19 d1) ?_|refine zw10 i _ rfl r1 ?_|refine zw6 rfl ?_|refine zw7 mixed rfl ?_)
   conv=>whnf
   exact FinP.zz rfl ⟨rfl,rfl⟩
  by_cases d2 : 192 ≤ l[i]
  ·rw [← Sts.fieldOk_no (l:=l) (j:=i) (least:=n) (fun h=>by have:=(hok.1 h).1; omega)]
   repeat' ((conv=>whnf); first|refine zw8 (zw19 hlt) ?_|refine zw9 (zw20 d1) ?_|refine zw8 (zw19 d2) ?_|refine zw10 i _ rfl r1 ?_|refine zw6 rfl ?_|refine zw7 mixed rfl ?_)
   conv=>whnf
   exact FinP.zz rfl ⟨rfl,rfl⟩
  by_cases d3 : (0 : Int) < (i : Int)
  ·have hw2 : IntKind.i64.wrap ((i : Int) - 1) = ((i - 1 : Nat) : Int):=by rw [wrap_in (by omega)]; omega
   have r2:=ins_at (l:=l) (i:=i - 1) (by omega)
   by_cases d4 : l[i] ≤ l[i - 1]
   ·rw [← Sts.fieldOk_no (l:=l) (j:=i) (least:=n) (fun h=>by have:=(hok.1 h).2 (by omega); omega)]
    repeat' ((conv=>whnf); first|refine zw8 (zw19 hlt) ?_|refine zw9 (zw20 d1) ?_|refine zw9 (zw20 d2) ?_|refine zw8 (zw19 d3) ?_|refine zw8 (zw19 d4) ?_|refine zw10 i _ rfl r1 ?_|refine zw10 (i - 1) _ hw2 r2 ?_|refine zw6 rfl ?_|refine zw7 mixed rfl ?_)
    conv=>whnf
    exact FinP.zz rfl ⟨rfl,rfl⟩
   ·repeat' (conv => whnf
             first|refine zw8 (zw19 hlt) ?_|refine zw9 (zw20 d1) ?_|refine zw9 (zw20 d2) ?_|refine zw8 (zw19 d3) ?_|refine zw9 (zw20 d4) ?_|refine zw10 i _ rfl r1 ?_|refine zw10 (i - 1) _ hw2 r2 ?_|refine zw6 rfl ?_|refine zw7 mixed rfl ?_)
    conv=>whnf
    exact ⟨i + 1,⟨hi',fun j hj=>by
     by_cases e : j = i
     ·subst e; exact hok.2 ⟨by omega,fun _=>by omega⟩
     ·exact h1 j (by omega)⟩,by omega,Weak.by ⟨rfl,congrArg I hw,trivial⟩⟩
  ·repeat' (conv => whnf
            first|refine zw8 (zw19 hlt) ?_|refine zw9 (zw20 d1) ?_|refine zw9 (zw20 d2) ?_|refine zw9 (zw20 d3) ?_|refine zw10 i _ rfl r1 ?_|refine zw6 rfl ?_|refine zw7 mixed rfl ?_)
   conv=>whnf
   exact ⟨i + 1,⟨hi',fun j hj=>by
    by_cases e : j = i
    ·subst e; exact hok.2 ⟨by omega,fun h=>absurd h (by omega)⟩
    ·exact h1 j (by omega)⟩,by omega,Weak.by ⟨rfl,congrArg I hw,trivial⟩⟩
 ·have hlt : ¬ (i : Int) < ((l.map fun n=>[DI n]).length : Int):=by omega
  have e : fieldOk l n = true:=by
   unfold fieldOk
   rw [(Sts.incr_iff l).2 fun j=>by
    by_cases hj : j < i
    ·exact h1 j hj
    ·intro c hc; have:=lt_of_get hc; omega,decide_eq_true (show n ≤ l.length by omega),decide_eq_true (show l.length ≤ 24 by omega)]; rfl
  rw [e]
  repeat' ((conv=>whnf); refine zw9 (zw20 hlt) ?_)
  conv=>whnf
  exact FinP.zz rfl ⟨rfl,rfl⟩
theorem rplayed_c (l : List Res) (cs : List Int) (hcs : cs ≠ []) (hcl : cs.length ≤ 4611686018427387904) (hl : l.length ≤ 1073741824) (h : k (B (ressV l cs.contains)) L) : CallP C 56 [.d (ress l),.d (ins cs)] L k:=by
 have hml : ((l.map Res.cells).length : Int) = (l.length : Int):=by rw [List.length_map]
 refine zw25 ?_ rfl (fun _=>rfl) h
 clear h
 refine zw24 C_ok Tryz.func56 rfl rfl rfl (zw18 rfl) rfl ?_
 skip
 conv=>whnf
 obtain ⟨ok,hokd⟩ : ∃ ok : Int → Bool,ok = cs.contains:=⟨_,rfl⟩
 rw [← hokd]
 refine zw26 (fun i : Nat=>i ≤ l.length ∧ ∀ j,j < i → resAt l ok j) (fun i=>⟨[(0,.d (ress l)),(1,.d (ins cs)),(5,.map 0),(6,I i)],Tryz.f56.ntmps,[.map (esG ((l.take i).map (·.game)))],[],none⟩) (fun i=>l.length - i) 0 ⟨zw22 _,fun j h=>absurd h (Nat.not_lt_zero j)⟩ ?_ ?_
 ·exact zw27 ⟨rfl,rfl,rfl,rfl,trivial⟩
 rintro i ⟨hi,h1⟩
 by_cases hi' : i < l.length
 ·have hlt : (i : Int) < ((l.map Res.cells).length : Int):=by omega
  have hw:=zwW i (by omega)
  have r1:=ress_at hi'
  have r0:=ress_at (l:=l) (i:=0) (by omega)
  have hat:=resAt_at (ok:=ok) hi'
  have htk : (l.take (i + 1)).map (·.game) = (l.take i).map (·.game) ++ [l[i].game]:=by rw [take_next hi',List.map_append]; rfl
  have hck : ∀ {L : List Blk} {k : V → List Blk → Prop},k (I (if resOk l[i] then 0 else 1)) L → CallP C 89 [resV l[i]] L k:=fun h=>Sts.rrescheck_c _ h
  have h1':=fun (h : resAt l ok i) j (hj : j < i + 1)=>(by
   by_cases e : j = i
   ·subst e; exact h
   ·exact h1 j (by omega) : resAt l ok j)
  generalize l[0] = s at *
  generalize l[i] = r at *
  generalize (l.take i).map (·.game) = gs at *
  obtain ⟨⟨a1,a2,a3,a4⟩,a5,a6,a7,a8,a9,a10,a11,a12,a13⟩:=r
  obtain ⟨⟨b1,b2,b3,b4⟩,b5,b6,b7,b8,b9,b10,b11,b12,b13⟩:=s
  simp only at hat htk
  by_cases d1 : resOk ⟨⟨a1,a2,a3,a4⟩,a5,a6,a7,a8,a9,a10,a11,a12,a13⟩
  rotate_left
  ·rw [if_neg d1] at hck
   rw [← ressV_no (l:=l) (ok:=ok) (i:=i) fun h=>d1 (hat.1 h).1]
   repeat' ((conv=>whnf); first|refine zw8 (zw19 hlt) ?_|refine zw3 ?_|refine zw9 (zw20 (show ¬ (1 : Int) = 0 by decide)) ?_|refine zw10 i _ rfl r1 ?_|refine zw12 _ (hck ⟨rfl,rfl⟩) ?_|refine zw6 rfl ?_|refine zw7 mixed rfl ?_)
   conv=>whnf
   exact FinP.zz rfl ⟨rfl,rfl⟩
  rw [if_pos d1] at hck
  by_cases d2 : a1 = b1
  rotate_left
  ·rw [← ressV_no (l:=l) (ok:=ok) (i:=i) fun h=>d2 (hat.1 h).2.1.1]
   repeat' ((conv=>whnf); first|refine zw8 (zw19 hlt) ?_|refine zw3 ?_|refine zw9 (zw20 d2) ?_|refine zw10 i _ rfl r1 ?_|refine zw10 0 _ rfl r0 ?_|refine zw12 _ (hck ⟨rfl,rfl⟩) ?_|refine zw0 ?_|refine zw6 rfl ?_|refine zw7 mixed rfl ?_)
   conv=>whnf
   exact FinP.zz rfl ⟨rfl,rfl⟩
  by_cases d3 : a2 = b2
  rotate_left
  ·rw [← ressV_no (l:=l) (ok:=ok) (i:=i) fun h=>d3 (hat.1 h).2.1.2]
   repeat' ((conv=>whnf); first|refine zw8 (zw19 hlt) ?_|refine zw3 ?_|refine zw8 (zw19 d2) ?_|refine zw9 (zw20 d3) ?_|refine zw10 i _ rfl r1 ?_|refine zw10 0 _ rfl r0 ?_|refine zw12 _ (hck ⟨rfl,rfl⟩) ?_|refine zw0 ?_|refine zw6 rfl ?_|refine zw7 mixed rfl ?_)
   conv=>whnf
   exact FinP.zz rfl ⟨rfl,rfl⟩
  by_cases d4 : (⟨a1,a2,a3,a4⟩ : Game) ∈ gs
  ·rw [← ressV_no (l:=l) (ok:=ok) (i:=i) fun h=>(hat.1 h).2.2.2.2 d4]
   have hmp : ∀ {q : Option (Nat × V) → Prop},(∀ i,q (some (i,B true))) → MapF gK (esG gs) (gameV ⟨a1,a2,a3,a4⟩) q:=fun h=>MapF.met (fun _=>h) fun hn=>absurd d4 hn
   repeat' ((conv=>whnf); first|refine zw8 (zw19 hlt) ?_|refine zw3 ?_|refine zw8 (zw19 d2) ?_|refine zw8 (zw19 d3) ?_|refine zw10 i _ rfl r1 ?_|refine zw10 0 _ rfl r0 ?_|refine zw12 _ (hck ⟨rfl,rfl⟩) ?_|refine hmp (fun _=>?_)|refine zw0 ?_|refine zw6 rfl ?_|refine zw7 mixed rfl ?_)
   conv=>whnf
   exact FinP.zz rfl ⟨rfl,rfl⟩
  have hmp : ∀ {q : Option (Nat × V) → Prop},q none → MapF gK (esG gs) (gameV ⟨a1,a2,a3,a4⟩) q:=fun h=>MapF.met (fun hn=>absurd hn d4) fun _=>h
  have hnz : (cs.map fun n=>[DI n]).length ≠ 0:=by rw [List.length_map]; exact fun e=>hcs (List.eq_nil_of_length_eq_zero e)
  have c3:=fun {L : List Blk} {k : V → List Blk → Prop} h=>rin19_c (L:=L) (k:=k) cs a3 hcl h
  have c4:=fun {L : List Blk} {k : V → List Blk → Prop} h=>rin19_c (L:=L) (k:=k) cs a4 hcl h
  have e3 : ok a3 = cs.contains a3:=by rw [hokd]
  have e4 : ok a4 = cs.contains a4:=by rw [hokd]
  rw [← e3] at c3
  rw [← e4] at c4
  cases d5 : ok a3 with
  | false =>
   rw [d5] at c3
   rw [← ressV_no (l:=l) (ok:=ok) (i:=i) fun h=>by have:=(hat.1 h).2.2.1; rw [d5] at this; cases this]
   repeat' ((conv=>whnf); first|refine zw8 (zw19 hlt) ?_|refine zw3 ?_|refine zw8 (zw19 d2) ?_|refine zw8 (zw19 d3) ?_|refine zw10 i _ rfl r1 ?_|refine zw10 0 _ rfl r0 ?_|refine zw12 _ (hck ⟨rfl,rfl⟩) ?_|refine hmp ?_|refine zw12 _ (NilP.no hnz ⟨rfl,rfl⟩) ?_|refine zw12 _ (c3 ⟨rfl,rfl⟩) ?_|refine zw0 ?_|refine zw1 ?_|refine zw6 rfl ?_|refine zw7 mixed rfl ?_)
   conv=>whnf
   exact FinP.zz rfl ⟨rfl,rfl⟩
  | true =>
  rw [d5] at c3
  cases d6 : ok a4 with
  | false =>
   rw [d6] at c4
   rw [← ressV_no (l:=l) (ok:=ok) (i:=i) fun h=>by have:=(hat.1 h).2.2.2.1; rw [d6] at this; cases this]
   repeat' ((conv=>whnf); first|refine zw8 (zw19 hlt) ?_|refine zw3 ?_|refine zw8 (zw19 d2) ?_|refine zw8 (zw19 d3) ?_|refine zw10 i _ rfl r1 ?_|refine zw10 0 _ rfl r0 ?_|refine zw12 _ (hck ⟨rfl,rfl⟩) ?_|refine hmp ?_|refine zw12 _ (NilP.no hnz ⟨rfl,rfl⟩) ?_|refine zw12 _ (c3 ⟨rfl,rfl⟩) ?_|refine zw12 _ (c4 ⟨rfl,rfl⟩) ?_|refine zw0 ?_|refine zw1 ?_|refine zw6 rfl ?_|refine zw7 mixed rfl ?_)
   conv=>whnf
   exact FinP.zz rfl ⟨rfl,rfl⟩
  | true =>
   rw [d6] at c4
   have hok : resAt l ok i:=hat.2 ⟨d1,⟨d2,d3⟩,d5,d6,d4⟩
   repeat' ((conv=>whnf); first|refine zw8 (zw19 hlt) ?_|refine zw3 ?_|refine zw8 (zw19 d2) ?_|refine zw8 (zw19 d3) ?_|refine zw10 i _ rfl r1 ?_|refine zw10 0 _ rfl r0 ?_|refine zw12 _ (hck ⟨rfl,rfl⟩) ?_|refine hmp ?_|refine zw12 _ (NilP.no hnz ⟨rfl,rfl⟩) ?_|refine zw12 _ (c3 ⟨rfl,rfl⟩) ?_|refine zw12 _ (c4 ⟨rfl,rfl⟩) ?_|refine zw0 ?_|refine zw1 ?_|refine zw6 rfl ?_|refine zw7 mixed rfl ?_)
   conv=>whnf
   have hes : esG gs ++ [(gameV ⟨a1,a2,a3,a4⟩,B true)] = esG ((l.take (i + 1)).map (·.game)):=by rw [htk]; unfold esG; rw [List.map_append]; rfl
   exact ⟨i + 1,⟨hi',h1' hok⟩,by omega,Weak.to 1 (Eq.trans rfl (congrArg (fun x=>[Blk.map x]) hes)) (zw22 _) (zw18 rfl) ⟨rfl,rfl,rfl,congrArg I hw,trivial⟩ (hB:=by show (belM 1 _ && true) = true; rw [esG_bel]; rfl)⟩
 ·have hlt : ¬ (i : Int) < ((l.map Res.cells).length : Int):=by omega
  have e : ressV l ok = true:=by
   refine ressV_iff.2 fun j=>?_
   by_cases hj : j < i
   ·exact h1 j hj
   ·intro r hr; have:=lt_of_get hr; omega
  rw [e]
  repeat' ((conv=>whnf); refine zw9 (zw20 hlt) ?_)
  conv=>whnf
  exact FinP.zz rfl ⟨rfl,rfl⟩
theorem rplayedN_c (l : List Res) (hl : l.length ≤ 1073741824) (h : k (B (ressV l (fun _=>true))) L) : CallP C 56 [.d (ress l),.nil] L k:=by
 have hml : ((l.map Res.cells).length : Int) = (l.length : Int):=by rw [List.length_map]
 refine zw25 ?_ rfl (fun _=>rfl) h
 clear h
 refine zw24 C_ok Tryz.func56 rfl rfl rfl (zw18 rfl) rfl ?_
 skip
 conv=>whnf
 obtain ⟨ok,hokd⟩ : ∃ ok : Int → Bool,ok = (fun _=>true):=⟨_,rfl⟩
 rw [← hokd]
 refine zw26 (fun i : Nat=>i ≤ l.length ∧ ∀ j,j < i → resAt l ok j) (fun i=>⟨[(0,.d (ress l)),(1,.nil),(5,.map 0),(6,I i)],Tryz.f56.ntmps,[.map (esG ((l.take i).map (·.game)))],[],none⟩) (fun i=>l.length - i) 0 ⟨zw22 _,fun j h=>absurd h (Nat.not_lt_zero j)⟩ ?_ ?_
 ·exact zw27 ⟨rfl,rfl,rfl,rfl,trivial⟩
 rintro i ⟨hi,h1⟩
 by_cases hi' : i < l.length
 ·have hlt : (i : Int) < ((l.map Res.cells).length : Int):=by omega
  have hw:=zwW i (by omega)
  have r1:=ress_at hi'
  have r0:=ress_at (l:=l) (i:=0) (by omega)
  have hat:=resAt_at (ok:=ok) hi'
  have htk : (l.take (i + 1)).map (·.game) = (l.take i).map (·.game) ++ [l[i].game]:=by rw [take_next hi',List.map_append]; rfl
  have hck : ∀ {L : List Blk} {k : V → List Blk → Prop},k (I (if resOk l[i] then 0 else 1)) L → CallP C 89 [resV l[i]] L k:=fun h=>Sts.rrescheck_c _ h
  have h1':=fun (h : resAt l ok i) j (hj : j < i + 1)=>(by
   by_cases e : j = i
   ·subst e; exact h
   ·exact h1 j (by omega) : resAt l ok j)
  generalize l[0] = s at *
  generalize l[i] = r at *
  generalize (l.take i).map (·.game) = gs at *
  obtain ⟨⟨a1,a2,a3,a4⟩,a5,a6,a7,a8,a9,a10,a11,a12,a13⟩:=r
  obtain ⟨⟨b1,b2,b3,b4⟩,b5,b6,b7,b8,b9,b10,b11,b12,b13⟩:=s
  simp only at hat htk
  by_cases d1 : resOk ⟨⟨a1,a2,a3,a4⟩,a5,a6,a7,a8,a9,a10,a11,a12,a13⟩
  rotate_left
  ·rw [if_neg d1] at hck
   rw [← ressV_no (l:=l) (ok:=ok) (i:=i) fun h=>d1 (hat.1 h).1]
   repeat' ((conv=>whnf); first|refine zw8 (zw19 hlt) ?_|refine zw3 ?_|refine zw9 (zw20 (show ¬ (1 : Int) = 0 by decide)) ?_|refine zw10 i _ rfl r1 ?_|refine zw12 _ (hck ⟨rfl,rfl⟩) ?_|refine zw6 rfl ?_|refine zw7 mixed rfl ?_)
   conv=>whnf
   exact FinP.zz rfl ⟨rfl,rfl⟩
  rw [if_pos d1] at hck
  by_cases d2 : a1 = b1
  rotate_left
  ·rw [← ressV_no (l:=l) (ok:=ok) (i:=i) fun h=>d2 (hat.1 h).2.1.1]
   repeat' ((conv=>whnf); first|refine zw8 (zw19 hlt) ?_|refine zw3 ?_|refine zw9 (zw20 d2) ?_|refine zw10 i _ rfl r1 ?_|refine zw10 0 _ rfl r0 ?_|refine zw12 _ (hck ⟨rfl,rfl⟩) ?_|refine zw0 ?_|refine zw6 rfl ?_|refine zw7 mixed rfl ?_)
   conv=>whnf
   exact FinP.zz rfl ⟨rfl,rfl⟩
  by_cases d3 : a2 = b2
  rotate_left
  ·rw [← ressV_no (l:=l) (ok:=ok) (i:=i) fun h=>d3 (hat.1 h).2.1.2]
   repeat' ((conv=>whnf); first|refine zw8 (zw19 hlt) ?_|refine zw3 ?_|refine zw8 (zw19 d2) ?_|refine zw9 (zw20 d3) ?_|refine zw10 i _ rfl r1 ?_|refine zw10 0 _ rfl r0 ?_|refine zw12 _ (hck ⟨rfl,rfl⟩) ?_|refine zw0 ?_|refine zw6 rfl ?_|refine zw7 mixed rfl ?_)
   conv=>whnf
   exact FinP.zz rfl ⟨rfl,rfl⟩
  by_cases d4 : (⟨a1,a2,a3,a4⟩ : Game) ∈ gs
  ·rw [← ressV_no (l:=l) (ok:=ok) (i:=i) fun h=>(hat.1 h).2.2.2.2 d4]
   have hmp : ∀ {q : Option (Nat × V) → Prop},(∀ i,q (some (i,B true))) → MapF gK (esG gs) (gameV ⟨a1,a2,a3,a4⟩) q:=fun h=>MapF.met (fun _=>h) fun hn=>absurd d4 hn
   repeat' ((conv=>whnf); first|refine zw8 (zw19 hlt) ?_|refine zw3 ?_|refine zw8 (zw19 d2) ?_|refine zw8 (zw19 d3) ?_|refine zw10 i _ rfl r1 ?_|refine zw10 0 _ rfl r0 ?_|refine zw12 _ (hck ⟨rfl,rfl⟩) ?_|refine hmp (fun _=>?_)|refine zw0 ?_|refine zw6 rfl ?_|refine zw7 mixed rfl ?_)
   conv=>whnf
   exact FinP.zz rfl ⟨rfl,rfl⟩
  have hmp : ∀ {q : Option (Nat × V) → Prop},q none → MapF gK (esG gs) (gameV ⟨a1,a2,a3,a4⟩) q:=fun h=>MapF.met (fun hn=>absurd hn d4) fun _=>h
  have hok : resAt l ok i:=hat.2 ⟨d1,⟨d2,d3⟩,by rw [hokd],by rw [hokd],d4⟩
  repeat' ((conv=>whnf); first|refine zw8 (zw19 hlt) ?_|refine zw3 ?_|refine zw8 (zw19 d2) ?_|refine zw8 (zw19 d3) ?_|refine zw10 i _ rfl r1 ?_|refine zw10 0 _ rfl r0 ?_|refine zw12 _ (hck ⟨rfl,rfl⟩) ?_|refine hmp ?_|refine zw12 _ ⟨rfl,rfl⟩ ?_|refine zw0 ?_|refine zw1 ?_|refine zw6 rfl ?_|refine zw7 mixed rfl ?_)
  conv=>whnf
  have hes : esG gs ++ [(gameV ⟨a1,a2,a3,a4⟩,B true)] = esG ((l.take (i + 1)).map (·.game)):=by rw [htk]; unfold esG; rw [List.map_append]; rfl
  exact ⟨i + 1,⟨hi',h1' hok⟩,by omega,Weak.to 1 (Eq.trans rfl (congrArg (fun x=>[Blk.map x]) hes)) (zw22 _) (zw18 rfl) ⟨rfl,rfl,rfl,congrArg I hw,trivial⟩ (hB:=by show (belM 1 _ && true) = true; rw [esG_bel]; rfl)⟩
 ·have hlt : ¬ (i : Int) < ((l.map Res.cells).length : Int):=by omega
  have e : ressV l ok = true:=by
   refine ressV_iff.2 fun j=>?_
   by_cases hj : j < i
   ·exact h1 j hj
   ·intro r hr; have:=lt_of_get hr; omega
  rw [e]
  repeat' ((conv=>whnf); refine zw9 (zw20 hlt) ?_)
  conv=>whnf
  exact FinP.zz rfl ⟨rfl,rfl⟩
end Go.Proofs.YtihibgcojdfndaaGreatDoor
namespace Go.Proofs.YtihibgcojdfndaaGreatDoor
open Go.Tidy
open Sts (Res Row Worth Game rowsF addF rowC valueF inG known worthOk resOk fieldOk gameV resV ress rowV rowsD)
variable {L : List Blk} {k : V → List Blk → Prop}
abbrev z11 : List V:=(Row.cells ⟨0,0,0,0,0,0,0,0,0,0,0⟩).map .d
theorem rrow_c (ru : Ru) (l : List Res) (c : Int) (hl : l.length ≤ 1073741824) (h : k (rowV (rowS ru.w l c)) L) : CallP C 125 [.d (ress l),I c,.agg (ru.cells.map .d)] L k:=by
 have hml : ((l.map Res.cells).length : Int) = (l.length : Int):=by rw [List.length_map]
 refine zw25 ?_ rfl (fun _=>rfl) h
 clear h
 refine callP_cut (fun c=>match c with | .seq (.region 6 _ _) (.cond _ _ _)=>true | .seq (.region 8 _ _) (.cond _ _ _)=>true | _=>false) C_ok Tryz.func125 rfl rfl rfl (zw18 rfl) rfl ?_
 skip
 conv=>whnf
 refine zw26 (fun i : Nat=>i ≤ l.length) (fun i=>⟨[(0,.d (ress l)),(1,I c),(5,.ptr 0 0),(6,.ptr 1 0),(7,.ptr 2 0),(8,I i)],Tryz.f125.ntmps,[.cells (ru.cells.map .d),.cells z11,.cells ((rowS ru.w (l.take i) c).cells.map .d)],[],none⟩) (fun i=>l.length - i) 0 (zw22 _) ?_ ?_
 ·exact zw27 ⟨rfl,rfl,rfl,rfl,rfl,rfl,trivial⟩
 intro i hi
 have hb3 : ∀ r : Row,belB 3 [Blk.cells (ru.cells.map .d),.cells z11,.cells (r.cells.map .d)] = true:=fun r=>by
  show (V.belL 3 _ && (V.belL 3 _ && (V.belL 3 _ && true))) = true
  rw [V.belL_d,V.belL_d,V.belL_d]; rfl
 by_cases hi' : i < l.length
 ·have hlt : (i : Int) < ((l.map Res.cells).length : Int):=by omega
  have hw:=zwW i (by omega)
  have r1:=ress_at hi'
  have hnx:=rowS_next ru.w c hi'
  have hso:=slice_one hi'
  have hrw : ∀ {L : List Blk} {k : V → List Blk → Prop},k (.tup [.d (rowsD (rowsF [l[i]] (pairI l[i].game.home l[i].game.away) ru.w).1),I (rowsF [l[i]] (pairI l[i].game.home l[i].game.away) ru.w).2]) L → CallP C 163 [.d (ress [l[i]]),.d (ins (pairI l[i].game.home l[i].game.away)),I ru.win,I ru.draw,I ru.loss] L k:=fun h=>Sts.rrows_c [l[i]] _ ru.w (zw18 rfl) (by unfold pairI; split <;> exact zw18 rfl) h
  have hfl:=rowsF_len l[i] l[i].game.home l[i].game.away ru.w
  generalize rowS ru.w (l.take i) c = r at *
  generalize l[i] = y at *
  unfold rowStep at hnx
  obtain ⟨⟨a1,a2,a3,a4⟩,a5,a6,a7,a8,a9,a10,a11,a12,a13⟩:=y
  simp only at hnx hrw hso hfl
  repeat' ((conv=>whnf); first|refine zw8 (zw19 hlt) ?_|refine zw10 i _ rfl r1 ?_|refine zw6 rfl ?_)
  conv=>whnf
  refine CutP.intro (ι:={ u : Unit // a3 = c ∨ a4 = c }) (fun _=>⟨[(0,.d (ress l)),(1,I c),(5,.ptr 0 0),(6,.ptr 1 0),(7,.ptr 2 0),(8,I i),(9,.ptr 3 0)],Tryz.f125.ntmps,[.cells (ru.cells.map .d),.cells z11,.cells (r.cells.map .d),.cells [I a1,I a2,I a3,I a4]],[],none⟩) ?_ (fun d1=>?_)
  ·by_cases e1 : a3 = c
   ·repeat' (conv => whnf
             first|refine zw3 ?_|refine zw8 (zw19 e1) ?_)
    conv=>whnf
    exact ⟨⟨(),.inl e1⟩,Weak.by ⟨rfl,rfl,rfl,rfl,rfl,rfl,rfl,trivial⟩⟩
   by_cases e2 : a4 = c
   ·repeat' (conv => whnf
             first|refine zw3 ?_|refine zw9 (zw20 e1) ?_|refine zw8 (zw19 e2) ?_)
    conv=>whnf
    exact ⟨⟨(),.inr e2⟩,Weak.by ⟨rfl,rfl,rfl,rfl,rfl,rfl,rfl,trivial⟩⟩
   ·rw [show hasC c ⟨⟨a1,a2,a3,a4⟩,a5,a6,a7,a8,a9,a10,a11,a12,a13⟩ = false by unfold hasC; rw [decide_eq_false e1,decide_eq_false e2]; rfl] at hnx
    repeat' ((conv=>whnf); first|refine zw3 ?_|refine zw9 (zw20 e1) ?_|refine zw9 (zw20 e2) ?_)
    conv=>whnf
    refine ⟨i + 1,hi',by omega,?_⟩
    rw [hnx]
    exact zw28 3 rfl (zw22 _) (zw18 rfl) ⟨rfl,rfl,rfl,rfl,rfl,congrArg I hw,trivial⟩ (hB:=hb3 r)
  have hh : hasC c ⟨⟨a1,a2,a3,a4⟩,a5,a6,a7,a8,a9,a10,a11,a12,a13⟩ = true:=by
   unfold hasC
   rcases d1.2 with h | h
   ·rw [decide_eq_true h]; rfl
   ·rw [decide_eq_true h,Bool.or_true]
  rw [hh,if_pos rfl] at hnx
  have hb4 : belB 4 [Blk.cells (ru.cells.map .d),.cells z11,.cells (r.cells.map .d),.cells [I a1,I a2,I a3,I a4]] = true:=by
   show (V.belL 4 _ && (V.belL 4 _ && (V.belL 4 _ && (true && true)))) = true
   rw [V.belL_d,V.belL_d,V.belL_d]; rfl
  skip
  conv=>whnf
  refine CutP.intro (ι:=Unit) (fun _=>⟨[(0,.d (ress l)),(1,I c),(5,.ptr 0 0),(6,.ptr 1 0),(7,.ptr 2 0),(8,I i),(10,.d (ins (pairI a3 a4)))],Tryz.f125.ntmps,[.cells (ru.cells.map .d),.cells z11,.cells (r.cells.map .d),.cells [I a1,I a2,I a3,I a4]],[],none⟩) ?_ (fun _=>?_)
  ·by_cases e3 : a4 < a3
   ·rw [show pairI a3 a4 = [a4,a3] from if_pos e3]
    repeat' ((conv=>whnf); refine zw8 (zw19 e3) ?_)
    conv=>whnf
    exact ⟨(),Weak.thawT 4 (zw22 _) (zw18 rfl) rfl hb4 ⟨.inl ⟨rfl,rfl⟩,.inl ⟨rfl,rfl⟩,.inl ⟨rfl,rfl⟩,.inl ⟨rfl,rfl⟩,.inl ⟨rfl,rfl⟩,.inl ⟨rfl,rfl⟩,.inr (.d (cvJ [a4,a3] (zw18 rfl) rfl rfl)),trivial⟩⟩
   ·rw [show pairI a3 a4 = [a3,a4] from if_neg e3]
    repeat' ((conv=>whnf); refine zw9 (zw20 e3) ?_)
    conv=>whnf
    exact ⟨(),Weak.thawT 4 (zw22 _) (zw18 rfl) rfl hb4 ⟨.inl ⟨rfl,rfl⟩,.inl ⟨rfl,rfl⟩,.inl ⟨rfl,rfl⟩,.inl ⟨rfl,rfl⟩,.inl ⟨rfl,rfl⟩,.inl ⟨rfl,rfl⟩,.inr (.d (cvJ [a3,a4] (zw18 rfl) rfl rfl)),trivial⟩⟩
  generalize pairI a3 a4 = pr at *
  have hm1 : ((rowsF [⟨⟨a1,a2,a3,a4⟩,a5,a6,a7,a8,a9,a10,a11,a12,a13⟩] pr ru.w).1.map Sts.Row.cells).length = (rowsF [⟨⟨a1,a2,a3,a4⟩,a5,a6,a7,a8,a9,a10,a11,a12,a13⟩] pr ru.w).1.length:=List.length_map _
  have hrw' : ∀ {L : List Blk} {k : V → List Blk → Prop},k (.tup [.d (rowsD (rowsF [⟨⟨a1,a2,a3,a4⟩,a5,a6,a7,a8,a9,a10,a11,a12,a13⟩] pr ru.w).1),I (rowsF [⟨⟨a1,a2,a3,a4⟩,a5,a6,a7,a8,a9,a10,a11,a12,a13⟩] pr ru.w).2]) L → CallP C 163 [.d (.sl (((l.map Res.cells).drop i).take (i + 1 - i))),.d (ins pr),I ru.win,I ru.draw,I ru.loss] L k:=fun h=>by rw [hso]; exact hrw h
  clear hrw
  generalize rowsF [⟨⟨a1,a2,a3,a4⟩,a5,a6,a7,a8,a9,a10,a11,a12,a13⟩] pr ru.w = RR at *
  obtain ⟨R,er⟩:=RR
  simp only at hnx hrw' hfl hm1
  repeat' ((conv=>whnf); first|refine zw6 (Sts.cells13 l) ?_|refine SliceP.intro i (i + 1) rfl hw (by omega) (by rw [List.length_map]; exact hi') ?_|refine zw12 _ (hrw' ⟨rfl,rfl⟩) ?_|refine zw7 mixed rfl ?_)
  conv=>whnf
  refine zw26 (fun j : Nat=>j ≤ R.length) (fun j=>⟨[(0,.d (ress l)),(1,I c),(5,.ptr 0 0),(6,.ptr 1 0),(7,.ptr 2 0),(8,I i),(11,.d (rowsD R)),(13,I j)],Tryz.f125.ntmps,[.cells (ru.cells.map .d),.cells z11,.cells ((addS c r (R.take j)).cells.map .d)],[],none⟩) (fun j=>R.length - j) 0 (zw22 _) ?_ ?_
  ·exact zw28 3 rfl (zw22 _) (zw18 rfl) ⟨rfl,rfl,rfl,rfl,rfl,rfl,rfl,rfl,trivial⟩ (hB:=hb3 r)
  intro j hj
  by_cases hj' : j < R.length
  ·have hlt2 : (j : Int) < ((R.map Sts.Row.cells).length : Int):=by omega
   have hwj:=zwW j (by omega)
   have rj:=rowsD_at hj'
   have hnj:=addS_next c r hj'
   have hadd : ∀ {L : List Blk} {k : V → List Blk → Prop},k (.tup [rowV (addF (addS c r (R.take j)) R[j]).1,I (addF (addS c r (R.take j)) R[j]).2]) L → CallP C 164 [rowV (addS c r (R.take j)),rowV R[j]] L k:=fun h=>Sts.radd_c _ _ h
   generalize addS c r (R.take j) = q at *
   generalize R[j] = s at *
   by_cases e1 : s.club = c
   ·rw [if_pos e1] at hnj
    repeat' ((conv=>whnf); first|refine zw8 (zw19 hlt2) ?_|refine zw8 (zw19 e1) ?_|refine zw10 j _ rfl rj ?_|refine zw12 _ (hadd ⟨rfl,rfl⟩) ?_|refine zw6 rfl ?_|refine zw7 mixed rfl ?_)
    conv=>whnf
    refine ⟨j + 1,hj',by omega,?_⟩
    rw [hnj]
    exact zw28 3 rfl (zw22 _) (zw18 rfl) ⟨rfl,rfl,rfl,rfl,rfl,rfl,rfl,congrArg I hwj,trivial⟩ (hB:=hb3 _)
   ·rw [if_neg e1] at hnj
    repeat' ((conv=>whnf); first|refine zw8 (zw19 hlt2) ?_|refine zw9 (zw20 e1) ?_|refine zw10 j _ rfl rj ?_|refine zw6 rfl ?_)
    conv=>whnf
    refine ⟨j + 1,hj',by omega,?_⟩
    rw [hnj]
    exact zw28 3 rfl (zw22 _) (zw18 rfl) ⟨rfl,rfl,rfl,rfl,rfl,rfl,rfl,congrArg I hwj,trivial⟩ (hB:=hb3 _)
  ·have hlt2 : ¬ (j : Int) < ((R.map Sts.Row.cells).length : Int):=by omega
   obtain rfl : j = R.length:=by omega
   rw [List.take_length]
   repeat' ((conv=>whnf); refine zw9 (zw20 hlt2) ?_)
   conv=>whnf
   refine ⟨i + 1,hi',by omega,?_⟩
   rw [hnx]
   exact zw28 3 rfl (zw22 _) (zw18 rfl) ⟨rfl,rfl,rfl,rfl,rfl,congrArg I hw,trivial⟩ (hB:=hb3 _)
 ·have hlt : ¬ (i : Int) < ((l.map Res.cells).length : Int):=by omega
  obtain rfl : i = l.length:=by omega
  rw [List.take_length]
  repeat' ((conv=>whnf); refine zw9 (zw20 hlt) ?_)
  conv=>whnf
  exact FinP.zz rfl ⟨rfl,rfl⟩
theorem rhead_c (b : Int) (h : k (B (headB b)) L) : CallP C 123 [I b] L k:=by
 refine zw25 ?_ rfl (fun _=>rfl) h
 clear h
 refine zw24 C_ok Tryz.func123 rfl rfl rfl (zw18 rfl) rfl ?_
 unfold headB
 by_cases c1 : (8 : Int) ≤ b
 ·rw [decide_eq_true c1,Bool.true_and]
  repeat' ((conv=>whnf); refine zw8 (zw19 c1) ?_)
  conv=>whnf
  exact FinP.zz rfl ⟨rfl,rfl⟩
 ·rw [decide_eq_false c1,Bool.false_and]
  repeat' ((conv=>whnf); refine zw9 (zw20 c1) ?_)
  conv=>whnf
  exact FinP.zz rfl ⟨rfl,rfl⟩
structure Grp (p : Cp) : Prop where
 nd : p.clubs.Nodup
 off : p.off.length = p.clubs.length
 lots : p.lots.Nodup
 l1 : p.res.length ≤ 100
 l2 : p.clubs.length ≤ 100
 l3 : p.lots.length ≤ 100
 ru : LRu p.ru
theorem inG_next {g : List Int} {l : List Res} {i : Nat} (h : i < l.length) : inG g (l.take (i + 1)) = if known g l[i] then inG g (l.take i) ++ [l[i]] else inG g (l.take i):=by
 unfold Sts.inG
 rw [Sts.take_next h,List.filter_append]
 split
 ·rename_i e; rw [List.filter_cons_of_pos e]; rfl
 ·rename_i e; rw [List.filter_cons_of_neg e]; simp
theorem inG_len (g : List Int) (l : List Res) (i : Nat) : (inG g (l.take i)).length ≤ i:=by
 unfold Sts.inG
 exact zw23 (List.length_filter_le _ _) (by rw [List.length_take]; omega)
theorem lots_no {p : Cp} (hG : Grp p) {c : Int} (hc : c ∈ p.clubs) (b : Int) (hb : b = 12) (g : List Int) : valC p g b c = IntKind.i64.wrap (0 - lotF p.lots c):=by
 unfold valC
 rw [if_pos hb,lot_val hG.lots hc]
theorem rvalue19_c (p : Cp) (hG : Grp p) {i : Nat} (hi : i < p.clubs.length) (b : Int) (h : k (I (valC p p.clubs b p.clubs[i])) L) : CallP C 84 [.d (ress p.res),.d (ins p.clubs),.d (ins p.off),I i,I b,.agg (p.ru.cells.map .d),.d (ins p.lots)] L k:=by
 have hcm:=List.getElem_mem hi
 have r1:=ins_at hi
 have r2:=ins_at (l:=p.off) (i:=i) (by have:=hG.off; omega)
 have hl1:=hG.l1
 have hl2:=hG.l2
 have hl3:=hG.l3
 have hw0:=fun (l : List Res) (hl : l.length ≤ 1073741824)=>rrow_c (k:=fun X L'=>L' = [] ∧ X = rowV (rowS p.ru.w l p.clubs[i])) (L:=[]) p.ru l p.clubs[i] hl ⟨rfl,rfl⟩
 have hrow:=fun {L : List Blk} {k : V → List Blk → Prop} (h : k (rowV (rowS p.ru.w p.res p.clubs[i])) L)=>rrow_c (L:=L) (k:=k) p.ru p.res p.clubs[i] (by omega) h
 have hval : ∀ (r : Row) {L : List Blk} {k : V → List Blk → Prop},k (I (valueF r b)) L → CallP C 124 [rowV r,I b] L k:=fun r _ _ h=>Sts.rvalue_c r b h
 have hhd : ∀ {L : List Blk} {k : V → List Blk → Prop},k (B (headB b)) L → CallP C 123 [I b] L k:=fun h=>rhead_c b h
 by_cases b12 : b = 12
 ·rw [lots_no hG hcm b b12] at h
  have hml : ((p.lots.map fun n=>[DI n]).length : Int) = (p.lots.length : Int):=by rw [insl]
  refine zw25 ?_ rfl (fun _=>rfl) h
  clear h
  refine zw24 C_ok Tryz.func84 rfl rfl rfl (zw18 rfl) rfl ?_
  clear hw0 hrow
  generalize p.clubs[i] = c at *
  repeat' ((conv=>whnf); refine zw8 (zw19 b12) ?_)
  conv=>whnf
  refine zw26 (fun j : Nat=>j ≤ p.lots.length ∧ ∀ (m : Nat) (hm : m < p.lots.length),m < j → p.lots[m] ≠ c) (fun j=>⟨[(1,.d (ins p.clubs)),(3,I i),(6,.d (ins p.lots)),(15,I j)],Tryz.f84.ntmps,[],[],none⟩) (fun j=>p.lots.length - j) 0 ⟨zw22 _,fun m _ h=>absurd h (Nat.not_lt_zero m)⟩ ?_ ?_
  ·exact zw28 0 rfl (zw21 0) (zw22 _) ⟨rfl,rfl,rfl,rfl,trivial⟩
  rintro j ⟨hj,h1⟩
  by_cases hj' : j < p.lots.length
  ·have hlt : (j : Int) < ((p.lots.map fun n=>[DI n]).length : Int):=by omega
   have hw:=zwW j (by omega)
   have r3:=ins_at hj'
   by_cases hq : p.lots[j] = c
   ·have e : lotF p.lots c = (j : Int):=by
     unfold lotF
     rw [if_pos (hq ▸ List.getElem_mem hj'),← hq,idx_take hG.lots hj']
    rw [e]
    generalize p.lots[j] = x at *
    repeat' ((conv=>whnf); first|refine zw8 (zw19 hlt) ?_|refine zw8 (zw19 hq) ?_|refine zw10 j _ rfl r3 ?_|refine zw10 i _ rfl r1 ?_|refine zw6 rfl ?_|refine zw7 mixed rfl ?_)
    conv=>whnf
    exact FinP.zz rfl ⟨rfl,rfl⟩
   ·have h1' : ∀ (m : Nat) (hm : m < p.lots.length),m < j + 1 → p.lots[m] ≠ c:=fun m hm hmj=>by
     by_cases e : m = j
     ·subst e; exact hq
     ·exact h1 m hm (by omega)
    obtain ⟨x,hx⟩ : ∃ x,x = p.lots[j]:=⟨_,rfl⟩
    rw [← hx] at r3 hq
    repeat' ((conv=>whnf); first|refine zw8 (zw19 hlt) ?_|refine zw9 (zw20 hq) ?_|refine zw10 j _ rfl r3 ?_|refine zw10 i _ rfl r1 ?_|refine zw6 rfl ?_|refine zw7 mixed rfl ?_)
    conv=>whnf
    exact ⟨j + 1,⟨hj',h1'⟩,by omega,Weak.by ⟨rfl,rfl,rfl,congrArg I hw,trivial⟩⟩
  ·have hlt : ¬ (j : Int) < ((p.lots.map fun n=>[DI n]).length : Int):=by omega
   have e : lotF p.lots c = ((p.lots.map fun n=>[DI n]).length : Int):=by
    unfold lotF
    rw [if_neg fun hm=>by
     obtain ⟨m,hm,hme⟩:=List.mem_iff_getElem.1 hm
     exact h1 m hm (by omega) hme,hml]
   rw [e]
   repeat' ((conv=>whnf); refine zw9 (zw20 hlt) ?_)
   conv=>whnf
   exact FinP.zz rfl ⟨rfl,rfl⟩
 by_cases hb : headB b = true
 ·have e : valC p p.clubs b p.clubs[i] = valueF (rowS p.ru.w (inG p.clubs p.res) p.clubs[i]) b:=by
   unfold valC
   rw [if_neg b12,if_pos hb]
  rw [e] at h
  rw [hb] at hhd
  have hml : ((p.res.map Res.cells).length : Int) = (p.res.length : Int):=by rw [List.length_map]
  refine zw25 ?_ rfl (fun _=>rfl) h
  clear h
  refine zw24 C_ok Tryz.func84 rfl rfl rfl (zw18 rfl) rfl ?_
  clear hrow e
  generalize p.clubs[i] = c at *
  repeat' ((conv=>whnf); first|refine zw9 (zw20 b12) ?_|refine hhd ?_|refine zw0 ?_)
  conv=>whnf
  refine zw26 (fun j : Nat=>j ≤ p.res.length) (fun j=>⟨[(0,.d (ress p.res)),(1,.d (ins p.clubs)),(3,I i),(4,I b),(12,.ptr 0 0),(16,.own 1 (inG p.clubs (p.res.take j)).length 0 (inG p.clubs (p.res.take j)).length),(17,I j)],Tryz.f84.ntmps,[.cells (p.ru.cells.map .d),.row (inG p.clubs (p.res.take j)).length 13 (rdR (inG p.clubs (p.res.take j)))],[],none⟩) (fun j=>p.res.length - j) 0 (zw22 _) ?_ ?_
  ·exact (Weak.nilOwn 16 13 rfl (by decide)).trans (zw27 ⟨rfl,rfl,rfl,rfl,rfl,rfl,rfl,trivial⟩)
  intro j hj
  by_cases hj' : j < p.res.length
  ·have hlt : (j : Int) < ((p.res.map Res.cells).length : Int):=by omega
   have hw:=zwW j (by omega)
   have r3:=ress_at hj'
   have hnx:=inG_next (g:=p.clubs) hj'
   have hlen:=inG_len p.clubs p.res j
   obtain ⟨y,hy⟩ : ∃ y,y = p.res[j]:=⟨_,rfl⟩
   rw [← hy] at r3 hnx
   clear hy
   have i1:=fun {L : List Blk} {k : V → List Blk → Prop} h=>rin19_c (L:=L) (k:=k) p.clubs y.game.home (by omega) h
   have i2:=fun {L : List Blk} {k : V → List Blk → Prop} h=>rin19_c (L:=L) (k:=k) p.clubs y.game.away (by omega) h
   unfold Sts.known at hnx
   generalize inG p.clubs (p.res.take j) = A at *
   have hbA : ∀ A : List Res,belB 2 [Blk.cells (p.ru.cells.map .d),.row A.length 13 (rdR A)] = true:=fun A=>by
    show (V.belL 2 _ && (belR 2 (rdR A) && true)) = true
    rw [V.belL_d,rdR_bel]; rfl
   cases d5 : p.clubs.contains y.game.home with
   | false =>
    rw [d5,Bool.false_and,if_neg (by decide)] at hnx
    rw [d5] at i1
    obtain ⟨⟨a1,a2,a3,a4⟩,a5,a6,a7,a8,a9,a10,a11,a12,a13⟩:=y
    repeat' ((conv=>whnf); first|refine zw8 (zw19 hlt) ?_|refine zw10 j _ rfl r3 ?_|refine i1 ?_|refine zw1 ?_|refine zw6 rfl ?_)
    conv=>whnf
    refine ⟨j + 1,hj',by omega,?_⟩
    rw [hnx]
    exact zw27 ⟨rfl,rfl,rfl,rfl,rfl,rfl,congrArg I hw,trivial⟩
   | true =>
   rw [d5,Bool.true_and] at hnx
   rw [d5] at i1
   cases d6 : p.clubs.contains y.game.away with
   | false =>
    rw [d6,if_neg (by decide)] at hnx
    rw [d6] at i2
    obtain ⟨⟨a1,a2,a3,a4⟩,a5,a6,a7,a8,a9,a10,a11,a12,a13⟩:=y
    repeat' ((conv=>whnf); first|refine zw8 (zw19 hlt) ?_|refine zw10 j _ rfl r3 ?_|refine i1 ?_|refine i2 ?_|refine zw0 ?_|refine zw1 ?_|refine zw6 rfl ?_)
    conv=>whnf
    refine ⟨j + 1,hj',by omega,?_⟩
    rw [hnx]
    exact zw27 ⟨rfl,rfl,rfl,rfl,rfl,rfl,congrArg I hw,trivial⟩
   | true =>
    rw [d6,if_pos rfl] at hnx
    rw [d6] at i2
    have hrow2 : (rdR A).take A.length ++ [y.cells.map V.d] = rdR (A ++ [y]):=by
     unfold rdR
     rw [List.take_of_length_le (by simp),List.map_append]; rfl
    have hrow3 : [Blk.cells (p.ru.cells.map .d),.row (A.length + 1) 13 ((rdR A).take A.length ++ [y.cells.map V.d])] = [.cells (p.ru.cells.map .d),.row (A ++ [y]).length 13 (rdR (A ++ [y]))]:=by rw [hrow2,List.length_append]; rfl
    have hap : A.length + 1 ≤ 200:=by omega
    obtain ⟨⟨a1,a2,a3,a4⟩,a5,a6,a7,a8,a9,a10,a11,a12,a13⟩:=y
    repeat' ((conv=>whnf); first|refine zw8 (zw19 hlt) ?_|refine zw10 j _ rfl r3 ?_|refine i1 ?_|refine i2 ?_|refine zw6 (zw23 hap (zw18 rfl)) ?_|simp only [Nat.beq_refl,Bool.and_self]|refine zw0 ?_|refine zw6 rfl ?_)
    conv=>whnf
    refine ⟨j + 1,hj',by omega,?_⟩
    rw [hnx]
    exact zw28 2 (Eq.trans rfl hrow3) (zw22 _) (zw18 rfl) ⟨rfl,rfl,rfl,rfl,rfl,Eq.trans (b:=norm (V.own 1 (A.length + 1) 0 (A.length + 1))) rfl (congrArg (fun n=>norm (V.own 1 n 0 n)) (by rw [List.length_append]; rfl)),congrArg I hw,trivial⟩ (hB:=hbA _)
  ·have hlt : ¬ (j : Int) < ((p.res.map Res.cells).length : Int):=by omega
   obtain rfl : j = p.res.length:=by omega
   rw [List.take_length]
   have hlen:=inG_len p.clubs p.res p.res.length
   rw [List.take_length] at hlen
   generalize inG p.clubs p.res = A at *
   have hq:=hw0 A (by omega)
   repeat' ((conv=>whnf); first|refine zw9 (zw20 hlt) ?_|refine zw10 i _ rfl r1 ?_|refine zw12 _ (zw29 hq (.cv (cvR A trivial rfl rfl) (.keep (.keep .nil))) rfl rfl ⟨rfl,rfl⟩) ?_|refine zw12 _ (hval _ ⟨rfl,rfl⟩) ?_|refine zw6 rfl ?_|refine zw7 mixed rfl ?_)
   conv=>whnf
   exact FinP.zz rfl ⟨rfl,rfl⟩
 have hbf : headB b = false:=by
  cases e : headB b with
  | false=>rfl
  | true=>exact absurd e hb
 rw [hbf] at hhd
 by_cases b1 : b = 1
 ·have e : valC p p.clubs b p.clubs[i] = IntKind.i64.wrap ((rowS p.ru.w p.res p.clubs[i]).points - p.off[i]'(by have:=hG.off; omega)):=by
   unfold valC
   rw [if_neg b12,if_neg hb,if_pos b1,off_val hG.nd hG.off]
   unfold offF
   rw [if_pos hcm,idx_take hG.nd hi,getDI (by have:=hG.off; omega)]
  rw [e] at h
  refine zw25 ?_ rfl (fun _=>rfl) h
  clear h
  refine zw24 C_ok Tryz.func84 rfl rfl rfl (zw18 rfl) rfl ?_
  clear e hw0
  generalize p.clubs[i] = c at *
  generalize p.off[i]'(by have:=hG.off; omega) = o at *
  generalize rowS p.ru.w p.res c = r at *
  repeat' ((conv=>whnf); first|refine zw9 (zw20 b12) ?_|refine zw8 (zw19 b1) ?_|refine hhd ?_|refine zw10 i _ rfl r1 ?_|refine zw10 i _ rfl r2 ?_|refine zw12 _ (hrow ⟨rfl,rfl⟩) ?_|refine zw1 ?_|refine zw6 rfl ?_|refine zw7 mixed rfl ?_)
  conv=>whnf
  exact FinP.zz rfl ⟨rfl,rfl⟩
 ·have e : valC p p.clubs b p.clubs[i] = valueF (rowS p.ru.w p.res p.clubs[i]) b:=by
   unfold valC
   rw [if_neg b12,if_neg hb,if_neg b1]
  rw [e] at h
  refine zw25 ?_ rfl (fun _=>rfl) h
  clear h
  refine zw24 C_ok Tryz.func84 rfl rfl rfl (zw18 rfl) rfl ?_
  clear e hw0
  generalize p.clubs[i] = c at *
  generalize rowS p.ru.w p.res c = r at *
  repeat' ((conv=>whnf); first|refine zw9 (zw20 b12) ?_|refine zw9 (zw20 b1) ?_|refine hhd ?_|refine zw10 i _ rfl r1 ?_|refine zw12 _ (hrow ⟨rfl,rfl⟩) ?_|refine zw12 _ (hval _ ⟨rfl,rfl⟩) ?_|refine zw1 ?_|refine zw6 rfl ?_|refine zw7 mixed rfl ?_)
  conv=>whnf
  exact FinP.zz rfl ⟨rfl,rfl⟩
theorem taken19_c (l : List (List Int)) (n : Int) (hl : l.length ≤ 1073741824) (hs : ∀ x ∈ l,x.length ≤ 1073741824) (h : k (B (l.any fun es=>es.contains n)) L) : CallP C 85 [.d (insL l),I n] L k:=by
 have hml : ((l.map fun es=>[ins es]).length : Int) = (l.length : Int):=by rw [List.length_map]
 refine zw25 ?_ rfl (fun _=>rfl) h
 clear h
 refine zw24 C_ok Tryz.func85 rfl rfl rfl (zw18 rfl) rfl ?_
 skip
 conv=>whnf
 refine zw26 (fun i : Nat=>i ≤ l.length ∧ ∀ (j : Nat) (hj : j < l.length),j < i → l[j].contains n = false) (fun i=>⟨[(0,.d (insL l)),(1,I n),(5,I i)],Tryz.f85.ntmps,[],[],none⟩) (fun i=>l.length - i) 0 ⟨zw22 _,fun j _ h=>absurd h (Nat.not_lt_zero j)⟩ ?_ ?_
 ·exact zw27 ⟨rfl,rfl,rfl,trivial⟩
 rintro i ⟨hi,h1⟩
 by_cases hi' : i < l.length
 ·have hlt : (i : Int) < ((l.map fun es=>[ins es]).length : Int):=by omega
  have hw:=zwW i (by omega)
  have r1:=insL_at hi'
  have hin:=fun {L : List Blk} {k : V → List Blk → Prop} (h : k (B (l[i].contains n)) L)=>rin19_c (L:=L) (k:=k) l[i] n (by have:=hs _ (List.getElem_mem hi'); omega) h
  cases hq : l[i].contains n with
  | true =>
   rw [hq] at hin
   rw [show (l.any fun es=>es.contains n) = true from List.any_eq_true.2 ⟨l[i],List.getElem_mem hi',hq⟩]
   generalize l[i] = q at *
   repeat' ((conv=>whnf); first|refine zw8 (zw19 hlt) ?_|refine zw10 i _ rfl r1 ?_|refine hin ?_|refine zw0 ?_|refine zw6 rfl ?_)
   conv=>whnf
   exact FinP.zz rfl ⟨rfl,rfl⟩
  | false =>
   rw [hq] at hin
   have h1' : ∀ (j : Nat) (hj : j < l.length),j < i + 1 → l[j].contains n = false:=fun j hj hji=>by
    by_cases e : j = i
    ·subst e; exact hq
    ·exact h1 j hj (by omega)
   generalize l[i] = q at *
   repeat' ((conv=>whnf); first|refine zw8 (zw19 hlt) ?_|refine zw10 i _ rfl r1 ?_|refine hin ?_|refine zw1 ?_|refine zw6 rfl ?_)
   conv=>whnf
   exact ⟨i + 1,⟨hi',h1'⟩,by omega,Weak.by ⟨rfl,rfl,congrArg I hw,trivial⟩⟩
 ·have hlt : ¬ (i : Int) < ((l.map fun es=>[ins es]).length : Int):=by omega
  have e : (l.any fun es=>es.contains n) = false:=by
   rw [List.any_eq_false]
   intro x hx
   obtain ⟨j,hj,rfl⟩:=List.mem_iff_getElem.1 hx
   rw [h1 j hj (by omega)]; decide
  rw [e]
  repeat' ((conv=>whnf); refine zw9 (zw20 hlt) ?_)
  conv=>whnf
  exact FinP.zz rfl ⟨rfl,rfl⟩
def pickF (l at' : List Int) : List Int:=at'.map fun i=>l.getD i.toNat 0
theorem pick19_c (l at' : List Int) (hl : l.length ≤ 100) (ha : at'.length ≤ 100) (hb : ∀ x ∈ at',0 ≤ x ∧ x < l.length) (h : k (.d (ins (pickF l at'))) L) : CallP C 44 [.d (ins l),.d (ins at')] L k:=by
 have hml : ((at'.map fun n=>[DI n]).length : Int) = (at'.length : Int):=by rw [insl]
 refine zw25 ?_ rfl (fun _=>rfl) h
 clear h
 refine zw24 C_ok Tryz.func44 rfl rfl rfl (zw18 rfl) rfl ?_
 skip
 conv=>whnf
 refine zw26 (fun i : Nat=>i ≤ at'.length) (fun i=>⟨[(0,.d (ins l)),(1,.d (ins at')),(5,.own 0 i 0 i),(6,I i)],Tryz.f44.ntmps,[.row i 1 (rdI (pickF l (at'.take i)))],[],none⟩) (fun i=>at'.length - i) 0 (zw22 _) ?_ ?_
 ·exact (Weak.nilOwn 5 1 rfl (by decide)).trans (zw27 ⟨rfl,rfl,rfl,rfl,trivial⟩)
 intro i hi
 by_cases hi' : i < at'.length
 ·have hlt : (i : Int) < ((at'.map fun n=>[DI n]).length : Int):=by omega
  have hw:=zwW i (by omega)
  have r1:=ins_at hi'
  have hx:=hb _ (List.getElem_mem hi')
  have hxl : at'[i].toNat < l.length:=by omega
  have hxi : at'[i] = (at'[i].toNat : Int):=by omega
  have r2:=ins_at hxl
  have e : (rdI (pickF l (at'.take i))).take i ++ [[I l[at'[i].toNat]]] = rdI (pickF l (at'.take (i + 1))):=by
   rw [take_next hi']
   unfold rdI pickF
   rw [List.take_of_length_le (by simp; omega),List.map_append,List.map_append,List.map_cons,List.map_cons,List.map_nil,List.map_nil,getDI hxl]
  have hap : ∀ {X : Prop},X → Need (i + 1 ≤ 4294967296) X:=fun h=>zw6 (by omega) h
  generalize l[at'[i].toNat] = z at *
  generalize at'[i].toNat = q at *
  generalize at'[i] = x at *
  repeat' ((conv=>whnf); first|refine zw8 (zw19 hlt) ?_|refine zw10 i _ rfl r1 ?_|refine zw10 q _ hxi r2 ?_|simp only [Nat.beq_refl,Bool.and_self]|refine hap ?_|refine zw6 rfl ?_)
  conv=>whnf
  exact ⟨i + 1,hi',by omega,Weak.to 1 (Eq.trans rfl (congrArg (fun z=>[Blk.row (i + 1) 1 z]) e)) (zw22 _) (zw18 rfl) ⟨rfl,rfl,rfl,congrArg I hw,trivial⟩ (hB:=by show (belR 1 _ && true) = true; rw [rdI_bel]; rfl)⟩
 have hlt : ¬ (i : Int) < ((at'.map fun n=>[DI n]).length : Int):=by omega
 obtain rfl : i = at'.length:=by omega
 rw [List.take_length]
 repeat' ((conv=>whnf); refine zw9 (zw20 hlt) ?_)
 conv=>whnf
 exact zw16 (L':=[]) (.d (cvJ _ (zw22 _) rfl (by unfold pickF; rw [List.length_map]))) rfl rfl ⟨rfl,rfl⟩
def viF (p : Cp) (b : Int) : Int → Int:=fun i=>valC p p.clubs b (p.clubs.getD i.toNat 0)
def cI (p : Cp) (b : Int) : List (Int × List Int):=clsF (viF p b) (idxI p.clubs.length)
def splitI (p : Cp) (b : Int) : List (List Int):=(cI p b).map (·.2)
theorem gr_vc1 {n : Nat} {L : List Blk} {x y : V} : ∀ (d : List (List Int)) (_ : Cw (fun b=>n ≤ b) L x y) (i j : Nat) {e e' : List V} {u v : V},(grV d ++ [[x]])[i]? = some e → (grV d ++ [[y]])[i]? = some e' → e[j]? = some u → e'[j]? = some v → VC n L u v
 | [],h,0,0,_,_,_,_,h1,h2,h3,h4=>by cases h1; cases h2; cases h3; cases h4; exact .inr h
 | [],h,0,j + 1,_,_,_,_,h1,h2,h3,h4=>by cases h1; cases h2; simp at h3
 | [],h,i + 1,j,_,_,_,_,h1,h2,h3,h4=>by simp [grV] at h1
 | a :: d,h,0,j,_,_,_,_,h1,h2,h3,h4=>by
  cases h1; cases h2
  rw [h3] at h4
  cases h4
  match j,h3 with
  | 0,h3=>cases h3; exact .inl ⟨rfl,rfl⟩
  | j + 1,h3=>simp at h3
 | a :: d,h,i + 1,j,_,_,_,_,h1,h2,h3,h4=>gr_vc1 d h i j h1 h2 h3 h4
theorem idxI_len (n : Nat) : (idxI n).length = n:=by unfold idxI; simp
theorem idxI_at {n i : Nat} (h : i < n) : (idxI n)[i]'(by rw [idxI_len]; exact h) = (i : Int):=by unfold idxI; simp
theorem idxI_next {n i : Nat} (h : i < n) : (idxI n).take (i + 1) = (idxI n).take i ++ [(i : Int)]:=by
 rw [take_next (show i < (idxI n).length by rw [idxI_len]; exact h),idxI_at h]
theorem vi_at {p : Cp} {b : Int} {i : Nat} (h : i < p.clubs.length) : viF p b i = valC p p.clubs b p.clubs[i]:=by
 unfold viF
 rw [Int.toNat_natCast,getDI h]
theorem cI_len (p : Cp) (b : Int) : (cI p b).length ≤ p.clubs.length:=by
 have h:=flat_ge ((cI p b).map (·.2)) fun q hq=>by
  obtain ⟨x,hx,rfl⟩:=List.mem_map.1 hq
  exact fall_ne (cls_fall _ _) x hx
 have e:=(split_perm (viF p b) (idxI p.clubs.length)).length_eq
 unfold splitF at e
 unfold cI at h ⊢
 rw [e,idxI_len,List.length_map] at h
 exact h
def clA (p : Cp) (b u : Int) (i : Nat) : List Int:=((idxI p.clubs.length).take i).filter fun x=>decide (viF p b x = u)
theorem clA_next {p : Cp} {b u : Int} {i : Nat} (h : i < p.clubs.length) : clA p b u (i + 1) = if viF p b i = u then clA p b u i ++ [(i : Int)] else clA p b u i:=by
 unfold clA
 rw [idxI_next h,List.filter_append]
 split
 ·rename_i e; simp [e]
 ·rename_i e; simp [e]
theorem clA_len (p : Cp) (b u : Int) (i : Nat) : (clA p b u i).length ≤ i:=by
 unfold clA
 exact zw23 (List.length_filter_le _ _) (by rw [List.length_take]; omega)
theorem clA_all {p : Cp} {b : Int} {k : Nat} (hk : k < (cI p b).length) : clA p b (cI p b)[k].1 p.clubs.length = (cI p b)[k].2:=by
 unfold clA
 rw [List.take_of_length_le (by rw [idxI_len]; exact zw21 _)]
 exact (cls_filter' (v:=viF p b) (g:=idxI p.clubs.length) (u:=(cI p b)[k].1) (es:=(cI p b)[k].2) (List.getElem_mem hk)).symm
def BestAt (p : Cp) (b : Int) (k i : Nat) (m : Int) : Prop :=
 (m = -1 ∧ ∀ j : Nat,j < i → takenB (cI p b) k j = true) ∨ (∃ q : Nat,m = q ∧ q < i ∧ takenB (cI p b) k q = false ∧ ∀ j : Nat,j < i → takenB (cI p b) k j = false → viF p b j ≤ viF p b q)
theorem best_end {p : Cp} {b : Int} {k : Nat} {m : Int} (hk : k < (cI p b).length) (h : BestAt p b k p.clubs.length m) : ∃ q : Nat,m = q ∧ q < p.clubs.length ∧ viF p b q = (cI p b)[k].1:=by
 rcases h with ⟨_,h2⟩ | ⟨q,h1,h2,h3,h4⟩
 ·exfalso
  obtain ⟨x,hx,ht⟩:=some_left (v:=viF p b) (g:=idxI p.clubs.length) hk
  have:=idxI_mem.1 hx
  have h3:=h2 x.toNat (by omega)
  rw [show ((x.toNat : Nat) : Int) = x by omega] at h3
  unfold cI at h3
  rw [h3] at ht
  cases ht
 ·refine ⟨q,h1,h2,?_⟩
  refine next_class (v:=viF p b) (g:=idxI p.clubs.length) hk (idxI_mem.2 ⟨by omega,by omega⟩) h3 fun x hx ht=>?_
  have:=idxI_mem.1 hx
  have h5:=h4 x.toNat (by omega)
  rw [show ((x.toNat : Nat) : Int) = x by omega] at h5
  exact h5 ht
theorem cvG {S : Nat → Prop} {L : List Blk} {b gen n : Nat} (D : List (List Int)) (hb : S b) (hL : L[b]? = some (.row gen 1 (grV D))) (hn : n = D.length) : Cw S L (.own b gen 0 n) (.d (insL D)):=by
 subst hn
 refine .d (.rowL (ds:=D.map fun es=>[ins es]) hb hL ?_ (by simp) (insE D))
 rw [List.drop_zero,List.take_of_length_le (by rw [grV_len]; exact zw21 _)]
 exact grV_data _
def plN (p : Cp) (b : Int) (k : Nat) : Int:=(((((cI p b).take k).map fun q=>q.2.length).sum : Nat) : Int)
theorem plN_next {p : Cp} {b : Int} {k : Nat} (h : k < (cI p b).length) : plN p b (k + 1) = plN p b k + ((cI p b)[k].2.length : Int):=by
 unfold plN
 rw [take_next h,List.map_append,List.sum_append]
 simp
theorem plN_lt {p : Cp} {b : Int} {k : Nat} (h : k ≤ (cI p b).length) : plN p b k < (p.clubs.length : Int) ↔ k < (cI p b).length:=by
 have:=placed_lt (v:=viF p b) (g:=idxI p.clubs.length) h
 rw [idxI_len] at this
 unfold plN
 rw [Int.ofNat_lt]
 exact this
theorem plN_le {p : Cp} {b : Int} (k : Nat) : 0 ≤ plN p b k ∧ plN p b k ≤ p.clubs.length:=by
 have e:=(split_perm (viF p b) (idxI p.clubs.length)).length_eq
 rw [idxI_len] at e
 unfold splitF at e
 have e2 : ((cI p b).map (·.2)) = ((cI p b).take k).map (·.2) ++ ((cI p b).drop k).map (·.2):=by rw [← List.map_append,List.take_append_drop]
 have e3 : (((cI p b).map (·.2)).flatten).length = p.clubs.length:=e
 rw [e2,List.flatten_append,List.length_append,List.length_flatten,List.map_map] at e3
 unfold plN
 have e4 : (((cI p b).take k).map fun q=>q.2.length).sum = (((cI p b).take k).map (List.length ∘ fun x=>x.2)).sum:=rfl
 rw [e4]
 omega
def outK (p : Cp) (b : Int) (k : Nat) : List (List Int):=((cI p b).take k).map (·.2)
theorem outK_len {p : Cp} {b : Int} {k : Nat} (h : k ≤ (cI p b).length) : (outK p b k).length = k:=by unfold outK; rw [List.length_map,List.length_take]; omega
theorem outK_next {p : Cp} {b : Int} {k : Nat} (h : k < (cI p b).length) : outK p b (k + 1) = outK p b k ++ [(cI p b)[k].2]:=by unfold outK; rw [take_next h,List.map_append]; rfl
theorem outK_small {p : Cp} {b : Int} {k : Nat} {x : List Int} (h : x ∈ outK p b k) : x.length ≤ p.clubs.length:=by
 unfold outK at h
 obtain ⟨q,hq,rfl⟩:=List.mem_map.1 h
 have hq:=List.mem_of_mem_take hq
 obtain ⟨j,hj,rfl⟩:=List.mem_iff_getElem.1 hq
 rw [← clA_all hj]
 exact clA_len _ _ _ _
theorem split19_c (p : Cp) (hG : Grp p) (b : Int) (h : k (.d (insL (splitI p b))) L) : CallP C 43 [.d (ress p.res),.d (ins p.clubs),.d (ins p.off),I b,.agg (p.ru.cells.map .d),.d (ins p.lots)] L k:=by
 have hml : ((p.clubs.map fun n=>[DI n]).length : Int) = (p.clubs.length : Int):=by rw [insl]
 have hl2:=hG.l2
 have hcl:=cI_len p b
 refine zw25 ?_ rfl (fun _=>rfl) h
 clear h
 refine zw24 C_ok Tryz.func43 rfl rfl rfl (zw18 rfl) rfl ?_
 skip
 conv=>whnf
 refine zw26 (fun i : Nat=>i ≤ p.clubs.length) (fun i=>⟨[(0,.d (ress p.res)),(1,.d (ins p.clubs)),(2,.d (ins p.off)),(3,I b),(5,.d (ins p.lots)),(10,.ptr 0 0),(13,.own 1 i 0 i),(14,I i)],Tryz.f43.ntmps,[.cells (p.ru.cells.map .d),.row i 1 (rdI ((p.clubs.take i).map (valC p p.clubs b)))],[],none⟩) (fun i=>p.clubs.length - i) 0 (zw22 _) ?_ ?_
 ·exact (Weak.nilOwn 13 1 rfl (by decide)).trans (zw27 ⟨rfl,rfl,rfl,rfl,rfl,rfl,rfl,rfl,trivial⟩)
 intro i hi
 by_cases hi' : i < p.clubs.length
 ·have hlt : (i : Int) < ((p.clubs.map fun n=>[DI n]).length : Int):=by omega
  have hw:=zwW i (by omega)
  have hv:=fun {L : List Blk} {k : V → List Blk → Prop} h=>rvalue19_c (L:=L) (k:=k) p hG hi' b h
  have e : (rdI ((p.clubs.take i).map (valC p p.clubs b))).take i ++ [[I (valC p p.clubs b p.clubs[i])]] = rdI ((p.clubs.take (i + 1)).map (valC p p.clubs b)):=by
   rw [take_next hi']
   unfold rdI
   rw [List.take_of_length_le (by simp; omega),List.map_append,List.map_append]; rfl
  have hap : ∀ {X : Prop},X → Need (i + 1 ≤ 4294967296) X:=fun h=>zw6 (by omega) h
  generalize valC p p.clubs b p.clubs[i] = x at *
  repeat' ((conv=>whnf); first|refine zw8 (zw19 hlt) ?_|refine hv ?_|simp only [Nat.beq_refl,Bool.and_self]|refine hap ?_)
  conv=>whnf
  exact ⟨i + 1,hi',by omega,Weak.to 2 (Eq.trans rfl (congrArg (fun z=>[Blk.cells (p.ru.cells.map .d),.row (i + 1) 1 z]) e)) (zw22 _) (zw18 rfl) ⟨rfl,rfl,rfl,rfl,rfl,rfl,rfl,congrArg I hw,trivial⟩ (hB:=by show (V.belL 2 _ && (belR 2 _ && true)) = true; rw [V.belL_d,rdI_bel]; rfl)⟩
 have hlt : ¬ (i : Int) < ((p.clubs.map fun n=>[DI n]).length : Int):=by omega
 obtain rfl : i = p.clubs.length:=by omega
 rw [List.take_length]
 have rW : ∀ {q : Nat} (h : q < p.clubs.length),((p.clubs.map (valC p p.clubs b)).map fun n=>[DI n])[q]? = some [DI (viF p b q)]:=fun {q} h=>by
  rw [List.getElem?_map,List.getElem?_map,List.getElem?_eq_getElem h,vi_at h]; rfl
 have hWl : p.clubs.length = (p.clubs.map (valC p p.clubs b)).length:=by rw [List.length_map]
 generalize p.clubs.map (valC p p.clubs b) = W at *
 repeat' ((conv=>whnf); refine zw9 (zw20 hlt) ?_)
 conv=>whnf
 refine zw26 (fun k : Nat=>k ≤ (cI p b).length) (fun k=>⟨[(1,.d (ins p.clubs)),(13,.d (ins W)),(15,.own 1 k 0 k),(16,I (plN p b k))],Tryz.f43.ntmps,[.cells (p.ru.cells.map .d),.row k 1 (grV (outK p b k))],[],none⟩) (fun k=>(cI p b).length - k) 0 (zw22 _) ?_ ?_
 ·refine Weak.trans (Weak.thawT (σ':=⟨[(1,.d (ins p.clubs)),(13,.d (ins W)),(15,.nil),(16,I 0)],Tryz.f43.ntmps,[.cells (p.ru.cells.map .d)],[],none⟩) 1 (Nat.zero_le _) (Nat.le_of_ble_eq_true rfl) rfl (by show (V.belL 1 _ && true) = true; rw [V.belL_d]; rfl) ⟨.inl ⟨rfl,rfl⟩,.inr (.d (cvJ W (Nat.le_refl 1) rfl hWl)),.inl ⟨rfl,rfl⟩,.inl ⟨rfl,rfl⟩,trivial⟩) ?_
  exact (Weak.nilOwn 15 1 rfl (by decide)).trans (zw27 ⟨rfl,rfl,rfl,rfl,trivial⟩)
 intro k hk
 have hplk:=plN_le (p:=p) (b:=b) k
 by_cases hk' : k < (cI p b).length
 rotate_left
 ·have hlt : ¬ plN p b k < ((p.clubs.map fun n=>[DI n]).length : Int):=by rw [hml]; exact fun h=>hk' ((plN_lt hk).1 h)
  have hkl : k = (cI p b).length:=by omega
  have hoL:=outK_len hk
  have hoX : outK p b k = splitI p b:=by unfold outK splitI; rw [hkl,List.take_length]
  rw [hoX] at hoL ⊢
  repeat' ((conv=>whnf); refine zw9 (zw20 hlt) ?_)
  conv=>whnf
  exact zw16 (L':=[]) (cvG (splitI p b) (zw22 _) rfl hoL.symm) rfl rfl ⟨rfl,rfl⟩
 have hlt : plN p b k < ((p.clubs.map fun n=>[DI n]).length : Int):=by rw [hml]; exact (plN_lt hk).2 hk'
 have hoL:=outK_len hk
 have hbO : ∀ n,2 ≤ n → belB n [Blk.cells (p.ru.cells.map .d),.row k 1 (grV (outK p b k))] = true:=fun n _=>by
  show (V.belL n _ && (belR n _ && true)) = true
  rw [V.belL_d,gr_bel]; rfl
 have htk : ∀ (q : Nat),CallP C 85 [.d (insL (outK p b k)),I q] [] fun X L'=>L' = [] ∧ X = B (takenB (cI p b) k q):=fun q =>
  taken19_c (outK p b k) q (by rw [hoL]; omega) (fun x hx=>by have:=outK_small hx; omega) ⟨rfl,rfl⟩
 have hnxO:=outK_next hk'
 have hnxP:=plN_next hk'
 have hcA:=clA_all hk'
 have hbe:=fun m h=>best_end (m:=m) hk' h
 obtain ⟨u,hu⟩ : ∃ u,u = (cI p b)[k].1:=⟨_,rfl⟩
 obtain ⟨es,hes⟩ : ∃ es,es = (cI p b)[k].2:=⟨_,rfl⟩
 rw [← hu] at hcA hbe
 rw [← hes] at hcA hnxO hnxP
 clear hu hes
 have hplk1:=plN_le (p:=p) (b:=b) (k + 1)
 generalize plN p b k = pl at *
 generalize outK p b k = O at *
 repeat' ((conv=>whnf); refine zw8 (zw19 hlt) ?_)
 conv=>whnf
 refine zw26 (α:=Nat × Int) (fun s=>s.1 ≤ p.clubs.length ∧ BestAt p b k s.1 s.2) (fun s=>⟨[(1,.d (ins p.clubs)),(13,.d (ins W)),(15,.own 1 k 0 k),(16,I pl),(17,I s.2),(18,I s.1)],Tryz.f43.ntmps,[.cells (p.ru.cells.map .d),.row k 1 (grV O)],[],none⟩) (fun s=>p.clubs.length - s.1) (0,-1) ⟨zw22 _,.inl ⟨rfl,fun j h=>absurd h (Nat.not_lt_zero j)⟩⟩ ?_ ?_
 ·exact zw27 ⟨rfl,rfl,rfl,rfl,rfl,rfl,trivial⟩
 rintro ⟨i,m⟩ ⟨hi,hB⟩
 simp only at hi hB
 by_cases hi' : i < p.clubs.length
 ·have hlti : (i : Int) < ((p.clubs.map fun n=>[DI n]).length : Int):=by omega
  have hw:=zwW i (by omega)
  have hti:=htk i
  have r1:=rW hi'
  cases ht : takenB (cI p b) k i with
  | true =>
   rw [ht] at hti
   have hB' : BestAt p b k (i + 1) m:=by
    rcases hB with ⟨h1,h2⟩ | ⟨q,h1,h2,h3,h4⟩
    ·exact .inl ⟨h1,fun j hj=>by
      by_cases e : j = i
      ·subst e; exact ht
      ·exact h2 j (by omega)⟩
    ·exact .inr ⟨q,h1,by omega,h3,fun j hj hjt=>by
      by_cases e : j = i
      ·subst e; rw [ht] at hjt; cases hjt
      ·exact h4 j (by omega) hjt⟩
   repeat' ((conv=>whnf); first|refine zw8 (zw19 hlti) ?_|refine zw3 ?_|refine zw12 _ (zw29 hti (.cv (cvG O trivial rfl hoL.symm) (.keep .nil)) rfl rfl ⟨rfl,rfl⟩) ?_|refine zw0 ?_|refine zw7 mixed rfl ?_)
   conv=>whnf
   exact ⟨(i + 1,m),⟨hi',hB'⟩,by show p.clubs.length - (i + 1) < p.clubs.length - i; omega,Weak.by ⟨rfl,rfl,rfl,rfl,rfl,congrArg I hw,trivial⟩⟩
  | false =>
   rw [ht] at hti
   rcases hB with ⟨h1,h2⟩ | ⟨q,h1,h2,h3,h4⟩
   ·subst h1
    have hB' : BestAt p b k (i + 1) i:=.inr ⟨i,rfl,by omega,ht,fun j hj hjt=>by
     by_cases e : j = i
     ·subst e; exact Int.le_refl _
     ·rw [h2 j (by omega)] at hjt; cases hjt⟩
    repeat' ((conv=>whnf); first|refine zw8 (zw19 hlti) ?_|refine zw3 ?_|refine zw12 _ (zw29 hti (.cv (cvG O trivial rfl hoL.symm) (.keep .nil)) rfl rfl ⟨rfl,rfl⟩) ?_|refine zw0 ?_|refine zw1 ?_|refine zw7 mixed rfl ?_)
    conv=>whnf
    exact ⟨(i + 1,(i : Int)),⟨hi',hB'⟩,by show p.clubs.length - (i + 1) < p.clubs.length - i; omega,Weak.by ⟨rfl,rfl,rfl,rfl,rfl,congrArg I hw,trivial⟩⟩
   ·subst h1
    have hq0 : ¬ (q : Int) < 0:=by omega
    have r2:=rW (show q < p.clubs.length by omega)
    by_cases hg : viF p b q < viF p b i
    ·have hB' : BestAt p b k (i + 1) i:=.inr ⟨i,rfl,by omega,ht,fun j hj hjt=>by
      by_cases e : j = i
      ·subst e; exact Int.le_refl _
      ·have:=h4 j (by omega) hjt; omega⟩
     repeat' ((conv=>whnf); first|refine zw8 (zw19 hlti) ?_|refine zw3 ?_|refine zw9 (zw20 hq0) ?_|refine zw8 (zw19 hg) ?_|refine zw10 i _ rfl r1 ?_|refine zw10 q _ rfl r2 ?_|refine zw12 _ (zw29 hti (.cv (cvG O trivial rfl hoL.symm) (.keep .nil)) rfl rfl ⟨rfl,rfl⟩) ?_|refine zw6 rfl ?_|refine zw7 mixed rfl ?_)
     conv=>whnf
     exact ⟨(i + 1,(i : Int)),⟨hi',hB'⟩,by show p.clubs.length - (i + 1) < p.clubs.length - i; omega,Weak.by ⟨rfl,rfl,rfl,rfl,rfl,congrArg I hw,trivial⟩⟩
    ·have hB' : BestAt p b k (i + 1) q:=.inr ⟨q,rfl,by omega,h3,fun j hj hjt=>by
      by_cases e : j = i
      ·subst e; omega
      ·exact h4 j (by omega) hjt⟩
     repeat' ((conv=>whnf); first|refine zw8 (zw19 hlti) ?_|refine zw3 ?_|refine zw9 (zw20 hq0) ?_|refine zw9 (zw20 hg) ?_|refine zw10 i _ rfl r1 ?_|refine zw10 q _ rfl r2 ?_|refine zw12 _ (zw29 hti (.cv (cvG O trivial rfl hoL.symm) (.keep .nil)) rfl rfl ⟨rfl,rfl⟩) ?_|refine zw6 rfl ?_|refine zw7 mixed rfl ?_)
     conv=>whnf
     exact ⟨(i + 1,(q : Int)),⟨hi',hB'⟩,by show p.clubs.length - (i + 1) < p.clubs.length - i; omega,Weak.by ⟨rfl,rfl,rfl,rfl,rfl,congrArg I hw,trivial⟩⟩
 have hlti : ¬ (i : Int) < ((p.clubs.map fun n=>[DI n]).length : Int):=by omega
 obtain rfl : i = p.clubs.length:=by omega
 obtain ⟨q,rfl,hq,hqu⟩:=hbe m hB
 have r2:=rW hq
 rw [hqu] at r2
 clear hB hbe htk hi hi' hlti
 repeat' ((conv=>whnf); refine zw9 (zw20 (show ¬ ((p.clubs.length : Nat) : Int) < ((p.clubs.map fun n=>[DI n]).length : Int) by omega)) ?_)
 conv=>whnf
 refine zw26 (fun i : Nat=>i ≤ p.clubs.length) (fun i=>⟨[(1,.d (ins p.clubs)),(13,.d (ins W)),(15,.own 1 k 0 k),(16,I pl),(17,I q),(19,.own 2 (clA p b u i).length 0 (clA p b u i).length),(20,I i)],Tryz.f43.ntmps,[.cells (p.ru.cells.map .d),.row k 1 (grV O),.row (clA p b u i).length 1 (rdI (clA p b u i))],[],none⟩) (fun i=>p.clubs.length - i) 0 (zw22 _) ?_ ?_
 ·exact (Weak.nilOwn 19 1 rfl (by decide)).trans (zw27 ⟨rfl,rfl,rfl,rfl,rfl,rfl,rfl,trivial⟩)
 intro i hi
 by_cases hi' : i < p.clubs.length
 ·have hlti : (i : Int) < ((p.clubs.map fun n=>[DI n]).length : Int):=by omega
  have hw:=zwW i (by omega)
  have r1:=rW hi'
  have hnA:=clA_next (p:=p) (b:=b) (u:=u) hi'
  have hlA:=clA_len p b u i
  generalize clA p b u i = A at *
  by_cases hc : viF p b i = u
  ·rw [if_pos hc] at hnA
   have hap : A.length + 1 ≤ 200:=by omega
   have e1 : [Blk.cells (p.ru.cells.map .d),.row k 1 (grV O),.row (A.length + 1) 1 ((rdI A).take A.length ++ [[I i]])] = [.cells (p.ru.cells.map .d),.row k 1 (grV O),.row (clA p b u (i + 1)).length 1 (rdI (clA p b u (i + 1)))]:=by
    rw [hnA,List.length_append,List.length_singleton,List.take_of_length_le (by unfold rdI; simp)]
    unfold rdI; rw [List.map_append]; rfl
   have e2 : A.length + 1 = (clA p b u (i + 1)).length:=by rw [hnA]; simp
   repeat' ((conv=>whnf); first|refine zw8 (zw19 hlti) ?_|refine zw8 (zw19 hc) ?_|refine zw10 i _ rfl r1 ?_|refine zw10 q _ rfl r2 ?_|refine zw6 (zw23 hap (zw18 rfl)) ?_|simp only [Nat.beq_refl,Bool.and_self]|refine zw6 rfl ?_|refine zw7 mixed rfl ?_)
   conv=>whnf
   exact ⟨i + 1,hi',by omega,Weak.to 3 (Eq.trans rfl e1) (zw22 _) (zw18 rfl) ⟨rfl,rfl,rfl,rfl,rfl,Eq.trans (b:=norm (V.own 2 (A.length + 1) 0 (A.length + 1))) rfl (congrArg (fun n=>norm (V.own 2 n 0 n)) e2),congrArg I hw,trivial⟩ (hB:=by show (V.belL 3 _ && (belR 3 _ && (belR 3 _ && true))) = true; rw [V.belL_d,gr_bel,rdI_bel]; rfl)⟩
  ·rw [if_neg hc] at hnA
   repeat' ((conv=>whnf); first|refine zw8 (zw19 hlti) ?_|refine zw9 (zw20 hc) ?_|refine zw10 i _ rfl r1 ?_|refine zw10 q _ rfl r2 ?_|refine zw6 rfl ?_|refine zw7 mixed rfl ?_)
   conv=>whnf
   refine ⟨i + 1,hi',by omega,?_⟩
   rw [hnA]
   exact zw27 ⟨rfl,rfl,rfl,rfl,rfl,rfl,congrArg I hw,trivial⟩
 have hlti : ¬ (i : Int) < ((p.clubs.map fun n=>[DI n]).length : Int):=by omega
 obtain rfl : i = p.clubs.length:=by omega
 rw [hcA]
 have hap : k + 1 ≤ 200:=by omega
 have hpw : IntKind.i64.wrap (pl + (es.length : Int)) = plN p b (k + 1):=by rw [hnxP,wrap_in (by omega)]
 have e1 : (grV O).take k ++ [[V.own 2 es.length 0 es.length]] = grV O ++ [[V.own 2 es.length 0 es.length]]:=by rw [List.take_of_length_le (by rw [grV_len,hoL]; exact zw21 _)]
 have e2 : grV (outK p b (k + 1)) = grV O ++ [[V.d (ins es)]]:=by rw [hnxO]; exact gr_snoc _ _
 repeat' ((conv=>whnf); first|refine zw9 (zw20 hlti) ?_|refine zw6 (zw23 hap (zw18 rfl)) ?_|simp only [Nat.beq_refl,Bool.and_self])
 conv=>whnf
 refine ⟨k + 1,hk',by omega,Weak.thaw 2 (zw22 _) (zw18 rfl) rfl ⟨.inl ⟨rfl,rfl⟩,.inl ⟨rfl,rfl⟩,.inl ⟨rfl,rfl⟩,.inl ⟨congrArg I hpw,rfl⟩,trivial⟩ fun b' x y hx hy=>?_⟩
 match b',hx,hy with
 | 0,hx,hy=>cases hx; cases hy; exact .inl ⟨rfl,V.belL_d _ _⟩
 | 1,hx,hy =>
  cases hx; cases hy
  refine .inr (.inl ⟨k + 1,1,grV O ++ [[V.own 2 es.length 0 es.length]],grV (outK p b (k + 1)),congrArg (Blk.row (k + 1) 1) e1,rfl,by rw [e2]; simp,fun e he=>?_,?_⟩)
  ·unfold grV at he
   obtain ⟨_,_,rfl⟩:=List.mem_map.1 he; rfl
  ·rw [e2]
   exact fun i j e e' u v h1 h2 h3 h4=>gr_vc1 O (.d (cvJ es (zw21 2) rfl rfl)) i j h1 h2 h3 h4
 | b' + 2,hx,hy=>cases hy
end Go.Proofs.YtihibgcojdfndaaGreatDoor
namespace Go.Proofs.YtihibgcojdfndaaGreatDoor
open Go.Tidy
open Sts (Res Row Worth Game rowsF addF rowC valueF inG known worthOk resOk fieldOk gameV resV ress rowV rowsD)
variable {L : List Blk} {k : V → List Blk → Prop}
open Classical in
theorem rules_eq19 (r : Ru) : rulesF r = rrulesF r:=by unfold rulesF rrulesF; rw [order_eq]
theorem off_bad {l : List Int} {i : Nat} (h : i < l.length) (hb : ¬ (0 ≤ l[i] ∧ l[i] ≤ 9999)) : offOk l = false:=by
 unfold offOk
 rw [List.all_eq_false]
 exact ⟨l[i],List.getElem_mem h,fun e=>hb (by simpa using e)⟩
theorem off_good {l : List Int} (h : ∀ (j : Nat) (hj : j < l.length),0 ≤ l[j] ∧ l[j] ≤ 9999) : offOk l = true:=by
 unfold offOk
 rw [List.all_eq_true]
 intro x hx
 obtain ⟨j,hj,rfl⟩:=List.mem_iff_getElem.1 hx
 have:=h j hj
 simp [this]
theorem lots_bad {l : List Int} {i : Nat} (h : i < l.length) (hb : ¬ (l[i] ∉ l.take i ∧ 0 ≤ l[i] ∧ l[i] < 192)) : lotsOk l = false:=by
 unfold lotsOk
 rw [Bool.and_eq_false_iff]
 by_cases hh : l[i] ∉ l.take i
 ·refine .inr ?_
  rw [List.all_eq_false]
  exact ⟨l[i],List.getElem_mem h,fun h2=>hb ⟨hh,by simpa using h2⟩⟩
 ·refine .inl (zw20 fun h2=>hh (Sts.nodup_take h2 h))
theorem lots_good {l : List Int} (h : ∀ (j : Nat) (hj : j < l.length),l[j] ∉ l.take j ∧ 0 ≤ l[j] ∧ l[j] < 192) : lotsOk l = true:=by
 unfold lotsOk
 rw [Bool.and_eq_true,decide_eq_true_eq]
 refine ⟨?_,?_⟩
 ·rw [List.Nodup,List.pairwise_iff_getElem]
  intro i j hi hj hij e
  refine (h j hj).1 (List.mem_iff_getElem.2 ⟨i,by rw [List.length_take]; omega,?_⟩)
  rw [List.getElem_take]; exact e
 ·rw [List.all_eq_true]
  intro x hx
  obtain ⟨j,hj,rfl⟩:=List.mem_iff_getElem.1 hx
  have:=(h j hj).2
  simp [this]
def okO (p : Cp) : Bool → Int → Bool
 | true=>fun _=>true
 | false=>p.clubs.contains
theorem valid19_c (p : Cp) (hL : LCp p) (n : Nat) (hn : 1 ≤ n) (o : Bool) (h : k (I (openE p n (okO p o))) L) : CallP C 39 [.d (ress p.res),.d (ins p.clubs),I n,B o,.d (ins p.off),.agg (p.ru.cells.map .d),.d (ins p.lots)] L k:=by
 have q1 : ∀ {L : List Blk} {k : V → List Blk → Prop},k (B (fieldOk p.clubs n)) L → CallP C 55 [.d (ins p.clubs),I n] L k:=fun h=>rincr_c _ n (by have:=hL.clubs; omega) h
 have q3 : ∀ {L : List Blk} {k : V → List Blk → Prop},k (I (rulesF p.ru)) L → CallP C 79 [.agg (p.ru.cells.map .d)] L k:=fun h=>rrules_c _ hL.ru (by rw [← rules_eq19]; exact h)
 have q4 : o = true → ∀ {L : List Blk} {k : V → List Blk → Prop},k (B (ressV p.res (okO p o))) L → CallP C 56 [.d (ress p.res),.nil] L k:=fun e _ _ h=>rplayedN_c _ hL.res (by rw [e] at h; exact h)
 have q5 : o = false → p.clubs ≠ [] → ∀ {L : List Blk} {k : V → List Blk → Prop},k (B (ressV p.res (okO p o))) L → CallP C 56 [.d (ress p.res),.d (ins p.clubs)] L k:=fun e hc _ _ h=>rplayed_c _ p.clubs hc (by have:=hL.clubs; omega) hL.res (by rw [e] at h; exact h)
 have mo : ((p.off.map fun n=>[DI n]).length : Int) = (p.off.length : Int):=by rw [insl]
 have mc : ((p.clubs.map fun n=>[DI n]).length : Int) = (p.clubs.length : Int):=by rw [insl]
 have mt : ((p.lots.map fun n=>[DI n]).length : Int) = (p.lots.length : Int):=by rw [insl]
 have hlo:=hL.off
 have hlt:=hL.lots
 refine zw25 ?_ rfl (fun _=>rfl) h
 clear h
 cases c1 : fieldOk p.clubs n with
 | false =>
  rw [c1] at q1
  have e : openE p n (okO p o) = 190:=by unfold openE; rw [if_pos c1]
  rw [e]
  refine zw24 C_ok Tryz.func39 rfl rfl rfl (zw18 rfl) rfl ?_
  repeat' ((conv=>whnf); first|refine q1 ?_|refine zw3 ?_|refine zw1 ?_)
  conv=>whnf
  exact FinP.zz rfl ⟨rfl,rfl⟩
 | true =>
 rw [c1] at q1
 by_cases c2 : ((p.off.map fun n=>[DI n]).length : Int) = ((p.clubs.map fun n=>[DI n]).length : Int)
 rotate_left
 ·have e : openE p n (okO p o) = 1:=by
   unfold openE
   rw [if_neg (by rw [c1]; decide),decide_eq_false (show ¬ p.off.length = p.clubs.length by omega),Bool.false_and,if_pos rfl]
  rw [e]
  refine zw24 C_ok Tryz.func39 rfl rfl rfl (zw18 rfl) rfl ?_
  repeat' ((conv=>whnf); first|refine q1 ?_|refine zw3 ?_|refine zw9 (zw20 c2) ?_|refine zw0 ?_)
  conv=>whnf
  exact FinP.zz rfl ⟨rfl,rfl⟩
 have hlen : p.off.length = p.clubs.length:=by omega
 refine zw24 C_ok Tryz.func39 rfl rfl rfl (zw18 rfl) rfl ?_
 repeat' ((conv=>whnf); first|refine q1 ?_|refine zw3 ?_|refine zw8 (zw19 c2) ?_|refine zw0 ?_)
 conv=>whnf
 refine zw26 (fun i : Nat=>i ≤ p.off.length ∧ ∀ (j : Nat) (hj : j < p.off.length),j < i → 0 ≤ p.off[j] ∧ p.off[j] ≤ 9999) (fun i=>⟨[(0,.d (ress p.res)),(1,.d (ins p.clubs)),(3,B o),(4,.d (ins p.off)),(6,.d (ins p.lots)),(12,.ptr 0 0),(15,I i)],Tryz.f39.ntmps,[.cells (p.ru.cells.map .d)],[],none⟩) (fun i=>p.off.length - i) 0 ⟨zw22 _,fun j _ h=>absurd h (Nat.not_lt_zero j)⟩ ?_ ?_
 ·exact zw27 ⟨rfl,rfl,rfl,rfl,rfl,rfl,rfl,trivial⟩
 rintro i ⟨hi,h1⟩
 by_cases hi' : i < p.off.length
 ·have hlti : (i : Int) < ((p.off.map fun n=>[DI n]).length : Int):=by omega
  have hw:=zwW i (by omega)
  have r1:=ins_at hi'
  have hbad : ¬ (0 ≤ p.off[i] ∧ p.off[i] ≤ 9999) → openE p n (okO p o) = 1:=fun hb=>by
   unfold openE
   rw [if_neg (by rw [c1]; decide),off_bad hi' hb,Bool.and_false,if_pos rfl]
  have h1' : 0 ≤ p.off[i] ∧ p.off[i] ≤ 9999 → ∀ (j : Nat) (hj : j < p.off.length),j < i + 1 → 0 ≤ p.off[j] ∧ p.off[j] ≤ 9999:=fun h j hj hji=>by
   by_cases e : j = i
   ·subst e; exact h
   ·exact h1 j hj (by omega)
  generalize p.off[i] = x at *
  by_cases d1 : x < 0
  ·rw [hbad (by omega)]
   repeat' ((conv=>whnf); first|refine zw8 (zw19 hlti) ?_|refine zw8 (zw19 d1) ?_|refine zw10 i _ rfl r1 ?_|refine zw6 rfl ?_)
   conv=>whnf
   exact FinP.zz rfl ⟨rfl,rfl⟩
  by_cases d2 : 9999 < x
  ·rw [hbad (by omega)]
   repeat' ((conv=>whnf); first|refine zw8 (zw19 hlti) ?_|refine zw9 (zw20 d1) ?_|refine zw8 (zw19 d2) ?_|refine zw10 i _ rfl r1 ?_|refine zw6 rfl ?_)
   conv=>whnf
   exact FinP.zz rfl ⟨rfl,rfl⟩
  repeat' ((conv=>whnf); first|refine zw8 (zw19 hlti) ?_|refine zw9 (zw20 d1) ?_|refine zw9 (zw20 d2) ?_|refine zw10 i _ rfl r1 ?_|refine zw6 rfl ?_)
  conv=>whnf
  exact ⟨i + 1,⟨hi',h1' (by omega)⟩,by omega,Weak.by ⟨rfl,rfl,rfl,rfl,rfl,rfl,congrArg I hw,trivial⟩⟩
 have hlti : ¬ (i : Int) < ((p.off.map fun n=>[DI n]).length : Int):=by omega
 have c3 : offOk p.off = true:=off_good fun j hj=>h1 j hj (by omega)
 have hE : openE p n (okO p o) = if rulesF p.ru ≠ 0 then rulesF p.ru else if ressV p.res (okO p o) = false then 190 else if lotsOk p.lots = false then 220 else 0:=by
  unfold openE
  rw [if_neg (by rw [c1]; decide),decide_eq_true hlen,c3,if_neg (by decide)]
 clear h1
 generalize rulesF p.ru = re at *
 by_cases c4 : re = 0
 rotate_left
 ·rw [hE,if_pos c4]
  repeat' ((conv=>whnf); first|refine zw9 (zw20 hlti) ?_|refine q3 ?_|refine zw3 ?_|refine zw9 (zw20 c4) ?_)
  conv=>whnf
  exact FinP.zz rfl ⟨rfl,rfl⟩
 rw [if_neg (fun h=>h c4)] at hE
 have hcn : p.clubs ≠ []:=fun e=>by
  have:=(field_of c1).2.1
  rw [e] at this
  simp only [List.length_nil] at this
  omega
 have hq5 : o = false → ∀ {L : List Blk} {k : V → List Blk → Prop},k (B (ressV p.res (okO p o))) L → CallP C 56 [.d (ress p.res),.d (ins p.clubs)] L k:=fun e _ _ h=>q5 e hcn h
 cases c5 : ressV p.res (okO p o) with
 | false =>
  rw [hE,if_pos c5]
  rw [c5] at q4 hq5
  cases o with
  | true =>
   have hp:=fun {L : List Blk} {k : V → List Blk → Prop} h=>q4 rfl (L:=L) (k:=k) h
   repeat' ((conv=>whnf); first|refine zw9 (zw20 hlti) ?_|refine q3 ?_|refine zw3 ?_|refine zw8 (zw19 c4) ?_|refine hp ?_|refine zw0 ?_|refine zw1 ?_)
   conv=>whnf
   exact FinP.zz rfl ⟨rfl,rfl⟩
  | false =>
   have hp:=fun {L : List Blk} {k : V → List Blk → Prop} h=>hq5 rfl (L:=L) (k:=k) h
   repeat' ((conv=>whnf); first|refine zw9 (zw20 hlti) ?_|refine q3 ?_|refine zw3 ?_|refine zw8 (zw19 c4) ?_|refine hp ?_|refine zw1 ?_)
   conv=>whnf
   exact FinP.zz rfl ⟨rfl,rfl⟩
 | true =>
 rw [hE,if_neg (by rw [c5]; decide)]
 rw [c5] at q4 hq5
 have stp : ∀ j : Nat,j < p.lots.length → IntKind.i64.wrap ((j : Int) + 1) = ((j + 1 : Nat) : Int):=fun j hj=>by rw [wrap_in (by omega)]; omega
 have hsl : ∀ j : Nat,((p.lots.map fun n=>[DI n]).drop 0).take (j - 0) = (p.lots.take j).map fun n=>[DI n]:=fun j=>by rw [List.drop_zero,Nat.sub_zero,List.map_take]
 cases o with
 | true =>
  have hp:=fun {L : List Blk} {k : V → List Blk → Prop} h=>q4 rfl (L:=L) (k:=k) h
  repeat' ((conv=>whnf); first|refine zw9 (zw20 hlti) ?_|refine q3 ?_|refine zw3 ?_|refine zw8 (zw19 c4) ?_|refine hp ?_|refine zw0 ?_)
  conv=>whnf
  refine zw26 (fun i : Nat=>i ≤ p.lots.length ∧ ∀ (j : Nat) (hj : j < p.lots.length),j < i → p.lots[j] ∉ p.lots.take j ∧ 0 ≤ p.lots[j] ∧ p.lots[j] < 192) (fun i=>⟨[(6,.d (ins p.lots)),(18,I i)],Tryz.f39.ntmps,[],[],none⟩) (fun i=>p.lots.length - i) 0 ⟨zw22 _,fun j _ h=>absurd h (Nat.not_lt_zero j)⟩ ?_ ?_
  ·exact zw28 0 rfl (zw21 0) (zw22 _) ⟨rfl,rfl,trivial⟩
  rintro i ⟨hi,h1⟩
  by_cases hi' : i < p.lots.length
  ·have hlti : (i : Int) < ((p.lots.map fun n=>[DI n]).length : Int):=by omega
   have hw:=stp i hi'
   have r1:=ins_at hi'
   have hbad : ¬ (p.lots[i] ∉ p.lots.take i ∧ 0 ≤ p.lots[i] ∧ p.lots[i] < 192) → (220 : Int) = if lotsOk p.lots = false then 220 else 0:=fun hb=>(if_pos (lots_bad hi' hb)).symm
   have h1' : (p.lots[i] ∉ p.lots.take i ∧ 0 ≤ p.lots[i] ∧ p.lots[i] < 192) → ∀ (j : Nat) (hj : j < p.lots.length),j < i + 1 → p.lots[j] ∉ p.lots.take j ∧ 0 ≤ p.lots[j] ∧ p.lots[j] < 192:=fun h j hj hji=>by
    by_cases e : j = i
    ·subst e; exact h
    ·exact h1 j hj (by omega)
   have hin : ∀ {L : List Blk} {k : V → List Blk → Prop},k (B ((p.lots.take i).contains p.lots[i])) L → CallP C 25 [.d (.sl (((p.lots.map fun n=>[DI n]).drop 0).take (i - 0))),I p.lots[i]] L k:=fun h=>by
    rw [hsl]; exact rin19_c (p.lots.take i) p.lots[i] (by rw [List.length_take]; omega) h
   have hmm : (p.lots.take i).contains p.lots[i] = true ↔ p.lots[i] ∈ p.lots.take i:=List.contains_iff_mem
   generalize p.lots[i] = x at *
   by_cases d1 : x < 0
   ·rw [← hbad (by omega)]
    repeat' ((conv=>whnf); first|refine zw8 (zw19 hlti) ?_|refine zw8 (zw19 d1) ?_|refine zw10 i _ rfl r1 ?_|refine zw6 rfl ?_|refine zw7 mixed rfl ?_)
    conv=>whnf
    exact FinP.zz rfl ⟨rfl,rfl⟩
   by_cases d2 : 192 ≤ x
   ·rw [← hbad (by omega)]
    repeat' ((conv=>whnf); first|refine zw8 (zw19 hlti) ?_|refine zw9 (zw20 d1) ?_|refine zw8 (zw19 d2) ?_|refine zw10 i _ rfl r1 ?_|refine zw6 rfl ?_|refine zw7 mixed rfl ?_)
    conv=>whnf
    exact FinP.zz rfl ⟨rfl,rfl⟩
   cases d3 : (p.lots.take i).contains x with
   | true =>
    rw [d3] at hin
    rw [← hbad (fun h=>h.1 (hmm.1 d3))]
    repeat' ((conv=>whnf); first|refine zw8 (zw19 hlti) ?_|refine zw9 (zw20 d1) ?_|refine zw9 (zw20 d2) ?_|refine zw10 i _ rfl r1 ?_|refine zw6 (rdI_e p.lots) ?_|refine SliceP.intro 0 i rfl rfl (zw22 _) (by rw [insl]; exact hi) ?_|refine zw12 _ (hin ⟨rfl,rfl⟩) ?_|refine zw0 ?_|refine zw6 rfl ?_|refine zw7 mixed rfl ?_)
    conv=>whnf
    exact FinP.zz rfl ⟨rfl,rfl⟩
   | false =>
    rw [d3] at hin
    repeat' ((conv=>whnf); first|refine zw8 (zw19 hlti) ?_|refine zw9 (zw20 d1) ?_|refine zw9 (zw20 d2) ?_|refine zw10 i _ rfl r1 ?_|refine zw6 (rdI_e p.lots) ?_|refine SliceP.intro 0 i rfl rfl (zw22 _) (by rw [insl]; exact hi) ?_|refine zw12 _ (hin ⟨rfl,rfl⟩) ?_|refine zw1 ?_|refine zw6 rfl ?_|refine zw7 mixed rfl ?_)
    conv=>whnf
    exact ⟨i + 1,⟨hi',h1' ⟨fun h=>(by rw [hmm.2 h] at d3; cases d3),by omega,by omega⟩⟩,by omega,Weak.by ⟨rfl,congrArg I hw,trivial⟩⟩
  have hlti : ¬ (i : Int) < ((p.lots.map fun n=>[DI n]).length : Int):=by omega
  rw [if_neg (by rw [lots_good fun j hj=>h1 j hj (by omega)]; decide)]
  repeat' ((conv=>whnf); refine zw9 (zw20 hlti) ?_)
  conv=>whnf
  exact FinP.zz rfl ⟨rfl,rfl⟩
 | false =>
  have hp:=fun {L : List Blk} {k : V → List Blk → Prop} h=>hq5 rfl (L:=L) (k:=k) h
  repeat' ((conv=>whnf); first|refine zw9 (zw20 hlti) ?_|refine q3 ?_|refine zw3 ?_|refine zw8 (zw19 c4) ?_|refine hp ?_|refine zw0 ?_|refine zw1 ?_)
  conv=>whnf
  refine zw26 (fun i : Nat=>i ≤ p.lots.length ∧ ∀ (j : Nat) (hj : j < p.lots.length),j < i → p.lots[j] ∉ p.lots.take j ∧ 0 ≤ p.lots[j] ∧ p.lots[j] < 192) (fun i=>⟨[(6,.d (ins p.lots)),(18,I i)],Tryz.f39.ntmps,[],[],none⟩) (fun i=>p.lots.length - i) 0 ⟨zw22 _,fun j _ h=>absurd h (Nat.not_lt_zero j)⟩ ?_ ?_
  ·exact zw28 0 rfl (zw21 0) (zw22 _) ⟨rfl,rfl,trivial⟩
  rintro i ⟨hi,h1⟩
  by_cases hi' : i < p.lots.length
  ·have hlti : (i : Int) < ((p.lots.map fun n=>[DI n]).length : Int):=by omega
   have hw:=stp i hi'
   have r1:=ins_at hi'
   have hbad : ¬ (p.lots[i] ∉ p.lots.take i ∧ 0 ≤ p.lots[i] ∧ p.lots[i] < 192) → (220 : Int) = if lotsOk p.lots = false then 220 else 0:=fun hb=>(if_pos (lots_bad hi' hb)).symm
   have h1' : (p.lots[i] ∉ p.lots.take i ∧ 0 ≤ p.lots[i] ∧ p.lots[i] < 192) → ∀ (j : Nat) (hj : j < p.lots.length),j < i + 1 → p.lots[j] ∉ p.lots.take j ∧ 0 ≤ p.lots[j] ∧ p.lots[j] < 192:=fun h j hj hji=>by
    by_cases e : j = i
    ·subst e; exact h
    ·exact h1 j hj (by omega)
   have hin : ∀ {L : List Blk} {k : V → List Blk → Prop},k (B ((p.lots.take i).contains p.lots[i])) L → CallP C 25 [.d (.sl (((p.lots.map fun n=>[DI n]).drop 0).take (i - 0))),I p.lots[i]] L k:=fun h=>by
    rw [hsl]; exact rin19_c (p.lots.take i) p.lots[i] (by rw [List.length_take]; omega) h
   have hmm : (p.lots.take i).contains p.lots[i] = true ↔ p.lots[i] ∈ p.lots.take i:=List.contains_iff_mem
   generalize p.lots[i] = x at *
   by_cases d1 : x < 0
   ·rw [← hbad (by omega)]
    repeat' ((conv=>whnf); first|refine zw8 (zw19 hlti) ?_|refine zw8 (zw19 d1) ?_|refine zw10 i _ rfl r1 ?_|refine zw6 rfl ?_|refine zw7 mixed rfl ?_)
    conv=>whnf
    exact FinP.zz rfl ⟨rfl,rfl⟩
   by_cases d2 : 192 ≤ x
   ·rw [← hbad (by omega)]
    repeat' ((conv=>whnf); first|refine zw8 (zw19 hlti) ?_|refine zw9 (zw20 d1) ?_|refine zw8 (zw19 d2) ?_|refine zw10 i _ rfl r1 ?_|refine zw6 rfl ?_|refine zw7 mixed rfl ?_)
    conv=>whnf
    exact FinP.zz rfl ⟨rfl,rfl⟩
   cases d3 : (p.lots.take i).contains x with
   | true =>
    rw [d3] at hin
    rw [← hbad (fun h=>h.1 (hmm.1 d3))]
    repeat' ((conv=>whnf); first|refine zw8 (zw19 hlti) ?_|refine zw9 (zw20 d1) ?_|refine zw9 (zw20 d2) ?_|refine zw10 i _ rfl r1 ?_|refine zw6 (rdI_e p.lots) ?_|refine SliceP.intro 0 i rfl rfl (zw22 _) (by rw [insl]; exact hi) ?_|refine zw12 _ (hin ⟨rfl,rfl⟩) ?_|refine zw0 ?_|refine zw6 rfl ?_|refine zw7 mixed rfl ?_)
    conv=>whnf
    exact FinP.zz rfl ⟨rfl,rfl⟩
   | false =>
    rw [d3] at hin
    repeat' ((conv=>whnf); first|refine zw8 (zw19 hlti) ?_|refine zw9 (zw20 d1) ?_|refine zw9 (zw20 d2) ?_|refine zw10 i _ rfl r1 ?_|refine zw6 (rdI_e p.lots) ?_|refine SliceP.intro 0 i rfl rfl (zw22 _) (by rw [insl]; exact hi) ?_|refine zw12 _ (hin ⟨rfl,rfl⟩) ?_|refine zw1 ?_|refine zw6 rfl ?_|refine zw7 mixed rfl ?_)
    conv=>whnf
    exact ⟨i + 1,⟨hi',h1' ⟨fun h=>(by rw [hmm.2 h] at d3; cases d3),by omega,by omega⟩⟩,by omega,Weak.by ⟨rfl,congrArg I hw,trivial⟩⟩
  have hlti : ¬ (i : Int) < ((p.lots.map fun n=>[DI n]).length : Int):=by omega
  rw [if_neg (by rw [lots_good fun j hj=>h1 j hj (by omega)]; decide)]
  repeat' ((conv=>whnf); refine zw9 (zw20 hlti) ?_)
  conv=>whnf
  exact FinP.zz rfl ⟨rfl,rfl⟩
end Go.Proofs.YtihibgcojdfndaaGreatDoor
namespace Go.Proofs.YtihibgcojdfndaaGreatDoor
open Go.Tidy
open Sts (Res Row Worth Game rowsF addF rowC valueF inG known worthOk resOk fieldOk gameV resV ress rowV rowsD)
variable {L : List Blk} {k : V → List Blk → Prop}
theorem grp_of {p : Cp} {n : Nat} {ok : Int → Bool} (hL : LCp p) (h1 : p.res.length ≤ 100) (h2 : p.lots.length ≤ 100) (h0 : openE p n ok = 0) : Grp p:=by
 obtain ⟨o1,o2,o3,o4,o5,o6⟩:=open_of h0
 have hf:=field_of o1
 exact ⟨hf.1,o2,lots_nodup o6,h1,by omega,h2,hL.ru⟩
theorem pick_split (p : Cp) (b : Int) : (splitI p b).map (pickF p.clubs) = splitF (valC p p.clubs b) p.clubs:=by
 have h:=split_idx (valC p p.clubs b) p.clubs
 rw [← h]
 unfold splitI cI
 rw [List.map_map]; rfl
theorem splitI_sm {p : Cp} {b : Int} {es : List Int} (h : es ∈ splitI p b) : es.length ≤ p.clubs.length ∧ ∀ x ∈ es,0 ≤ x ∧ x < p.clubs.length:=by
 have h':=h
 unfold splitI at h
 obtain ⟨q,hq,rfl⟩:=List.mem_map.1 h
 refine ⟨outK_small (p:=p) (b:=b) (k:=(cI p b).length) (by unfold outK; rw [List.take_length]; exact h'),fun x hx=>?_⟩
 obtain ⟨u,es⟩:=q
 rw [cls_filter' hq] at hx
 exact idxI_mem.1 (List.mem_filter.1 hx).1
theorem splitI_len (p : Cp) (b : Int) : (splitI p b).length ≤ p.clubs.length:=by unfold splitI; rw [List.length_map]; exact cI_len p b
theorem Split19_c (p : Cp) (hL : LCp p) (h1 : p.res.length ≤ 100) (h2 : p.lots.length ≤ 100) (b : Int) (h : k (splitX p b) L) : CallP C 18 [.d (ress p.res),.d (ins p.clubs),.d (ins p.off),I b,.agg (p.ru.cells.map .d),.d (ins p.lots)] L k:=by
 have hv : ∀ {L : List Blk} {k : V → List Blk → Prop},k (I (openE p 1 fun _=>true)) L → CallP C 39 [.d (ress p.res),.d (ins p.clubs),I ((1 : Nat) : Int),B true,.d (ins p.off),.agg (p.ru.cells.map .d),.d (ins p.lots)] L k:=fun h=>valid19_c p hL 1 (zw21 _) true h
 refine zw25 ?_ rfl (fun n=>by
  unfold splitX; split
  ·rfl
  ·split <;> rfl) h
 clear h
 unfold splitX
 by_cases h0 : openE p 1 (fun _=>true) = 0
 rotate_left
 ·rw [if_pos h0]
  generalize openE p 1 (fun _=>true) = e at *
  refine zw24 C_ok Tryz.func18 rfl rfl rfl (zw18 rfl) rfl ?_
  repeat' ((conv=>whnf); first|refine hv ?_|refine zw3 ?_|refine zw9 (zw20 h0) ?_)
  conv=>whnf
  exact zw16 (L':=[]) (.pair (.d .nil) (.d (.d _))) rfl rfl ⟨rfl,rfl⟩
 rw [if_neg (fun h=>h h0)]
 have hG:=grp_of hL h1 h2 h0
 rw [h0] at hv
 by_cases hb1 : b < 1
 ·rw [if_pos (.inl hb1)]
  refine zw24 C_ok Tryz.func18 rfl rfl rfl (zw18 rfl) rfl ?_
  repeat' ((conv=>whnf); first|refine hv ?_|refine zw3 ?_|refine zw8 (zw19 hb1) ?_|refine zw0 ?_)
  conv=>whnf
  exact zw16 (L':=[]) (.pair (.d .nil) (.d (.d _))) rfl rfl ⟨rfl,rfl⟩
 by_cases hb2 : 12 < b
 ·rw [if_pos (.inr hb2)]
  refine zw24 C_ok Tryz.func18 rfl rfl rfl (zw18 rfl) rfl ?_
  repeat' ((conv=>whnf); first|refine hv ?_|refine zw3 ?_|refine zw9 (zw20 hb1) ?_|refine zw8 (zw19 hb2) ?_|refine zw0 ?_)
  conv=>whnf
  exact zw16 (L':=[]) (.pair (.d .nil) (.d (.d _))) rfl rfl ⟨rfl,rfl⟩
 rw [if_neg (fun h=>h.elim hb1 hb2),← pick_split]
 have hs:=fun {L : List Blk} {k : V → List Blk → Prop} h=>split19_c (L:=L) (k:=k) p hG b h
 have hsl:=splitI_len p b
 have hcl:=hG.l2
 have hsm:=fun es h=>splitI_sm (p:=p) (b:=b) (es:=es) h
 generalize splitI p b = S at *
 have hml : ((S.map fun es=>[ins es]).length : Int) = (S.length : Int):=by rw [List.length_map]
 refine zw24 C_ok Tryz.func18 rfl rfl rfl (zw18 rfl) rfl ?_
 repeat' ((conv=>whnf); first|refine hv ?_|refine zw3 ?_|refine zw9 (zw20 hb1) ?_|refine zw9 (zw20 hb2) ?_|refine hs ?_|refine zw0 ?_)
 conv=>whnf
 refine zw26 (fun i : Nat=>i ≤ S.length) (fun i=>⟨[(1,.d (ins p.clubs)),(15,.d (insL S)),(16,.own 1 i 0 i),(17,I i)],Tryz.f18.ntmps,[.cells (p.ru.cells.map .d),.row i 1 (grV ((S.take i).map (pickF p.clubs)))],[],none⟩) (fun i=>S.length - i) 0 (zw22 _) ?_ ?_
 ·exact (Weak.nilOwn 16 1 rfl (by decide)).trans (zw27 ⟨rfl,rfl,rfl,rfl,trivial⟩)
 intro i hi
 by_cases hi' : i < S.length
 ·have hlt : (i : Int) < ((S.map fun es=>[ins es]).length : Int):=by omega
  have hw:=zwW i (by omega)
  have r1:=insL_at hi'
  have hsi:=hsm _ (List.getElem_mem hi')
  have hpk : ∀ {L : List Blk} {k : V → List Blk → Prop},k (.d (ins (pickF p.clubs S[i]))) L → CallP C 44 [.d (ins p.clubs),.d (ins S[i])] L k:=fun h=>pick19_c p.clubs S[i] hcl (by omega) hsi.2 h
  have hap : i + 1 ≤ 200:=by omega
  have e : (grV ((S.take i).map (pickF p.clubs))).take i ++ [[V.d (ins (pickF p.clubs S[i]))]] = grV ((S.take (i + 1)).map (pickF p.clubs)):=by
   rw [List.take_of_length_le (by rw [grV_len,List.length_map,List.length_take]; omega),take_next hi',List.map_append,List.map_singleton]
   exact (gr_snoc _ _).symm
  generalize pickF p.clubs S[i] = z at *
  generalize S[i] = q at *
  repeat' ((conv=>whnf); first|refine zw8 (zw19 hlt) ?_|refine zw10 i _ rfl r1 ?_|refine hpk ?_|simp only [Nat.beq_refl,Bool.and_self]|refine zw6 (zw23 hap (zw18 rfl)) ?_|refine zw6 rfl ?_)
  conv=>whnf
  exact ⟨i + 1,hi',by omega,Weak.to 2 (Eq.trans rfl (congrArg (fun z=>[Blk.cells (p.ru.cells.map .d),.row (i + 1) 1 z]) e)) (zw22 _) (zw18 rfl) ⟨rfl,rfl,rfl,congrArg I hw,trivial⟩ (hB:=by show (V.belL 2 _ && (belR 2 _ && true)) = true; rw [V.belL_d,gr_bel]; rfl)⟩
 have hlt : ¬ (i : Int) < ((S.map fun es=>[ins es]).length : Int):=by omega
 obtain rfl : i = S.length:=by omega
 rw [List.take_length]
 repeat' ((conv=>whnf); refine zw9 (zw20 hlt) ?_)
 conv=>whnf
 exact zw16 (L':=[]) (.pair (cvG (S.map (pickF p.clubs)) (zw22 _) rfl (by rw [List.length_map])) (.d (.d _))) rfl rfl ⟨rfl,rfl⟩
theorem round_next {l : List Res} {clubs : List Int} {i : Nat} (h : i < clubs.length) : roundF l (clubs.take (i + 1)) = min (roundF l (clubs.take i)) (playsN l clubs[i]):=by
 unfold roundF
 rw [take_next h,List.foldl_append]; rfl
theorem rround_c (l : List Res) (clubs : List Int) (hl : l.length ≤ 1073741824) (hc : clubs.length ≤ 1073741824) (h : k (I (roundF l clubs)) L) : CallP C 90 [.d (ress l),.d (ins clubs)] L k:=by
 have hml : ((l.map Res.cells).length : Int) = (l.length : Int):=by rw [List.length_map]
 have hmc : ((clubs.map fun n=>[DI n]).length : Int) = (clubs.length : Int):=by rw [insl]
 refine zw25 ?_ rfl (fun _=>rfl) h
 clear h
 refine zw24 C_ok Tryz.func90 rfl rfl rfl (zw18 rfl) rfl ?_
 skip
 conv=>whnf
 refine zw26 (fun i : Nat=>i ≤ clubs.length) (fun i=>⟨[(0,.d (ress l)),(1,.d (ins clubs)),(5,I (roundF l (clubs.take i))),(6,I i)],Tryz.f90.ntmps,[],[],none⟩) (fun i=>clubs.length - i) 0 (zw22 _) ?_ ?_
 ·exact zw27 ⟨rfl,rfl,rfl,rfl,trivial⟩
 intro i hi
 by_cases hi' : i < clubs.length
 rotate_left
 ·have hlt : ¬ (i : Int) < ((clubs.map fun n=>[DI n]).length : Int):=by omega
  obtain rfl : i = clubs.length:=by omega
  rw [List.take_length]
  repeat' ((conv=>whnf); refine zw9 (zw20 hlt) ?_)
  conv=>whnf
  exact FinP.zz rfl ⟨rfl,rfl⟩
 have hlt : (i : Int) < ((clubs.map fun n=>[DI n]).length : Int):=by omega
 have hw:=zwW i (by omega)
 have r1:=ins_at hi'
 have hnx:=round_next (l:=l) hi'
 generalize hc' : clubs[i] = c at *
 clear hc'
 repeat' ((conv=>whnf); refine zw8 (zw19 hlt) ?_)
 conv=>whnf
 refine zw26 (fun j : Nat=>j ≤ l.length) (fun j=>⟨[(0,.d (ress l)),(1,.d (ins clubs)),(5,I (roundF l (clubs.take i))),(6,I i),(7,I (playsN (l.take j) c)),(8,I j)],Tryz.f90.ntmps,[],[],none⟩) (fun j=>l.length - j) 0 (zw22 _) ?_ ?_
 ·exact zw27 ⟨rfl,rfl,rfl,rfl,rfl,rfl,trivial⟩
 intro j hj
 by_cases hj' : j < l.length
 rotate_left
 ·have hltj : ¬ (j : Int) < ((l.map Res.cells).length : Int):=by omega
  obtain rfl : j = l.length:=by omega
  rw [List.take_length]
  generalize playsN l c = n at *
  have hmn : ∀ a b : Int,(b < a → min a b = b) ∧ (¬ b < a → min a b = a):=fun a b=>⟨fun _=>by omega,fun _=>by omega⟩
  by_cases d1 : n < roundF l (clubs.take i)
  ·repeat' (conv => whnf
            first|refine zw9 (zw20 hltj) ?_|refine zw8 (zw19 d1) ?_)
   conv=>whnf
   exact ⟨i + 1,hi',by omega,Weak.by ⟨rfl,rfl,congrArg I (hnx.trans ((hmn _ _).1 d1)).symm,congrArg I hw,trivial⟩⟩
  ·repeat' (conv => whnf
            first|refine zw9 (zw20 hltj) ?_|refine zw9 (zw20 d1) ?_)
   conv=>whnf
   exact ⟨i + 1,hi',by omega,Weak.by ⟨rfl,rfl,congrArg I (hnx.trans ((hmn _ _).2 d1)).symm,congrArg I hw,trivial⟩⟩
 have hltj : (j : Int) < ((l.map Res.cells).length : Int):=by omega
 have hwj:=zwW j (by omega)
 have r2:=ress_at hj'
 have hpn:=playsN_next (c:=c) hj'
 have hpl:=playsN_le (l.take j) c
 rw [List.length_take] at hpl
 have hwp : IntKind.i64.wrap (playsN (l.take j) c + 1) = playsN (l.take j) c + 1:=wrap_in (by omega)
 unfold hasC at hpn
 generalize playsN (l.take j) c = n at *
 generalize l[j] = y at *
 obtain ⟨⟨a1,a2,a3,a4⟩,a5,a6,a7,a8,a9,a10,a11,a12,a13⟩:=y
 simp only at hpn
 by_cases d1 : a3 = c
 ·rw [decide_eq_true d1,Bool.true_or,if_pos rfl] at hpn
  repeat' ((conv=>whnf); first|refine zw8 (zw19 hltj) ?_|refine zw8 (zw19 d1) ?_|refine zw10 j _ rfl r2 ?_|refine zw10 i _ rfl r1 ?_|refine zw6 rfl ?_|refine zw7 mixed rfl ?_)
  conv=>whnf
  exact ⟨j + 1,hj',by omega,Weak.by ⟨rfl,rfl,rfl,rfl,congrArg I (hwp.trans hpn.symm),congrArg I hwj,trivial⟩⟩
 by_cases d2 : a4 = c
 ·rw [decide_eq_true d2,Bool.or_true,if_pos rfl] at hpn
  repeat' ((conv=>whnf); first|refine zw8 (zw19 hltj) ?_|refine zw9 (zw20 d1) ?_|refine zw8 (zw19 d2) ?_|refine zw10 j _ rfl r2 ?_|refine zw10 i _ rfl r1 ?_|refine zw6 rfl ?_|refine zw7 mixed rfl ?_)
  conv=>whnf
  exact ⟨j + 1,hj',by omega,Weak.by ⟨rfl,rfl,rfl,rfl,congrArg I (hwp.trans hpn.symm),congrArg I hwj,trivial⟩⟩
 ·rw [decide_eq_false d1,decide_eq_false d2,Bool.or_false,if_neg (by decide),Int.add_zero] at hpn
  repeat' ((conv=>whnf); first|refine zw8 (zw19 hltj) ?_|refine zw9 (zw20 d1) ?_|refine zw9 (zw20 d2) ?_|refine zw10 j _ rfl r2 ?_|refine zw10 i _ rfl r1 ?_|refine zw6 rfl ?_|refine zw7 mixed rfl ?_)
  conv=>whnf
  exact ⟨j + 1,hj',by omega,Weak.by ⟨rfl,rfl,rfl,rfl,congrArg I hpn.symm,congrArg I hwj,trivial⟩⟩
theorem renv_c (l : List Res) (clubs : List Int) (n : Int) (fin : Bool) (hl : l.length ≤ 1073741824) (hc : clubs.length ≤ 1073741824) (h : k (enV (envO l clubs n fin)) L) : CallP C 57 [.d (ress l),.d (ins clubs),I n,B fin] L k:=by
 have hr:=fun {L : List Blk} {k : V → List Blk → Prop} h=>rround_c (L:=L) (k:=k) l clubs hl hc h
 have hmc : ((clubs.map fun n=>[DI n]).length : Int) = (clubs.length : Int):=by rw [insl]
 refine zw25 ?_ rfl (fun _=>rfl) h
 clear h
 refine zw24 C_ok Tryz.func57 rfl rfl rfl (zw18 rfl) rfl ?_
 unfold envO
 rw [← hmc]
 generalize roundF l clubs = r at *
 cases fin with
 | true =>
  repeat' ((conv=>whnf); first|refine hr ?_|refine zw0 ?_)
  conv=>whnf
  exact FinP.zz rfl ⟨rfl,rfl⟩
 | false =>
  repeat' ((conv=>whnf); first|refine hr ?_|refine zw1 ?_)
  conv=>whnf
  exact FinP.zz rfl ⟨rfl,rfl⟩
theorem Env19_c (l : List Res) (clubs g : List Int) (fin : Bool) (hl : l.length ≤ 1073741824) (hc : clubs.length ≤ 1073741824) (hg : g.length ≤ 1073741824) (h : k (envX l clubs g fin) L) : CallP C 22 [.d (ress l),.d (ins clubs),.d (ins g),B fin] L k:=by
 have q1 : ∀ {L : List Blk} {k : V → List Blk → Prop},k (B (fieldOk clubs 2)) L → CallP C 55 [.d (ins clubs),I 2] L k:=fun h=>rincr_c _ 2 (by omega) h
 have q2 : ∀ {L : List Blk} {k : V → List Blk → Prop},k (B (fieldOk g 2)) L → CallP C 55 [.d (ins g),I 2] L k:=fun h=>rincr_c _ 2 (by omega) h
 have hmg : ((g.map fun n=>[DI n]).length : Int) = (g.length : Int):=by rw [insl]
 have q5 : ∀ {L : List Blk} {k : V → List Blk → Prop},k (enV (envO l clubs g.length fin)) L → CallP C 57 [.d (ress l),.d (ins clubs),I ((g.map fun n=>[DI n]).length : Nat),B fin] L k:=fun h=>by rw [hmg]; exact renv_c l clubs _ fin hl hc h
 refine zw25 ?_ rfl (fun n=>by unfold envX; split <;> rfl) h
 clear h
 unfold envX
 cases c1 : fieldOk clubs 2 with
 | false =>
  rw [c1] at q1
  simp only [Bool.false_eq_true,false_and,if_false]
  refine zw24 C_ok Tryz.func22 rfl rfl rfl (zw18 rfl) rfl ?_
  repeat' ((conv=>whnf); first|refine q1 ?_|refine zw3 ?_|refine zw1 ?_)
  conv=>whnf
  exact FinP.zz rfl ⟨rfl,rfl⟩
 | true =>
 rw [c1] at q1
 have hcn : clubs ≠ []:=fun e=>by
  have:=(field_of c1).2.1
  rw [e] at this
  simp at this
 have q3 : ∀ {L : List Blk} {k : V → List Blk → Prop},k (B (ressV l clubs.contains)) L → CallP C 56 [.d (ress l),.d (ins clubs)] L k:=fun h=>rplayed_c _ clubs hcn (by omega) hl h
 cases c2 : ressV l clubs.contains with
 | false =>
  rw [c2] at q3
  simp only [Bool.false_eq_true,false_and,and_false,if_false]
  refine zw24 C_ok Tryz.func22 rfl rfl rfl (zw18 rfl) rfl ?_
  repeat' ((conv=>whnf); first|refine q1 ?_|refine q3 ?_|refine zw3 ?_|refine zw0 ?_|refine zw1 ?_)
  conv=>whnf
  exact FinP.zz rfl ⟨rfl,rfl⟩
 | true =>
 rw [c2] at q3
 cases c3 : fieldOk g 2 with
 | false =>
  rw [c3] at q2
  simp only [Bool.false_eq_true,false_and,and_false,if_false]
  refine zw24 C_ok Tryz.func22 rfl rfl rfl (zw18 rfl) rfl ?_
  repeat' ((conv=>whnf); first|refine q1 ?_|refine q3 ?_|refine q2 ?_|refine zw3 ?_|refine zw0 ?_|refine zw1 ?_)
  conv=>whnf
  exact FinP.zz rfl ⟨rfl,rfl⟩
 | true =>
 rw [c3] at q2
 simp only [true_and]
 generalize envO l clubs g.length fin = eo at *
 refine zw24 C_ok Tryz.func22 rfl rfl rfl (zw18 rfl) rfl ?_
 repeat' ((conv=>whnf); first|refine q1 ?_|refine q3 ?_|refine q2 ?_|refine zw3 ?_|refine zw0 ?_)
 conv=>whnf
 refine zw26 (fun i : Nat=>i ≤ g.length ∧ ∀ (j : Nat) (hj : j < g.length),j < i → clubs.contains g[j] = true) (fun i=>⟨[(0,.d (ress l)),(1,.d (ins clubs)),(2,.d (ins g)),(3,B fin),(8,.ptr 0 0),(9,I 0),(10,I i)],Tryz.f22.ntmps,[.cells [I 0,I 0,I 0,I 0]],[],none⟩) (fun i=>g.length - i) 0 ⟨zw22 _,fun j _ h=>absurd h (Nat.not_lt_zero j)⟩ ?_ ?_
 ·exact zw27 ⟨rfl,rfl,rfl,rfl,rfl,rfl,rfl,trivial⟩
 rintro i ⟨hi,h1⟩
 by_cases hi' : i < g.length
 ·have hlt : (i : Int) < ((g.map fun n=>[DI n]).length : Int):=by omega
  have hw:=zwW i (by omega)
  have r1:=ins_at hi'
  have hin : ∀ {L : List Blk} {k : V → List Blk → Prop},k (B (clubs.contains g[i])) L → CallP C 25 [.d (ins clubs),I g[i]] L k:=fun h=>rin19_c clubs g[i] (by omega) h
  cases hq : clubs.contains g[i] with
  | false =>
   rw [hq] at hin
   rw [if_neg fun e=>by
    have e:=List.any_eq_false.1 e g[i] (List.getElem_mem hi')
    rw [hq] at e; exact e rfl]
   generalize g[i] = x at *
   repeat' ((conv=>whnf); first|refine zw8 (zw19 hlt) ?_|refine zw10 i _ rfl r1 ?_|refine hin ?_|refine zw3 ?_|refine zw1 ?_|refine zw6 rfl ?_)
   conv=>whnf
   exact FinP.zz rfl ⟨rfl,rfl⟩
  | true =>
   rw [hq] at hin
   have h1' : ∀ (j : Nat) (hj : j < g.length),j < i + 1 → clubs.contains g[j] = true:=fun j hj hji=>by
    by_cases e : j = i
    ·subst e; exact hq
    ·exact h1 j hj (by omega)
   generalize g[i] = x at *
   repeat' ((conv=>whnf); first|refine zw8 (zw19 hlt) ?_|refine zw10 i _ rfl r1 ?_|refine hin ?_|refine zw3 ?_|refine zw0 ?_|refine zw6 rfl ?_)
   conv=>whnf
   exact ⟨i + 1,⟨hi',h1'⟩,by omega,Weak.by ⟨rfl,rfl,rfl,rfl,rfl,rfl,congrArg I hw,trivial⟩⟩
 have hlt : ¬ (i : Int) < ((g.map fun n=>[DI n]).length : Int):=by omega
 rw [if_pos (by
  rw [List.any_eq_false]
  intro x hx
  obtain ⟨j,hj,rfl⟩:=List.mem_iff_getElem.1 hx
  rw [h1 j hj (by omega)]; decide)]
 repeat' ((conv=>whnf); first|refine zw9 (zw20 hlt) ?_|refine q5 ?_)
 conv=>whnf
 exact FinP.zz rfl ⟨rfl,rfl⟩
def qV (c : Int × Int) : V:=.agg [I c.1,I c.2]
def keysQ (es : List ((Int × Int) × Int)) : List (Int × Int):=es.map (·.1)
def qIns (es : List ((Int × Int) × Int)) (c : Int × Int) (n : Int) : List ((Int × Int) × Int):=if c ∈ keysQ es then es.set ((keysQ es).idxOf c) (c,n) else es ++ [(c,n)]
def valQ (es : List ((Int × Int) × Int)) (c : Int × Int) : Int:=if c ∈ keysQ es then (es.getD ((keysQ es).idxOf c) ((0,0),0)).2 else 0
abbrev qK : TK:=.keys [.int .i64,.int .i64]
def esQ (es : List ((Int × Int) × Int)) : List (V × V):=es.map fun p=>(qV p.1,I p.2)
theorem esQ_bel (n : Nat) (es : List ((Int × Int) × Int)) : belM n (esQ es) = true:=by
 unfold esQ
 induction es with
 | nil=>rfl
 | cons a r ih=>simp only [List.map_cons,belM,qV,V.bel,V.belL,Bool.true_and,Bool.and_true]; exact ih
theorem esQ_set (es : List ((Int × Int) × Int)) (i : Nat) (c : Int × Int) (n : Int) : (esQ es).set i (qV c,I n) = esQ (es.set i (c,n)):=by unfold esQ; rw [List.map_set]
theorem esQ_snoc (es : List ((Int × Int) × Int)) (c : Int × Int) (n : Int) : esQ es ++ [(qV c,I n)] = esQ (es ++ [(c,n)]):=by unfold esQ; rw [List.map_append]; rfl
theorem keyq_idx {es : List ((Int × Int) × Int)} {c : Int × Int} (h : c ∈ keysQ es) : (keysQ es).idxOf c < es.length:=by
 have:=List.idxOf_lt_length_of_mem h
 unfold keysQ at this ⊢
 rwa [List.length_map] at this
theorem keyq_at {es : List ((Int × Int) × Int)} {c : Int × Int} (h : c ∈ keysQ es) : es[(keysQ es).idxOf c]? = some (c,valQ es c):=by
 have hi:=keyq_idx h
 have h1 : (keysQ es)[(keysQ es).idxOf c]'(by unfold keysQ at hi ⊢; rwa [List.length_map]) = c:=List.getElem_idxOf _
 unfold valQ
 rw [if_pos h,List.getElem?_eq_getElem hi,List.getD_eq_getElem?_getD,List.getElem?_eq_getElem hi]
 congr 1
 refine Prod.ext ?_ rfl
 have h2 : (es[(keysQ es).idxOf c]).1 = (keysQ es)[(keysQ es).idxOf c]'(by unfold keysQ at hi ⊢; rwa [List.length_map]):=by
  show _ = (es.map (·.1))[(keysQ es).idxOf c]'(by rwa [List.length_map])
  rw [List.getElem_map]
 exact h2.trans h1
theorem keysQ_set {es : List ((Int × Int) × Int)} {c : Int × Int} {n : Int} (h : c ∈ keysQ es) : keysQ (es.set ((keysQ es).idxOf c) (c,n)) = keysQ es:=by
 have hi:=keyq_idx h
 have h1:=keyq_at h
 unfold keysQ at *
 rw [List.map_set]
 refine List.ext_getElem? fun j=>?_
 rw [List.getElem?_set]
 split
 ·rename_i e
  subst e
  rw [if_pos (by rwa [List.length_map]),List.getElem?_map,h1]; rfl
 ·rfl
theorem valQ_ins (es : List ((Int × Int) × Int)) (c : Int × Int) (n : Int) (d : Int × Int) : valQ (qIns es c n) d = if d = c then n else valQ es d:=by
 by_cases h : c ∈ keysQ es
 ·have hp : qIns es c n = es.set ((keysQ es).idxOf c) (c,n):=if_pos h
  have hi:=keyq_idx h
  rw [hp]
  unfold valQ
  rw [keysQ_set h]
  by_cases hd : d = c
  ·subst hd
   rw [if_pos h,if_pos rfl,List.getD_eq_getElem?_getD,List.getElem?_set_self hi]; rfl
  ·rw [if_neg hd]
   by_cases h' : d ∈ keysQ es
   ·rw [if_pos h',if_pos h',List.getD_eq_getElem?_getD,List.getD_eq_getElem?_getD,List.getElem?_set_ne]
    intro e
    have e1:=keyq_at h
    have e2:=keyq_at h'
    rw [← e,e1] at e2
    simp only [Option.some.injEq,Prod.mk.injEq] at e2
    exact hd e2.1.symm
   ·rw [if_neg h',if_neg h']
 ·have hp : qIns es c n = es ++ [(c,n)]:=if_neg h
  have hk : keysQ (es ++ [(c,n)]) = keysQ es ++ [c]:=by unfold keysQ; rw [List.map_append]; rfl
  rw [hp]
  unfold valQ
  rw [hk]
  by_cases hd : d = c
  ·subst hd
   have hx : (keysQ es ++ [d]).idxOf d = es.length:=by
    rw [List.idxOf_append,if_neg h]
    unfold keysQ
    simp
   rw [if_pos (by simp),if_pos rfl,hx,List.getD_eq_getElem?_getD]
   simp
  ·rw [if_neg hd]
   by_cases h' : d ∈ keysQ es
   ·have hx : (keysQ es ++ [c]).idxOf d = (keysQ es).idxOf d:=by rw [List.idxOf_append,if_pos h']
    have:=keyq_idx h'
    rw [if_pos (by simp [h']),if_pos h',hx,List.getD_eq_getElem?_getD,List.getD_eq_getElem?_getD,List.getElem?_append_left this]
   ·rw [if_neg (by simp [h',hd]),if_neg h']
theorem qV_inj {c d : Int × Int} (e : qV c = qV d) : c = d:=by
 obtain ⟨a,b⟩:=c
 obtain ⟨x,y⟩:=d
 simp only [qV,V.agg.injEq,List.cons.injEq,V.d.injEq,D.int.injEq,true_and,and_true] at e
 obtain ⟨rfl,rfl⟩:=e
 rfl
theorem esQ_keys {es : List ((Int × Int) × Int)} : ∀ kv ∈ esQ es,keyV qK kv.1 = true:=fun kv hkv=>by
 obtain ⟨x,_,rfl⟩:=List.mem_map.1 hkv; rfl
theorem MapF.hasQ {es : List ((Int × Int) × Int)} {c : Int × Int} {q : Option (Nat × V) → Prop} (hc : c ∈ keysQ es) (h : q (some ((keysQ es).idxOf c,I (valQ es c)))) : MapF qK (esQ es) (qV c) q:=by
 refine MapF.hit ((keysQ es).idxOf c) (I (valQ es c)) esQ_keys ?_ (fun j kv hj hkv e=>?_) h
 ·unfold esQ
  rw [List.getElem?_map,keyq_at hc]; rfl
 ·unfold esQ at hkv
  have hi:=keyq_idx hc
  have hjl : j < es.length:=by omega
  rw [List.getElem?_map,List.getElem?_eq_getElem hjl] at hkv
  cases hkv
  have e2 : es[j].1 = c:=qV_inj e
  have:=List.not_of_lt_findIdx (p:=(· == c)) (xs:=keysQ es) (i:=j) hj
  simp [keysQ,e2] at this
theorem MapF.hasntQ {es : List ((Int × Int) × Int)} {c : Int × Int} {q : Option (Nat × V) → Prop} (hc : c ∉ keysQ es) (h : q none) : MapF qK (esQ es) (qV c) q:=by
 refine MapF.miss esQ_keys (fun kv hkv e=>?_) h
 obtain ⟨x,hx,rfl⟩:=List.mem_map.1 hkv
 exact hc (qV_inj e ▸ List.mem_map.2 ⟨x,hx,rfl⟩)
abbrev QT:=List ((Int × Int) × Int)
noncomputable def ifP (P : Prop) (a b : Int) : Int:=@ite _ P (Classical.propDecidable P) a b
theorem ifP_y {P : Prop} {a b : Int} (h : P) : ifP P a b = a:=if_pos h
theorem ifP_n {P : Prop} {a b : Int} (h : ¬ P) : ifP P a b = b:=if_neg h
theorem fold_val {α : Type} (f : QT → α → QT) (Q : α → Prop) (ab : Int × Int) (c : Int) : ∀ (l : List α),(∀ x ∈ l,∀ es,valQ (f es x) ab = ifP (Q x) c (valQ es ab)) → ∀ es,valQ (l.foldl f es) ab = ifP (∃ x,x ∈ l ∧ Q x) c (valQ es ab)
 | [],h,es=>by rw [ifP_n (by simp)]; rfl
 | x :: l,h,es=>by
  rw [List.foldl_cons,fold_val f Q ab c l (fun y hy=>h y (by simp [hy])) (f es x),h x (by simp) es]
  by_cases h1 : Q x
  ·rw [ifP_y h1,ifP_y (P:=∃ y,y ∈ x :: l ∧ Q y) ⟨x,by simp,h1⟩]
   by_cases h2 : ∃ y,y ∈ l ∧ Q y
   ·exact ifP_y h2
   ·exact ifP_n h2
  ·rw [ifP_n h1]
   by_cases h2 : ∃ y,y ∈ l ∧ Q y
   ·obtain ⟨y,hy,hq⟩:=h2
    rw [ifP_y ⟨y,hy,hq⟩,ifP_y ⟨y,by simp [hy],hq⟩]
   ·rw [ifP_n h2,ifP_n fun ⟨y,hy,hq⟩=>by
     rcases List.mem_cons.1 hy with rfl | hy
     ·exact h1 hq
     ·exact h2 ⟨y,hy,hq⟩]
def sepN (g q : List Int) (c : Int) (j : Nat) (l : List Int) (es : QT) : QT:=l.foldl (fun es x=>if q.contains (j : Int) then es else qIns es (g.getD j 0,g.getD x.toNat 0) c) es
def sepK (g q : List Int) (c : Int) (n : Nat) (es : QT) : QT:=(List.range n).foldl (fun es j=>sepN g q c j q es) es
def sepS (g : List Int) (S : List (List Int)) (c : Int) (es : QT) : QT:=S.foldl (fun es q=>sepK g q c g.length es) es
theorem sepN_next {g q : List Int} {c : Int} {j : Nat} {l : List Int} {n : Nat} (h : n < l.length) (es : QT) : sepN g q c j (l.take (n + 1)) es = if q.contains (j : Int) then sepN g q c j (l.take n) es else qIns (sepN g q c j (l.take n) es) (g.getD j 0,g.getD l[n].toNat 0) c:=by
 unfold sepN
 rw [take_next h,List.foldl_append]; rfl
theorem sepK_next (g q : List Int) (c : Int) (n : Nat) (es : QT) : sepK g q c (n + 1) es = sepN g q c n q (sepK g q c n es):=by
 unfold sepK
 rw [List.range_succ,List.foldl_append]; rfl
theorem sepS_next {g : List Int} {S : List (List Int)} {c : Int} {i : Nat} (h : i < S.length) (es : QT) : sepS g (S.take (i + 1)) c es = sepK g S[i] c g.length (sepS g (S.take i) c es):=by
 unfold sepS
 rw [List.take_succ_eq_append_getElem h,List.foldl_append]; rfl
structure PartsI (g : List Int) (S : List (List Int)) : Prop where
 nd : (S.map (pickF g)).flatten.Nodup
 cov : ∀ j : Nat,j < g.length → ∃ q ∈ S,(j : Int) ∈ q
 rg : ∀ q ∈ S,∀ x ∈ q,0 ≤ x ∧ x < g.length
theorem pick_mem {g q : List Int} {j : Nat} (h : (j : Int) ∈ q) : g.getD j 0 ∈ pickF g q:=by
 unfold pickF
 exact List.mem_map.2 ⟨j,h,rfl⟩
theorem sepS_val {g : List Int} {S : List (List Int)} (hP : PartsI g S) (c a b : Int) (es : QT) : valQ (sepS g S c es) (a,b) = if apartB (S.map (pickF g)) a b then c else valQ es (a,b):=by
 have h1 : ∀ (q : List Int) (j : Nat) (es : QT),valQ (sepN g q c j q es) (a,b) = ifP (∃ x,x ∈ q ∧ ¬ q.contains (j : Int) = true ∧ (g.getD j 0,g.getD x.toNat 0) = (a,b)) c (valQ es (a,b)):=fun q j es=>by
  refine fold_val _ (fun x=>¬ q.contains (j : Int) = true ∧ (g.getD j 0,g.getD x.toNat 0) = (a,b)) (a,b) c q (fun x _ es=>?_) es
  by_cases hq : q.contains (j : Int) = true
  ·rw [if_pos hq,ifP_n fun h=>h.1 hq]
  ·rw [if_neg hq,valQ_ins]
   by_cases e : (a,b) = (g.getD j 0,g.getD x.toNat 0)
   ·rw [if_pos e,ifP_y ⟨hq,e.symm⟩]
   ·rw [if_neg e,ifP_n fun h=>e h.2.symm]
 have h2 : ∀ (q : List Int) (es : QT),valQ (sepK g q c g.length es) (a,b) = ifP (∃ j : Nat,j ∈ List.range g.length ∧ ∃ x,x ∈ q ∧ ¬ q.contains (j : Int) = true ∧ (g.getD j 0,g.getD x.toNat 0) = (a,b)) c (valQ es (a,b)):=fun q es =>
  fold_val _ (fun j : Nat=>∃ x,x ∈ q ∧ ¬ q.contains (j : Int) = true ∧ (g.getD j 0,g.getD x.toNat 0) = (a,b)) (a,b) c _ (fun j _ es=>h1 q j es) es
 have h3 : valQ (sepS g S c es) (a,b) = ifP (∃ q,q ∈ S ∧ ∃ j : Nat,j ∈ List.range g.length ∧ ∃ x,x ∈ q ∧ ¬ q.contains (j : Int) = true ∧ (g.getD j 0,g.getD x.toNat 0) = (a,b)) c (valQ es (a,b)) :=
  fold_val _ (fun q : List Int=>∃ j : Nat,j ∈ List.range g.length ∧ ∃ x,x ∈ q ∧ ¬ q.contains (j : Int) = true ∧ (g.getD j 0,g.getD x.toNat 0) = (a,b)) (a,b) c S (fun q _ es=>h2 q es) es
 rw [h3]
 have hat : ∀ {i : Nat} (hi : i < S.length) {j : Nat},(j : Int) ∈ S[i] → inP (S.map (pickF g)) (g.getD j 0) = i:=fun {i} hi {j} hj=>by
  refine inP_at hP.nd (i:=i) (by rw [List.length_map]; exact hi) ?_
  rw [List.getElem_map]
  exact pick_mem hj
 have hof : ∀ {x : Int},0 ≤ inP (S.map (pickF g)) x → ∃ (i : Nat) (hi : i < S.length) (j : Nat),j < g.length ∧ (j : Int) ∈ S[i] ∧ g.getD j 0 = x:=fun {x} h=>by
  obtain ⟨p,hp,hx⟩:=inP_nn h
  obtain ⟨q,hq,rfl⟩:=List.mem_map.1 hp
  obtain ⟨i,hi,rfl⟩:=List.mem_iff_getElem.1 hq
  unfold pickF at hx
  obtain ⟨y,hy,rfl⟩:=List.mem_map.1 hx
  have:=hP.rg _ hq y hy
  exact ⟨i,hi,y.toNat,by omega,by rw [show ((y.toNat : Nat) : Int) = y by omega]; exact hy,rfl⟩
 have key : (∃ q,q ∈ S ∧ ∃ j : Nat,j ∈ List.range g.length ∧ ∃ x,x ∈ q ∧ ¬ q.contains (j : Int) = true ∧ (g.getD j 0,g.getD x.toNat 0) = (a,b)) ↔ apartB (S.map (pickF g)) a b = true:=by
  unfold apartB
  rw [decide_eq_true_eq]
  constructor
  ·rintro ⟨q,hq,j,hj,x,hx,hn,e⟩
   rw [List.mem_range] at hj
   simp only [Prod.mk.injEq] at e
   obtain ⟨rfl,rfl⟩:=e
   have hxr:=hP.rg q hq x hx
   obtain ⟨i,hi,rfl⟩:=List.mem_iff_getElem.1 hq
   obtain ⟨q',hq',hjq⟩:=hP.cov j hj
   obtain ⟨i',hi',rfl⟩:=List.mem_iff_getElem.1 hq'
   have e1:=hat hi' hjq
   have e2:=hat hi (j:=x.toNat) (by rw [show ((x.toNat : Nat) : Int) = x by omega]; exact hx)
   rw [e1,e2]
   refine ⟨by omega,by omega,fun e=>?_⟩
   have e3 : i' = i:=by omega
   subst e3
   exact hn (List.contains_iff_mem.2 hjq)
  ·rintro ⟨ha,hb,hne⟩
   obtain ⟨i',hi',j,hj,hjq,rfl⟩:=hof ha
   obtain ⟨i,hi,x,hx,hxq,rfl⟩:=hof hb
   have e1:=hat hi' hjq
   have e2:=hat hi hxq
   refine ⟨S[i],List.getElem_mem hi,j,List.mem_range.2 hj,(x : Int),hxq,fun hc=>?_,by rw [Int.toNat_natCast]⟩
   rw [hat hi (List.contains_iff_mem.1 hc),e2] at hne
   exact hne rfl
 by_cases hap : apartB (S.map (pickF g)) a b = true
 ·rw [ifP_y (key.2 hap),if_pos hap]
 ·rw [ifP_n (fun h=>hap (key.1 h)),if_neg hap]
def stR (p : Cp) (fin : Bool) (n : Nat) : List V:=[.d (ress p.res),.d (ins p.clubs),.d (.str p.ru.name),I p.ru.win,I p.ru.draw,I p.ru.loss,.d (sps p.ru.order),.d (zns p.ru.zones),B fin,.d (ins p.lots),.own 2 n 0 n,.own 3 n 0 n,.map 1]
def mS (p : Cp) (fin : Bool) (es : QT) (gs : List (List Int × Int)) : List Blk :=
 [.cells (stR p fin gs.length),.map (esQ es),.row gs.length 1 (grV (gs.map (·.1))),.row gs.length 1 (rdI (gs.map (·.2)))]
theorem mS_bel (n : Nat) (h : 4 ≤ n) (p : Cp) (fin : Bool) (es : QT) (gs : List (List Int × Int)) : belB n (mS p fin es gs) = true:=by
 have h4 : ∀ i,i < 4 → decide (i < n) = true:=fun i hi=>zw19 (by omega)
 show (V.belL n (stR p fin gs.length) && (belM n (esQ es) && (belR n (grV (gs.map (·.1))) && (belR n (rdI (gs.map (·.2))) && true)))) = true
 rw [gr_bel,rdI_bel,esQ_bel]
 simp only [V.belL,V.bel,stR,h4 1 (by decide),h4 2 (by decide),h4 3 (by decide),Bool.and_true]
theorem mS_end (p : Cp) (fin : Bool) (es : QT) (gs : List (List Int × Int)) (g : List Int) (b : Int) :
  [Blk.cells (stR p fin (gs.length + 1)),.map (esQ es),.row (gs.length + 1) 1 ((grV (gs.map (·.1))).take gs.length ++ [[.d (ins g)]]),.row (gs.length + 1) 1 ((rdI (gs.map (·.2))).take gs.length ++ [[I b]])] = mS p fin es (gs ++ [(g,b)]):=by
 have h1 : (grV (gs.map (·.1))).take gs.length ++ [[V.d (ins g)]] = grV ((gs ++ [(g,b)]).map (·.1)):=by
  rw [List.take_of_length_le (by rw [grV_len,List.length_map]; exact zw21 _),List.map_append]
  exact (gr_snoc _ _).symm
 have h2 : (rdI (gs.map (·.2))).take gs.length ++ [[I b]] = rdI ((gs ++ [(g,b)]).map (·.2)):=by
  unfold rdI
  rw [List.take_of_length_le (by simp),List.map_append,List.map_append]; rfl
 have h3 : (gs ++ [(g,b)]).length = gs.length + 1:=by simp
 unfold mS
 rw [h1,h2,h3]
theorem mS_map (p : Cp) (fin : Bool) (gs : List (List Int × Int)) {A : List (V × V)} {es : QT} (e : A = esQ es) : [Blk.cells (stR p fin gs.length),.map A,.row gs.length 1 (grV (gs.map (·.1))),.row gs.length 1 (rdI (gs.map (·.2)))] = mS p fin es gs:=by subst e; rfl
theorem qset {es : QT} {c : Int × Int} {n : Int} (h : c ∈ keysQ es) : (esQ es).set ((keysQ es).idxOf c) (qV c,I n) = esQ (qIns es c n):=by
 rw [esQ_set]; unfold qIns; rw [if_pos h]
theorem qnew {es : QT} {c : Int × Int} {n : Int} (h : c ∉ keysQ es) : esQ es ++ [(qV c,I n)] = esQ (qIns es c n):=by
 unfold qIns; rw [if_neg h,← esQ_snoc]
theorem sep19_c (p : Cp) (fin : Bool) (g : List Int) (S : List (List Int)) (c : Int) (gs : List (List Int × Int)) (hg : g.length ≤ 100) (hS : S.length ≤ 100) (hq : ∀ q ∈ S,q.length ≤ 100 ∧ ∀ x ∈ q,0 ≤ x ∧ x < g.length) (es : QT) (h : k (.tup []) (mS p fin (sepS g S c es) gs)) :
  CallP C 114 [.ptr 0 0,.d (ins g),.d (insL S),I c] (mS p fin es gs) k:=by
 have hml : ((S.map fun es=>[ins es]).length : Int) = (S.length : Int):=by rw [List.length_map]
 have hmg : ((g.map fun n=>[DI n]).length : Int) = (g.length : Int):=by rw [insl]
 refine zw24 C_ok Tryz.func114 rfl rfl rfl (zw18 rfl) rfl ?_
 skip
 conv=>whnf
 refine zw26 (fun i : Nat=>i ≤ S.length) (fun i=>⟨[(0,.ptr 0 0),(1,.d (ins g)),(2,.d (insL S)),(3,I c),(8,I i)],Tryz.f114.ntmps,mS p fin (sepS g (S.take i) c es) gs,[],none⟩) (fun i=>S.length - i) 0 (zw22 _) ?_ ?_
 ·exact zw27 ⟨rfl,rfl,rfl,rfl,rfl,trivial⟩
 intro i hi
 by_cases hi' : i < S.length
 rotate_left
 ·have hlt : ¬ (i : Int) < ((S.map fun es=>[ins es]).length : Int):=by omega
  obtain rfl : i = S.length:=by omega
  rw [List.take_length]
  repeat' ((conv=>whnf); refine zw9 (zw20 hlt) ?_)
  conv=>whnf
  exact FinP.same h
 have hlt : (i : Int) < ((S.map fun es=>[ins es]).length : Int):=by omega
 have hw:=zwW i (by omega)
 have r1:=insL_at hi'
 obtain ⟨hq1,hq2⟩:=hq _ (List.getElem_mem hi')
 have hn1:=sepS_next (g:=g) (c:=c) hi' es
 generalize sepS g (S.take i) c es = es0 at *
 generalize S[i] = q at *
 have hmq : ((q.map fun n=>[DI n]).length : Int) = (q.length : Int):=by rw [insl]
 repeat' ((conv=>whnf); refine zw8 (zw19 hlt) ?_)
 conv=>whnf
 refine zw26 (fun j : Nat=>j ≤ g.length) (fun j=>⟨[(0,.ptr 0 0),(1,.d (ins g)),(2,.d (insL S)),(3,I c),(8,I i),(9,I j)],Tryz.f114.ntmps,mS p fin (sepK g q c j es0) gs,[],none⟩) (fun j=>g.length - j) 0 (zw22 _) ?_ ?_
 ·exact zw27 ⟨rfl,rfl,rfl,rfl,rfl,rfl,trivial⟩
 intro j hj
 by_cases hj' : j < g.length
 rotate_left
 ·have hltj : ¬ (j : Int) < ((g.map fun n=>[DI n]).length : Int):=by omega
  obtain rfl : j = g.length:=by omega
  repeat' ((conv=>whnf); refine zw9 (zw20 hltj) ?_)
  conv=>whnf
  exact ⟨i + 1,hi',by omega,Weak.by (hL:=by rw [hn1]) ⟨rfl,rfl,rfl,rfl,congrArg I hw,trivial⟩⟩
 have hltj : (j : Int) < ((g.map fun n=>[DI n]).length : Int):=by omega
 have hwj:=zwW j (by omega)
 have r2:=ins_at hj'
 have hgj:=getDI (l:=g) hj'
 have hin : ∀ {L : List Blk} {k : V → List Blk → Prop},k (B (q.contains (j : Int))) L → CallP C 25 [.d (ins q),I j] L k:=fun h=>rin19_c q j (by omega) h
 have hn2:=sepK_next g q c j es0
 generalize sepK g q c j es0 = es1 at *
 repeat' ((conv=>whnf); refine zw8 (zw19 hltj) ?_)
 conv=>whnf
 refine zw26 (fun n : Nat=>n ≤ q.length) (fun n=>⟨[(0,.ptr 0 0),(1,.d (ins g)),(2,.d (insL S)),(3,I c),(8,I i),(9,I j),(10,I n)],Tryz.f114.ntmps,mS p fin (sepN g q c j (q.take n) es1) gs,[],none⟩) (fun n=>q.length - n) 0 (zw22 _) ?_ ?_
 ·exact zw27 ⟨rfl,rfl,rfl,rfl,rfl,rfl,rfl,trivial⟩
 intro n hn
 by_cases hn' : n < q.length
 rotate_left
 ·have hltn : ¬ (n : Int) < ((q.map fun n=>[DI n]).length : Int):=by omega
  obtain rfl : n = q.length:=by omega
  rw [List.take_length]
  repeat' ((conv=>whnf); first|refine zw9 (zw20 hltn) ?_|refine zw10 i _ rfl r1 ?_|refine zw6 rfl ?_)
  conv=>whnf
  exact ⟨j + 1,hj',by omega,Weak.by (hL:=by rw [hn2]) ⟨rfl,rfl,rfl,rfl,rfl,congrArg I hwj,trivial⟩⟩
 have hltn : (n : Int) < ((q.map fun n=>[DI n]).length : Int):=by omega
 have hwn:=zwW n (by omega)
 have r3:=ins_at hn'
 have hx:=hq2 _ (List.getElem_mem hn')
 have hxl : q[n].toNat < g.length:=by omega
 have hxi : q[n] = (q[n].toNat : Int):=by omega
 have r4:=ins_at hxl
 have hgx:=getDI (l:=g) hxl
 have hnx:=sepN_next (g:=g) (q:=q) (c:=c) (j:=j) hn' es1
 cases hc : q.contains (j : Int) with
 | true =>
  rw [hc] at hin
  rw [if_pos hc] at hnx
  repeat' ((conv=>whnf); first|refine zw8 (zw19 hltn) ?_|refine zw10 i _ rfl r1 ?_|refine hin ?_|refine zw3 ?_|refine zw0 ?_|refine zw6 rfl ?_)
  conv=>whnf
  exact ⟨n + 1,hn',by omega,Weak.by (hL:=by rw [hnx]) ⟨rfl,rfl,rfl,rfl,rfl,rfl,congrArg I hwn,trivial⟩⟩
 | false =>
  rw [hc] at hin
  rw [if_neg (by rw [hc]; decide),hgj,hgx] at hnx
  generalize sepN g q c j (q.take n) es1 = es2 at *
  generalize g[q[n].toNat] = y at *
  generalize q[n].toNat = xn at *
  generalize q[n] = xx at *
  generalize g[j] = x at *
  by_cases d4 : (x,y) ∈ keysQ es2
  ·have m2 : ∀ {q : Option (Nat × V) → Prop},q (some ((keysQ es2).idxOf (x,y),I (valQ es2 (x,y)))) → MapF qK (esQ es2) (.agg [I x,I y]) q:=fun h=>MapF.hasQ d4 h
   have e1:=qset (n:=c) d4
   repeat' ((conv=>whnf); first|refine zw8 (zw19 hltn) ?_|refine zw10 i _ rfl r1 ?_|refine hin ?_|refine zw3 ?_|refine zw1 ?_|refine zw6 rfl ?_)
   conv=>whnf
   refine DrawP.por mixed [] [[(0,0),(1,0),(2,0),(3,0),(4,0),(5,0),(6,0),(7,0),(8,0),(9,0),(10,0),(11,0),(12,0),(13,0),(14,0),(15,0),(16,0),(17,0),(18,0),(19,0),(20,0)]] (by kernel_rfl) ?_
   all_goals
    repeat' ((conv=>whnf); first|refine zw10 i _ rfl r1 ?_|refine zw10 j _ rfl r2 ?_|refine zw10 n _ rfl r3 ?_|refine zw10 xn _ hxi r4 ?_|refine m2 ?_|refine zw6 rfl ?_)
   all_goals conv=>whnf
   all_goals exact ⟨n + 1,hn',by omega,Weak.by (hL:=by rw [hnx]; exact Eq.trans (b:=[Blk.cells (stR p fin gs.length),.map ((esQ es2).set (List.idxOf (x,y) (keysQ es2)) (qV (x,y),I c)),.row gs.length 1 (grV (gs.map (·.1))),.row gs.length 1 (rdI (gs.map (·.2)))]) rfl (mS_map p fin gs e1)) ⟨rfl,rfl,rfl,rfl,rfl,rfl,congrArg I hwn,trivial⟩⟩
  ·have m2 : ∀ {q : Option (Nat × V) → Prop},q none → MapF qK (esQ es2) (.agg [I x,I y]) q:=fun h=>MapF.hasntQ d4 h
   have e1:=qnew (n:=c) d4
   repeat' ((conv=>whnf); first|refine zw8 (zw19 hltn) ?_|refine zw10 i _ rfl r1 ?_|refine hin ?_|refine zw3 ?_|refine zw1 ?_|refine zw6 rfl ?_)
   conv=>whnf
   refine DrawP.por mixed [] [[(0,0),(1,0),(2,0),(3,0),(4,0),(5,0),(6,0),(7,0),(8,0),(9,0),(10,0),(11,0),(12,0),(13,0),(14,0),(15,0),(16,0),(17,0),(18,0),(19,0),(20,0)]] (by kernel_rfl) ?_
   all_goals
    repeat' ((conv=>whnf); first|refine zw10 i _ rfl r1 ?_|refine zw10 j _ rfl r2 ?_|refine zw10 n _ rfl r3 ?_|refine zw10 xn _ hxi r4 ?_|refine m2 ?_|refine zw6 rfl ?_)
   all_goals conv=>whnf
   all_goals exact ⟨n + 1,hn',by omega,Weak.by (hL:=by rw [hnx]; exact Eq.trans (b:=[Blk.cells (stR p fin gs.length),.map (esQ es2 ++ [(qV (x,y),I c)]),.row gs.length 1 (grV (gs.map (·.1))),.row gs.length 1 (rdI (gs.map (·.2)))]) rfl (mS_map p fin gs e1)) ⟨rfl,rfl,rfl,rfl,rfl,rfl,congrArg I hwn,trivial⟩⟩
end Go.Proofs.YtihibgcojdfndaaGreatDoor
namespace Go.Proofs.YtihibgcojdfndaaGreatDoor
open Go.Tidy
open Sts (Res Row Worth Game rowsF addF rowC valueF inG known worthOk resOk fieldOk gameV resV ress rowV)
variable {L : List Blk} {k : V → List Blk → Prop}
def Cp.of (p : Cp) (g : List Int) : Cp:=⟨p.res,g,g.map (offF p.clubs p.off),p.ru,p.lots⟩
theorem of_field {g l : List Int} {n m : Nat} (h : fieldOk l n = true) (hg : g.Sublist l) (h2 : m ≤ g.length) : fieldOk g m = true:=by
 unfold fieldOk at h ⊢
 simp only [Bool.and_eq_true,decide_eq_true_eq] at h ⊢
 refine ⟨⟨?_,h2⟩,Nat.le_trans hg.length_le h.2⟩
 have hlt:=Sts.incr_lt h.1.1
 rw [Sts.incr_iff]
 intro j c hj
 have hjl:=lt_of_get hj
 have hr : ∀ d ∈ l,0 ≤ d ∧ d < 192:=fun d hd=>by
  obtain ⟨i,hi,rfl⟩:=List.mem_iff_getElem.1 hd
  exact ((Sts.incr_iff _).1 h.1.1 i _ (List.getElem?_eq_getElem hi)).1
 refine ⟨hr c (hg.subset (List.mem_of_getElem? hj)),fun d h0 hd=>?_⟩
 have hp : g.Pairwise (· < ·):=List.Pairwise.sublist hg (hlt.imp fun h=>by omega)
 have hdl:=lt_of_get hd
 rw [List.pairwise_iff_getElem] at hp
 have:=hp (j - 1) j hdl hjl (by omega)
 rw [List.getElem?_eq_getElem hjl] at hj
 rw [List.getElem?_eq_getElem hdl] at hd
 cases hj; cases hd
 exact this
theorem of_open {p : Cp} {g : List Int} (h0 : openE p 2 p.clubs.contains = 0) (hg : g.Sublist p.clubs) (h1 : 1 ≤ g.length) : openE (p.of g) 1 (fun _=>true) = 0:=by
 obtain ⟨o1,o2,o3,o4,o5,o6⟩:=open_of h0
 refine open_iff.2 ⟨of_field o1 hg h1,?_,?_,o4,?_,o6⟩
 ·show (g.map _).length = g.length
  rw [List.length_map]
 ·show offOk (g.map (offF p.clubs p.off)) = true
  unfold offOk at o3 ⊢
  rw [List.all_eq_true] at o3 ⊢
  intro x hx
  obtain ⟨c,hc,rfl⟩:=List.mem_map.1 hx
  have hcc:=hg.subset hc
  have hi:=List.idxOf_lt_length_of_mem hcc
  unfold offF
  rw [if_pos hcc,getDI (by omega)]
  exact o3 _ (List.getElem_mem _)
 ·have h:=ressV_alt.1 o5
  exact ressV_alt.2 ⟨fun y hy=>⟨(h.1 y hy).1,rfl,rfl⟩,h.2⟩
theorem of_val {p : Cp} {g : List Int} (h0 : openE p 2 p.clubs.contains = 0) (hg : g.Sublist p.clubs) (b : Int) {c : Int} (hc : c ∈ g) : valC (p.of g) g b c = valC p g b c:=by
 obtain ⟨o1,o2,o3,o4,o5,o6⟩:=open_of h0
 have hn:=(field_of o1).1
 have hgn : g.Nodup:=hg.nodup hn
 have hcc:=hg.subset hc
 unfold valC
 have e1 : valP (lotTab (p.of g).clubs (p.of g).lots (p.of g).lots.length) c = valP (lotTab p.clubs p.lots p.lots.length) c:=by
  rw [lot_val (lots_nodup o6) hcc]
  exact lot_val (clubs:=g) (lots_nodup o6) hc
 have e2 : valP (offTab (p.of g).clubs (p.of g).off (p.of g).clubs.length) c = valP (offTab p.clubs p.off p.clubs.length) c:=by
  rw [off_val hn o2]
  refine (off_val (clubs:=g) (off:=g.map (offF p.clubs p.off)) hgn (by rw [List.length_map]) c).trans ?_
  have hi:=List.idxOf_lt_length_of_mem hc
  have h3 : offF g (g.map (offF p.clubs p.off)) c = (g.map (offF p.clubs p.off)).getD (g.idxOf c) 0:=if_pos hc
  rw [h3,getDI (by rw [List.length_map]; exact hi),List.getElem_map,List.getElem_idxOf]
 rw [e1,e2]
 rfl
end Go.Proofs.YtihibgcojdfndaaGreatDoor
namespace Go.Proofs.YtihibgcojdfndaaGreatDoor
open Go.Tidy
open Sts (Res Row Worth Game rowsF addF rowC valueF inG known worthOk resOk fieldOk gameV resV ress rowV rowsD)
variable {L : List Blk} {k : V → List Blk → Prop}
open Classical in
theorem rdirectB19 (l : List Sp) (x : En) : rdirectB l x = directB l x:=by unfold rdirectB directB; rw [order_eq]
theorem order_rsp19 {l : List Sp} (hl : LSs l) (h : rorderF l = 0) : ∀ s ∈ l,RSp s:=fun s hs=>by
 rw [← order_eq] at h
 exact rsp_of _ s (zw21 _) ((check_ok h).2.2 (.s s) (List.mem_map.2 ⟨s,hs,rfl⟩)) (hl.all s hs)
theorem of_sp {p : Cp} {g : List Int} (h0 : openE p 2 p.clubs.contains = 0) (hg : g.Sublist p.clubs) (fin : Bool) (b : Int) : (splitI (p.of g) b).map (pickF g) = (p.rk fin).sp g b:=by
 rw [show (splitI (p.of g) b).map (pickF g) = splitF (valC (p.of g) g b) g from pick_split (p.of g) b]
 show (clsF (valC (p.of g) g b) g).map (·.2) = (clsF (valC p g b) g).map (·.2)
 rw [show clsF (valC (p.of g) g b) g = clsF (valC p g b) g from cls_congr fun x hx=>of_val h0 hg b hx]
theorem pick_off (p : Cp) {g q : List Int} (hq : ∀ x ∈ q,0 ≤ x ∧ x < g.length) : pickF (p.of g).off q = (p.of (pickF g q)).off:=by
 show (q.map fun i=>(g.map (offF p.clubs p.off)).getD i.toNat 0) = (q.map fun i=>g.getD i.toNat 0).map (offF p.clubs p.off)
 rw [List.map_map]
 refine List.map_congr_left fun x hx=>?_
 have:=hq x hx
 rw [getDI (by rw [List.length_map]; omega),List.getElem_map]
 show _ = offF p.clubs p.off (g.getD x.toNat 0)
 rw [getDI (by omega)]
theorem parts_i {p : Cp} {g : List Int} (hg : g.Nodup) (b : Int) : PartsI g (splitI (p.of g) b):=by
 have hper:=split_perm (viF (p.of g) b) (idxI g.length)
 refine ⟨?_,fun j hj=>?_,fun q hq=>(splitI_sm (p:=p.of g) hq).2⟩
 ·rw [show (splitI (p.of g) b).map (pickF g) = splitF (valC (p.of g) g b) g from pick_split (p.of g) b]
  exact (split_perm _ _).nodup_iff.2 hg
 ·have hm : (j : Int) ∈ (splitF (viF (p.of g) b) (idxI g.length)).flatten:=hper.mem_iff.2 (idxI_mem.2 ⟨by omega,by omega⟩)
  obtain ⟨q,hq,hjq⟩:=List.mem_flatten.1 hm
  exact ⟨q,hq,hjq⟩
noncomputable def rankE (p : Cp) (fin : Bool) : Nat → List Int → QT → QT
 | 0,_,es=>es
 | f + 1,g,es=>match (p.rk fin).fst g with
  | none=>es
  | some (c,parts)=>parts.foldl (fun es q=>rankE p fin f q es) (sepS g (splitI (p.of g) c) c es)
def RC (p : Cp) (fin : Bool) (fu : Nat) (g : List Int) (b : Int) : Prop :=
 ∀ gs es,gs.length + g.length ≤ 1000 → ∀ (k : V → List Blk → Prop),k (.tup []) (mS p fin (rankE p fin fu g es) (gs ++ grs (rankT (p.rk fin) fu g b))) →
  CallP C 80 [.ptr 0 0,.d (ins g),.d (ins (p.of g).off),I b] (mS p fin es gs) k
theorem rank19_s (p : Cp) (hL : LCp p) (h0 : openE p 2 p.clubs.contains = 0) (hl1 : p.res.length ≤ 100) (hl2 : p.lots.length ≤ 100) (fin : Bool) :
  ∀ (fu : Nat) (g : List Int) (b : Int),g.Sublist p.clubs → g.length ≤ fu → 1 ≤ fu → 0 < g.length → RC p fin fu g b
 | 0,g,b,_,_,h,_=>absurd h (by decide)
 | fu + 1,g,b,hsub,hfu,_,hg=>by
  intro gs es hgs k hk
  have ih:=rank19_s p hL h0 hl1 hl2 fin fu
  obtain ⟨o1,o2,o3,o4,o5,o6⟩:=open_of h0
  have hfo:=field_of o1
  have hnd : g.Nodup:=hsub.nodup hfo.1
  have hgl : g.length ≤ 24:=zw23 hsub.length_le hfo.2.2
  have hml : ((g.map fun n=>[DI n]).length : Int) = (g.length : Int):=by rw [insl]
  have hGr : Grp (p.of g):=grp_of (lcp _ hl1 (show g.length ≤ 100 by omega) (by show (g.map _).length ≤ 100; rw [List.length_map]; omega) hl2 hL.ru) hl1 hl2 (of_open h0 hsub hg)
  have hsplit : ∀ (c : Int) {L : List Blk} {k : V → List Blk → Prop},k (.d (insL (splitI (p.of g) c))) L → CallP C 43 [.d (ress p.res),.d (ins g),.d (ins (p.of g).off),I c,.agg (p.ru.cells.map .d),.d (ins p.lots)] L k:=fun c _ _ h=>split19_c (p.of g) hGr c h
  have hdir : ∀ {L : List Blk} {k : V → List Blk → Prop},k (.tup [.d (ins (directB p.ru.order (envO p.res p.clubs g.length fin))),I (rdirectE p.ru.order (envO p.res p.clubs g.length fin))]) L → CallP C 113 [.d (sps p.ru.order),enV (envO p.res p.clubs g.length fin)] L k :=
   fun h=>rdirect_c _ _ hL.ru.order (order_rsp19 hL.ru.order) (by rw [rdirectB19]; exact h)
  have henv : ∀ {L : List Blk} {k : V → List Blk → Prop},k (enV (envO p.res p.clubs g.length fin)) L → CallP C 57 [.d (ress p.res),.d (ins p.clubs),I ((g.map fun n=>[DI n]).length : Nat),B fin] L k:=fun h=>by
   rw [hml]; exact renv_c _ _ _ fin hL.res hL.clubs h
  have hby:=rk_ok hL fin g.length
  have hcr : (p.rk fin).cr g.length = directB p.ru.order (envO p.res p.clubs g.length fin):=rfl
  rw [← hcr] at hdir
  have happ : gs.length + 1 ≤ 2000:=by omega
  have hroot:=hk
  rw [rankT,rankE] at hroot
  by_cases h1 : (1 : Int) < ((g.map fun n=>[DI n]).length : Int)
  rotate_left
  ·have hf : (p.rk fin).fst g = none:=by unfold Rk.fst; rw [if_pos (by omega)]
   rw [hf] at hroot
   simp only at hroot
   refine zw24 C_ok Tryz.func80 rfl rfl rfl (zw18 rfl) rfl ?_
   repeat' ((conv=>whnf); first|refine zw9 (zw20 h1) ?_|refine zw6 (zw23 happ (zw18 rfl)) ?_|simp only [Nat.beq_refl,Bool.and_self])
   conv=>whnf
   exact zw15 (n:=4) (Eq.trans rfl (mS_end p fin es gs g b)) (zw21 4) rfl (mS_bel 4 (zw21 4) _ _ _ _) hroot
  have h1' : ¬ g.length ≤ 1:=by omega
  have hfst : (p.rk fin).fst g = ((p.rk fin).cr g.length).findSome? ((p.rk fin).try1 g):=by unfold Rk.fst; rw [if_neg h1']
  generalize (p.rk fin).cr g.length = cs at *
  have hcl : ((cs.map fun n=>[DI n]).length : Int) = (cs.length : Int):=by rw [insl]
  refine zw24 C_ok Tryz.func80 rfl rfl rfl (zw18 rfl) rfl ?_
  repeat' ((conv=>whnf); first|refine zw8 (zw19 h1) ?_|refine zw12 _ (henv ⟨rfl,rfl⟩) ?_|refine zw12 _ (hdir ⟨rfl,rfl⟩) ?_|refine zw7 mixed rfl ?_)
  conv=>whnf
  refine zw26 (fun i : Nat=>i ≤ cs.length ∧ (p.rk fin).fst g = (cs.drop i).findSome? ((p.rk fin).try1 g)) (fun i=>⟨[(0,.ptr 0 0),(1,.d (ins g)),(2,.d (ins (p.of g).off)),(3,I b),(8,.d (ins cs)),(10,I i)],Tryz.f80.ntmps,mS p fin es gs,[],none⟩) (fun i=>cs.length - i) 0 ⟨zw22 _,by rw [List.drop_zero]; exact hfst⟩ ?_ ?_
  ·exact zw27 ⟨rfl,rfl,rfl,rfl,rfl,rfl,trivial⟩
  rintro i ⟨hi,hd⟩
  by_cases hi' : i < cs.length
  rotate_left
  ·have hlt : ¬ (i : Int) < ((cs.map fun n=>[DI n]).length : Int):=by omega
   rw [List.drop_eq_nil_of_le (by omega)] at hd
   rw [hd] at hroot
   simp only [List.findSome?_nil] at hroot
   repeat' ((conv=>whnf); first|refine zw9 (zw20 hlt) ?_|refine zw6 (zw23 happ (zw18 rfl)) ?_|simp only [Nat.beq_refl,Bool.and_self])
   conv=>whnf
   exact zw15 (n:=4) (Eq.trans rfl (mS_end p fin es gs g b)) (zw21 4) rfl (mS_bel 4 (zw21 4) _ _ _ _) hroot
  have hlt : (i : Int) < ((cs.map fun n=>[DI n]).length : Int):=by omega
  have hcl12:=hby.len
  have hw:=zwW i (by omega)
  have r1:=ins_at hi'
  rw [fst_drop hi'] at hd
  generalize cs[i] = c at *
  have hsp:=fun {L : List Blk} {k : V → List Blk → Prop} h=>hsplit c (L:=L) (k:=k) h
  have hof:=of_sp h0 hsub fin c
  have hpi:=parts_i (p:=p) hnd c
  have hSl : (splitI (p.of g) c).length ≤ g.length:=splitI_len (p.of g) c
  have hSm : ∀ q ∈ splitI (p.of g) c,q.length ≤ g.length ∧ ∀ x ∈ q,0 ≤ x ∧ x < g.length:=fun q hq=>splitI_sm (p:=p.of g) hq
  have hoff:=fun q hq=>pick_off p (g:=g) (q:=q) (hSm q hq).2
  have hol : (p.of g).off.length = g.length:=by show (g.map _).length = _; rw [List.length_map]
  have hps : ∀ q ∈ (p.rk fin).sp g c,q.Sublist p.clubs:=fun q hq=>(sp_sub hq).trans hsub
  have hpl : ((p.rk fin).sp g c).length = (splitI (p.of g) c).length:=by rw [← hof,List.length_map]
  generalize hSe : splitI (p.of g) c = S at *
  have hms : ((S.map fun es=>[ins es]).length : Int) = (S.length : Int):=by rw [List.length_map]
  by_cases h2 : ((S.map fun es=>[ins es]).length : Int) = 1
  ·have ht : (p.rk fin).try1 g c = none:=by unfold Rk.try1; rw [if_pos (by omega)]
   rw [ht] at hd
   repeat' ((conv=>whnf); first|refine zw8 (zw19 hlt) ?_|refine zw8 (zw19 h2) ?_|refine zw10 i _ rfl r1 ?_|refine zw12 _ (hsp ⟨rfl,rfl⟩) ?_|refine zw6 rfl ?_|refine zw7 mixed rfl ?_)
   conv=>whnf
   exact ⟨i + 1,⟨hi',hd⟩,by omega,Weak.by ⟨rfl,rfl,rfl,rfl,rfl,congrArg I hw,trivial⟩⟩
  have ht : (p.rk fin).try1 g c = some (c,(p.rk fin).sp g c):=by unfold Rk.try1; rw [if_neg (by omega)]
  rw [ht] at hd
  rw [hd] at hroot
  simp only at hroot
  rw [hSe] at hroot
  have hne':=sp_ne (p.rk fin) g c
  have hlt':=fun q hq=>sp_lt (K:=p.rk fin) (g:=g) (c:=c) (by omega) (p:=q) hq
  have hper:=(sp_perm (p.rk fin) g c).length_eq
  have hsep:=fun {k : V → List Blk → Prop} h=>sep19_c (k:=k) p fin g S c gs (by omega) (by omega) (fun q hq=>⟨by have:=(hSm q hq).1; omega,(hSm q hq).2⟩) es h
  generalize sepS g S c es = es0 at *
  rw [← hof] at hroot hne' hlt' hper hpl
  rw [← hof] at hps
  clear hd ht hof
  obtain ⟨R,hR⟩ : ∃ R,R = rankT (p.rk fin) fu:=⟨_,rfl⟩
  rw [← hR] at hroot
  have hgoc : ∀ i,(grs (goT R c ((S.map (pickF g)).take i) b)).length ≤ ((S.map (pickF g)).take i).flatten.length:=fun i=>go_count _ _ fun q hq b=>by
   have hq:=List.mem_of_mem_take hq
   have:=hlt' q hq
   have:=List.length_pos_iff.2 (hne' q hq)
   rw [hR]
   exact grs_count _ (by omega) (by omega) (hne' q hq)
  repeat' ((conv=>whnf); first|refine zw8 (zw19 hlt) ?_|refine zw9 (zw20 h2) ?_|refine zw10 i _ rfl r1 ?_|refine zw12 _ (hsp ⟨rfl,rfl⟩) ?_|refine CallP.cnvO rfl (L':=mS p fin es gs) rfl (hsep ?_)|refine zw6 rfl ?_|refine zw7 mixed rfl ?_)
  conv=>whnf
  obtain ⟨bv,hbv⟩ : ∃ bv : Nat → Int,bv = fun i=>if i = 0 then b else c:=⟨_,rfl⟩
  have hbv0 : bv 0 = b:=by rw [hbv]; rfl
  have hbv1 : ∀ i,bv (i + 1) = c:=fun i=>by rw [hbv]; simp only; rw [if_neg (by omega)]
  have hbv2 : ∀ i,(if i = 0 then b else c) = bv i:=fun i=>by rw [hbv]
  clear hbv
  refine zw26 (fun i : Nat=>i ≤ S.length) (fun j=>⟨[(0,.ptr 0 0),(1,.d (ins g)),(2,.d (ins (p.of g).off)),(3,I (bv j)),(8,.d (ins cs)),(10,I i),(11,.d (insL S)),(12,I j)],Tryz.f80.ntmps,mS p fin (((S.map (pickF g)).take j).foldl (fun es q=>rankE p fin fu q es) es0) (gs ++ grs (goT R c ((S.map (pickF g)).take j) b)),[],none⟩) (fun i=>S.length - i) 0 (zw22 _) ?_ ?_
  ·exact zw27 (hL:=by rw [List.take_zero]; unfold goT; rw [grs,List.append_nil]; rfl) ⟨rfl,rfl,rfl,congrArg I hbv0.symm,rfl,rfl,rfl,rfl,trivial⟩
  intro j hj
  by_cases hj' : j < S.length
  rotate_left
  ·have hltj : ¬ (j : Int) < ((S.map fun es=>[ins es]).length : Int):=by omega
   obtain rfl : j = S.length:=by omega
   rw [List.take_of_length_le (show (S.map (pickF g)).length ≤ S.length by rw [List.length_map]; exact zw21 _)]
   repeat' ((conv=>whnf); refine zw9 (zw20 hltj) ?_)
   conv=>whnf
   exact FinP.same hroot
  have hltj : (j : Int) < ((S.map fun es=>[ins es]).length : Int):=by omega
  have hwj:=zwW j (by omega)
  have r2:=insL_at hj'
  have hjm : j < (S.map (pickF g)).length:=by rw [List.length_map]; exact hj'
  have hgt:=goT_take (rank:=R) (c:=c) (b:=b) hjm
  have hft:=List.take_succ_eq_append_getElem hjm
  have hgj:=hgoc j
  have hfl:=flat_take hjm
  have hqm:=List.getElem_mem hj'
  have hpm : (S.map (pickF g))[j] ∈ S.map (pickF g):=List.getElem_mem hjm
  have l1:=hlt' _ hpm
  have l2:=List.length_pos_iff.2 (hne' _ hpm)
  have l3:=hps _ hpm
  have hvis:=ih (S.map (pickF g))[j] (bv j) l3 (by omega) (by omega) l2 (gs ++ grs (goT R c ((S.map (pickF g)).take j) b)) (((S.map (pickF g)).take j).foldl (fun es q=>rankE p fin fu q es) es0) (by rw [List.length_append]; omega)
  rw [← hR] at hvis
  rw [hbv2] at hgt
  have hmem : mS p fin (rankE p fin fu (S.map (pickF g))[j] (((S.map (pickF g)).take j).foldl (fun es q=>rankE p fin fu q es) es0)) (gs ++ grs (goT R c ((S.map (pickF g)).take j) b) ++ grs (R (S.map (pickF g))[j] (bv j))) = mS p fin (((S.map (pickF g)).take (j + 1)).foldl (fun es q=>rankE p fin fu q es) es0) (gs ++ grs (goT R c ((S.map (pickF g)).take (j + 1)) b)):=by
   rw [hgt,hft,grs_app,List.append_assoc,List.foldl_append]; rfl
  have hpk : ∀ {L : List Blk} {k : V → List Blk → Prop},k (.d (ins (S.map (pickF g))[j])) L → CallP C 44 [.d (ins g),.d (ins S[j])] L k:=fun h=>by
   rw [List.getElem_map] at h
   exact pick19_c g S[j] (by omega) (by have:=(hSm _ hqm).1; omega) (hSm _ hqm).2 h
  have hpo : ∀ {L : List Blk} {k : V → List Blk → Prop},k (.d (ins (p.of (S.map (pickF g))[j]).off)) L → CallP C 44 [.d (ins (p.of g).off),.d (ins S[j])] L k:=fun h=>by
   rw [List.getElem_map,← hoff _ hqm] at h
   exact pick19_c (p.of g).off S[j] (by omega) (by have:=(hSm _ hqm).1; omega) (fun x hx=>by rw [hol]; exact (hSm _ hqm).2 x hx) h
  generalize gs ++ grs (goT R c ((S.map (pickF g)).take j) b) = gsj at *
  generalize ((S.map (pickF g)).take j).foldl (fun es q=>rankE p fin fu q es) es0 = esj at *
  generalize rankE p fin fu (S.map (pickF g))[j] esj = es2 at *
  generalize gsj ++ grs (R (S.map (pickF g))[j] (bv j)) = gs2 at *
  generalize (S.map (pickF g))[j] = q at *
  generalize S[j] = w at *
  repeat' ((conv=>whnf); refine zw8 (zw19 hltj) ?_)
  conv=>whnf
  refine DrawP.por mixed [14] [[(0,0),(1,0),(2,0),(3,0),(4,0),(5,0),(6,0),(7,0),(8,0),(9,0),(10,0),(11,0),(12,0),(13,0),(14,2)]] (by kernel_rfl) ?_
  all_goals
   repeat' ((conv=>whnf); first|refine zw10 i _ rfl r1 ?_|refine zw10 j _ rfl r2 ?_|refine zw12 _ (hpk ⟨rfl,rfl⟩) ?_|refine zw12 _ (hpo ⟨rfl,rfl⟩) ?_|refine zw13 _ _ (CallP.cnvO (L':=mS p fin esj gsj) rfl rfl (hvis _ ⟨rfl,rfl⟩)) ?_|refine zw6 rfl ?_)
  all_goals conv=>whnf
  all_goals exact ⟨j + 1,hj',by omega,Weak.by (hL:=Eq.trans rfl hmem) ⟨rfl,rfl,rfl,congrArg I (hbv1 j).symm,rfl,rfl,rfl,congrArg I hwj,trivial⟩⟩
end Go.Proofs.YtihibgcojdfndaaGreatDoor
namespace Go.Proofs.YtihibgcojdfndaaGreatDoor
open Go.Tidy
open Sts (Res Row Worth Game rowsF addF rowC valueF inG known worthOk resOk fieldOk gameV resV ress rowV rowsD)
variable {L : List Blk} {k : V → List Blk → Prop}
theorem rankE_val {p : Cp} (h0 : openE p 2 p.clubs.contains = 0) (fin : Bool) (a b : Int) : ∀ (f : Nat) (g : List Int) (b0 : Int) (es : QT),g.Sublist p.clubs → valQ (rankE p fin f g es) (a,b) = bet a b (rankT (p.rk fin) f g b0) (valQ es (a,b))
 | 0,g,b0,es,_=>rfl
 | f + 1,g,b0,es,hg=>by
  have ih:=rankE_val h0 fin a b f
  have hnd : g.Nodup:=hg.nodup (field_of (open_of h0).1).1
  rw [rankE,rankT]
  cases hf : (p.rk fin).fst g with
  | none=>rfl
  | some x =>
   obtain ⟨c,parts⟩:=x
   simp only
   obtain ⟨_,rfl,_,_⟩:=fst_some hf
   have key : ∀ (ps : List (List Int)),(∀ q ∈ ps,q.Sublist p.clubs) → ∀ (es : QT) (b0 : Int),valQ (ps.foldl (fun es q=>rankE p fin f q es) es) (a,b) = bet a b (goT (rankT (p.rk fin) f) c ps b0) (valQ es (a,b)):=by
    intro ps
    induction ps with
    | nil=>exact fun _ es b0=>rfl
    | cons q ps ihp =>
     intro hq es b0
     rw [List.foldl_cons,ihp (fun r hr=>hq r (by simp [hr])) _ c,goT,bet_app,ih q b0 es (hq q (by simp))]
   rw [key _ (fun q hq=>(sp_sub hq).trans hg) _ b0,bet,sepS_val (parts_i (p:=p) hnd c),of_sp h0 hg fin c]
theorem of_top {p : Cp} (hn : p.clubs.Nodup) (hl : p.off.length = p.clubs.length) : (p.of p.clubs).off = p.off:=by
 show p.clubs.map (offF p.clubs p.off) = p.off
 refine List.ext_getElem (by rw [List.length_map,hl]) fun i h1 h2=>?_
 rw [List.length_map] at h1
 rw [List.getElem_map]
 unfold offF
 rw [if_pos (List.getElem_mem h1),idx_take hn h1,getDI h2]
def stX (p : Cp) (fin : Bool) (m r s n : Nat) : List V:=[.d (ress p.res),.d (ins p.clubs),.d (.str p.ru.name),I p.ru.win,I p.ru.draw,I p.ru.loss,.d (sps p.ru.order),.d (zns p.ru.zones),B fin,.d (ins p.lots),.own r n 0 n,.own s n 0 n,.map m]
theorem rnM_esQ (ρ : Nat → Nat) : ∀ es : QT,rnM ρ (esQ es) = esQ es
 | []=>rfl
 | x :: es=>by
  show (V.agg [I x.1.1,I x.1.2],I x.2) :: rnM ρ (esQ es) = _
  rw [rnM_esQ ρ es]; rfl
theorem mS_up (p : Cp) (fin : Bool) (es : QT) (gs : List (List Int × Int)) (ρ : Nat → Nat) (m r s : Nat) (h1 : ρ 1 = m) (h2 : ρ 2 = r) (h3 : ρ 3 = s) :
  rnB ρ (mS p fin es gs) = [.cells (stX p fin m r s gs.length),.map (esQ es),.row gs.length 1 (grV (gs.map (·.1))),.row gs.length 1 (rdI (gs.map (·.2)))]:=by
 show [Blk.cells (stX p fin (ρ 1) (ρ 2) (ρ 3) gs.length),.map (rnM ρ _),.row gs.length 1 (rnR ρ _),.row gs.length 1 (rnR ρ _)] = _
 rw [h1,h2,h3,rnM_esQ,grV_rn,rdI_rnO]
def mT (p : Cp) (fin : Bool) (es : QT) (gs : List (List Int × Int)) : List Blk :=
 [.cells (p.ru.cells.map .d),.map (esQ es),.cells (stX p fin 1 3 4 gs.length),.row gs.length 1 (grV (gs.map (·.1))),.row gs.length 1 (rdI (gs.map (·.2)))]
noncomputable def Cp.es (p : Cp) (fin : Bool) : QT:=rankE p fin p.clubs.length p.clubs []
theorem es_val {p : Cp} (h0 : openE p 2 p.clubs.contains = 0) (fin : Bool) (a b : Int) : valQ (p.es fin) (a,b) = bet a b (p.evs fin) 0:=rankE_val h0 fin a b _ _ 0 [] (List.Sublist.refl _)
theorem rank19_t (p : Cp) (hL : LCp p) (h0 : openE p 2 p.clubs.contains = 0) (hl1 : p.res.length ≤ 100) (hl2 : p.lots.length ≤ 100) (fin : Bool) (h : k (.tup []) (mT p fin (p.es fin) (p.gs fin))) :
  CallP C 80 [.ptr 2 0,.d (ins p.clubs),.d (ins p.off),I 0] (mT p fin [] []) k:=by
 obtain ⟨o1,o2,o3,o4,o5,o6⟩:=open_of h0
 have hfo:=field_of o1
 have hr:=rank19_s p hL h0 hl1 hl2 fin p.clubs.length p.clubs 0 (List.Sublist.refl _) (Nat.le_refl _) (by omega) (by omega) [] [] (by simp only [List.length_nil]; omega) (fun X L'=>X = .tup [] ∧ L' = mS p fin (p.es fin) (p.gs fin)) ⟨rfl,rfl⟩
 rw [of_top hfo.1 o2] at hr
 refine CallP.embed (L:=mT p fin [] []) [2,1,3,4] hr ⟨by decide,fun c hc=>?_,rfl,fun c d hc=>?_,mS_bel 4 (zw21 4) _ _ _ _,rfl⟩ rfl ?_
 ·simp only [List.mem_cons,List.not_mem_nil,or_false] at hc
  show c < 5; omega
 ·have e:=mS_up p fin [] [] (rnI [2,1,3,4] 5) 1 3 4 rfl rfl rfl
  match c,hc with
  | 0,hc=>cases hc; rfl
  | 1,hc=>cases hc; rfl
  | 2,hc=>cases hc; rfl
  | 3,hc=>cases hc; rfl
  | c + 4,hc=>simp at hc
 ·rintro X L1 ⟨rfl,rfl⟩
  rw [mS_up p fin _ _ _ 1 3 4 rfl rfl rfl]
  exact h
theorem ranked_0 (p : Cp) (hL : LCp p) (h0 : openE p 2 p.clubs.contains = 0) (hl1 : p.res.length ≤ 100) (hl2 : p.lots.length ≤ 100) (fin : Bool) :
  CallP C 40 [.d (ress p.res),.d (ins p.clubs),.d (ins p.off),.agg (p.ru.cells.map .d),B fin,.d (ins p.lots)] [] fun X L'=>X = .ptr 0 0 ∧ L' = mS p fin (p.es fin) (p.gs fin):=by
 have hr:=fun {k : V → List Blk → Prop} h=>rank19_t (k:=k) p hL h0 hl1 hl2 fin h
 generalize p.es fin = E at *
 generalize p.gs fin = gs at *
 refine zw24 C_ok Tryz.func40 rfl rfl rfl (zw18 rfl) rfl ?_
 repeat' ((conv=>whnf); refine CallP.nilCell 2 10 1 _ rfl rfl (by decide) (CallP.nilCell 2 11 1 _ rfl rfl (by decide) (CallP.cnvO rfl (L':=mT p fin [] []) rfl (hr ?_))))
 conv=>whnf
 refine FinP.part [2,1,3,4] (mS p fin E gs) ⟨by decide,fun b hb=>?_,rfl,fun b c hc=>?_,mS_bel 4 (zw21 4) _ _ _ _,rfl⟩ (fun b hb=>absurd hb (Nat.not_lt_zero b)) (X':=.ptr 0 0) rfl rfl ⟨rfl,rfl⟩
 ·show b < 5
  simp at hb; omega
 ·have e:=mS_up p fin E gs (rnI [2,1,3,4] 5) 1 3 4 rfl rfl rfl
  have e2 : ∀ i : Nat,((mS p fin E gs)[i]?).map (Blk.rn (rnI [2,1,3,4] 5)) = ([Blk.cells (stX p fin 1 3 4 gs.length),.map (esQ E),.row gs.length 1 (grV (gs.map (·.1))),.row gs.length 1 (rdI (gs.map (·.2)))])[i]?:=fun i=>by
   rw [← List.getElem?_map,← e]; rfl
  match b,hc with
  | 0,hc=>cases hc; exact (e2 0).symm
  | 1,hc=>cases hc; exact (e2 1).symm
  | 2,hc=>cases hc; exact (e2 2).symm
  | 3,hc=>cases hc; exact (e2 3).symm
  | b + 4,hc=>simp at hc
theorem ranked_1 (p : Cp) (hL : LCp p) (h0 : openE p 2 p.clubs.contains = 0) (hl1 : p.res.length ≤ 100) (hl2 : p.lots.length ≤ 100) (fin : Bool) {y : Blk}
  (h : k (.ptr 1 0) [y,.cells (stX p fin 2 3 4 (p.gs fin).length),.map (esQ (p.es fin)),.row (p.gs fin).length 1 (grV ((p.gs fin).map (·.1))),.row (p.gs fin).length 1 (rdI ((p.gs fin).map (·.2)))]) :
  CallP C 40 [.d (ress p.res),.d (ins p.clubs),.d (ins p.off),.agg (p.ru.cells.map .d),B fin,.d (ins p.lots)] [y] k:=by
 refine CallP.embed (L:=[y]) [] (ranked_0 p hL h0 hl1 hl2 fin) ⟨by simp,fun c hc=>by simp at hc,rfl,fun c d hc=>by simp at hc,rfl,rfl⟩ rfl ?_
 rintro X L1 ⟨rfl,rfl⟩
 rw [mS_up p fin _ _ _ 2 3 4 rfl rfl rfl]
 exact h
theorem Rank19_c (p : Cp) (hL : LCp p) (hl1 : p.res.length ≤ 100) (hl2 : p.lots.length ≤ 100) (fin : Bool) (h : k (rankX p fin) L) : CallP C 14 [.d (ress p.res),.d (ins p.clubs),.d (ins p.off),.agg (p.ru.cells.map .d),B fin,.d (ins p.lots)] L k:=by
 have hv : ∀ {L : List Blk} {k : V → List Blk → Prop},k (I (openE p 2 p.clubs.contains)) L → CallP C 39 [.d (ress p.res),.d (ins p.clubs),I ((2 : Nat) : Int),B false,.d (ins p.off),.agg (p.ru.cells.map .d),.d (ins p.lots)] L k:=fun h=>valid19_c p hL 2 (by decide) false h
 refine zw25 ?_ rfl (fun n=>by unfold rankX; split <;> rfl) h
 clear h
 unfold rankX
 by_cases h0 : openE p 2 p.clubs.contains = 0
 rotate_left
 ·rw [if_pos h0]
  generalize openE p 2 p.clubs.contains = e at *
  refine zw24 C_ok Tryz.func14 rfl rfl rfl (zw18 rfl) rfl ?_
  repeat' ((conv=>whnf); first|refine hv ?_|refine zw3 ?_|refine zw9 (zw20 h0) ?_)
  conv=>whnf
  exact zw16 (L':=[]) (.triple (.d .nil) (.d .nil) (.d (.d _))) rfl rfl ⟨rfl,rfl⟩
 rw [if_neg (fun h=>h h0)]
 have hr:=fun {k : V → List Blk → Prop} h=>ranked_1 (k:=k) p hL h0 hl1 hl2 fin (y:=.cells (p.ru.cells.map .d)) h
 rw [h0] at hv
 generalize p.es fin = E at *
 generalize p.gs fin = gs at *
 refine zw24 C_ok Tryz.func14 rfl rfl rfl (zw18 rfl) rfl ?_
 repeat' ((conv=>whnf); first|refine hv ?_|refine zw3 ?_|refine hr ?_|refine zw0 ?_|refine zw7 mixed rfl ?_)
 conv=>whnf
 exact zw16 (L':=[]) (.triple (cvG (gs.map (·.1)) (zw22 3) rfl (by rw [List.length_map])) (cvI (zw22 4) rfl (by rw [List.length_map])) (.d (.d _))) rfl rfl ⟨rfl,rfl⟩
theorem Between19_c (p : Cp) (hL : LCp p) (hl1 : p.res.length ≤ 100) (hl2 : p.lots.length ≤ 100) (fin : Bool) (a b : Int) (h : k (betX p fin a b) L) : CallP C 20 [.d (ress p.res),.d (ins p.clubs),.d (ins p.off),.agg (p.ru.cells.map .d),B fin,.d (ins p.lots),I a,I b] L k:=by
 have hv : ∀ {L : List Blk} {k : V → List Blk → Prop},k (I (openE p 2 p.clubs.contains)) L → CallP C 39 [.d (ress p.res),.d (ins p.clubs),I ((2 : Nat) : Int),B false,.d (ins p.off),.agg (p.ru.cells.map .d),.d (ins p.lots)] L k:=fun h=>valid19_c p hL 2 (by decide) false h
 refine zw25 ?_ rfl (fun n=>by
  unfold betX; split
  ·rfl
  ·split <;> rfl) h
 clear h
 unfold betX
 by_cases h0 : openE p 2 p.clubs.contains = 0
 rotate_left
 ·rw [if_pos h0]
  generalize openE p 2 p.clubs.contains = e at *
  refine zw24 C_ok Tryz.func20 rfl rfl rfl (zw18 rfl) rfl ?_
  repeat' ((conv=>whnf); first|refine hv ?_|refine zw3 ?_|refine zw9 (zw20 h0) ?_)
  conv=>whnf
  exact FinP.zz rfl ⟨rfl,rfl⟩
 rw [if_neg (fun h=>h h0)]
 have hr:=fun {k : V → List Blk → Prop} h=>ranked_1 (k:=k) p hL h0 hl1 hl2 fin (y:=.cells (p.ru.cells.map .d)) h
 rw [h0] at hv
 have hcl:=(field_of (open_of h0).1).2.2
 have hia : ∀ {L : List Blk} {k : V → List Blk → Prop},k (B (p.clubs.contains a)) L → CallP C 25 [.d (ins p.clubs),I a] L k:=fun h=>rin19_c p.clubs a (by omega) h
 have hib : ∀ {L : List Blk} {k : V → List Blk → Prop},k (B (p.clubs.contains b)) L → CallP C 25 [.d (ins p.clubs),I b] L k:=fun h=>rin19_c p.clubs b (by omega) h
 cases c1 : p.clubs.contains a with
 | false =>
  rw [c1] at hia
  rw [Bool.false_and,if_pos rfl]
  refine zw24 C_ok Tryz.func20 rfl rfl rfl (zw18 rfl) rfl ?_
  repeat' ((conv=>whnf); first|refine hv ?_|refine hia ?_|refine zw3 ?_|refine zw0 ?_|refine zw1 ?_)
  conv=>whnf
  exact FinP.zz rfl ⟨rfl,rfl⟩
 | true =>
 rw [c1] at hia
 cases c2 : p.clubs.contains b with
 | false =>
  rw [c2] at hib
  rw [Bool.true_and,if_pos rfl]
  refine zw24 C_ok Tryz.func20 rfl rfl rfl (zw18 rfl) rfl ?_
  repeat' ((conv=>whnf); first|refine hv ?_|refine hia ?_|refine hib ?_|refine zw3 ?_|refine zw0 ?_|refine zw1 ?_)
  conv=>whnf
  exact FinP.zz rfl ⟨rfl,rfl⟩
 | true =>
 rw [c2] at hib
 rw [Bool.true_and,if_neg (by decide),← es_val h0 fin a b]
 generalize p.es fin = E at *
 generalize p.gs fin = gs at *
 by_cases d4 : (a,b) ∈ keysQ E
 ·have m2 : ∀ {q : Option (Nat × V) → Prop},q (some ((keysQ E).idxOf (a,b),I (valQ E (a,b)))) → MapF qK (esQ E) (.agg [I a,I b]) q:=fun h=>MapF.hasQ d4 h
  refine zw24 C_ok Tryz.func20 rfl rfl rfl (zw18 rfl) rfl ?_
  repeat' ((conv=>whnf); first|refine hv ?_|refine hia ?_|refine hib ?_|refine zw3 ?_|refine hr ?_|refine m2 ?_|refine zw0 ?_)
  conv=>whnf
  exact FinP.zz rfl ⟨rfl,rfl⟩
 ·have m2 : ∀ {q : Option (Nat × V) → Prop},q none → MapF qK (esQ E) (.agg [I a,I b]) q:=fun h=>MapF.hasntQ d4 h
  have e : valQ E (a,b) = 0:=by unfold valQ; rw [if_neg d4]
  rw [e]
  refine zw24 C_ok Tryz.func20 rfl rfl rfl (zw18 rfl) rfl ?_
  repeat' ((conv=>whnf); first|refine hv ?_|refine hia ?_|refine hib ?_|refine zw3 ?_|refine hr ?_|refine m2 ?_|refine zw0 ?_)
  conv=>whnf
  exact FinP.zz rfl ⟨rfl,rfl⟩
end Go.Proofs.YtihibgcojdfndaaGreatDoor
