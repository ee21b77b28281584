import Derived.Test.YtndlggbljkhfbaaGreatJLF
import Derived.Shelf.SlIterI.Nil
import Derived.Shelf.SortM.Plain
import Derived.Shelf.SortM.SortNone
import Derived.Shelf.Slices.Delete
set_option maxRecDepth 100000
set_option maxHeartbeats 0
set_option linter.unusedSimpArgs false
set_option linter.unusedVariables false
namespace Go.Proofs.YtndlggbljkhfbaaGreat
open Go.Tidy
variable {L : List Blk} {k : V → List Blk → Prop}
theorem brLoop_append (f : Lst → Nat → List Int → Bs) (l : Lst) (p : Pl) (bud : Nat) (ys : List Mt) : ∀ (xs : List Mt) (sp : Nat) (us : List Int) (t : List Brc),brLoop f l p bud (xs ++ ys) sp us t = match brLoop f l p bud xs sp us t with
  | .go sp us t=>brLoop f l p bud ys sp us t
  | .stop e=>.stop e
 | [],sp,us,t=>rfl
 | m :: ms,sp,us,t=>by
  simp only [List.cons_append,brLoop]
  split
  ·rfl
  ·split
   ·exact brLoop_append f l p bud ys ms _ _ _
   ·split
    ·rfl
    ·split
     ·exact brLoop_append f l p bud ys ms _ _ _
     ·rfl
theorem brLoop_next (f : Lst → Nat → List Int → Bs) (l : Lst) (p : Pl) (bud : Nat) {ms : List Mt} {i : Nat} (hi : i < ms.length) {sp sp' : Nat} {us us' : List Int} {t t' : List Brc} (h : brLoop f l p bud (ms.take i) sp us t = .go sp' us' t') :
  brLoop f l p bud (ms.take (i + 1)) sp us t = brLoop f l p bud [ms[i]] sp' us' t':=by
 rw [take_next hi,brLoop_append,h]
theorem brLoop_stop (f : Lst → Nat → List Int → Bs) (l : Lst) (p : Pl) (bud : Nat) {ms : List Mt} {i : Nat} {sp : Nat} {us : List Int} {t : List Brc} {e : Int} (h : brLoop f l p bud (ms.take i) sp us t = .stop e) : brLoop f l p bud ms sp us t = .stop e:=by
 conv=>lhs; rw [← List.take_append_drop i ms]
 rw [brLoop_append,h]
mutual
theorem brs_keep (p : Pl) (bud : Nat) : ∀ (n : Nat) (l : Lst) (sp : Nat) (us : List Int),sp ≤ bud → ∀ sp' us' t',brs p bud n l sp us = .go sp' us' t' → sp' ≤ bud ∧ sp ≤ sp' ∧ t'.length ≤ sp'
 | 0,l,sp,us,hs,sp',us',t',h=>by cases h; exact ⟨hs,Nat.le_refl _,Nat.zero_le _⟩
 | n + 1,l,sp,us,hs,sp',us',t',h=>brLoop_keep p bud n l (chE l p) sp us [] hs (w22 _) sp' us' t' h
theorem brLoop_keep (p : Pl) (bud : Nat) (n : Nat) (l : Lst) : ∀ (ms : List Mt) (sp : Nat) (us : List Int) (t : List Brc),sp ≤ bud → t.length ≤ sp → ∀ sp' us' t',brLoop (brs p bud n) l p bud ms sp us t = .go sp' us' t' → sp' ≤ bud ∧ sp ≤ sp' ∧ t'.length ≤ sp'
 | [],sp,us,t,hs,ht,sp',us',t',h=>by cases h; exact ⟨hs,Nat.le_refl _,ht⟩
 | m :: ms,sp,us,t,hs,ht,sp',us',t',h=>by
  simp only [brLoop] at h
  split at h
  ·cases h
  ·split at h
   ·obtain ⟨h1,h2,h3⟩:=brLoop_keep p bud n l ms (sp + 1) _ _ (by omega) (by rw [List.length_append]; simp only [List.length_singleton]; omega) _ _ _ h
    exact ⟨h1,by omega,h3⟩
   ·split at h
    ·cases h
    ·split at h
     ·rename_i sp2 us2 t2 h2
      obtain ⟨k1,k2,k3⟩:=brs_keep p bud n _ (sp + 1) us (by omega) _ _ _ h2
      obtain ⟨h1,h2,h3⟩:=brLoop_keep p bud n l ms sp2 _ _ k1 (by rw [List.length_append]; simp only [List.length_singleton]; omega) _ _ _ h
      exact ⟨h1,by omega,h3⟩
     ·cases h
end
def pre4 (p : Pl) (bud : Nat) : List Blk:=[.cells (p.cells.map .d),.cells [I bud],.cells [.nil,.nil],.cells [I 0]]
def capR : List V:=[.ptr 0 0,.ptr 6 0,.ptr 1 0,.ptr 5 0,.ptr 7 0]
def preR (p : Pl) (bud : Nat) (us : List Int) (sp : Nat) : List Blk:=pre4 p bud ++ [.map (boolM (intK us)),.cells [.map 4],.cells [I sp],.cells [.fn 41 capR]]
def brR (t : List Brc) : List (List V):=t.map fun b=>b.cells.map .d
theorem Brc.len (b : Brc) : b.cells.length = 5:=by cases b; rfl
theorem brR_len (t : List Brc) : (brR t).length = t.length:=by unfold brR; rw [List.length_map]
theorem brR_bel (n : Nat) : ∀ t : List Brc,belR n (brR t) = true
 | []=>rfl
 | b :: t=>by simp only [brR,List.map_cons,belR,V.belL_d,Bool.true_and]; exact brR_bel n t
theorem brR_snoc (t : List Brc) (b : Brc) : brR (t ++ [b]) = brR t ++ [b.cells.map .d]:=by unfold brR; rw [List.map_append]; rfl
theorem brR_rows {S : Nat → Prop} {L : List Blk} : ∀ t : List Brc,CvLL S L (brR t) (brcs t)
 | []=>.nil
 | b :: t=>.cons (CvL.data b.cells) (brR_rows t)
theorem brcs_len (t : List Brc) : (brcs t).length = t.length:=by rw [brcs_map,List.length_map]
theorem brcs_row (t : List Brc) : ∀ e ∈ brcs t,e.length = 5:=fun e he=>by
 rw [brcs_map] at he
 obtain ⟨b,_,rfl⟩:=List.mem_map.1 he; exact b.len
theorem brR_get (t : List Brc) (z : List V) : ((brR t).take t.length ++ [z])[0 + t.length]? = some z:=by
 rw [Nat.zero_add,List.take_of_length_le (by rw [brR_len]; exact Nat.le_refl _),List.getElem?_append_right (by rw [brR_len]; exact Nat.le_refl _),brR_len,Nat.sub_self]; rfl
theorem brR_put (t : List Brc) (z y : List V) : ((brR t).take t.length ++ [z]).set (0 + t.length) y = brR t ++ [y]:=by
 rw [Nat.zero_add,List.take_of_length_le (by rw [brR_len]; exact Nat.le_refl _),List.set_append_right _ _ (by rw [brR_len]; exact Nat.le_refl _),brR_len,Nat.sub_self]; rfl
theorem preR_bel (p : Pl) (bud : Nat) (us : List Int) (sp : Nat) : belB 8 (preR p bud us sp) = true:=by
 show (V.belL 8 (p.cells.map .d) && (true && (true && (true && (belM 8 (boolM (intK us)) && true))))) = true
 rw [V.belL_d,intM_bel]; rfl
def bsS (p : Pl) (bud : Nat) (l : Lst) (lr : LoopR) (sp : Nat) (us : List Int) (t : List Brc) : List Blk:=preR p bud us sp ++ [.cells [.d (lisD l)],.cells [.own 10 t.length 0 t.length],.row t.length 5 (brR t),.defr,.loop lr]
def bsM (p : Pl) (bud : Nat) (l : Lst) (lr : LoopR) : Bs → List Blk
 | .go sp us t=>bsS p bud l lr sp us t
 | .stop e=>bsS p bud l lr 0 [] []
theorem bsS_next (p : Pl) (bud : Nat) (l : Lst) (lr : LoopR) (sp : Nat) (us : List Int) (c : List Brc) (b : Brc) (z : List V) :
  preR p bud us sp ++ [.cells [.d (lisD l)],.cells [.own 10 (c.length + 1) 0 (c.length + 1)],.row (c.length + 1) 5 (((brR c).take c.length ++ [z]).set (0 + c.length) (b.cells.map .d)),.defr,.loop lr] = bsS p bud l lr sp us (c ++ [b]):=by
 unfold bsS; rw [brR_put,← brR_snoc,List.length_append]; rfl
def bsT (p : Pl) (bud : Nat) (l : Lst) (lr : LoopR) (c : List Brc) (m : Mt) (x : Lst) (mp : List (V × V)) (sp : Int) (b : List V) : List Blk :=
 pre4 p bud ++ [.map mp,.cells [.map 4],.cells [I sp],.cells [.fn 41 capR]] ++ [.cells [.d (lisD l)],.cells [.own 10 c.length 0 c.length],.row c.length 5 (brR c),.defr,.loop { lr with st:=.busy },.cells [.d (DI m.home),.d (DI m.away),I (atN l p),.d (lisD x)],.cells b]
theorem bsT_eq {p : Pl} {bud : Nat} {l : Lst} {lr : LoopR} {c : List Brc} {m : Mt} {x : Lst} {mp mp' : List (V × V)} {sp sp' : Int} {b : List V} (h1 : mp = mp') (h2 : sp = sp') : bsT p bud l lr c m x mp sp b = bsT p bud l lr c m x mp' sp' b:=by subst h1 h2; rfl
theorem us_next (us : List Int) (d : Int) : (∀ i : Nat,I d ∈ intK us → (boolM (intK us)).set i (I d,B true) = boolM (intK us) → (boolM (intK us)).set i (I d,B true) = boolM (intK (if d ∈ us then us else us ++ [d]))) ∧ (I d ∉ intK us → boolM (intK us) ++ [(I d,B true)] = boolM (intK (if d ∈ us then us else us ++ [d]))) :=
 ⟨fun i h1 h2=>by rw [if_pos ((intK_mem us d).1 h1)]; exact h2,fun h1=>by rw [if_neg fun h=>h1 ((intK_mem us d).2 h),boolM_snoc,intK_snoc]⟩
theorem branches_c (p : Pl) (bud : Nat) (h0 : checkP p = 0) (hs0 : Small [] p) (hbud : bud ≤ 1073741824) (pan : V → List Blk → Prop) :
  ∀ (n : Nat) (l : Lst) (sp : Nat) (us : List Int),PartP l p → roundsN p * halfN p < l.flatten.length + n → sp ≤ bud →
   (∀ e,brs p bud n l sp us = .stop e → pan (.d (errD e)) (pre4 p bud)) →
   CallP (C.wp 4 pan) 41 (lisV l :: capR) (preR p bud us sp) fun X L'=>∃ sp' us' t,brs p bud n l sp us = .go sp' us' t ∧ X = .d (.sl (brcs t)) ∧ L' = preR p bud us' sp'
 | 0,l,sp,us,hP,hfu,_,_=>by have:=part_total hP; omega
 | n + 1,l,sp,us,hP,hfu,hsp,hst=>by
  have hlen : 1 ≤ p.clubs.length ∧ p.clubs.length ≤ 1000:=by
   have hf:=checkP_field h0
   simp only [fieldOk,Bool.and_eq_true,decide_eq_true_eq] at hf; omega
  obtain ⟨hsl,hsx⟩:=part_small hs0 hlen.2 hP ⟨0,0⟩
  have hh:=halfN_le hlen.2
  have hrw : ∀ r ∈ l,r.length + 1 ≤ 4294967296:=fun r hr=>by have:=part_row hP hr; omega
  have hroot : brs p bud (n + 1) l sp us = brLoop (brs p bud n) l p bud (chE l p) sp us []:=rfl
  refine callP_cut (C:=C.wp 4 pan) (fun c=>match c with | .region 1 _ _=>true | _=>false) (C_ok.wp 4 pan) Tryz.func41 rfl rfl (n:=_) rfl (w18 rfl) (rs:=_) rfl ?_ (w18 rfl)
  conv=>whnf
  refine CutP.intro (ι:=Unit) (fun _=>⟨[(1,.ptr 0 0),(2,.ptr 6 0),(3,.ptr 1 0),(4,.ptr 5 0),(5,.ptr 7 0),(6,.ptr 8 0),(7,.ptr 9 0),(12,.d (.fn 98 [.rptr [lisD l],.rptr p.cells]))],Tryz.f41.ntmps,preR p bud us sp ++ [.cells [.d (lisD l)],.cells [.own 10 0 0 0],.row 0 5 []],[],none⟩) ?_ (fun _=>?_)
  ·repeat' (conv => whnf
            first|refine w0 ?_|refine w1 ?_|refine w2 (fun h=>?_) (fun h=>?_)|refine w3 ?_|refine w4 (fun h=>?_) (fun h=>?_)|refine w5 _ rfl ?_|refine w6 rfl ?_|refine w7 mixed rfl ?_|refine w14 (ways_c l p ?_))
   conv=>whnf
   exact ⟨(),Weak.nilCellTo 9 0 5 _ rfl rfl (by decide) rfl ⟨rfl,rfl,rfl,rfl,rfl,rfl,rfl,rfl,trivial⟩⟩
  conv=>whnf
  refine CallP.cnv (args':=.yld 12 :: [D.rptr [lisD l],.rptr p.cells].map .d) (L':=preR p bud us sp ++ [.cells [.d (lisD l)],.cells [.own 10 0 0 0],.row 0 5 [],.defr,.loop _]) rfl rfl ?_
  generalize hlr : LoopR.mk _ _ _ _ _ _ _ _ = lr
  have hlrd : lr.df = 11:=by rw [← hlr]; rfl
  have hlrs : lr.st = .ready:=by rw [← hlr]
  have hlrp : lr.pend = none:=by rw [← hlr]
  have hback : (⟨.ready,none,lr.fr,lr.n,lr.ps,lr.assign,lr.body,lr.df⟩ : LoopR) = lr:=by rw [← hlr]
  have hblkb : (Blk.loop lr).bel 13 = true:=by rw [← hlr]; rfl
  have hMl : ∀ o,(bsM p bud l lr o).length = 13:=fun o=>by cases o <;> rfl
  have hSb : ∀ sp us t,belB 13 (bsS p bud l lr sp us t) = true:=fun sp us t=>by
   refine belB_append (belB_le (by decide) (preR_bel p bud us sp)) ?_
   show (true && (true && (belR 13 (brR t) && (true && ((Blk.loop lr).bel 13 && true))))) = true
   rw [hblkb,brR_bel]; rfl
  have hMb : ∀ o,belB 13 (bsM p bud l lr o) = true:=fun o=>by cases o <;> exact hSb _ _ _
  have hMd : ∀ o,dfB (bsM p bud l lr o) = true:=fun o=>by
   have key : ∀ sp us t,dfB (bsS p bud l lr sp us t) = true:=fun sp us t=>by
    refine dfB_of fun c l' hc=>?_
    match c,hc with
    | 0,hc | 1,hc | 2,hc | 3,hc | 4,hc | 5,hc | 6,hc | 7,hc | 8,hc | 9,hc | 10,hc | 11,hc=>cases hc
    | 12,hc =>
     have : lr = l':=by cases hc; rfl
     rw [← this,hlrd]; rfl
    | c + 13,hc=>cases hc
   cases o <;> exact key _ _ _
  have hroot':=hroot
  generalize hf0 : brs p bud n = f0 at hroot'
  refine CallP.cnv (L':=bsM p bud l lr (brLoop f0 l p bud ((chE l p).take 0) sp us [])) rfl rfl ?_
  refine ways_it 4 pan l p hsl hlen.2 hrw 12 13 (fun i=>∃ a b c,brLoop f0 l p bud ((chE l p).take i) sp us [] = .go a b c) (fun i=>bsM p bud l lr (brLoop f0 l p bud ((chE l p).take i) sp us [])) _ (w18 rfl) (fun i=>hMl _) (fun i=>hMb _) (fun i=>hMd _) (by omega) ?_ ?_ ⟨sp,us,[],rfl⟩
  ·rintro i hi ⟨a,b,c,hab⟩
   rw [List.length_map] at hi
   rw [List.getElem_map]
   obtain ⟨m,hm⟩ : ∃ m,m = (chE l p)[i]:=⟨_,rfl⟩
   have hnext:=brLoop_next f0 l p bud hi hab
   rw [← hm] at hnext ⊢
   obtain ⟨k1,k2,k3⟩:=brLoop_keep p bud n l _ sp us [] hsp (Nat.zero_le _) a b c (by rw [hf0]; exact hab)
   refine YieldP.conv (show _ = bsS p bud l lr a b c by rw [hab]; rfl) ?_
   obtain ⟨x,hx⟩ : ∃ x,x = extL l p m:=⟨_,rfl⟩
   have hnx : nxV l p m = .agg [.d (DI m.home),.d (DI m.away),I (atN l p),.d (lisD x)]:=by rw [hx]; rfl
   have hsx : Small x p:=hx ▸ (part_small hs0 hlen.2 hP m).2
   rw [hnx]
   refine YieldP.roundE (C_ok.wp 4 pan) (fun c=>match c with | .block 2 _=>true | _=>false) hlr rfl rfl ?_ (w18 rfl)
   by_cases hsb : a = bud
   ·have hstop : brLoop f0 l p bud (chE l p) sp us [] = .stop 3:=by
     refine brLoop_stop _ _ _ _ (i:=i + 1) ?_
     rw [hnext,brLoop,if_pos hsb]
    repeat' ((conv=>whnf); first|refine w8 (w19 (show (a : Int) = (bud : Int) by omega)) ?_|simp only [hlrs,setB_eq]|refine w0 ?_|refine w1 ?_|refine w2 (fun h=>?_) (fun h=>?_)|refine w3 ?_|refine w4 (fun h=>?_) (fun h=>?_)|refine w5 _ rfl ?_|refine w6 rfl ?_|refine w7 mixed rfl ?_)
    exact Need.intro ⟨Nat.le_of_ble_eq_true rfl,rfl,rfl⟩ (hst 3 (hroot.trans (by rw [hf0]; exact hstop)))
   ·have hi64 : IntKind.i64.wrap ((a : Int) + 1) = ((a + 1 : Nat) : Int):=by rw [wrap_in (by omega)]; omega
    have hsb' : ¬ (a : Int) = (bud : Int):=by omega
    let R:={ q : List Int × Nat × List Brc // brLoop f0 l p bud [m] a b c = .go q.2.1 q.1 (c ++ [.mk m (atN l p) (dmA x p) q.2.2]) ∧ q.2.1 ≤ bud }
    repeat' ((conv=>whnf); first|refine w9 (w20 hsb') ?_|simp only [hlrs,setB_eq]|refine w14 (dmd_c x p hsx ?_)|refine w0 ?_|refine w1 ?_|refine w2 (fun h=>?_) (fun h=>?_)|refine w3 ?_|refine w4 (fun h=>?_) (fun h=>?_)|refine w5 _ rfl ?_|refine w6 rfl ?_|refine w7 mixed rfl ?_)
    conv=>whnf
    refine CutP.intro (ι:=R) (fun q=>⟨[(7,.ptr 9 0),(9,.ptr 14 0)],Tryz.f41.ntmps,preR p bud q.1.1 q.1.2.1 ++ [.cells [.d (lisD l)],.cells [.own 10 c.length 0 c.length],.row c.length 5 (brR c),.defr,.loop { lr with st:=.busy },.cells [.d (DI m.home),.d (DI m.away),I (atN l p),.d (lisD x)],.cells ((Brc.mk m (atN l p) (dmA x p) q.1.2.2).cells.map .d)],[],some 12⟩) ?_ (fun q=>?_)
    ·by_cases hd : 0 ≤ dmA x p
     ·obtain ⟨e1,e2⟩:=us_next b (dmA x p)
      have hd1 : brLoop f0 l p bud [m] a b c = .go (a + 1) (if dmA x p ∈ b then b else b ++ [dmA x p]) (c ++ [.mk m (atN l p) (dmA x p) []]):=by
       simp only [brLoop]; rw [if_neg hsb,← hx,if_pos hd]
      repeat' ((conv=>whnf); first|refine w8 (w19 hd) ?_|refine MapF.set (intK b) rfl (intK_ok b) (fun i h1 h2=>?_) (fun h1=>?_)|refine w0 ?_|refine w1 ?_|refine w2 (fun h=>?_) (fun h=>?_)|refine w3 ?_|refine w4 (fun h=>?_) (fun h=>?_)|refine w5 _ rfl ?_|refine w6 rfl ?_|refine w7 mixed rfl ?_)
      all_goals conv=>whnf
      ·exact ⟨⟨(if dmA x p ∈ b then b else b ++ [dmA x p],a + 1,[]),hd1,by show a + 1 ≤ bud; omega⟩,Weak.nilDTo 14 4 [.d (DI m.home),.d (DI m.away),I (atN l p),I (dmA x p),.nil] rfl rfl (bsT_eq (p:=p) (bud:=bud) (l:=l) (lr:=lr) (c:=c) (m:=m) (x:=x) (mp:=(boolM (intK b)).set i (I (dmA x p),B true)) (sp:=IntKind.i64.wrap ((a : Int) + 1)) (b:=[.d (DI m.home),.d (DI m.away),I (atN l p),I (dmA x p),.d (.sl [])]) (e1 i h1 h2) hi64) ⟨rfl,rfl,trivial⟩⟩
      ·exact ⟨⟨(if dmA x p ∈ b then b else b ++ [dmA x p],a + 1,[]),hd1,by show a + 1 ≤ bud; omega⟩,Weak.nilDTo 14 4 [.d (DI m.home),.d (DI m.away),I (atN l p),I (dmA x p),.nil] rfl rfl (bsT_eq (p:=p) (bud:=bud) (l:=l) (lr:=lr) (c:=c) (m:=m) (x:=x) (mp:=boolM (intK b) ++ [(I (dmA x p),B true)]) (sp:=IntKind.i64.wrap ((a : Int) + 1)) (b:=[.d (DI m.home),.d (DI m.away),I (atN l p),I (dmA x p),.d (.sl [])]) (e2 h1) hi64) ⟨rfl,rfl,trivial⟩⟩
     ·obtain ⟨-,hPx⟩:=dmA_part (Int.not_le.1 hd)
      have hbig : roundsN p * halfN p < x.flatten.length + n:=by rw [hx,extL_flat,List.length_append]; simp only [List.length_singleton]; omega
      by_cases hfx : fullC x p = true
      ·have hfB : fullB x p.clubs p.double = true:=(fullB_eq h0 hPx).trans hfx
       have hstop : brLoop f0 l p bud (chE l p) sp us [] = .stop 300:=by
        refine brLoop_stop _ _ _ _ (i:=i + 1) ?_
        rw [hnext]; simp only [brLoop]; rw [if_neg hsb,← hx,if_neg hd,if_pos hfx]
       repeat' ((conv=>whnf); first|refine w9 (w20 hd) ?_|refine w14 (full_c x p hsx ?_)|refine w8 hfB ?_|refine w0 ?_|refine w1 ?_|refine w2 (fun h=>?_) (fun h=>?_)|refine w3 ?_|refine w4 (fun h=>?_) (fun h=>?_)|refine w5 _ rfl ?_|refine w6 rfl ?_|refine w7 mixed rfl ?_)
       conv=>whnf
       exact Need.intro ⟨Nat.le_of_ble_eq_true rfl,rfl,rfl⟩ (hst 300 (hroot.trans (by rw [hf0]; exact hstop)))
      ·have hfB : fullB x p.clubs p.double = false:=(fullB_eq h0 hPx).trans (by simpa using hfx)
       repeat' ((conv=>whnf); first|refine w9 (w20 hd) ?_|refine w14 (full_c x p hsx ?_)|refine w9 hfB ?_|refine w0 ?_|refine w1 ?_|refine w2 (fun h=>?_) (fun h=>?_)|refine w3 ?_|refine w4 (fun h=>?_) (fun h=>?_)|refine w5 _ rfl ?_|refine w6 rfl ?_|refine w7 mixed rfl ?_)
       conv=>whnf
       refine CallP.cnv (args':=lisV x :: capR) (L':=bsT p bud l lr c m x (boolM (intK b)) (IntKind.i64.wrap ((a : Int) + 1)) [.d (DI m.home),.d (DI m.away),I (atN l p),I (dmA x p),.nil]) rfl rfl ?_
       rw [hi64]
       refine CallP.cnv (args':=lisV x :: capR) (L':=preR p bud b (a + 1) ++ [.cells [.d (lisD l)],.cells [.own 10 c.length 0 c.length],.row c.length 5 (brR c),.defr,.loop { lr with st:=.busy },.cells [.d (DI m.home),.d (DI m.away),I (atN l p),.d (lisD x)],.cells [.d (DI m.home),.d (DI m.away),I (atN l p),I (dmA x p),.nil]]) rfl rfl ?_
       have hst2 : ∀ e,brs p bud n x (a + 1) b = .stop e → pan (.d (errD e)) (pre4 p bud):=fun e he=>hst e (hroot.trans (by
        rw [hf0]
        refine brLoop_stop _ _ _ _ (i:=i + 1) ?_
        rw [hnext]; simp only [brLoop]; rw [if_neg hsb,← hx,if_neg hd,if_neg hfx,← hf0,he]))
       have hih:=branches_c p bud h0 hs0 hbud pan n x (a + 1) b hPx hbig (by omega) hst2
       refine CallP.frameP (w18 rfl) hih (preR_bel p bud b (a + 1)) rfl rfl ?_
       rintro X L1 ⟨a',b',t',hgo,rfl,rfl⟩
       refine ⟨rfl,preR_bel p bud b' a',rfl,?_⟩
       have hd1 : brLoop f0 l p bud [m] a b c = .go a' b' (c ++ [.mk m (atN l p) (dmA x p) t']):=by
        simp only [brLoop]; rw [if_neg hsb,← hx,if_neg hd,if_neg hfx,← hf0,hgo]
       obtain ⟨k4,_,_⟩:=brs_keep p bud n x (a + 1) b (by omega) _ _ _ hgo
       repeat' ((conv=>whnf); first|refine w0 ?_|refine w1 ?_|refine w2 (fun h=>?_) (fun h=>?_)|refine w3 ?_|refine w4 (fun h=>?_) (fun h=>?_)|refine w5 _ rfl ?_|refine w6 rfl ?_|refine w7 mixed rfl ?_)
       conv=>whnf
       exact ⟨⟨(b',a',t'),hd1,k4⟩,Weak.by ⟨rfl,rfl,trivial⟩⟩
    ·obtain ⟨⟨b',a',t'⟩,hq1,hq2⟩:=q
     conv=>whnf
     refine DrawP.por mixed [5] [[(0,3),(1,3),(2,3),(3,0),(4,0),(5,2),(6,0),(7,0)],[(0,3),(1,3),(2,3),(3,0),(4,0),(5,2),(7,0),(6,0)],[(0,3),(1,3),(2,3),(3,0),(4,0),(7,0),(5,2),(6,0)]] (by kernel_rfl) ?_
     conv=>whnf
     refine And.intro ?_ ?_
     rotate_left 1
     conv=>whnf
     refine And.intro ?_ ?_
     all_goals
      repeat' ((conv=>whnf); first|refine w0 ?_|refine w1 ?_|refine w2 (fun h=>?_) (fun h=>?_)|refine w3 ?_|refine w4 (fun h=>?_) (fun h=>?_)|refine w5 _ rfl ?_|refine w6 rfl ?_|refine w7 mixed rfl ?_|refine QCallW.rd (.eptr 10 (c.length + 1) (0 + c.length) 0) ?_ ?_|exact ⟨rfl,rfl⟩|exact ⟨trivial,trivial⟩|simp only [Nat.beq_refl,Bool.and_self]|refine IdxN.intro c.length rfl (Nat.lt_succ_self _) ?_|refine w5 _ (brR_get c _) ?_|refine w6 (w23 (m:=4294967296) (show c.length + 1 ≤ 4294967296 by omega) (apLim_ge _)) ?_)
     all_goals conv=>whnf
     all_goals
      have hF : brLoop f0 l p bud ((chE l p).take (i + 1)) sp us [] = .go a' b' (c ++ [.mk m (atN l p) (dmA x p) t']):=hnext.trans hq1
      refine w15 (n:=13) (L':=bsS p bud l lr a' b' (c ++ [.mk m (atN l p) (dmA x p) t'])) ?_ (w21 _) rfl (hSb _ _ _) (.inl ⟨rfl,by rw [hF]; rfl,⟨a',b',_,hF⟩⟩)
      exact (congrArg (fun y : LoopR=>preR p bud b' a' ++ [.cells [.d (lisD l)],.cells [.own 10 (c.length + 1) 0 (c.length + 1)],.row (c.length + 1) 5 (((brR c).take c.length ++ [[I 0,I 0,I 0,I 0,.nil]]).set (0 + c.length) ((Brc.mk m (atN l p) (dmA x p) t').cells.map .d)),.defr,.loop y]) hback).trans (bsS_next p bud l lr a' b' c _ _)
  ·rintro ⟨a,b,c,hab⟩
   have hgo : bsM p bud l lr (brLoop f0 l p bud ((chE l p).take ((chE l p).map fun m=>[nxV l p m]).length) sp us []) = bsS p bud l lr a b c:=by rw [hab]; rfl
   rw [List.length_map,List.take_length] at hab
   generalize bsM p bud l lr (brLoop f0 l p bud ((chE l p).take ((chE l p).map fun m=>[nxV l p m]).length) sp us []) = M at hgo ⊢
   subst hgo
   repeat' ((conv=>whnf); first|refine w0 ?_|refine w1 ?_|refine w2 (fun h=>?_) (fun h=>?_)|refine w3 ?_|refine w4 (fun h=>?_) (fun h=>?_)|refine w5 _ rfl ?_|refine w6 rfl ?_|refine w7 mixed rfl ?_|simp only [hlrs,hlrp])
   conv=>whnf
   exact FinP.data (L':=preR p bud b a) (.d (.rowL (ds:=brcs c) (Nat.le_of_ble_eq_true rfl) rfl (CvLL.cong (by rw [List.drop_zero,List.take_of_length_le (by rw [brR_len]; exact Nat.le_refl _)]) (brR_rows c)) (brcs_len c).symm (brcs_row c))) rfl (preR_bel p bud b a) ⟨a,b,c,hroot'.trans hab,rfl,rfl⟩
end Go.Proofs.YtndlggbljkhfbaaGreat
namespace Go.Proofs
open Go.Shelf
def Tryz.keysA_ren : Go.Shelf.Ren:=⟨fun | 7=>46 | 10=>102 | n=>n,fun | 23=>83 | 26=>3 | 3=>4 | 28=>96 | 0=>0 | 27=>95 | 33=>103 | 4=>4 | n=>n,fun | n=>n⟩
theorem Tryz.keysA : Go.Proofs.SlLaysZI.n7 Tryz.prog Tryz.keysA_ren:={
 mixed:=by kernel_rfl
 f7:=⟨Tryz.f46.name,by decide,Tryz.func46.trans (congrArg some (by kernel_rfl))⟩
 f10:=⟨Tryz.f102.name,by decide,Tryz.func102.trans (congrArg some (by kernel_rfl))⟩
 t0:=Tryz.underlying0
 a0:=Tryz.isAgg0
 z0:=Tryz.sizeOf0
 v0:=Tryz.zeroValue0
 t4:=Tryz.underlying4
 a4:=Tryz.isAgg4
 z4:=Tryz.sizeOf4
 v4:=Tryz.zeroValue4
 t23:=Tryz.underlying83
 a23:=Tryz.isAgg83
 z23:=Tryz.sizeOf83
 v23:=Tryz.zeroValue83
 t26:=Tryz.underlying3
 a26:=Tryz.isAgg3
 z26:=Tryz.sizeOf3
 v26:=Tryz.zeroValue3
 t27:=Tryz.underlying95
 a27:=Tryz.isAgg95
 z27:=Tryz.sizeOf95
 v27:=Tryz.zeroValue95
 t28:=Tryz.underlying96
 a28:=Tryz.isAgg96
 z28:=Tryz.sizeOf96
 v28:=Tryz.zeroValue96
 t33:=Tryz.underlying103
 a33:=Tryz.isAgg103
 z33:=Tryz.sizeOf103
 v33:=Tryz.zeroValue103 }
def Tryz.sortedA_ren : Go.Shelf.Ren:=⟨fun | 6=>45 | 8=>49 | 9=>101 | 11=>106 | 13=>135 | 12=>134 | 23=>164 | 24=>165 | 14=>155 | 15=>156 | 16=>157 | 17=>158 | 18=>159 | 19=>160 | 20=>161 | 21=>162 | 22=>163 | 25=>174 | 26=>175 | 27=>176 | 28=>177 | 29=>178 | 30=>179 | 31=>185 | n=>n,fun | 26=>3 | 28=>96 | 24=>22 | 0=>0 | 3=>3 | 37=>171 | 48=>197 | 50=>199 | 4=>4 | 40=>190 | 39=>189 | 45=>194 | 5=>5 | 9=>9 | 51=>205 | 55=>209 | 57=>214 | 58=>215 | 33=>103 | n=>n,fun | n=>n⟩
theorem Tryz.sortedA : Go.Proofs.SlLaysZI.n6 Tryz.prog Tryz.sortedA_ren:={
 mixed:=by kernel_rfl
 f6:=⟨Tryz.f45.name,by decide,Tryz.func45.trans (congrArg some (by kernel_rfl))⟩
 f8:=⟨Tryz.f49.name,by decide,Tryz.func49.trans (congrArg some (by kernel_rfl))⟩
 f11:=⟨Tryz.f106.name,by decide,Tryz.func106.trans (congrArg some (by kernel_rfl))⟩
 t0:=Tryz.underlying0
 a0:=Tryz.isAgg0
 z0:=Tryz.sizeOf0
 v0:=Tryz.zeroValue0
 t24:=Tryz.underlying22
 a24:=Tryz.isAgg22
 z24:=Tryz.sizeOf22
 v24:=Tryz.zeroValue22
 t26:=Tryz.underlying3
 a26:=Tryz.isAgg3
 z26:=Tryz.sizeOf3
 v26:=Tryz.zeroValue3
 t28:=Tryz.underlying96
 a28:=Tryz.isAgg96
 z28:=Tryz.sizeOf96
 v28:=Tryz.zeroValue96
 i26:=by kernel_rfl }
def Tryz.sortA_ren : Go.Shelf.Ren:=⟨fun | 5=>101 | 8=>135 | 7=>134 | 19=>164 | 20=>165 | 10=>155 | 11=>156 | 12=>157 | 13=>158 | 14=>159 | 15=>160 | 16=>161 | 17=>162 | 18=>163 | 30=>174 | 31=>175 | 32=>176 | 33=>177 | 34=>178 | 35=>179 | 40=>185 | n=>n,fun | 23=>22 | 25=>3 | 3=>3 | 32=>171 | 22=>22 | 0=>0 | 44=>197 | 46=>199 | 4=>4 | 36=>190 | 35=>189 | 41=>194 | 5=>5 | 9=>9 | 53=>205 | 57=>209 | 63=>214 | 64=>215 | n=>n,fun | n=>n⟩
theorem Tryz.sortA : Go.Proofs.SlLaysM.n5 Tryz.prog Tryz.sortA_ren:={
 mixed:=by kernel_rfl
 f5:=⟨Tryz.f101.name,by decide,Tryz.func101.trans (congrArg some (by kernel_rfl))⟩
 f7:=⟨Tryz.f134.name,by decide,Tryz.func134.trans (congrArg some (by kernel_rfl))⟩
 f8:=Tryz.func135.trans (congrArg some (by kernel_rfl))
 f10:=⟨Tryz.f155.name,by decide,Tryz.func155.trans (congrArg some (by kernel_rfl))⟩
 f11:=⟨Tryz.f156.name,by decide,Tryz.func156.trans (congrArg some (by kernel_rfl))⟩
 f12:=⟨Tryz.f157.name,by decide,Tryz.func157.trans (congrArg some (by kernel_rfl))⟩
 f13:=⟨Tryz.f158.name,by decide,Tryz.func158.trans (congrArg some (by kernel_rfl))⟩
 f14:=⟨Tryz.f159.name,by decide,Tryz.func159.trans (congrArg some (by kernel_rfl))⟩
 f15:=⟨Tryz.f160.name,by decide,Tryz.func160.trans (congrArg some (by kernel_rfl))⟩
 f16:=⟨Tryz.f161.name,by decide,Tryz.func161.trans (congrArg some (by kernel_rfl))⟩
 f17:=⟨Tryz.f162.name,by decide,Tryz.func162.trans (congrArg some (by kernel_rfl))⟩
 f18:=⟨Tryz.f163.name,by decide,Tryz.func163.trans (congrArg some (by kernel_rfl))⟩
 f19:=Tryz.func164.trans (congrArg some (by kernel_rfl))
 f20:=Tryz.func165.trans (congrArg some (by kernel_rfl))
 f30:=⟨Tryz.f174.name,by decide,Tryz.func174.trans (congrArg some (by kernel_rfl))⟩
 f31:=Tryz.func175.trans (congrArg some (by kernel_rfl))
 f32:=Tryz.func176.trans (congrArg some (by kernel_rfl))
 f33:=⟨Tryz.f177.name,by decide,Tryz.func177.trans (congrArg some (by kernel_rfl))⟩
 f34:=⟨Tryz.f178.name,by decide,Tryz.func178.trans (congrArg some (by kernel_rfl))⟩
 f35:=⟨Tryz.f179.name,by decide,Tryz.func179.trans (congrArg some (by kernel_rfl))⟩
 f40:=⟨Tryz.f185.name,by decide,Tryz.func185.trans (congrArg some (by kernel_rfl))⟩
 t0:=Tryz.underlying0
 a0:=Tryz.isAgg0
 z0:=Tryz.sizeOf0
 v0:=Tryz.zeroValue0
 t3:=Tryz.underlying3
 a3:=Tryz.isAgg3
 z3:=Tryz.sizeOf3
 v3:=Tryz.zeroValue3
 t4:=Tryz.underlying4
 a4:=Tryz.isAgg4
 z4:=Tryz.sizeOf4
 v4:=Tryz.zeroValue4
 t5:=Tryz.underlying5
 a5:=Tryz.isAgg5
 z5:=Tryz.sizeOf5
 v5:=Tryz.zeroValue5
 t9:=Tryz.underlying9
 a9:=Tryz.isAgg9
 z9:=Tryz.sizeOf9
 v9:=Tryz.zeroValue9
 t22:=Tryz.underlying22
 a22:=Tryz.isAgg22
 z22:=Tryz.sizeOf22
 v22:=Tryz.zeroValue22
 t23:=Tryz.underlying22
 a23:=Tryz.isAgg22
 z23:=Tryz.sizeOf22
 v23:=Tryz.zeroValue22
 t25:=Tryz.underlying3
 a25:=Tryz.isAgg3
 z25:=Tryz.sizeOf3
 v25:=Tryz.zeroValue3
 t32:=Tryz.underlying171
 a32:=Tryz.isAgg171
 z32:=Tryz.sizeOf171
 v32:=Tryz.zeroValue171
 t35:=Tryz.underlying189
 a35:=Tryz.isAgg189
 z35:=Tryz.sizeOf189
 v35:=Tryz.zeroValue189
 t36:=Tryz.underlying190
 a36:=Tryz.isAgg190
 z36:=Tryz.sizeOf190
 v36:=Tryz.zeroValue190
 t41:=Tryz.underlying194
 a41:=Tryz.isAgg194
 z41:=Tryz.sizeOf194
 v41:=Tryz.zeroValue194
 t44:=Tryz.underlying197
 a44:=Tryz.isAgg197
 z44:=Tryz.sizeOf197
 v44:=Tryz.zeroValue197
 t46:=Tryz.underlying199
 a46:=Tryz.isAgg199
 z46:=Tryz.sizeOf199
 v46:=Tryz.zeroValue199
 t53:=Tryz.underlying205
 a53:=Tryz.isAgg205
 z53:=Tryz.sizeOf205
 v53:=Tryz.zeroValue205
 t57:=Tryz.underlying209
 a57:=Tryz.isAgg209
 z57:=Tryz.sizeOf209
 v57:=Tryz.zeroValue209
 t63:=Tryz.underlying214
 a63:=Tryz.isAgg214
 z63:=Tryz.sizeOf214
 v63:=Tryz.zeroValue214
 t64:=Tryz.underlying215
 a64:=Tryz.isAgg215
 z64:=Tryz.sizeOf215
 v64:=Tryz.zeroValue215 }
def Tryz.delA_ren : Go.Shelf.Ren:=⟨fun | 23=>57 | n=>n,fun | 22=>22 | 3=>3 | 4=>4 | 0=>0 | n=>n,fun | n=>n⟩
theorem Tryz.delA : Go.Proofs.Lays2.n23 Tryz.prog Tryz.delA_ren:={
 mixed:=by kernel_rfl
 f23:=Tryz.func57.trans (congrArg some (by kernel_rfl))
 t0:=Tryz.underlying0
 a0:=Tryz.isAgg0
 z0:=Tryz.sizeOf0
 v0:=Tryz.zeroValue0
 t3:=Tryz.underlying3
 a3:=Tryz.isAgg3
 z3:=Tryz.sizeOf3
 v3:=Tryz.zeroValue3
 t4:=Tryz.underlying4
 a4:=Tryz.isAgg4
 z4:=Tryz.sizeOf4
 v4:=Tryz.zeroValue4
 t22:=Tryz.underlying22
 a22:=Tryz.isAgg22
 z22:=Tryz.sizeOf22
 v22:=Tryz.zeroValue22
 i3:=by kernel_rfl }
end Go.Proofs
namespace Go.Proofs.YtndlggbljkhfbaaGreat
open Go.Tidy
variable {L : List Blk} {k : V → List Blk → Prop}
theorem below_good {g : Gh} {w w' : World} (hg : Go.Tidy.Good g w L) (hb : Go.RowKit.Below w.heap.size w w') :
  ∃ g' : Gh,Go.Tidy.Good g' w' L ∧ Prog L.length g w L g' w' L ∧ ∀ q,w.heap.size ≤ q → q < w'.heap.size → g'.I q:=by
 let g' : Gh:={ g with I:=fun q=>g.I q ∨ (w.heap.size ≤ q ∧ q < w'.heap.size) }
 have hold : ∀ (a : Addr) (v : Value),g.I a.block → w.cell? a = some v → w'.cell? a = some v:=fun a v hi hc=>by
  rw [World.cell?_of_block (hb.block _ (hg.lt _ hi))]; exact hc
 have mono : ∀ (x : V) (v : Value),RV g w L x v → RV g' w' L x v:=fun x v hx=>RV.mono (g':=g') (k:=L.length) (fun r h=>Or.inl h) hold (fun b _=>Keep.same rfl rfl rfl) hx.bel hx
 have hob : ∀ (r : Nat) (o : Obj),w.heap[r]? = some o → w'.heap[r]? = some o:=fun r o ho=>by
  rw [hb.block r (Array.getElem?_eq_some_iff.1 ho).1]; exact ho
 refine ⟨g',⟨hg.inj,fun r ho hi=>?_,fun r hi=>?_,fun b x hx=>RB.mono' mono rfl rfl (fun r o _ ho=>hob r o ho) (fun l _=>⟨rfl,fun h=>h⟩) (hg.blk b x hx),hg.gl.mono (I':=g'.I) (fun r h=>Or.inl h) hold⟩,
  ⟨⟨hb.tape,hb.os,hb.output⟩,hb.size,fun r o ho _=>hob r o ho,fun r ho _=>ho,fun r hr=>?_,fun r h=>Or.inl h,fun x v _ hx=>mono x v hx,fun b r _ h1 h2=>⟨h1,h2⟩,fun h=>h⟩,fun q h1 h2=>Or.inr ⟨h1,h2⟩⟩
 ·rcases hi with h | ⟨h,_⟩
  ·exact hg.dis r ho h
  ·have:=hg.owned_lt (r:=r) ho; omega
 ·rcases hi with h | ⟨_,h⟩
  ·exact Nat.lt_of_lt_of_le (hg.lt r h) hb.size
  ·exact h
 ·rcases hr with h | ⟨h,_⟩
  ·exact .inl h
  ·exact .inr (.inl h)
def sortI (l : List Int) : List Int:=l.mergeSort fun x y=>decide (x ≤ y)
theorem sorts_ok (m : Nat) : AnyZI.SortsIn Tryz.prog Tryz.sortedA_ren Fence.wide m :=
 ⟨fun blk off cap ss W hH hblk hsz=>callsIn_wide.2 (AnyM.slices_Sort_int Tryz.sortA blk off cap ss W hH hblk hsz),fun p cap W=>callsIn_wide.2 (AnyM.slices_Sort_int_none Tryz.sortA p cap W)⟩
theorem keys_c (b : Nat) (h : k (.fn 102 [.ptr L.length 0]) (L ++ [.cells [.map b]])) : CallP C 46 [.map b] L k:=by
 refine callP_of C_ok Tryz.func46 rfl rfl (n:=_) rfl (w18 rfl) (rs:=_) rfl ?_
 repeat' ((conv=>whnf); first|refine w0 ?_|refine w1 ?_|refine w2 (fun h=>?_) (fun h=>?_)|refine w3 ?_|refine w4 (fun h=>?_) (fun h=>?_)|refine w5 _ rfl ?_|refine w6 rfl ?_|refine w7 mixed rfl ?_)
 conv=>whnf
 exact FinP.same h
abbrev anyR : Value → Option (DataW Unit × List MemPlace):=fun _=>some (.nil,[])
theorem set_reads {ents : Array MapEntry} {us : List Int} (hlen : ents.size = us.length) (hk : ∀ (i : Nat) (e : MapEntry) (hi : i < us.length),ents[i]? = some e → e.key = .int .i64 us[i]) (hr : ∀ u ∈ us,(Lit.int .i64 u).wf = true) :
  (∀ x ∈ ents.toList,∃ y,Go.WideElems.rd Tryz.prog 3 anyR x = some y) ∧ (intKeys (.map ((ents.toList.map (Go.WideElems.rg Tryz.prog 3 anyR)).foldr DataW.insert []))).Perm us:=by
 have hki : Tryz.prog.underlying 3 = some (.int .i64):=by kernel_rfl
 have at' : ∀ (i : Nat) (e : MapEntry),ents[i]? = some e → ∃ hi : i < us.length,Go.WideElems.rd Tryz.prog 3 anyR e = some (.int .i64 us[i],.nil):=fun i e he=>by
  have hi : i < us.length:=by have:=(Array.getElem?_eq_some_iff.1 he).1; omega
  refine ⟨hi,?_⟩
  unfold Go.WideElems.rd
  rw [hk i e hi he,Go.Maps.keyOf_int_mk hki (hr _ (List.getElem_mem hi))]
  rfl
 constructor
 ·intro x hx
  obtain ⟨i,hi⟩:=List.mem_iff_getElem?.1 hx
  obtain ⟨_,h⟩:=at' i x (by simpa using hi)
  exact ⟨_,h⟩
 ·have e : (ents.toList.map (Go.WideElems.rg Tryz.prog 3 anyR)).map (fun p=>Go.intOf p.1) = us:=by
   refine List.ext_getElem (by simp [hlen]) fun i h1 h2=>?_
   simp only [List.getElem_map]
   have hi : i < ents.size:=by omega
   obtain ⟨_,h⟩:=at' i ents[i] (Array.getElem?_eq_getElem hi)
   have : ents.toList[i]'(by simpa using hi) = ents[i]:=by simp
   rw [this,Go.WideElems.rg,h]; rfl
  rw [← e]
  exact (Go.WideShapes.sorted_perm _).map _
theorem sortedKeys_c {b bx : Nat} {us : List Int} (hL : L[b]? = some (.map (boolM (intK us)))) (hB : L[bx]? = some (.cells [.map b])) (hr : ∀ u ∈ us,(Lit.int .i64 u).wf = true) (hn : us.length ≤ 1073741824) (h : k (.d (ints (sortI us))) L) :
  CallP C 45 [.fn 102 [.ptr bx 0]] L k:=by
 unfold CallP
 refine ⟨⟨_,Tryz.func45,rfl,rfl⟩,fun g w vs hg hv=>?_⟩
 obtain ⟨hlen,hrel⟩:=hv
 obtain ⟨v,rfl⟩ : ∃ v,vs = #[v]:=by
  match vs,hlen with
  | ⟨[v]⟩,_=>exact ⟨v,rfl⟩
 have h0:=hrel 0 _ v rfl rfl
 cases h0 with
 | fn _ _ cs hcl hcr =>
 obtain ⟨q,rfl⟩ : ∃ q,cs = #[q]:=by
  match cs,hcl with
  | ⟨[q]⟩,_=>exact ⟨q,rfl⟩
 have h1:=hcr 0 _ q rfl rfl
 cases h1 with
 | ptrX _ _ a hd=>rw [hB] at hd; cases hd
 | ptr _ _ r1 cs1 hL1 hm1 =>
 rw [hB] at hL1; cases hL1
 obtain ⟨r1',cur,T,hm1',hh1,hsz,_,hrec⟩:=hg.blk bx _ hB
 rw [hm1] at hm1'; cases hm1'
 obtain ⟨c0,hc0⟩ : ∃ c0,cur[0]? = some c0:=⟨_,Array.getElem?_eq_getElem (by rw [hsz]; exact Nat.zero_lt_one)⟩
 have h2:=hrec 0 _ c0 rfl hc0
 cases h2 with
 | mapX _ a hd=>rw [hL] at hd; cases hd
 | map _ r2 es hL2 hm2 =>
 rw [hL] at hL2; cases hL2
 obtain ⟨r2',ents,clock,hm2',hh2,hes,hst,hent⟩:=hg.blk b _ hL
 rw [hm2] at hm2'; cases hm2'
 have hcell : w.cell? ⟨r1,0,none⟩ = some (.map (some r2)):=by rw [cell_row hh1]; exact hc0
 have hsize : ents.size = us.length:=by rw [hes]; simp [boolM,intK]
 have hkey : ∀ (i : Nat) (e : MapEntry) (hi : i < us.length),ents[i]? = some e → e.key = .int .i64 us[i]:=fun i e hi he=>by
  have hx : (boolM (intK us))[i]? = some (I us[i],B true):=by
   unfold boolM intK; rw [List.getElem?_map,List.getElem?_map,List.getElem?_eq_getElem hi]; rfl
  have hv:=(hent i _ e hx he).1
  generalize e.key = y at hv ⊢
  cases hv with | d _ _ hd=>cases hd; rfl
 obtain ⟨hrd,hperm⟩:=set_reads hsize hkey hr
 have hbig : us.length ≤ maxLen:=by simp [maxLen]; omega
 have hown : w.ownsMap Tryz.prog 3 anyR r2 ents.size (.map ((ents.toList.map (Go.WideElems.rg Tryz.prog 3 anyR)).foldr DataW.insert [])) :=
  ⟨ents,clock,hh2,⟨by rw [hsize]; exact hbig,hst,hrd⟩,Nat.le_refl _,rfl⟩
 have hms : Go.Maps.size (DataW.map ((ents.toList.map (Go.WideElems.rg Tryz.prog 3 anyR)).foldr DataW.insert [])) = us.length:=by
  show ((ents.toList.map (Go.WideElems.rg Tryz.prog 3 anyR)).foldr DataW.insert []).length = _
  rw [Go.length_sorted]; simpa using hsize
 have hr1 : r1 < w.heap.size:=(Array.getElem?_eq_some_iff.1 hh1).1
 have hseq : Go.SeqGives Fence.wide 2 Tryz.prog 102 #[.pointer (some ⟨r1,0,none⟩)] encZ _ _ w :=
  AnyZI.keys_gives (ρ:=Tryz.keysA_ren) { Tryz.keysA with } Fence.wide _ trivial rfl (by omega) r1 r2 _ _ w hr1 hcell hown
 have cS:=AnyZI.sorted_in Tryz.sortedA Fence.wide 5 trivial trivial trivial trivial rfl (by omega) (sorts_ok _) (enters_of Tryz.func101 (by kernel_rfl) rfl) 102 #[.pointer (some ⟨r1,0,none⟩)] trivial (enters_of Tryz.func102 (by kernel_rfl) rfl) _ _ (by rw [hms]; exact hbig) (by rw [hms]; omega) _ hseq
 change CallsIn _ _ Tryz.prog 45 _ _ _ at cS
 refine ((callsIn_wide (n:=5)).1 cS).mono ?_
 rintro e w' ⟨v,ss,rfl,hss,hrow,hnil,hb⟩
 obtain ⟨-,hv⟩:=hrow
 have hS : sortI us = ss.mergeSort (fun x y=>decide (x ≤ y)):=(mergeSort_of_perm_i (hss.trans hperm)).symm
 have hSl : (sortI us).length = ss.length:=by rw [hS,List.length_mergeSort]
 obtain ⟨g',hg',hp,hI⟩:=below_good hg hb
 refine .inl ⟨v,.d (ints (sortI us)),L,g',rfl,h,.d _ _ ?_,hg',hp⟩
 rcases hv with ⟨rfl,hz⟩ | ⟨gb,cap,cur',rfl,hbase,hgb,hn1,hn2,hn3,hn4⟩
 ·have : sortI us = []:=List.eq_nil_of_length_eq_zero (by omega)
  rw [this]
  exact .slNil _ _
 ·have hgl : gb < w'.heap.size:=(Array.getElem?_eq_some_iff.1 hgb).1
  have hel : ss.length = ((sortI us).map fun n=>[DI n]).length:=by rw [List.length_map,hSl]
  have hcv : ∀ (i : Nat) (hi : i < (sortI us).length),cur'[i]? = some (.int .i64 (sortI us)[i]):=fun i hi=>by
   have h1 : (cur'.toList.take (ss.length * 1))[i]? = some (.int .i64 (sortI us)[i]):=by
    rw [hn4,← hS,List.getElem?_map,List.getElem?_eq_getElem hi]; rfl
   rw [List.getElem?_take,if_pos (by omega)] at h1
   simpa using h1
  have hgd : ∀ (i : Nat) (hi : i < (sortI us).length),(sortI us).getD i 0 = (sortI us)[i]:=fun i hi=>by simp [List.getD,List.getElem?_eq_getElem hi]
  rw [hel]
  unfold ints
  refine .sl _ ⟨gb,0,none⟩ cap 1 (fun i _=>.int .i64 ((sortI us).getD i 0)) (lenC _) (fun i j hi hj=>?_) (hI gb hbase hgl) (by omega) (fun i j x hx=>?_)
  ·rw [List.length_map] at hi
   obtain rfl : j = 0:=by omega
   rw [Addr.add_lit,cell_row hgb]
   rw [show 0 + (i * 1 + 0) = i by omega,hcv i hi,hgd i hi]
  ·rw [List.getElem?_map] at hx
   cases hq : (sortI us)[i]? with
   | none=>rw [hq] at hx; cases hx
   | some y =>
    rw [hq] at hx
    have hi:=lt_of_get hq
    rw [List.getElem?_eq_getElem hi] at hq
    cases hq
    cases j with
    | zero=>simp at hx; subst hx; rw [hgd i hi]; exact .int _ _
    | succ j=>simp at hx
end Go.Proofs.YtndlggbljkhfbaaGreat
namespace Go.Proofs.YtndlggbljkhfbaaGreat
open Go.Tidy
variable {L : List Blk} {k : V → List Blk → Prop}
end Go.Proofs.YtndlggbljkhfbaaGreat
namespace Go.Proofs.YtndlggbljkhfbaaGreat
open Go.Tidy
variable {L : List Blk} {k : V → List Blk → Prop}
def iR (l : List Int) : List (List V):=l.map fun n=>[I n]
theorem iR_len (l : List Int) : (iR l).length = l.length:=by unfold iR; rw [List.length_map]
theorem iR_bel (n : Nat) : ∀ l : List Int,belR n (iR l) = true
 | []=>rfl
 | c :: l=>by simp only [iR,List.map_cons,belR,V.belL,V.bel,Bool.true_and]; exact iR_bel n l
theorem iR_rows {S : Nat → Prop} {L : List Blk} : ∀ l : List Int,CvLL S L (iR l) (l.map fun n=>[DI n])
 | []=>.nil
 | c :: l=>.cons (.cons (.d _) .nil) (iR_rows l)
theorem iR_cv {S : Nat → Prop} {L : List Blk} (l : List Int) : CvLL S L (((iR l).drop 0).take l.length) (l.map fun n=>[DI n]) :=
 CvLL.cong (by rw [List.drop_zero,List.take_of_length_le (by rw [iR_len]; exact Nat.le_refl _)]) (iR_rows l)
end Go.Proofs.YtndlggbljkhfbaaGreat
namespace Go.Proofs.YtndlggbljkhfbaaGreat
open Go.Tidy
variable {L : List Blk} {k : V → List Blk → Prop}
theorem put_get {d : List Int} {cur : Array Value} {j : Nat} (hj : j < d.length) (hc : d.length ≤ cur.size) : (Go.Sort.putCells (Value.int .i64) 0 d.toArray cur)[j]? = some (.int .i64 d[j]):=by
 unfold Go.Sort.putCells
 rw [Array.getElem?_mapIdx,Array.getElem?_eq_getElem (by omega)]
 simp only [Option.map_some,Nat.zero_le,Nat.zero_add,List.size_toArray,true_and,Nat.sub_zero,if_pos hj]
 rw [getElem!_pos d.toArray j (by simpa using hj)]
 simp
theorem put_size (d : List Int) (cur : Array Value) : (Go.Sort.putCells (Value.int .i64) 0 d.toArray cur).size = cur.size:=by unfold Go.Sort.putCells; simp
theorem put_one {d : List Int} {cur : Array Value} (h : ∀ (i : Nat) (v : Value),cur[i]? = some v → v.oneCell' = true) : ∀ (i : Nat) (v : Value),(Go.Sort.putCells (Value.int .i64) 0 d.toArray cur)[i]? = some v → v.oneCell' = true:=by
 intro i v hv
 unfold Go.Sort.putCells at hv
 rw [Array.getElem?_mapIdx] at hv
 cases hc : cur[i]? with
 | none=>rw [hc] at hv; cases hv
 | some u =>
  rw [hc] at hv
  simp only [Option.map_some,Option.some.injEq] at hv
  split at hv
  ·rw [← hv]; rfl
  ·rw [← hv]; exact h i u hc
theorem iR_get {l : List Int} {i j : Nat} {x : V} (h : ((iR l)[i]?).bind (fun e=>e[j]?) = some x) : j = 0 ∧ ∃ hi : i < l.length,x = I l[i]:=by
 unfold iR at h
 rw [List.getElem?_map] at h
 cases hq : l[i]? with
 | none=>rw [hq] at h; cases h
 | some y =>
  have hi:=lt_of_get hq
  rw [List.getElem?_eq_getElem hi] at hq
  cases hq
  rw [List.getElem?_eq_getElem hi] at h
  cases j with
  | zero=>simp at h; exact ⟨rfl,hi,h.symm⟩
  | succ j=>simp at h
theorem iR_ones (l : List Int) : ∀ e ∈ iR l,e.length = 1:=fun e he=>by
 obtain ⟨n,_,rfl⟩:=List.mem_map.1 he; rfl
theorem delete_c {b gen i : Nat} {l : List Int} (hL : L[b]? = some (.row gen 1 (iR l))) (hi : i < l.length) (hl : l.length ≤ 1073741824) (h : k (.own b gen 0 (l.length - 1)) (L.set b (.row gen 1 (iR (l.take i ++ l.drop (i + 1) ++ [0]))))) :
  CallP C 57 [.own b gen 0 l.length,I i,I (i + 1 : Nat)] L k:=by
 unfold CallP
 refine ⟨⟨_,Tryz.func57,rfl,rfl⟩,fun g w vs hg hv=>?_⟩
 obtain ⟨hlen,hrel⟩:=hv
 obtain ⟨v,x,y,rfl⟩ : ∃ v x y,vs = #[v,x,y]:=by
  match vs,hlen with
  | ⟨[v,x,y]⟩,_=>exact ⟨v,x,y,rfl⟩
 have h0:=hrel 0 _ v rfl rfl
 have h1:=hrel 1 _ x rfl rfl
 have h2:=hrel 2 _ y rfl rfl
 cases h1 with | d _ _ hd =>
 cases hd
 cases h2 with | d _ _ hd =>
 cases hd
 have hbl:=lt_of_get hL
 generalize hn : l.length = n at h0
 cases h0 with
 | ownX _ _ _ _ a n c hL'=>rw [hL] at hL'; cases hL'
 | ownO _ _ gen2 _ _ _ _ a n c hL' hg'=>rw [hL] at hL'; cases hL'; omega
 | ownN _ _ sz2 els2 hL' hm'=>omega
 | own _ _ _ _ sz r o c els hL' hm ho hc hlc hle =>
 rw [hL] at hL'; cases hL'
 subst hn
 obtain ⟨_,hels,⟨hm',hnil⟩ | ⟨r',cur,T,hm',hh,hcap,hbig,hone,hrec⟩⟩:=hg.blk b _ hL
 ·rw [hm'] at hm; cases hm
 rw [hm] at hm'; cases hm'
 have ho0 : o = 0:=by rcases ho with h | h <;> omega
 subst ho0
 rw [iR_len,Nat.mul_one] at hbig
 have hcur : ∀ (j : Nat) (hj : j < l.length),cur[j]? = some (.int .i64 l[j]):=fun j hj=>by
  have hv : cur[j]? = some cur[j]:=Array.getElem?_eq_getElem (by omega)
  have hx : ((iR l)[j]?).bind (fun e=>e[0]?) = some (I l[j]):=by unfold iR; rw [List.getElem?_map,List.getElem?_eq_getElem hj]; rfl
  have hr:=hrec j 0 (I l[j]) cur[j] hx (by rw [show j * 1 + 0 = j by omega]; exact hv)
  rw [hv]
  generalize cur[j] = u at hr ⊢
  cases hr with | d _ _ hd=>cases hd; rfl
 have hH : Go.Sort.Holds (Value.int .i64) w r 0 l.toArray:=fun j hj=>by
  have hj' : j < l.length:=by simpa using hj
  refine ⟨?_,?_⟩
  ·rw [cell_row hh,Nat.zero_add,hcur j hj',getElem!_pos l.toArray j hj]; simp
  ·simp [World.frozen?,hh]
 have hD:=Any.slices_Delete_int Tryz.delA r 0 c i (i + 1) l w hH hlc.1 hlc.2 (by omega) (by omega)
 refine hD.mono ?_
 rintro e w' ⟨rfl,q,rfl⟩
 obtain ⟨ds,hds⟩ : ∃ ds,ds = l.take i ++ l.drop (i + 1) ++ List.replicate (i + 1 - i) 0:=⟨_,rfl⟩
 have hds' : l.take i ++ l.drop (i + 1) ++ [0] = ds:=by rw [hds,show i + 1 - i = 1 by omega]; rfl
 have hdl : ds.length = l.length:=by
  rw [← hds',List.length_append,List.length_append,List.length_take,List.length_drop]; simp; omega
 rw [← hds]
 rw [hds'] at h
 have hheap : ∀ p,(Go.Sort.putRow (Value.int .i64) (Go.Sort.ahead w q) r 0 ds.toArray).heap[p]? = if r = p then some (.cells (Go.Sort.putCells (Value.int .i64) 0 ds.toArray cur) T (0,0)) else w.heap[p]?:=fun p=>by
  show (w.heap.modify r _)[p]? = _
  rw [Array.getElem?_modify]
  split
  ·rename_i e; subst e; rw [hh]; rfl
  ·rfl
 have hsize : (Go.Sort.putRow (Value.int .i64) (Go.Sort.ahead w q) r 0 ds.toArray).heap.size = w.heap.size:=by
  show (w.heap.modify r _).size = _
  simp
 generalize hw' : Go.Sort.putRow (Value.int .i64) (Go.Sort.ahead w q) r 0 ds.toArray = w' at hheap hsize
 have henv : w'.tape = w.tape ∧ w'.os = w.os ∧ w'.output = w.output:=by rw [← hw']; exact ⟨rfl,rfl,rfl⟩
 have S : Step g w L b (.row gen 1 (iR ds)) g w':=by
  refine ⟨hg,⟨_,hL,by simp⟩,by rw [hL]; simp,henv,by omega,rfl,fun _ _=>rfl,fun _ _=>rfl,fun p o ho hne=>?_,fun r hr=>.inl hr,?_⟩
  ·rw [hheap,if_neg (fun e=>hne (by rw [← e]; exact hm))]; exact ho
  ·exact ⟨fun cs' e=>(by rw [hL] at e; cases e),fun gen1 sz1 els1 e=>(by rw [hL] at e; cases e; exact .inr ⟨_,_,_,List.getElem?_set_self hbl,.inr ⟨rfl,rfl,rfl,rfl,by rw [iR_len,iR_len,hdl]⟩⟩),fun es e=>(by rw [hL] at e; cases e),fun l e=>(by rw [hL] at e; cases e),fun e=>(by rw [hL] at e; cases e)⟩
 refine .inl ⟨_,.own b gen 0 (l.length - 1),_,g,rfl,h,?_,S.good' ⟨Nat.zero_lt_one,iR_ones ds,.inr ⟨r,_,T,hm,by rw [hheap,if_pos rfl],?_,?_,put_one hone,fun i' j x v hx hv=>?_⟩⟩,S.prog⟩
 ·rw [show i + 1 - i = 1 by omega]
  exact .own _ _ _ _ 1 r 0 c (iR ds) (List.getElem?_set_self hbl) hm (.inr rfl) hc ⟨by omega,hlc.2⟩ (by rw [iR_len,hdl]; omega)
 ·rw [put_size]; exact hcap
 ·rw [put_size,iR_len,hdl]; omega
 ·obtain ⟨rfl,hi',rfl⟩:=iR_get hx
  rw [show i' * 1 + 0 = i' by omega,put_get hi' (by omega)] at hv
  cases hv
  exact .d _ _ (.int _ _)
end Go.Proofs.YtndlggbljkhfbaaGreat
namespace Go.Proofs.YtndlggbljkhfbaaGreat
open Go.Tidy
variable {L : List Blk} {k : V → List Blk → Prop}
theorem shR_iR (n : Nat) : ∀ l : List Int,shR n (iR l) = iR l
 | []=>rfl
 | c :: l=>by simp only [iR,List.map_cons,shR,V.shL,V.sh]; exact congrArg _ (shR_iR n l)
theorem iclone_0 (l : List Int) (hl : l.length ≤ 4294967296) : CallP C 58 [.d (ints l)] [] fun X L'=>L' = [.row 1 1 (iR l)] ∧ X = .own 0 1 0 l.length:=by
 refine callP_of C_ok Tryz.func58 rfl rfl (n:=_) rfl (w18 rfl) (rs:=_) rfl ?_
 conv=>whnf
 refine NilP.intro (fun h0=>?_) ?_
 ·have hn : l = []:=List.eq_nil_of_length_eq_zero (by simpa using h0)
  subst hn
  repeat' ((conv=>whnf); first|refine w0 ?_|refine w1 ?_|refine w2 (fun h=>?_) (fun h=>?_)|refine w3 ?_|refine w4 (fun h=>?_) (fun h=>?_)|refine w5 _ rfl ?_|refine w6 rfl ?_|refine w7 mixed rfl ?_)
  conv=>whnf
  exact FinP.nilOwn (sz:=1) (gen:=1) (by decide) ⟨rfl,rfl⟩
 ·repeat' (conv => whnf
           first|refine w0 ?_|refine w1 ?_|refine w2 (fun h=>?_) (fun h=>?_)|refine w3 ?_|refine w4 (fun h=>?_) (fun h=>?_)|refine w5 _ rfl ?_|refine w6 rfl ?_|refine w7 mixed rfl ?_|refine w6 (lenC _) ?_|refine w6 (by first | omega | (simp; omega) | (refine w23 (m:=4294967296) ?_ (apLim_ge _); first | omega | (simp; omega))) ?_)
  conv=>whnf
  refine w15 (n:=1) (L':=[.row 1 1 (iR l)]) (congrArg (fun e=>[Blk.row 1 1 e]) ?_) (w18 rfl) rfl ?_ ⟨rfl,congrArg (V.own 0 1 0) ?_⟩
  ·simp [iR]
  ·show (belR 1 (iR l) && true) = true
   rw [iR_bel]; rfl
  ·simp
theorem iclone_c (l : List Int) (hl : l.length ≤ 4294967296) (h : k (.own L.length 1 0 l.length) (L ++ [.row 1 1 (iR l)])) : CallP C 58 [.d (ints l)] L k:=by
 refine (iclone_0 l hl).frame rfl fun X L' h'=>?_
 obtain ⟨rfl,rfl⟩:=h'
 simpa [V.sh,shB,Blk.sh,shR_iR] using h
def delAt (x : List Int) (i : Nat) : List Int:=x.take i ++ x.drop (i + 1)
theorem delAt_len {x : List Int} {i : Nat} (h : i < x.length) : (delAt x i).length = x.length - 1:=by
 unfold delAt; rw [List.length_append,List.length_take,List.length_drop]; omega
def leastGo (p : Pl) (bud : Int) : Nat → List Int → List Int × Int
 | 0,x=>(x,0)
 | i + 1,x=>if (planF (keepX p (delAt x i)) bud).e = 0 then leastGo p bud i x else if (planF (keepX p (delAt x i)) bud).e = 320 then leastGo p bud i (delAt x i) else ([],(planF (keepX p (delAt x i)) bud).e)
def allN (n : Nat) : List Int:=(List.range n).map fun (i : Nat)=>(i : Int)
def leastF (p : Pl) (bud : Int) : List Int × Int:=if (planF p bud).e = 0 then ([],300) else if (planF p bud).e = 320 then leastGo p bud p.demands.length (allN p.demands.length) else ([],(planF p bud).e)
theorem allN_len (n : Nat) : (allN n).length = n:=by unfold allN; simp
theorem allN_next (n : Nat) : allN (n + 1) = allN n ++ [(n : Int)]:=by unfold allN; rw [List.range_succ,List.map_append]; rfl
theorem small_keep {p : Pl} {w : List Int} (hs : Small [] p) (hw : w.length ≤ 4294967296) : Small [] (keepX p w):=by
 unfold keepX
 split
 ·refine ⟨hs.hl,hs.hr,hs.hc,fun d hd=>?_,by unfold keepP; simpa using hw⟩
  obtain ⟨i,_,rfl⟩:=List.mem_map.1 hd
  unfold getD
  cases hq : p.demands[i.toNat]? with
  | none=>simp [d0M]
  | some d=>exact hs.hd d (List.mem_of_getElem? hq)
 ·exact ⟨hs.hl,hs.hr,by simp,by simp,by simp⟩
theorem iR_snoc (l : List Int) (n : Int) : (iR l).take l.length ++ [[I n]] = iR (l ++ [n]):=by
 unfold iR; rw [List.take_of_length_le (by simp),List.map_append]; rfl
theorem bc_same {n : Nat} {L0 L1 S : List Blk} (hS : S.length = n) (hb : belB n S = true) (hL : L1.take n = S) {b : Nat} {x y : Blk} (hx : L1[b]? = some x) (hy : S[b]? = some y) : BC n L0 x y:=by
 have hlt:=lt_of_get hy
 rw [← hL,List.getElem?_take,if_pos (by omega),hx] at hy
 cases hy
 refine .inl ⟨rfl,belB_get hb (i:=b) ?_⟩
 rw [← hL,List.getElem?_take,if_pos (by omega),hx]
theorem least_c (p : Pl) (bud : Int) (hs0 : Small [] p) (hD : p.demands.length ≤ 1073741823) (h : k (.tup [.d (ints (leastF p bud).1),I (leastF p bud).2]) L) : CallP C 19 [plV p,I bud] L k:=by
 obtain ⟨R,hR⟩ : ∃ R,leastF p bud = R:=⟨_,rfl⟩
 rw [hR] at h
 refine CallP.pure ?_ rfl (fun _=>rfl) h
 clear h
 refine callP_cut (fun c=>match c with | .region 15 _ _=>true | _=>false) C_ok Tryz.func19 rfl rfl (n:=_) rfl (w18 rfl) (rs:=_) rfl ?_
 by_cases e0 : (planF p bud).e = 0
 ·have hR' : R = ([],300):=by rw [← hR]; unfold leastF; rw [if_pos e0]
  subst hR'
  repeat' ((conv=>whnf); first|refine plan_c p bud hs0 ?_|refine w8 (w19 e0) ?_|refine w0 ?_|refine w1 ?_|refine w2 (fun h=>?_) (fun h=>?_)|refine w3 ?_|refine w4 (fun h=>?_) (fun h=>?_)|refine w5 _ rfl ?_|refine w6 rfl ?_|refine w7 mixed rfl ?_)
  conv=>whnf
  exact FinP.data (L':=[]) (.pair (.d .nil) (.d (.d _))) rfl rfl ⟨rfl,rfl⟩
 by_cases e1 : (planF p bud).e = 320
 ·have hR' : leastGo p bud p.demands.length (allN p.demands.length) = R:=by rw [← hR]; unfold leastF; rw [if_neg e0,if_pos e1]
  repeat' ((conv=>whnf); first|refine plan_c p bud hs0 ?_|refine w9 (w20 e0) ?_|refine w8 (w19 e1) ?_|refine w0 ?_|refine w1 ?_|refine w2 (fun h=>?_) (fun h=>?_)|refine w3 ?_|refine w4 (fun h=>?_) (fun h=>?_)|refine w5 _ rfl ?_|refine w6 rfl ?_|refine w7 mixed rfl ?_)
  conv=>whnf
  refine LoopP.inv (fun i=>i ≤ p.demands.length) (fun i=>⟨[(1,I bud),(2,.ptr 0 0),(4,.own 1 i 0 (allN i).length),(29,I p.demands.length),(30,I i)],Tryz.f19.ntmps,[.cells (p.cells.map .d),.row i 1 (iR (allN i))],[],none⟩) (fun i=>p.demands.length - i) 0 (w22 _) ?_ ?_
  ·exact (Weak.nilOwn 4 1 rfl (by decide)).trans (Weak.by ⟨rfl,rfl,rfl,congrArg (fun n : Nat=>I n) (List.length_map ..),rfl,trivial⟩)
  intro i hi
  by_cases hi' : i < p.demands.length
  ·have hlt : (i : Int) < (p.demands.length : Int):=by omega
   have hw : IntKind.i64.wrap ((i : Int) + 1) = ((i + 1 : Nat) : Int):=by rw [wrap_in (by omega)]; omega
   have hal:=allN_len i
   have hnx:=allN_next i
   generalize allN i = x at hal hnx
   repeat' ((conv=>whnf); first|simp only [Nat.beq_refl,Bool.and_self]|refine Br.yes (decide_eq_true hlt) ?_|refine Need.intro (Nat.le_trans (m:=4294967296) (show x.length + 1 ≤ 4294967296 by omega) (apLim_ge _)) ?_|refine Br.tt ?_|refine Br.ff ?_|refine Br.dec (fun h=>?_) (fun h=>?_)|refine Br.not ?_|refine Br.intro (fun h=>?_) (fun h=>?_)|refine GetE.intro _ rfl ?_|refine Need.intro rfl ?_|refine DrawP.go mixed rfl ?_)
   conv=>whnf
   refine ⟨i + 1,hi',by omega,Weak.to 2 ?_ (w22 _) (w18 rfl) ⟨rfl,rfl,?_,rfl,congrArg I hw,trivial⟩ (hB:=?_)⟩
   ·exact congrArg (fun z=>[Blk.cells (p.cells.map .d),.row (i + 1) 1 z]) ((iR_snoc x _).trans (by rw [hnx]))
   ·exact congrArg (fun n : Nat=>V.own 1 (i + 1) 0 n) (by rw [hnx,List.length_append]; rfl)
   ·show (V.belL 2 (p.cells.map .d) && (belR 2 (iR _) && true)) = true
    rw [V.belL_d,iR_bel]; rfl
  ·have hlt : ¬ (i : Int) < (p.demands.length : Int):=by omega
   have hie : i = p.demands.length:=by omega
   subst hie
   have hal:=allN_len p.demands.length
   have hw0 : IntKind.i64.wrap (((allN p.demands.length).length : Int) - 1) = (p.demands.length : Int) - 1:=by rw [hal,wrap_in (by omega)]
   repeat' ((conv=>whnf); first|simp only [Nat.beq_refl,Bool.and_self]|refine Br.no (decide_eq_false hlt) ?_|refine Br.tt ?_|refine Br.ff ?_|refine Br.dec (fun h=>?_) (fun h=>?_)|refine Br.not ?_|refine Br.intro (fun h=>?_) (fun h=>?_)|refine GetE.intro _ rfl ?_|refine Need.intro rfl ?_|refine DrawP.go mixed rfl ?_)
   conv=>whnf
   refine LoopP.inv (fun q : Nat × List Int=>leastGo p bud q.1 q.2 = R ∧ q.1 ≤ q.2.length ∧ q.2.length ≤ p.demands.length) (fun q=>⟨[(1,I bud),(2,.ptr 0 0),(4,.d (ints q.2)),(7,I ((q.1 : Int) - 1))],Tryz.f19.ntmps,[.cells (p.cells.map .d)],[],none⟩) (fun q=>q.1) (p.demands.length,allN p.demands.length) ⟨hR',by rw [hal]; exact Nat.le_refl _,by rw [hal]; exact Nat.le_refl _⟩ ?_ ?_
   ·refine Weak.thaw 1 (Nat.zero_le _) (Nat.le_of_ble_eq_true rfl) rfl ⟨.inl ⟨rfl,rfl⟩,.inl ⟨rfl,rfl⟩,.inr (.d (.rowL (ds:=(allN p.demands.length).map fun n=>[DI n]) (Nat.le_refl 1) rfl (iR_cv _) (by rw [List.length_map]) (lenC _))),.inl ⟨congrArg I hw0,rfl⟩,trivial⟩ (fun b x y hx hy=>bc_same rfl ?_ rfl hx hy)
    show (V.belL 1 (p.cells.map .d) && true) = true
    rw [V.belL_d]; rfl
   rintro ⟨i,x⟩ ⟨hx1,hx2,hx3⟩
   simp only at hx1 hx2 hx3
   cases i with
   | zero =>
    have hlt : ¬ (0 : Int) ≤ ((0 : Nat) : Int) - 1:=by omega
    repeat' ((conv=>whnf); first|refine w9 (w20 hlt) ?_|refine w0 ?_|refine w1 ?_|refine w2 (fun h=>?_) (fun h=>?_)|refine w3 ?_|refine w4 (fun h=>?_) (fun h=>?_)|refine w5 _ rfl ?_|refine w6 rfl ?_|refine w7 mixed rfl ?_)
    conv=>whnf
    refine w16 (L':=[]) (.pair (.d (.d _)) (.d (.d _))) rfl rfl ⟨rfl,?_⟩
    rw [← hx1]; rfl
   | succ i =>
    have hlt : (0 : Int) ≤ ((i + 1 : Nat) : Int) - 1:=by omega
    have hi1 : ((i + 1 : Nat) : Int) - 1 = (i : Int):=by omega
    have hw : IntKind.i64.wrap ((i : Int) + 1) = ((i + 1 : Nat) : Int):=by rw [wrap_in (by omega)]; omega
    have hw2 : IntKind.i64.wrap ((i : Int) - 1) = (i : Int) - 1:=wrap_in (by omega)
    have hdl:=delAt_len (x:=x) (i:=i) (by omega)
    have hsk : Small [] (keepX p (delAt x i)):=small_keep hs0 (by omega)
    rw [hi1]
    have hlt' : (0 : Int) ≤ (i : Int):=by omega
    repeat' ((conv=>whnf); first|refine w8 (w19 hlt') ?_|refine w0 ?_|refine w1 ?_|refine w2 (fun h=>?_) (fun h=>?_)|refine w3 ?_|refine w4 (fun h=>?_) (fun h=>?_)|refine w5 _ rfl ?_|refine w6 rfl ?_|refine w7 mixed rfl ?_)
    conv=>whnf
    refine CutP.intro (ι:=Unit) (fun _=>⟨[(1,I bud),(2,.ptr 0 0),(4,.d (ints x)),(7,I i),(8,.d (ints (delAt x i)))],Tryz.f19.ntmps,[.cells (p.cells.map .d)],[],none⟩) ?_ (fun _=>?_)
    ·repeat' (conv => whnf
              first|refine iclone_c x (by omega) ?_|refine w0 ?_|refine w1 ?_|refine w2 (fun h=>?_) (fun h=>?_)|refine w3 ?_|refine w4 (fun h=>?_) (fun h=>?_)|refine w5 _ rfl ?_|refine w6 rfl ?_|refine w7 mixed rfl ?_)
     conv=>whnf
     refine CallP.cnv (args':=[.own 1 1 0 x.length,I i,I (i + 1 : Nat)]) (L':=[.cells (p.cells.map .d),.row 1 1 (iR x)]) (by rw [← hw]; rfl) rfl ?_
     refine delete_c rfl (by omega) (by omega) ?_
     repeat' ((conv=>whnf); first|refine w0 ?_|refine w1 ?_|refine w2 (fun h=>?_) (fun h=>?_)|refine w3 ?_|refine w4 (fun h=>?_) (fun h=>?_)|refine w5 _ rfl ?_|refine w6 rfl ?_|refine w7 mixed rfl ?_)
     conv=>whnf
     refine ⟨(),Weak.thaw 1 (w22 _) (w18 rfl) rfl ⟨.inl ⟨rfl,rfl⟩,.inl ⟨rfl,rfl⟩,.inl ⟨rfl,rfl⟩,.inl ⟨rfl,rfl⟩,.inr (.d (.rowL (ds:=(delAt x i).map fun n=>[DI n]) (w21 1) rfl (CvLL.cong ?_ (iR_rows _)) (by rw [List.length_map,hdl]) (lenC _))),trivial⟩ (fun b x y hx hy=>bc_same rfl ?_ rfl hx hy)⟩
     ·show ((iR (delAt x i ++ [0])).drop 0).take (x.length - 1) = _
      unfold iR
      rw [List.drop_zero,List.map_append,List.take_append_of_le_length (by rw [List.length_map]; omega),List.take_of_length_le (by rw [List.length_map]; omega)]
     ·show (V.belL 1 (p.cells.map .d) && true) = true
      rw [V.belL_d]; rfl
    by_cases f0 : (planF (keepX p (delAt x i)) bud).e = 0
    ·repeat' (conv => whnf
              first|refine keep_c p (delAt x i) hs0.hc hs0.hd (by omega) (by omega) ?_|refine plan_c (keepX p (delAt x i)) bud hsk ?_|refine w8 (w19 f0) ?_|refine w0 ?_|refine w1 ?_|refine w2 (fun h=>?_) (fun h=>?_)|refine w3 ?_|refine w4 (fun h=>?_) (fun h=>?_)|refine w5 _ rfl ?_|refine w6 rfl ?_|refine w7 mixed rfl ?_)
     conv=>whnf
     refine ⟨(i,x),⟨by rw [← hx1]; simp only [leastGo]; rw [if_pos f0],by simp only; omega,by simp only; omega⟩,by simp only; omega,Weak.to 1 rfl (w22 _) (w18 rfl) ⟨rfl,rfl,rfl,congrArg I hw2,trivial⟩ (hB:=?_)⟩
     show (V.belL 1 (p.cells.map .d) && true) = true
     rw [V.belL_d]; rfl
    by_cases f1 : (planF (keepX p (delAt x i)) bud).e = 320
    ·repeat' (conv => whnf
              first|refine keep_c p (delAt x i) hs0.hc hs0.hd (by omega) (by omega) ?_|refine plan_c (keepX p (delAt x i)) bud hsk ?_|refine w9 (w20 f0) ?_|refine w8 (w19 f1) ?_|refine w0 ?_|refine w1 ?_|refine w2 (fun h=>?_) (fun h=>?_)|refine w3 ?_|refine w4 (fun h=>?_) (fun h=>?_)|refine w5 _ rfl ?_|refine w6 rfl ?_|refine w7 mixed rfl ?_)
     conv=>whnf
     refine ⟨(i,delAt x i),⟨by rw [← hx1]; simp only [leastGo]; rw [if_neg f0,if_pos f1],by simp only; omega,by simp only; omega⟩,by simp only; omega,Weak.to 1 rfl (w22 _) (w18 rfl) ⟨rfl,rfl,rfl,congrArg I hw2,trivial⟩ (hB:=?_)⟩
     show (V.belL 1 (p.cells.map .d) && true) = true
     rw [V.belL_d]; rfl
    ·repeat' (conv => whnf
              first|refine keep_c p (delAt x i) hs0.hc hs0.hd (by omega) (by omega) ?_|refine plan_c (keepX p (delAt x i)) bud hsk ?_|refine w9 (w20 f0) ?_|refine w9 (w20 f1) ?_|refine w0 ?_|refine w1 ?_|refine w2 (fun h=>?_) (fun h=>?_)|refine w3 ?_|refine w4 (fun h=>?_) (fun h=>?_)|refine w5 _ rfl ?_|refine w6 rfl ?_|refine w7 mixed rfl ?_)
     conv=>whnf
     refine w16 (L':=[]) (.pair (.d .nil) (.d (.d _))) rfl rfl ⟨rfl,?_⟩
     rw [← hx1]; simp only [leastGo]; rw [if_neg f0,if_neg f1]; rfl
 ·have hR' : R = ([],(planF p bud).e):=by rw [← hR]; unfold leastF; rw [if_neg e0,if_neg e1]
  subst hR'
  repeat' ((conv=>whnf); first|refine plan_c p bud hs0 ?_|refine w9 (w20 e0) ?_|refine w9 (w20 e1) ?_|refine w0 ?_|refine w1 ?_|refine w2 (fun h=>?_) (fun h=>?_)|refine w3 ?_|refine w4 (fun h=>?_) (fun h=>?_)|refine w5 _ rfl ?_|refine w6 rfl ?_|refine w7 mixed rfl ?_)
  conv=>whnf
  exact FinP.data (L':=[]) (.pair (.d .nil) (.d (.d _))) rfl rfl ⟨rfl,rfl⟩
end Go.Proofs.YtndlggbljkhfbaaGreat
namespace Go.Proofs.YtndlggbljkhfbaaGreat
open Go.Tidy
variable {L : List Blk} {k : V → List Blk → Prop}
theorem dmA_pos {x : Lst} {p : Pl} (h0 : checkP p = 0) (hP : PartP x p) (h : 0 ≤ dmA x p) : ∃ (a : Nat) (ha : a < p.demands.length),dmA x p = (a : Int) ∧ doomsF (pR x p) p.demands[a] = true:=by
 unfold dmA at h ⊢
 rw [if_pos ⟨h0,hP⟩] at h ⊢
 cases hd : doomL (pR x p) p with
 | nil=>rw [hd] at h; simp at h
 | cons y r =>
  have hm : y ∈ doomL (pR x p) p:=by rw [hd]; simp
  obtain ⟨a,ha,e,hx⟩:=doomL_mem.1 hm
  exact ⟨a,ha,e,hx⟩
theorem chE_part {l : Lst} {p : Pl} (h0 : checkP p = 0) (hP : PartP l p) : ∀ m ∈ chE l p,PartP (extL l p m) p:=fun m hm=>by
 unfold chE at hm; rw [if_pos (dmE_of h0 hP)] at hm; exact ch_mem h0 hP hm
mutual
theorem brs_us (p : Pl) (bud : Nat) (h0 : checkP p = 0) : ∀ (n : Nat) (l : Lst) (sp : Nat) (us : List Int),PartP l p → us.length ≤ sp → us.Nodup → ∀ sp' us' t',brs p bud n l sp us = .go sp' us' t' → us'.length ≤ sp' ∧ us'.Nodup ∧ ∀ u ∈ us',u ∈ us ∨ (0 ≤ u ∧ u < (p.demands.length : Int))
 | 0,l,sp,us,hP,hs,hn,sp',us',t',h=>by cases h; exact ⟨hs,hn,fun u hu=>.inl hu⟩
 | n + 1,l,sp,us,hP,hs,hn,sp',us',t',h=>brLoop_us p bud h0 n l (chE l p) sp us [] (chE_part h0 hP) hs hn sp' us' t' h
theorem brLoop_us (p : Pl) (bud : Nat) (h0 : checkP p = 0) (n : Nat) (l : Lst) : ∀ (ms : List Mt) (sp : Nat) (us : List Int) (t : List Brc),(∀ m ∈ ms,PartP (extL l p m) p) → us.length ≤ sp → us.Nodup → ∀ sp' us' t',brLoop (brs p bud n) l p bud ms sp us t = .go sp' us' t' → us'.length ≤ sp' ∧ us'.Nodup ∧ ∀ u ∈ us',u ∈ us ∨ (0 ≤ u ∧ u < (p.demands.length : Int))
 | [],sp,us,t,hm,hs,hn,sp',us',t',h=>by cases h; exact ⟨hs,hn,fun u hu=>.inl hu⟩
 | m :: ms,sp,us,t,hm,hs,hn,sp',us',t',h=>by
  have hPx:=hm m (by simp)
  have hm' : ∀ m ∈ ms,PartP (extL l p m) p:=fun m h=>hm m (by simp [h])
  simp only [brLoop] at h
  split at h
  ·cases h
  ·split at h
   ·rename_i hd
    obtain ⟨a,ha,e,_⟩:=dmA_pos h0 hPx hd
    split at h
    ·obtain ⟨h1,h2,h3⟩:=brLoop_us p bud h0 n l ms (sp + 1) us _ hm' (by omega) hn _ _ _ h
     exact ⟨h1,h2,h3⟩
    ·rename_i hni
     obtain ⟨h1,h2,h3⟩:=brLoop_us p bud h0 n l ms (sp + 1) (us ++ [dmA (extL l p m) p]) _ hm' (by rw [List.length_append]; simp only [List.length_singleton]; omega)
      (List.nodup_append.2 ⟨hn,by simp,fun u hu v hv=>by rw [List.mem_singleton.1 hv]; rintro rfl; exact hni hu⟩) _ _ _ h
     refine ⟨h1,h2,fun u hu=>?_⟩
     rcases h3 u hu with h4 | h4
     ·rcases List.mem_append.1 h4 with h5 | h5
      ·exact .inl h5
      ·rw [List.mem_singleton.1 h5]; exact .inr (by omega)
     ·exact .inr h4
   ·split at h
    ·cases h
    ·split at h
     ·rename_i sp2 us2 t2 h2
      obtain ⟨k1,k2,k3⟩:=brs_us p bud h0 n _ (sp + 1) us hPx (by omega) hn _ _ _ h2
      obtain ⟨h1,h2,h3⟩:=brLoop_us p bud h0 n l ms sp2 us2 _ hm' k1 k2 _ _ _ h
      refine ⟨h1,h2,fun u hu=>?_⟩
      rcases h3 u hu with h4 | h4
      ·exact k3 u h4
      ·exact .inr h4
     ·cases h
end
def proveO (p : Pl) (bud : Int) : Bs:=brs p bud.toNat (fuelN p) [] 0 []
def proveU (p : Pl) (bud : Int) : List Int:=if argE p bud = 0 then (match proveO p bud with | .go _ us _=>sortI us | .stop _=>[]) else []
def proveT (p : Pl) (bud : Int) : List Brc:=if argE p bud = 0 then (match proveO p bud with | .go _ _ t=>t | .stop _=>[]) else []
def proveE (p : Pl) (bud : Int) : Int:=if argE p bud = 0 then (match proveO p bud with | .go _ _ _=>0 | .stop e=>e) else argE p bud
def refV (us : List Int) (t : List Brc) : V:=.agg [.d (ints us),.d (.sl (brcs t))]
theorem wf_of {u : Int} (h1 : -9223372036854775808 ≤ u) (h2 : u ≤ 9223372036854775807) : (Lit.int .i64 u).wf = true:=by
 simp only [Lit.wf,Bool.and_eq_true,decide_eq_true_eq]; exact ⟨h1,h2⟩
theorem prove_c (p : Pl) (bud : Int) (hs0 : Small [] p) (h : k (.tup [refV (proveU p bud) (proveT p bud),I (proveE p bud)]) L) : CallP C 14 [plV p,I bud] L k:=by
 have hD:=hs0.hD
 have kA : ∀ L,killAll [] L = L:=fun _=>rfl
 refine CallP.pure ?_ rfl (fun _=>rfl) h
 clear h
 by_cases hA : argE p bud = 0
 ·obtain ⟨h0,hm1,hm2⟩:=argE_zero hA
  obtain ⟨n,rfl⟩ : ∃ n : Nat,bud = (n : Int):=⟨bud.toNat,by omega⟩
  have hn1 : ¬ (n : Int) < 0:=by omega
  have hn2 : ¬ (1073741824 : Int) < (n : Int):=by omega
  refine callP_defer C_ok (fun _=>false) 4 (fun X L1=>∃ e,proveO p n = .stop e ∧ X = .d (errD e) ∧ L1 = pre4 p n) Tryz.func14 rfl rfl (n:=_) rfl (w18 rfl) (rs:=_) rfl ?_
  repeat' ((conv=>whnf); first|refine check_c p hs0.hc hs0.hd (by omega) ?_|refine w3 ?_|refine w8 (w19 h0) ?_|refine w9 (w20 hn1) ?_|refine w9 (w20 hn2) ?_|refine w0 ?_|refine w1 ?_|refine w2 (fun h=>?_) (fun h=>?_)|refine w3 ?_|refine w4 (fun h=>?_) (fun h=>?_)|refine w5 _ rfl ?_|refine w6 rfl ?_|refine w7 mixed rfl ?_)
  conv=>whnf
  refine DefR.intro (w21 _) (w22 _) rfl rfl ?_ ?_
  ·rintro X L1 ⟨e,hst,rfl,rfl⟩
   refine DefP.cnv (caps':=[.ptr 2 0,.ptr 3 0]) rfl ?_
   refine prove1_p _ _ _ _ e 0 rfl ?_
   repeat' ((conv=>whnf); first|refine w0 ?_|refine w1 ?_|refine w2 (fun h=>?_) (fun h=>?_)|refine w3 ?_|refine w4 (fun h=>?_) (fun h=>?_)|refine w5 _ rfl ?_|refine w6 rfl ?_|refine w7 mixed rfl ?_|simp only [kA])
   conv=>whnf
   refine w16 (L':=[]) (.pair (.aggL (.cons .nil (.cons .nil .nil))) (.d (.d _))) rfl rfl ⟨rfl,?_⟩
   have e1 : proveU p n = []:=by unfold proveU; rw [if_pos hA,hst]
   have e2 : proveT p n = []:=by unfold proveT; rw [if_pos hA,hst]
   have e3 : proveE p n = e:=by unfold proveE; rw [if_pos hA,hst]
   rw [e1,e2,e3]; rfl
  ·repeat' (conv => whnf
            first|refine w0 ?_|refine w1 ?_|refine w2 (fun h=>?_) (fun h=>?_)|refine w3 ?_|refine w4 (fun h=>?_) (fun h=>?_)|refine w5 _ rfl ?_|refine w6 rfl ?_|refine w7 mixed rfl ?_|refine w6 (w18 rfl) ?_)
   conv=>whnf
   refine CallP.cnv (args':=.agg [.nil] :: capR) (L':=preR p n [] 0) rfl rfl ?_
   refine CallP.freezeP (args:=.agg [.nil] :: capR) (dargs:=lisV [] :: capR) [] rfl rfl (.cv (.aggL (.cons .nil .nil)) (.keep (.keep (.keep (.keep (.keep .nil)))))) ?_
   refine (branches_c p n h0 hs0 (by omega) _ (fuelN p) [] 0 [] (part_nil p) (by unfold fuelN; simp) (w22 _) (fun e he=>⟨e,he,rfl,rfl⟩)).mono ?_
   rintro X L' ⟨sp',us',t,hgo,rfl,rfl⟩
   obtain ⟨hk1,hk2,hk3⟩:=brs_keep p n (fuelN p) [] 0 [] (w22 _) _ _ _ hgo
   obtain ⟨hu1,hu2,hu3⟩:=brs_us p n h0 (fuelN p) [] 0 [] (part_nil p) (w21 _) List.nodup_nil _ _ _ hgo
   have hgo' : proveO p n = .go sp' us' t:=hgo
   have hr : ∀ u ∈ us',(Lit.int .i64 u).wf = true:=fun u hu=>by
    rcases hu3 u hu with h | h
    ·cases h
    ·exact wf_of (by omega) (by omega)
   have hul : us'.length ≤ 1073741824:=by omega
   repeat' ((conv=>whnf); first|refine w0 ?_|refine w1 ?_|refine w2 (fun h=>?_) (fun h=>?_)|refine w3 ?_|refine w4 (fun h=>?_) (fun h=>?_)|refine w5 _ rfl ?_|refine w6 rfl ?_|refine w7 mixed rfl ?_|refine w6 (w18 rfl) ?_|refine w14 (keys_c 4 ?_)|refine w14 (sortedKeys_c (b:=4) (bx:=8) (us:=us') rfl rfl hr hul ?_))
   conv=>whnf
   refine DefP.cnv (caps':=[.ptr 2 0,.ptr 3 0]) rfl ?_
   refine prove1_n _ ?_ ?_
   ·show (V.belL _ (p.cells.map .d) && (true && (true && (true && (belM _ (boolM (intK us')) && true))))) = true
    rw [V.belL_d,intM_bel]; rfl
   repeat' ((conv=>whnf); first|refine w0 ?_|refine w1 ?_|refine w2 (fun h=>?_) (fun h=>?_)|refine w3 ?_|refine w4 (fun h=>?_) (fun h=>?_)|refine w5 _ rfl ?_|refine w6 rfl ?_|refine w7 mixed rfl ?_|simp only [kA])
   conv=>whnf
   refine w16 (L':=[]) (.pair (.aggL (.cons (.d _) (.cons (.d _) .nil))) (.d (.d _))) rfl rfl ⟨rfl,?_⟩
   have e1 : proveU p n = sortI us':=by unfold proveU; rw [if_pos hA,hgo']
   have e2 : proveT p n = t:=by unfold proveT; rw [if_pos hA,hgo']
   have e3 : proveE p n = 0:=by unfold proveE; rw [if_pos hA,hgo']
   rw [e1,e2,e3]; rfl
 ·have e1 : proveU p bud = []:=by unfold proveU; rw [if_neg hA]
  have e2 : proveT p bud = []:=by unfold proveT; rw [if_neg hA]
  have e3 : proveE p bud = argE p bud:=by unfold proveE; rw [if_neg hA]
  rw [e1,e2,e3]
  have fin : ∀ e : Int,e = argE p bud → (fun (X : V) (L : List Blk)=>L = [] ∧ X = .tup [refV [] [],I (argE p bud)]) (.tup [refV [] [],I e]) []:=fun e he=>⟨rfl,by rw [he]⟩
  refine callP_defer C_ok (fun _=>false) 4 (fun X L1=>False) Tryz.func14 rfl rfl (n:=_) rfl (w18 rfl) (rs:=_) rfl ?_
  by_cases h0 : checkP p = 0
  ·have hb : bud < 0 ∨ 1073741824 < bud:=by
    unfold argE at hA; rw [if_pos h0] at hA
    by_cases h : bud < 0 ∨ 1073741824 < bud
    ·exact h
    ·rw [if_neg h] at hA; exact absurd rfl hA
   have ha : (1 : Int) = argE p bud:=by unfold argE; rw [if_pos h0,if_pos hb]
   repeat' ((conv=>whnf); first|refine check_c p hs0.hc hs0.hd (by omega) ?_|refine w3 ?_|refine w8 (w19 h0) ?_|refine w0 ?_|refine w1 ?_|refine w2 (fun h=>?_) (fun h=>?_)|refine w3 ?_|refine w4 (fun h=>?_) (fun h=>?_)|refine w5 _ rfl ?_|refine w6 rfl ?_|refine w7 mixed rfl ?_)
   all_goals conv=>whnf
   all_goals first
    | exact FinP.data (L':=[]) (.pair (.aggL (.cons .nil (.cons .nil .nil))) (.d (.d _))) rfl rfl (fin 1 ha)
    | (exfalso; omega)
  ·have ha : checkP p = argE p bud:=by unfold argE; rw [if_neg h0]
   repeat' ((conv=>whnf); first|refine check_c p hs0.hc hs0.hd (by omega) ?_|refine w3 ?_|refine w9 (w20 h0) ?_|refine w0 ?_|refine w1 ?_|refine w2 (fun h=>?_) (fun h=>?_)|refine w3 ?_|refine w4 (fun h=>?_) (fun h=>?_)|refine w5 _ rfl ?_|refine w6 rfl ?_|refine w7 mixed rfl ?_)
   conv=>whnf
   exact FinP.data (L':=[]) (.pair (.aggL (.cons .nil (.cons .nil .nil))) (.d (.d _))) rfl rfl (fin _ ha)
end Go.Proofs.YtndlggbljkhfbaaGreat
namespace Go.Proofs.YtndlggbljkhfbaaGreat
open Go.Tidy
variable {L : List Blk} {k : V → List Blk → Prop}
structure RbS where
 i : Nat
 sp : Nat
 us : List Int
 t : List Brc
 code : Int
end Go.Proofs.YtndlggbljkhfbaaGreat
namespace Go.Proofs.YtndlggbljkhfbaaGreat
open Go.Tidy
variable {L : List Blk} {k : V → List Blk → Prop}
mutual
def Brc.size : Brc → Nat
 | .mk _ _ _ t=>1 + brSize t
def brSize : List Brc → Nat
 | []=>0
 | x :: t=>x.size + brSize t
end
def Brc.m : Brc → Mt | .mk m _ _ _=>m
def Brc.r : Brc → Int | .mk _ r _ _=>r
def Brc.b : Brc → Int | .mk _ _ b _=>b
def Brc.t : Brc → List Brc | .mk _ _ _ t=>t
theorem Brc.cells_eq (x : Brc) : x.cells = [DI x.m.home,DI x.m.away,DI x.r,DI x.b,.sl (brcs x.t)]:=by cases x; rfl
theorem brcs_at {t : List Brc} {i : Nat} (hi : i < t.length) : (brcs t)[i]? = some [DI t[i].m.home,DI t[i].m.away,DI t[i].r,DI t[i].b,.sl (brcs t[i].t)]:=by
 rw [brcs_map,List.getElem?_map,List.getElem?_eq_getElem hi,Option.map_some,Brc.cells_eq]
end Go.Proofs.YtndlggbljkhfbaaGreat
namespace Go.Proofs.YtndlggbljkhfbaaGreat
open Go.Tidy
variable {L : List Blk} {k : V → List Blk → Prop}
theorem ind_pair {n : Nat} {w : List Int} (h : IndP n w) : w.Pairwise (· < ·):=by
 rw [List.pairwise_iff_getElem]
 intro i j hi hj hij
 have key : ∀ (d i : Nat) (hi : i < w.length) (hj : i + d + 1 < w.length),w[i] < w[i + d + 1]:=by
  intro d
  induction d with
  | zero=>intro i hi hj; exact (h (i + 1) hj).2 (by omega)
  | succ d ih =>
   intro i hi hj
   have h1:=ih i hi (by omega)
   have h2:=(h (i + d + 1 + 1) hj).2 (by omega)
   simp only [Nat.add_sub_cancel] at h2
   have : i + (d + 1) + 1 = i + d + 1 + 1:=by omega
   simp only [this]; omega
 have:=key (j - i - 1) i hi (by omega)
 have e : i + (j - i - 1) + 1 = j:=by omega
 simp only [e] at this; exact this
def dmB (x : Lst) (p : Pl) (u : Int) : Bool:=decide (0 ≤ dmA x (keepX p [u]))
def okBr (f : Lst → List Brc → Bool) (l : Lst) (p : Pl) (us : List Int) (m : Mt) (b : Brc) : Bool :=
 decide (b.m = m) && decide (b.r = (atN l p : Int)) && (if b.b = -1 then (!fullC (extL l p m) p && f (extL l p m) b.t) else (decide (b.b ∈ us) && b.t.isEmpty && dmB (extL l p m) p b.b))
def chk (p : Pl) (us : List Int) : Nat → Lst → List Brc → Bool
 | 0,_,_=>false
 | n + 1,l,t=>decide ((chE l p).length = t.length) && ((chE l p).zip t).all fun q=>okBr (chk p us n) l p us q.1 q.2
theorem chk_no {p : Pl} {us : List Int} {n : Nat} {l : Lst} {t : List Brc} {i : Nat} (h1 : i < (chE l p).length) (h2 : i < t.length) (h : okBr (chk p us n) l p us (chE l p)[i] t[i] = false) : chk p us (n + 1) l t = false:=by
 unfold chk
 rw [Bool.and_eq_false_iff]
 refine .inr (List.all_eq_false.2 ⟨((chE l p)[i],t[i]),?_,by rw [h]; decide⟩)
 have : ((chE l p).zip t)[i]? = some ((chE l p)[i],t[i]):=by
  rw [List.getElem?_zip_eq_some]
  exact ⟨List.getElem?_eq_getElem h1,List.getElem?_eq_getElem h2⟩
 exact List.mem_of_getElem? this
theorem chk_len {p : Pl} {us : List Int} {n : Nat} {l : Lst} {t : List Brc} (h : ¬ (chE l p).length = t.length) : chk p us (n + 1) l t = false:=by
 unfold chk; rw [decide_eq_false h]; rfl
theorem chk_yes {p : Pl} {us : List Int} {n : Nat} {l : Lst} {t : List Brc} (h : (chE l p).length = t.length) (hi : ∀ (i : Nat) (h1 : i < (chE l p).length) (h2 : i < t.length),okBr (chk p us n) l p us (chE l p)[i] t[i] = true) : chk p us (n + 1) l t = true:=by
 unfold chk
 rw [decide_eq_true h,Bool.true_and]
 refine List.all_eq_true.2 fun q hq=>?_
 obtain ⟨i,hiq⟩:=List.mem_iff_getElem?.1 hq
 rw [List.getElem?_zip_eq_some] at hiq
 obtain ⟨e1,e2⟩:=hiq
 have h1:=lt_of_get e1
 have h2:=lt_of_get e2
 rw [List.getElem?_eq_getElem h1] at e1
 rw [List.getElem?_eq_getElem h2] at e2
 rw [← Option.some.inj e1,← Option.some.inj e2]
 exact hi i h1 h2
end Go.Proofs.YtndlggbljkhfbaaGreat
namespace Go.Proofs.YtndlggbljkhfbaaGreat
open Go.Tidy
variable {L : List Blk} {k : V → List Blk → Prop}
def alE (p : Pl) (us : List Int) : List (V × V):=us.map fun u=>(I u,plV (keepX p [u]))
theorem alE_bel (n : Nat) (p : Pl) : ∀ us : List Int,belM n (alE p us) = true
 | []=>rfl
 | u :: us=>by simp only [alE,List.map_cons,belM,V.bel,V.belL_d,Bool.true_and]; exact alE_bel n p us
theorem al_find {p : Pl} {us : List Int} {u : Int} {κ : Option (Nat × V) → Prop} (h1 : u ∈ us → ∀ i,κ (some (i,plV (keepX p [u])))) (h2 : u ∉ us → κ none) : MapF (.int .i64) (alE p us) (I u) κ:=by
 have hks : (alE p us).map (·.1) = us.map fun m=>.d (.int .i64 m):=by unfold alE; rw [List.map_map]; rfl
 refine MapF.ints us hks ?_
 by_cases h : u ∈ us
 ·left
  have hm : I u ∈ intK us:=(intK_mem us u).2 h
  obtain ⟨i,e1,e2⟩:=firstIn hm
  have hg : ∀ j : Nat,(intK us)[j]? = (us[j]?).map fun n=>I n:=fun j=>List.getElem?_map
  have e3 : us[i]? = some u:=by
   rw [hg] at e1
   cases hq : us[i]? with
   | none=>rw [hq] at e1; cases e1
   | some y=>rw [hq] at e1; cases e1; rfl
  refine ⟨i,plV (keepX p [u]),e3,fun j hj he=>e2 j hj (by rw [hg,he]; rfl),?_,h1 h i⟩
  unfold alE; rw [List.getElem?_map,e3]; rfl
 ·exact .inr ⟨h,h2 h⟩
def capK : List V:=[.ptr 0 0,.ptr 4 0,.ptr 3 0]
def ckM (p : Pl) (us : List Int) (r : List Brc) : List Blk:=[.cells (p.cells.map .d),.cells [.d (ints us),.d (.sl (brcs r))],.map (alE p us),.cells [.map 2],.cells [.fn 56 capK]]
theorem ckM_bel (p : Pl) (us : List Int) (r : List Brc) : belB 5 (ckM p us r) = true:=by
 show (V.belL 5 (p.cells.map .d) && (true && (belM 5 (alE p us) && true))) = true
 rw [V.belL_d,alE_bel]; rfl
def ckS (p : Pl) (us : List Int) (r : List Brc) (l : Lst) (t : List Brc) (lr : LoopR) (i : Nat) : List Blk:=ckM p us r ++ [.cells [.d (lisD l)],.cells [.d (.sl (brcs t))],.cells [B false],.cells [I i],.defr,.loop lr]
def ckW (p : Pl) (us : List Int) (r : List Brc) (l : Lst) (t : List Brc) (z : Int) (y : LoopR) : List Blk:=ckM p us r ++ [.cells [.d (lisD l)],.cells [.d (.sl (brcs t))],.cells [B false],.cells [I z],.defr,.loop y]
theorem ckW_eq (p : Pl) (us : List Int) (r : List Brc) (l : Lst) (t : List Brc) {z : Int} {y lr : LoopR} {i : Nat} (h1 : z = (i : Int)) (h2 : y = lr) : ckW p us r l t z y = ckS p us r l t lr i:=by subst h1 h2; rfl
theorem al_yes {p : Pl} {us : List Int} {u : Int} {κ : Option (Nat × V) → Prop} (h : u ∈ us) (h1 : ∀ i,κ (some (i,plV (keepX p [u])))) : MapF (.int .i64) (alE p us) (I u) κ:=al_find (fun _=>h1) fun h2=>absurd h h2
theorem al_no {p : Pl} {us : List Int} {u : Int} {κ : Option (Nat × V) → Prop} (h : u ∉ us) (h1 : κ none) : MapF (.int .i64) (alE p us) (I u) κ:=al_find (fun h2=>absurd h2 h) fun _=>h1
def ckE (p : Pl) (us : List Int) (r : List Brc) (l : Lst) (t : List Brc) (lr : LoopR) (i : Int) : List Blk:=ckM p us r ++ [.cells [.d (lisD l)],.cells [.d (.sl (brcs t))],.cells [B false],.cells [I i],.defr,.loop { lr with st:=.done,pend:=some .ret }]
theorem check1_c (p : Pl) (us : List Int) (r : List Brc) (h0 : checkP p = 0) (hs0 : Small [] p) (hus : IndP p.demands.length us) :
  ∀ (n : Nat) (l : Lst) (t : List Brc),PartP l p → roundsN p * halfN p < l.flatten.length + n →
   CallP C 56 (lisV l :: .d (.sl (brcs t)) :: capK) (ckM p us r) fun X L'=>X = B (chk p us n l t) ∧ L' = ckM p us r
 | 0,l,t,hP,hfu=>by have:=part_total hP; omega
 | n + 1,l,t,hP,hfu=>by
  have hlen : 1 ≤ p.clubs.length ∧ p.clubs.length ≤ 1000:=by
   have hf:=checkP_field h0
   simp only [fieldOk,Bool.and_eq_true,decide_eq_true_eq] at hf; omega
  obtain ⟨hsl,hsx⟩:=part_small hs0 hlen.2 hP ⟨0,0⟩
  have hh:=halfN_le hlen.2
  have hrw : ∀ r ∈ l,r.length + 1 ≤ 4294967296:=fun r hr=>by have:=part_row hP hr; omega
  have hcp:=chE_part h0 hP
  have hcl : (chE l p).length ≤ 4294967296:=by
   unfold chE; split
   ·exact chs_len l p hlen.2
   ·exact Nat.zero_le _
  obtain ⟨q,hq⟩ : ∃ q,chk p us (n + 1) l t = q:=⟨_,rfl⟩
  rw [hq]
  have hlf:=chk_len (p:=p) (us:=us) (n:=n) (l:=l) (t:=t)
  have hyes:=chk_yes (p:=p) (us:=us) (n:=n) (l:=l) (t:=t)
  have hnok:=fun {i : Nat}=>chk_no (p:=p) (us:=us) (n:=n) (l:=l) (t:=t) (i:=i)
  have hih0 : ∀ (x : Lst) (b : Brc),PartP x p → roundsN p * halfN p < x.flatten.length + n → CallP C 56 (lisV x :: .d (.sl (brcs b.t)) :: capK) (ckM p us r) fun X L'=>X = B (chk p us n x b.t) ∧ L' = ckM p us r:=fun x b h1 h2=>check1_c p us r h0 hs0 hus n x b.t h1 h2
  rw [hq] at hlf hyes hnok
  generalize chk p us n = f0 at hih0 hyes hnok
  have hbl:=brcs_len t
  refine callP_of C_ok Tryz.func56 rfl rfl (n:=_) rfl (w18 rfl) (rs:=_) rfl ?_
  repeat' ((conv=>whnf); first|refine ways_c l p ?_|refine w0 ?_|refine w1 ?_|refine w2 (fun h=>?_) (fun h=>?_)|refine w3 ?_|refine w4 (fun h=>?_) (fun h=>?_)|refine w5 _ rfl ?_|refine w6 rfl ?_|refine w7 mixed rfl ?_)
  conv=>whnf
  refine CallP.cnv (args':=.yld 10 :: [D.rptr [lisD l],.rptr p.cells].map .d) (L':=ckM p us r ++ [.cells [.d (lisD l)],.cells [.d (.sl (brcs t))],.cells [B false],.cells [I 0],.defr,.loop _]) rfl rfl ?_
  generalize hlr : LoopR.mk _ _ _ _ _ _ _ _ = lr
  have hlrd : lr.df = 9:=by rw [← hlr]; rfl
  have hlrs : lr.st = .ready:=by rw [← hlr]
  have hlrp : lr.pend = none:=by rw [← hlr]
  have hback : (⟨.ready,none,lr.fr,lr.n,lr.ps,lr.assign,lr.body,lr.df⟩ : LoopR) = lr:=by rw [← hlr]
  have hblkb : (Blk.loop lr).bel 11 = true:=by rw [← hlr]; rfl
  have hSb : ∀ i,belB 11 (ckS p us r l t lr i) = true:=fun i=>by
   refine belB_append (belB_le (by decide) (ckM_bel p us r)) ?_
   show (true && (true && (true && (true && (true && ((Blk.loop lr).bel 11 && true)))))) = true
   rw [hblkb]; rfl
  have hEb : ∀ i,belB 11 (ckE p us r l t lr i) = true:=fun i=>by
   refine belB_append (belB_le (by decide) (ckM_bel p us r)) ?_
   show (true && (true && (true && (true && (true && ((Blk.loop lr).bel 11 && true)))))) = true
   rw [hblkb]; rfl
  have hSd : ∀ i,dfB (ckS p us r l t lr i) = true:=fun i=>by
   refine dfB_of fun c l' hc=>?_
   match c,hc with
   | 0,hc | 1,hc | 2,hc | 3,hc | 4,hc | 5,hc | 6,hc | 7,hc | 8,hc | 9,hc=>cases hc
   | 10,hc =>
    have : lr = l':=by cases hc; rfl
    rw [← this,hlrd]; rfl
   | c + 11,hc=>cases hc
  obtain ⟨ms,hms⟩ : ∃ ms,chE l p = ms:=⟨_,rfl⟩
  have hwi:=ways_it 0 (fun _ _=>False) l p hsl hlen.2 hrw
  rw [hms] at hwi
  simp only [hms] at hlf hyes hnok hcp hcl
  refine hwi 10 11 (fun i=>i ≤ t.length ∧ ∀ (j : Nat) (h1 : j < ms.length) (h2 : j < t.length),j < i → okBr f0 l p us ms[j] t[j] = true) (fun i=>ckS p us r l t lr i) _ (w22 _) (fun i=>rfl) hSb hSd (by omega) ?_ ?_ ⟨w22 _,fun j _ _ h=>absurd h (Nat.not_lt_zero j)⟩
  ·rintro i hi ⟨hit,hok⟩
   rw [List.length_map] at hi
   rw [List.getElem_map]
   obtain ⟨x,hx⟩ : ∃ x,x = extL l p ms[i]:=⟨_,rfl⟩
   have hnx : nxV l p ms[i] = .agg [.d (DI ms[i].home),.d (DI ms[i].away),I (atN l p),.d (lisD x)]:=by rw [hx]; rfl
   have hPx : PartP x p:=by rw [hx]; exact hcp _ (List.getElem_mem hi)
   have hsx : Small x p:=hx ▸ (part_small hs0 hlen.2 hP ms[i]).2
   have hbig : roundsN p * halfN p < x.flatten.length + n:=by rw [hx,extL_flat,List.length_append]; simp only [List.length_singleton]; omega
   have hdm0 : ∀ {L : List Blk} {k : V → List Blk → Prop},k (.tup [I (dmA x ⟨[],false,[]⟩),I (dmE x ⟨[],false,[]⟩)]) L → CallP C 43 [lisV x,.agg [.nil,B false,.nil]] L k:=fun h =>
    CallP.freeze (args:=[lisV x,.agg [.nil,B false,.nil]]) (dargs:=[lisV x,plV ⟨[],false,[]⟩]) [] rfl rfl (.keep (.cv (.aggL (.cons .nil (.cons (.d _) (.cons .nil .nil)))) .nil)) (dmd_c x ⟨[],false,[]⟩ ⟨hsx.hl,hsx.hr,by simp,by simp,by simp⟩ h)
   rw [hnx]
   have hw : IntKind.i64.wrap ((i : Int) + 1) = ((i + 1 : Nat) : Int):=by rw [wrap_in (by omega)]; omega
   refine YieldP.roundE (C_ok.wp 0 _) (fun _=>false) hlr rfl rfl ?_ (w22 _)
   by_cases hi' : i < t.length
   ·have hnge : ¬ ((brcs t).length : Int) ≤ (i : Int):=by omega
    have rb:=brcs_at hi'
    have hno : okBr f0 l p us ms[i] t[i] = false → q = false:=fun e=>hnok hi hi' e
    have hgo : okBr f0 l p us ms[i] t[i] = true → ∀ (j : Nat) (h1 : j < ms.length) (h2 : j < t.length),j < i + 1 → okBr f0 l p us ms[j] t[j] = true:=fun e j h1 h2 hji=>by
     by_cases e2 : j = i
     ·subst e2; exact e
     ·exact hok j h1 h2 (by omega)
    have hih:=hih0 x t[i] hPx hbig
    generalize t[i] = b at rb hno hgo hih
    have hx':=hx.symm
    have hsk : Small x (keepX p [b.b]):=by
     have h:=small_keep (w:=[b.b]) hs0 (by simp)
     exact ⟨hsx.hl,hsx.hr,h.hc,h.hd,h.hD⟩
    have d1':=mEq b.m ms[i]
    have hfB:=fullB_eq h0 hPx
    by_cases e1 : b.m = ms[i]
    ·have d1:=d1'.trans (w19 e1)
     by_cases e2 : b.r = (atN l p : Int)
     ·by_cases e3 : b.b = -1
      ·by_cases e4 : fullC x p = true
       ·have e4':=hfB.trans e4
        repeat' ((conv=>whnf); first|simp only [hlrs,setB_eq]|refine Br.not ?_|refine Idx.intro i _ rfl rb ?_|refine CallP.up (full_c x p hsx ?_)|refine CallP.up (dmd_c x (keepX p [b.b]) hsk ?_)|refine CallP.up (hdm0 ?_)|refine Br.no (decide_eq_false hnge) ?_|refine Br.yes d1 ?_|refine Br.yes (decide_eq_true e2) ?_|refine Br.yes (decide_eq_true e3) ?_|refine Br.yes e4' ?_|refine Br.tt ?_|refine Br.ff ?_|refine Br.dec (fun h=>?_) (fun h=>?_)|refine Br.not ?_|refine Br.intro (fun h=>?_) (fun h=>?_)|refine GetE.intro _ rfl ?_|refine Need.intro rfl ?_|refine DrawP.go mixed rfl ?_)
        conv=>whnf
        refine w15 (n:=11) (L':=ckE p us r l t lr (IntKind.i64.wrap ((i : Int) + 1))) rfl (w21 _) rfl (hEb _) (.inr ⟨rfl,rfl,hEb _,?_⟩)
        repeat' ((conv=>whnf); first|refine w0 ?_|refine w1 ?_|refine w2 (fun h=>?_) (fun h=>?_)|refine w3 ?_|refine w4 (fun h=>?_) (fun h=>?_)|refine w5 _ rfl ?_|refine w6 rfl ?_|refine w7 mixed rfl ?_|simp only [hlrs,hlrp])
        conv=>whnf
        exact FinP.drop (n:=5) (L':=ckM p us r) rfl (Nat.le_refl _) rfl (ckM_bel p us r) ⟨congrArg B (hno (by simp [okBr,e1,e2,e3,hx',e4])).symm,rfl⟩
       ·have e4':=hfB.trans (eq_false_of_ne_true e4)
        repeat' ((conv=>whnf); first|simp only [hlrs,setB_eq]|refine Br.not ?_|refine Idx.intro i _ rfl rb ?_|refine CallP.up (full_c x p hsx ?_)|refine CallP.up (dmd_c x (keepX p [b.b]) hsk ?_)|refine CallP.up (hdm0 ?_)|refine Br.no (decide_eq_false hnge) ?_|refine Br.yes d1 ?_|refine Br.yes (decide_eq_true e2) ?_|refine Br.yes (decide_eq_true e3) ?_|refine Br.no e4' ?_|refine Br.tt ?_|refine Br.ff ?_|refine Br.dec (fun h=>?_) (fun h=>?_)|refine Br.not ?_|refine Br.intro (fun h=>?_) (fun h=>?_)|refine GetE.intro _ rfl ?_|refine Need.intro rfl ?_|refine DrawP.go mixed rfl ?_)
        conv=>whnf
        refine CallP.cnv (args':=lisV x :: .d (.sl (brcs b.t)) :: capK) (L':=ckM p us r ++ [.cells [.d (lisD l)],.cells [.d (.sl (brcs t))],.cells [B false],.cells [I (IntKind.i64.wrap ((i : Int) + 1))],.defr,.loop { lr with st:=.busy },.cells [.d (DI ms[i].home),.d (DI ms[i].away),I (atN l p),.d (lisD x)],.cells [.d (DI b.m.home),.d (DI b.m.away),.d (DI b.r),.d (DI b.b),.d (.sl (brcs b.t))]]) rfl rfl ?_
        refine CallP.frameP (w22 _) (w14 hih) (ckM_bel p us r) rfl rfl ?_
        rintro X L1 ⟨rfl,rfl⟩
        refine ⟨rfl,ckM_bel p us r,rfl,?_⟩
        by_cases e5 : f0 x b.t = true
        ·repeat' (conv => whnf
                  first|simp only [hlrs,setB_eq]|refine w3 ?_|refine w10 i _ rfl rb ?_|refine w14 (full_c x p hsx ?_)|refine w14 (dmd_c x (keepX p [b.b]) hsk ?_)|refine w14 (hdm0 ?_)|refine w8 e5 ?_|refine w0 ?_|refine w1 ?_|refine w2 (fun h=>?_) (fun h=>?_)|refine w3 ?_|refine w4 (fun h=>?_) (fun h=>?_)|refine w5 _ rfl ?_|refine w6 rfl ?_|refine w7 mixed rfl ?_)
         conv=>whnf
         exact FinP.drop (n:=11) (L':=ckS p us r l t lr (i + 1)) (ckW_eq p us r l t hw hback) (Nat.le_refl _) rfl (hSb _) (.inl ⟨rfl,rfl,hi',hgo (by simp [okBr,e1,e2,e3,hx',e4,e5])⟩)
        ·repeat' (conv => whnf
                  first|simp only [hlrs,setB_eq]|refine w3 ?_|refine w10 i _ rfl rb ?_|refine w14 (full_c x p hsx ?_)|refine w14 (dmd_c x (keepX p [b.b]) hsk ?_)|refine w14 (hdm0 ?_)|refine w9 (eq_false_of_ne_true e5) ?_|refine w0 ?_|refine w1 ?_|refine w2 (fun h=>?_) (fun h=>?_)|refine w3 ?_|refine w4 (fun h=>?_) (fun h=>?_)|refine w5 _ rfl ?_|refine w6 rfl ?_|refine w7 mixed rfl ?_)
         conv=>whnf
         refine w15 (n:=11) (L':=ckE p us r l t lr (IntKind.i64.wrap ((i : Int) + 1))) rfl (w21 _) rfl (hEb _) (.inr ⟨rfl,rfl,hEb _,?_⟩)
         repeat' ((conv=>whnf); first|refine w0 ?_|refine w1 ?_|refine w2 (fun h=>?_) (fun h=>?_)|refine w3 ?_|refine w4 (fun h=>?_) (fun h=>?_)|refine w5 _ rfl ?_|refine w6 rfl ?_|refine w7 mixed rfl ?_|simp only [hlrs,hlrp])
         conv=>whnf
         exact FinP.drop (n:=5) (L':=ckM p us r) rfl (Nat.le_refl _) rfl (ckM_bel p us r) ⟨congrArg B (hno (by simp [okBr,e1,e2,e3,hx',e4,e5])).symm,rfl⟩
      ·by_cases e4 : b.b ∈ us
       ·by_cases e6 : 0 ≤ dmA x (keepX p [b.b])
        ·have e6' : ¬ dmA x (keepX p [b.b]) < 0:=by omega
         have e7 : dmB x p b.b = true:=w19 e6
         by_cases e5 : b.t = []
         ·have e5' : ¬ (0 : Int) < ((brcs b.t).length : Int):=by rw [e5]; decide
          repeat' ((conv=>whnf); first|simp only [hlrs,setB_eq]|refine Br.not ?_|refine Idx.intro i _ rfl rb ?_|refine CallP.up (full_c x p hsx ?_)|refine CallP.up (dmd_c x (keepX p [b.b]) hsk ?_)|refine CallP.up (hdm0 ?_)|refine Br.no (decide_eq_false hnge) ?_|refine Br.yes d1 ?_|refine Br.yes (decide_eq_true e2) ?_|refine Br.no (decide_eq_false e3) ?_|refine al_yes e4 (fun _=>?_)|refine Br.no (decide_eq_false e6') ?_|refine Br.no (decide_eq_false e5') ?_|refine Br.tt ?_|refine Br.ff ?_|refine Br.dec (fun h=>?_) (fun h=>?_)|refine Br.not ?_|refine Br.intro (fun h=>?_) (fun h=>?_)|refine GetE.intro _ rfl ?_|refine Need.intro rfl ?_|refine DrawP.go mixed rfl ?_)
          conv=>whnf
          exact FinP.drop (n:=11) (L':=ckS p us r l t lr (i + 1)) (ckW_eq p us r l t hw hback) (Nat.le_refl _) rfl (hSb _) (.inl ⟨rfl,rfl,hi',hgo (by simp [okBr,e1,e2,e3,hx',e4,e5,e7])⟩)
         ·have e5' : (0 : Int) < ((brcs b.t).length : Int):=by
           have:=List.length_pos_iff.2 e5
           rw [brcs_len]; omega
          repeat' ((conv=>whnf); first|simp only [hlrs,setB_eq]|refine Br.not ?_|refine Idx.intro i _ rfl rb ?_|refine CallP.up (full_c x p hsx ?_)|refine CallP.up (dmd_c x (keepX p [b.b]) hsk ?_)|refine CallP.up (hdm0 ?_)|refine Br.no (decide_eq_false hnge) ?_|refine Br.yes d1 ?_|refine Br.yes (decide_eq_true e2) ?_|refine Br.no (decide_eq_false e3) ?_|refine al_yes e4 (fun _=>?_)|refine Br.no (decide_eq_false e6') ?_|refine Br.yes (decide_eq_true e5') ?_|refine Br.tt ?_|refine Br.ff ?_|refine Br.dec (fun h=>?_) (fun h=>?_)|refine Br.not ?_|refine Br.intro (fun h=>?_) (fun h=>?_)|refine GetE.intro _ rfl ?_|refine Need.intro rfl ?_|refine DrawP.go mixed rfl ?_)
          conv=>whnf
          refine w15 (n:=11) (L':=ckE p us r l t lr (IntKind.i64.wrap ((i : Int) + 1))) rfl (w21 _) rfl (hEb _) (.inr ⟨rfl,rfl,hEb _,?_⟩)
          repeat' ((conv=>whnf); first|refine w0 ?_|refine w1 ?_|refine w2 (fun h=>?_) (fun h=>?_)|refine w3 ?_|refine w4 (fun h=>?_) (fun h=>?_)|refine w5 _ rfl ?_|refine w6 rfl ?_|refine w7 mixed rfl ?_|simp only [hlrs,hlrp])
          conv=>whnf
          exact FinP.drop (n:=5) (L':=ckM p us r) rfl (Nat.le_refl _) rfl (ckM_bel p us r) ⟨congrArg B (hno (by simp [okBr,e1,e2,e3,hx',e4,e5])).symm,rfl⟩
        ·have e6' : dmA x (keepX p [b.b]) < 0:=by omega
         have e7 : dmB x p b.b = false:=w20 e6
         repeat' ((conv=>whnf); first|simp only [hlrs,setB_eq]|refine Br.not ?_|refine Idx.intro i _ rfl rb ?_|refine CallP.up (full_c x p hsx ?_)|refine CallP.up (dmd_c x (keepX p [b.b]) hsk ?_)|refine CallP.up (hdm0 ?_)|refine Br.no (decide_eq_false hnge) ?_|refine Br.yes d1 ?_|refine Br.yes (decide_eq_true e2) ?_|refine Br.no (decide_eq_false e3) ?_|refine al_yes e4 (fun _=>?_)|refine Br.yes (decide_eq_true e6') ?_|refine Br.tt ?_|refine Br.ff ?_|refine Br.dec (fun h=>?_) (fun h=>?_)|refine Br.not ?_|refine Br.intro (fun h=>?_) (fun h=>?_)|refine GetE.intro _ rfl ?_|refine Need.intro rfl ?_|refine DrawP.go mixed rfl ?_)
         conv=>whnf
         refine w15 (n:=11) (L':=ckE p us r l t lr (IntKind.i64.wrap ((i : Int) + 1))) rfl (w21 _) rfl (hEb _) (.inr ⟨rfl,rfl,hEb _,?_⟩)
         repeat' ((conv=>whnf); first|refine w0 ?_|refine w1 ?_|refine w2 (fun h=>?_) (fun h=>?_)|refine w3 ?_|refine w4 (fun h=>?_) (fun h=>?_)|refine w5 _ rfl ?_|refine w6 rfl ?_|refine w7 mixed rfl ?_|simp only [hlrs,hlrp])
         conv=>whnf
         exact FinP.drop (n:=5) (L':=ckM p us r) rfl (Nat.le_refl _) rfl (ckM_bel p us r) ⟨congrArg B (hno (by simp [okBr,e1,e2,e3,hx',e4,e7])).symm,rfl⟩
       ·repeat' (conv => whnf
                 first|simp only [hlrs,setB_eq]|refine w3 ?_|refine w10 i _ rfl rb ?_|refine w14 (full_c x p hsx ?_)|refine w14 (dmd_c x (keepX p [b.b]) hsk ?_)|refine w14 (hdm0 ?_)|refine w9 (w20 hnge) ?_|refine w8 d1 ?_|refine w8 (w19 e2) ?_|refine w9 (w20 e3) ?_|refine al_no e4 ?_|refine w0 ?_|refine w1 ?_|refine w2 (fun h=>?_) (fun h=>?_)|refine w3 ?_|refine w4 (fun h=>?_) (fun h=>?_)|refine w5 _ rfl ?_|refine w6 rfl ?_|refine w7 mixed rfl ?_)
        conv=>whnf
        refine w15 (n:=11) (L':=ckE p us r l t lr (IntKind.i64.wrap ((i : Int) + 1))) rfl (w21 _) rfl (hEb _) (.inr ⟨rfl,rfl,hEb _,?_⟩)
        repeat' ((conv=>whnf); first|refine w0 ?_|refine w1 ?_|refine w2 (fun h=>?_) (fun h=>?_)|refine w3 ?_|refine w4 (fun h=>?_) (fun h=>?_)|refine w5 _ rfl ?_|refine w6 rfl ?_|refine w7 mixed rfl ?_|simp only [hlrs,hlrp])
        conv=>whnf
        exact FinP.drop (n:=5) (L':=ckM p us r) rfl (Nat.le_refl _) rfl (ckM_bel p us r) ⟨congrArg B (hno (by simp [okBr,e1,e2,e3,hx',e4])).symm,rfl⟩
     ·repeat' (conv => whnf
               first|simp only [hlrs,setB_eq]|refine w3 ?_|refine w10 i _ rfl rb ?_|refine w14 (full_c x p hsx ?_)|refine w14 (dmd_c x (keepX p [b.b]) hsk ?_)|refine w14 (hdm0 ?_)|refine w9 (w20 hnge) ?_|refine w8 d1 ?_|refine w9 (w20 e2) ?_|refine w0 ?_|refine w1 ?_|refine w2 (fun h=>?_) (fun h=>?_)|refine w3 ?_|refine w4 (fun h=>?_) (fun h=>?_)|refine w5 _ rfl ?_|refine w6 rfl ?_|refine w7 mixed rfl ?_)
      conv=>whnf
      refine w15 (n:=11) (L':=ckE p us r l t lr (i : Int)) rfl (w21 _) rfl (hEb _) (.inr ⟨rfl,rfl,hEb _,?_⟩)
      repeat' ((conv=>whnf); first|refine w0 ?_|refine w1 ?_|refine w2 (fun h=>?_) (fun h=>?_)|refine w3 ?_|refine w4 (fun h=>?_) (fun h=>?_)|refine w5 _ rfl ?_|refine w6 rfl ?_|refine w7 mixed rfl ?_|simp only [hlrs,hlrp])
      conv=>whnf
      exact FinP.drop (n:=5) (L':=ckM p us r) rfl (Nat.le_refl _) rfl (ckM_bel p us r) ⟨congrArg B (hno (by simp [okBr,e1,e2])).symm,rfl⟩
    ·have d1:=d1'.trans (w20 e1)
     repeat' ((conv=>whnf); first|simp only [hlrs,setB_eq]|refine Br.not ?_|refine Idx.intro i _ rfl rb ?_|refine CallP.up (full_c x p hsx ?_)|refine CallP.up (dmd_c x (keepX p [b.b]) hsk ?_)|refine CallP.up (hdm0 ?_)|refine Br.no (decide_eq_false hnge) ?_|refine Br.no d1 ?_|refine Br.tt ?_|refine Br.ff ?_|refine Br.dec (fun h=>?_) (fun h=>?_)|refine Br.not ?_|refine Br.intro (fun h=>?_) (fun h=>?_)|refine GetE.intro _ rfl ?_|refine Need.intro rfl ?_|refine DrawP.go mixed rfl ?_)
     conv=>whnf
     refine w15 (n:=11) (L':=ckE p us r l t lr (i : Int)) rfl (w21 _) rfl (hEb _) (.inr ⟨rfl,rfl,hEb _,?_⟩)
     repeat' ((conv=>whnf); first|refine w0 ?_|refine w1 ?_|refine w2 (fun h=>?_) (fun h=>?_)|refine w3 ?_|refine w4 (fun h=>?_) (fun h=>?_)|refine w5 _ rfl ?_|refine w6 rfl ?_|refine w7 mixed rfl ?_|simp only [hlrs,hlrp])
     conv=>whnf
     exact FinP.drop (n:=5) (L':=ckM p us r) rfl (Nat.le_refl _) rfl (ckM_bel p us r) ⟨congrArg B (hno (by simp [okBr,e1])).symm,rfl⟩
   ·have hge : ((brcs t).length : Int) ≤ (i : Int):=by omega
    repeat' ((conv=>whnf); first|simp only [hlrs,setB_eq]|refine Br.not ?_|refine CallP.up (full_c x p hsx ?_)|refine CallP.up (hdm0 ?_)|refine Br.yes (decide_eq_true hge) ?_|refine Br.tt ?_|refine Br.ff ?_|refine Br.dec (fun h=>?_) (fun h=>?_)|refine Br.not ?_|refine Br.intro (fun h=>?_) (fun h=>?_)|refine GetE.intro _ rfl ?_|refine Need.intro rfl ?_|refine DrawP.go mixed rfl ?_)
    conv=>whnf
    refine w15 (n:=11) (L':=ckE p us r l t lr (i : Int)) rfl (w21 _) rfl (hEb _) (.inr ⟨rfl,rfl,hEb _,?_⟩)
    repeat' ((conv=>whnf); first|refine w0 ?_|refine w1 ?_|refine w2 (fun h=>?_) (fun h=>?_)|refine w3 ?_|refine w4 (fun h=>?_) (fun h=>?_)|refine w5 _ rfl ?_|refine w6 rfl ?_|refine w7 mixed rfl ?_|simp only [hlrs,hlrp])
    conv=>whnf
    exact FinP.drop (n:=5) (L':=ckM p us r) rfl (w21 _) rfl (ckM_bel p us r) ⟨congrArg B (hlf (by omega)).symm,rfl⟩
  ·rintro ⟨hit,hok⟩
   rw [List.length_map] at hit hok
   by_cases he : ms.length = t.length
   ·have he' : ((ms.map fun m=>[nxV l p m]).length : Int) = ((brcs t).length : Int):=by rw [List.length_map]; omega
    have hall : q = true:=hyes he fun j h1 h2=>hok j h1 h2 h1
    repeat' ((conv=>whnf); first|refine w0 ?_|refine w1 ?_|refine w2 (fun h=>?_) (fun h=>?_)|refine w3 ?_|refine w4 (fun h=>?_) (fun h=>?_)|refine w5 _ rfl ?_|refine w6 rfl ?_|refine w7 mixed rfl ?_|simp only [hlrs,hlrp])
    conv=>whnf
    exact FinP.drop (n:=5) (L':=ckM p us r) rfl (w21 _) rfl (ckM_bel p us r) ⟨congrArg B ((w19 he').trans hall.symm),rfl⟩
   ·have he' : ¬ ((ms.map fun m=>[nxV l p m]).length : Int) = ((brcs t).length : Int):=by rw [List.length_map]; omega
    repeat' ((conv=>whnf); first|refine w0 ?_|refine w1 ?_|refine w2 (fun h=>?_) (fun h=>?_)|refine w3 ?_|refine w4 (fun h=>?_) (fun h=>?_)|refine w5 _ rfl ?_|refine w6 rfl ?_|refine w7 mixed rfl ?_|simp only [hlrs,hlrp])
    conv=>whnf
    exact FinP.drop (n:=5) (L':=ckM p us r) rfl (w21 _) rfl (ckM_bel p us r) ⟨congrArg B ((w20 he').trans (hlf he).symm),rfl⟩
end Go.Proofs.YtndlggbljkhfbaaGreat
namespace Go.Proofs.YtndlggbljkhfbaaGreat
open Go.Tidy
variable {L : List Blk} {k : V → List Blk → Prop}
theorem alE_snoc (p : Pl) (us : List Int) (u : Int) : alE p (us ++ [u]) = alE p us ++ [(I u,plV (keepX p [u]))]:=by unfold alE; rw [List.map_append]; rfl
def chkE (p : Pl) (us : List Int) (t : List Brc) : Int:=if checkP p = 0 then (if IndP p.demands.length us then (if chk p us (fuelN p) [] t = true then 0 else 330) else 330) else checkP p
def alS (p : Pl) (us xs : List Int) (r : List Brc) : List Blk:=[.cells (p.cells.map .d),.cells [.d (ints us),.d (.sl (brcs r))],.map (alE p xs),.cells [.map 2]]
theorem alS_bel (p : Pl) (us xs : List Int) (r : List Brc) : belB 4 (alS p us xs r) = true:=by
 show (V.belL 4 (p.cells.map .d) && (true && (belM 4 (alE p xs) && true))) = true
 rw [V.belL_d,alE_bel]; rfl
theorem ind_fresh {n : Nat} {us : List Int} (h : IndP n us) {i : Nat} (hi : i < us.length) : us[i] ∉ us.take i:=fun hm=>by
 obtain ⟨j,hj,e⟩:=List.getElem_of_mem hm
 rw [List.length_take] at hj
 rw [List.getElem_take] at e
 have hlt:=List.pairwise_iff_getElem.1 (ind_pair h) j i (by omega) hi (by omega)
 omega
theorem check33_c (p : Pl) (us : List Int) (r : List Brc) (hs0 : Small [] p) (hul : us.length ≤ 1073741824) (h : k (I (chkE p us r)) L) : CallP C 18 [plV p,refV us r] L k:=by
 have hD:=hs0.hD
 refine CallP.pure ?_ rfl (fun _=>rfl) h
 clear h
 refine callP_of C_ok Tryz.func18 rfl rfl (n:=_) rfl (w18 rfl) (rs:=_) rfl ?_
 by_cases h0 : checkP p = 0
 ·by_cases hi : IndP p.demands.length us
  ·repeat' (conv => whnf
            first|refine check_c p hs0.hc hs0.hd (by omega) ?_|refine w3 ?_|refine w8 (w19 h0) ?_|refine indices_c p us (by omega) ?_|refine w8 (w19 hi) ?_|refine w0 ?_|refine w1 ?_|refine w2 (fun h=>?_) (fun h=>?_)|refine w3 ?_|refine w4 (fun h=>?_) (fun h=>?_)|refine w5 _ rfl ?_|refine w6 rfl ?_|refine w7 mixed rfl ?_)
   conv=>whnf
   refine LoopP.inv (fun i=>i ≤ us.length) (fun i=>⟨[(2,.ptr 0 0),(3,.ptr 1 0),(4,I 0),(6,.ptr 3 0),(22,.d (ints us)),(23,I us.length),(24,I i)],Tryz.f18.ntmps,alS p us (us.take i) r,[],none⟩) (fun i=>us.length - i) 0 (w22 _) ?_ ?_
   ·exact Weak.by ⟨rfl,rfl,rfl,rfl,rfl,congrArg (fun n : Nat=>I n) (List.length_map ..),rfl,trivial⟩
   intro i hi1
   by_cases hi' : i < us.length
   ·have hlt : (i : Int) < (us.length : Int):=by omega
    have hww : IntKind.i64.wrap ((i : Int) + 1) = ((i + 1 : Nat) : Int):=by rw [wrap_in (by omega)]; omega
    repeat' ((conv=>whnf); first|refine w8 (w19 hlt) ?_|refine w11 i rfl hi' ?_|refine w0 ?_|refine w1 ?_|refine w2 (fun h=>?_) (fun h=>?_)|refine w3 ?_|refine w4 (fun h=>?_) (fun h=>?_)|refine w5 _ rfl ?_|refine w6 rfl ?_|refine w7 mixed rfl ?_)
    conv=>whnf
    have hnx : alE p (us.take (i + 1)) = alE p (us.take i) ++ [(I us[i],plV (keepX p [us[i]]))]:=by rw [take_next hi',alE_snoc]
    refine DrawP.por mixed [0,2,5] [[(1,0),(3,0),(0,2),(2,2),(4,0),(5,2),(6,0),(7,0),(8,0),(9,0)],[(1,0),(3,0),(0,2),(4,0),(2,2),(5,2),(6,0),(7,0),(8,0),(9,0)],[(1,0),(3,0),(2,2),(0,2),(4,0),(5,2),(6,0),(7,0),(8,0),(9,0)],[(1,0),(3,0),(2,2),(4,0),(0,2),(5,2),(6,0),(7,0),(8,0),(9,0)],[(1,0),(3,0),(2,2),(4,0),(5,2),(0,2),(6,0),(7,0),(8,0),(9,0)],[(1,0),(3,0),(4,0),(0,2),(2,2),(5,2),(6,0),(7,0),(8,0),(9,0)],[(1,0),(3,0),(4,0),(2,2),(0,2),(5,2),(6,0),(7,0),(8,0),(9,0)],[(1,0),(3,0),(4,0),(2,2),(5,2),(0,2),(6,0),(7,0),(8,0),(9,0)]] (by kernel_rfl) ?_
    conv=>whnf
    refine And.intro ?_ ?_
    rotate_left 1
    conv=>whnf
    refine And.intro ?_ ?_
    rotate_left 1
    conv=>whnf
    refine And.intro ?_ ?_
    rotate_left 1
    conv=>whnf
    refine And.intro ?_ ?_
    rotate_left 1
    conv=>whnf
    refine And.intro ?_ ?_
    rotate_left 1
    conv=>whnf
    refine And.intro ?_ ?_
    rotate_left 1
    conv=>whnf
    refine And.intro ?_ ?_
    all_goals
     repeat' ((conv=>whnf); first|refine w0 ?_|refine w1 ?_|refine w2 (fun h=>?_) (fun h=>?_)|refine w3 ?_|refine w4 (fun h=>?_) (fun h=>?_)|refine w5 _ rfl ?_|refine w6 rfl ?_|refine w7 mixed rfl ?_|refine QCallW.rd (.map 2) ⟨rfl,rfl⟩ ?_|refine QCallW.rd (plV p) ⟨rfl,rfl⟩ ?_|refine w13 (.tup [plV (keepX p [us[i]]),I (keepE p [us[i]])]) _ (CallP.freeze (args:=[plV p,.own 4 0 0 1]) [4] rfl rfl (.keep (.cv (.d (.rowL (ds:=[[DI us[i]]]) (List.mem_singleton.2 rfl) rfl (.cons (.cons (.d _) .nil) .nil) rfl (by exact len1 rfl))) .nil)) (keep_c p [us[i]] hs0.hc hs0.hd (by omega) (by simp) ⟨rfl,rfl⟩)) ?_|refine al_no (ind_fresh hi hi') ?_)
    all_goals conv=>whnf
    all_goals exact ⟨i + 1,hi',by omega,Weak.to 4 (Eq.trans rfl (congrArg (fun m : List (V × V)=>[Blk.cells (p.cells.map .d),.cells [.d (ints us),.d (.sl (brcs r))],.map m,.cells [.map 2]]) hnx.symm)) (w22 _) (w18 rfl) ⟨rfl,rfl,rfl,rfl,rfl,rfl,congrArg I hww,trivial⟩ (hB:=alS_bel p us _ r)⟩
   ·have hlt : ¬ (i : Int) < (us.length : Int):=by omega
    have hit : us.take i = us:=List.take_of_length_le (by omega)
    rw [hit]
    have hck:=check1_c p us r h0 hs0 hi (fuelN p) [] r (part_nil p) (by unfold fuelN; simp)
    have he : chkE p us r = if chk p us (fuelN p) [] r = true then 0 else 330:=by unfold chkE; rw [if_pos h0,if_pos hi]
    rw [he]
    repeat' ((conv=>whnf); first|refine w9 (w20 hlt) ?_|refine w0 ?_|refine w1 ?_|refine w2 (fun h=>?_) (fun h=>?_)|refine w3 ?_|refine w4 (fun h=>?_) (fun h=>?_)|refine w5 _ rfl ?_|refine w6 rfl ?_|refine w7 mixed rfl ?_)
    conv=>whnf
    refine CallP.cnv (args':=.agg [.nil] :: .d (.sl (brcs r)) :: capK) (L':=ckM p us r) rfl rfl ?_
    refine CallP.freeze (args:=.agg [.nil] :: .d (.sl (brcs r)) :: capK) (dargs:=lisV [] :: .d (.sl (brcs r)) :: capK) [] rfl rfl (.cv (.aggL (.cons .nil .nil)) (.keep (.keep (.keep (.keep .nil))))) ?_
    refine hck.mono ?_
    rintro X L' ⟨rfl,rfl⟩
    by_cases e : chk p us (fuelN p) [] r = true
    ·rw [if_pos e]
     repeat' ((conv=>whnf); first|refine w3 ?_|refine w8 e ?_|refine w0 ?_|refine w1 ?_|refine w2 (fun h=>?_) (fun h=>?_)|refine w3 ?_|refine w4 (fun h=>?_) (fun h=>?_)|refine w5 _ rfl ?_|refine w6 rfl ?_|refine w7 mixed rfl ?_)
     conv=>whnf
     exact FinP.drop (n:=0) rfl (w21 0) rfl rfl ⟨rfl,rfl⟩
    ·rw [if_neg e]
     repeat' ((conv=>whnf); first|refine w3 ?_|refine w9 (eq_false_of_ne_true e) ?_|refine w0 ?_|refine w1 ?_|refine w2 (fun h=>?_) (fun h=>?_)|refine w3 ?_|refine w4 (fun h=>?_) (fun h=>?_)|refine w5 _ rfl ?_|refine w6 rfl ?_|refine w7 mixed rfl ?_)
     conv=>whnf
     exact FinP.drop (n:=0) rfl (w21 0) rfl rfl ⟨rfl,rfl⟩
  ·repeat' (conv => whnf
            first|refine check_c p hs0.hc hs0.hd (by omega) ?_|refine w3 ?_|refine w8 (w19 h0) ?_|refine indices_c p us (by omega) ?_|refine w9 (w20 hi) ?_|refine w0 ?_|refine w1 ?_|refine w2 (fun h=>?_) (fun h=>?_)|refine w3 ?_|refine w4 (fun h=>?_) (fun h=>?_)|refine w5 _ rfl ?_|refine w6 rfl ?_|refine w7 mixed rfl ?_)
   conv=>whnf
   exact FinP.drop (n:=0) rfl (Nat.le_refl 0) rfl rfl ⟨rfl,by unfold chkE; rw [if_pos h0,if_neg hi]; rfl⟩
 ·repeat' (conv => whnf
           first|refine check_c p hs0.hc hs0.hd (by omega) ?_|refine w3 ?_|refine w9 (w20 h0) ?_|refine w0 ?_|refine w1 ?_|refine w2 (fun h=>?_) (fun h=>?_)|refine w3 ?_|refine w4 (fun h=>?_) (fun h=>?_)|refine w5 _ rfl ?_|refine w6 rfl ?_|refine w7 mixed rfl ?_)
  conv=>whnf
  exact FinP.drop (n:=0) rfl (Nat.le_refl 0) rfl rfl ⟨rfl,by unfold chkE; rw [if_neg h0]; rfl⟩
end Go.Proofs.YtndlggbljkhfbaaGreat
namespace Go.Proofs.YtndlggbljkhfbaaGreat
open Go.Tidy
variable {L : List Blk} {k : V → List Blk → Prop}
theorem allN_mem {n : Nat} {x : Int} : x ∈ allN n ↔ 0 ≤ x ∧ x < (n : Int):=by
 unfold allN
 rw [List.mem_map]
 constructor
 ·rintro ⟨i,hi,rfl⟩
  have:=List.mem_range.1 hi; omega
 ·rintro ⟨h1,h2⟩
  exact ⟨x.toNat,List.mem_range.2 (by omega),by omega⟩
theorem allN_pair (n : Nat) : (allN n).Pairwise (· < ·):=by
 unfold allN
 exact List.Pairwise.map _ (fun a b h=>by omega) List.pairwise_lt_range
theorem sort_filter {n : Nat} {us : List Int} (hn : us.Nodup) (hr : ∀ u ∈ us,0 ≤ u ∧ u < (n : Int)) : sortI us = (allN n).filter fun x=>decide (x ∈ us):=by
 have tr : ∀ a b c : Int,decide (a ≤ b) = true → decide (b ≤ c) = true → decide (a ≤ c) = true:=fun a b c h1 h2=>by simp only [decide_eq_true_eq] at *; omega
 have to : ∀ a b : Int,(decide (a ≤ b) || decide (b ≤ a)) = true:=fun a b=>by simp only [Bool.or_eq_true,decide_eq_true_eq]; omega
 have hp2:=(allN_pair n).filter (p:=fun x=>decide (x ∈ us))
 refine List.Perm.eq_of_pairwise (le:=fun a b : Int=>decide (a ≤ b) = true) (fun a b _ _ h1 h2=>?_) (List.pairwise_mergeSort tr to us) (hp2.imp fun {a b} h=>by simp only [decide_eq_true_eq]; omega) ?_
 ·simp only [decide_eq_true_eq] at h1 h2; omega
 ·refine (List.mergeSort_perm us _).trans ((List.perm_ext_iff_of_nodup hn (hp2.imp fun {a b} h=>by omega)).2 fun x=>?_)
  rw [List.mem_filter,allN_mem,decide_eq_true_eq]
  exact ⟨fun h=>⟨hr x h,h⟩,fun h=>h.2⟩
end Go.Proofs.YtndlggbljkhfbaaGreat
namespace Go.Proofs.YtndlggbljkhfbaaGreat
open Go.Tidy
variable {L : List Blk} {k : V → List Blk → Prop}
def pC : Pl:=⟨[1,2],false,[⟨1,1,0,0,0,[]⟩,⟨2,1,0,0,0,[]⟩,⟨9,2,0,0,0,[]⟩]⟩
theorem contrary_c (h : k (plV pC) L) : CallP C 59 [] L k:=by
 refine CallP.pure ?_ rfl (fun _=>rfl) h
 clear h
 refine callP_of C_ok Tryz.func59 rfl rfl (n:=_) rfl (w18 rfl) (rs:=_) rfl ?_
 repeat' ((conv=>whnf); first|refine w0 ?_|refine w1 ?_|refine w2 (fun h=>?_) (fun h=>?_)|refine w3 ?_|refine w4 (fun h=>?_) (fun h=>?_)|refine w5 _ rfl ?_|refine w6 rfl ?_|refine w7 mixed rfl ?_)
 conv=>whnf
 exact FinP.data (L':=[]) (.aggL (.cons (.rowL (ds:=[[DI 1],[DI 2]]) (w22 _) rfl (.cons (.cons (.d _) .nil) (.cons (.cons (.d _) .nil) .nil)) rfl (by exact len1 rfl)) (.cons (.d _) (.cons (.rowL (ds:=pC.demands.map Dm.cells) (w22 _) rfl (.cons (.cons (.d _) (.cons (.d _) (.cons (.d _) (.cons (.d _) (.cons (.d _) (.cons .nil .nil)))))) (.cons (.cons (.d _) (.cons (.d _) (.cons (.d _) (.cons (.d _) (.cons (.d _) (.cons .nil .nil)))))) (.cons (.cons (.d _) (.cons (.d _) (.cons (.d _) (.cons (.d _) (.cons (.d _) (.cons .nil .nil)))))) .nil))) rfl (by exact len6 rfl)) .nil)))) rfl rfl ⟨rfl,rfl⟩
def bsShow : Bs → List Int × List (List Int)
 | .go sp us t=>(us,t.map fun b=>[b.m.home,b.m.away,b.r,b.b,(b.t.length : Int)])
 | .stop e=>([e],[])
theorem rv1 : (bsShow (proveO pC 9)).1 = [1,0] ∧ (bsShow (proveO pC 9)).2 = [[1,2,0,1,0],[2,1,0,0,0]]:=by decide +kernel
theorem rvA : argE pC 9 = 0:=by decide +kernel
theorem rv2 : leastF pC 9 = ([0,1],0):=by decide +kernel
theorem rv3 : leastF pC 0 = ([],3):=by decide +kernel
theorem rv4 : keepE pC [2] = 0 ∧ proveE (keepX pC [2]) 9 = 300 ∧ (keepX pC [2]).demands.length = 1:=by decide +kernel
theorem rv6 : chkE pC [0,1] [.mk ⟨1,2⟩ 0 1 [],.mk ⟨2,1⟩ 0 0 []] = 0:=by decide +kernel
theorem rv0 : chkE pC [] [] = 330:=by decide +kernel
theorem smC : Small [] pC:=⟨by decide,by decide,by decide,by decide,by decide⟩
def tC : List Brc:=[.mk ⟨1,2⟩ 0 1 [],.mk ⟨2,1⟩ 0 0 []]
theorem brc_of {t : List Brc} (h : (t.map fun b=>[b.m.home,b.m.away,b.r,b.b,(b.t.length : Int)]) = [[1,2,0,1,0],[2,1,0,0,0]]) : t = tC:=by
 match t,h with
 | [.mk ⟨a,b⟩ r d t1,.mk ⟨a2,b2⟩ r2 d2 t2],h =>
  simp only [List.map_cons,List.map_nil,Brc.m,Brc.r,Brc.b,Brc.t,List.cons.injEq,and_true,Int.ofNat_eq_zero,Int.natCast_eq_zero,List.length_eq_zero_iff] at h
  obtain ⟨⟨rfl,rfl,rfl,rfl,h1⟩,rfl,rfl,rfl,rfl,h2⟩:=h
  rw [h1,h2]; rfl
 | [],h=>simp at h
 | [x],h=>simp at h
 | x :: y :: z :: t,h=>simp at h
theorem rvP : proveU pC 9 = [0,1] ∧ proveT pC 9 = tC ∧ proveE pC 9 = 0:=by
 have h:=rv1
 unfold proveU proveT proveE
 rw [if_pos rvA,if_pos rvA,if_pos rvA]
 generalize proveO pC 9 = o at h
 match o,h with
 | .go sp us t,⟨h1,h2⟩ =>
  refine ⟨?_,brc_of h2,rfl⟩
  have h1' : us = [1,0]:=h1
  show sortI us = _
  rw [h1',sort_filter (n:=2) (by decide) (by decide)]
  decide
 | .stop e,⟨h1,h2⟩=>cases h1
theorem prove_e {p : Pl} {bud : Int} {us : List Int} {t : List Brc} {e : Int} (hs : Small [] p) (hv : proveU p bud = us ∧ proveT p bud = t ∧ proveE p bud = e) (h : k (.tup [refV us t,I e]) L) : CallP C 14 [plV p,I bud] L k:=by
 obtain ⟨rfl,rfl,rfl⟩:=hv; exact prove_c p bud hs h
theorem proveE_c {p : Pl} {bud : Int} {e : Int} (hs : Small [] p) (hv : proveE p bud = e) (h : ∀ us t,k (.tup [refV us t,I e]) L) : CallP C 14 [plV p,I bud] L k:=by
 subst hv; exact prove_c p bud hs (h _ _)
theorem least_e {p : Pl} {bud : Int} {x : List Int} {e : Int} (hs : Small [] p) (hD : p.demands.length ≤ 1073741823) (hv : leastF p bud = (x,e)) (h : k (.tup [.d (ints x),I e]) L) : CallP C 19 [plV p,I bud] L k :=
 least_c p bud hs hD (by rw [hv]; exact h)
theorem chk_e {p : Pl} {us : List Int} {r : List Brc} {e : Int} (hs : Small [] p) (hul : us.length ≤ 1073741824) (hv : chkE p us r = e) (h : k (I e) L) : CallP C 18 [plV p,refV us r] L k:=by
 subst hv; exact check33_c p us r hs hul h
theorem same01 (h : k (B true) L) : CallP C 31 [.d (ints [0,1]),.d (ints [0,1])] L k:=rsameI_c [0,1] [0,1] (by decide) h
theorem rsane_c (h : k (B true) L) : CallP C 22 [] L k:=by
 refine CallP.pure ?_ rfl (fun _=>rfl) h
 clear h
 refine callP_of C_ok Tryz.func22 rfl rfl (n:=_) rfl (w18 rfl) (rs:=_) rfl ?_
 repeat' ((conv=>whnf); first|refine w0 ?_|refine w1 ?_|refine w2 (fun h=>?_) (fun h=>?_)|refine w3 ?_|refine w4 (fun h=>?_) (fun h=>?_)|refine w5 _ rfl ?_|refine w6 rfl ?_|refine w7 mixed rfl ?_|refine contrary_c ?_|refine prove_e smC rvP ?_|refine least_e smC (by decide) rv2 ?_|refine least_e smC (by decide) rv3 ?_|refine CallP.freeze (args:=[plV pC,.own 2 0 0 1]) [2] rfl rfl (.keep (.cv (.d (.rowL (ds:=[[DI 2]]) (List.mem_singleton.2 rfl) rfl (.cons (.cons (.d _) .nil) .nil) rfl (by exact len1 rfl))) .nil)) (keep_c pC [2] smC.hc smC.hd (by decide) (by simp) ?_)|refine proveE_c (small_keep smC (by decide)) rv4.2.1 (fun us t=>?_)|refine chk_e smC (by decide) rv6 ?_|refine CallP.freeze (args:=[plV pC,.agg [.nil,.nil]]) (dargs:=[plV pC,refV [] []]) [] rfl rfl (.keep (.cv (.aggL (.cons .nil (.cons .nil .nil))) .nil)) (chk_e smC (by decide) rv0 ?_)|refine w10 0 _ rfl rfl ?_|refine w8 (w19 rv4.1) ?_|refine w8 (w19 (show (((keepX pC [2]).demands.map Dm.cells).length : Int) = 1 by rw [List.length_map,rv4.2.2]; rfl)) ?_|refine CallP.lent (same01 ⟨rfl,rfl⟩) (.keep (.cv (y:=.d (ints [0,1])) (.d (.rowL (ds:=[[DI 0],[DI 1]]) trivial rfl (.cons (.cons (.d _) .nil) (.cons (.cons (.d _) .nil) .nil)) rfl (by exact len1 rfl))) .nil)) rfl rfl ?_)
 conv=>whnf
 exact FinP.drop (n:=0) rfl (w21 0) rfl rfl ⟨rfl,rfl⟩
end Go.Proofs.YtndlggbljkhfbaaGreat
namespace Go.Proofs.YtndlggbljkhfbaaGreat
open Go.Tidy
theorem few_small33 {p : Pl} (h : FewQ p) : Small [] p:=by
 obtain ⟨h1,h2,h3⟩:=h
 refine ⟨by decide,by simp,by rcases h2 with h | h <;> omega,fun d hd=>?_,by omega⟩
 obtain ⟨i,hi,rfl⟩:=List.getElem_of_mem hd
 have:=h1 i hi; omega
end Go.Proofs.YtndlggbljkhfbaaGreat
namespace Go.Proofs.YtndlggbljkhfbaaGreat
open Go.Tidy
variable {L : List Blk} {k : V → List Blk → Prop}
theorem rplanP_c (p : Pl) (bud : Int) (hs : Small [] p) (h : k (.tup [lisV (planF p bud).l,I (planF p bud).sp,I (planF p bud).e]) L) : CallP C 66 [plV p,I bud] L k:=by
 rw [plan_eq bud hs] at h
 exact rplan_c p bud hs h
theorem del_A (x : List Int) (i : Nat) : ((((x.map fun n=>[DI n]).drop 0).take (i - 0)).map fun y=>y.map V.d) = iR (x.take i):=by
 unfold iR; rw [List.drop_zero,Nat.sub_zero,← List.map_take,List.map_map]; rfl
theorem del_B (x : List Int) (i : Nat) : ((((x.map fun n=>[DI n]).drop (i + 1)).take (x.length - (i + 1))).map fun y=>y.map V.d) = iR (x.drop (i + 1)):=by
 unfold iR; rw [List.take_of_length_le (by simp),← List.map_drop,List.map_map]; rfl
theorem del_len1 {x : List Int} {i : Nat} : ((((x.map fun n=>[DI n]).drop 0).take (i - 0)).map fun y=>y.map V.d).length = min i x.length:=by rw [del_A]; unfold iR; simp
theorem del_len2 (x : List Int) (i : Nat) (h : i < x.length) : ((((x.map fun n=>[DI n]).drop (i + 1)).take (x.length - (i + 1))).map fun y=>y.map V.d).length = x.length - (i + 1):=by rw [del_B]; unfold iR; simp
theorem del_rows (x : List Int) (i : Nat) (h : i < x.length) : ((((((x.map fun n=>[DI n]).drop 0).take (i - 0)).map fun y=>y.map V.d).length |> fun a=>(([] : List (List V)).take 0 ++ ((((x.map fun n=>[DI n]).drop 0).take (i - 0)).map fun y=>y.map V.d)).take (0 + a) ++ ((((x.map fun n=>[DI n]).drop (i + 1)).take (x.length - (i + 1))).map fun y=>y.map V.d)).drop 0).take (0 + ((((x.map fun n=>[DI n]).drop 0).take (i - 0)).map fun y=>y.map V.d).length + ((((x.map fun n=>[DI n]).drop (i + 1)).take (x.length - (i + 1))).map fun y=>y.map V.d).length) = iR (delAt x i):=by
 simp only
 rw [del_A,del_B]
 have e : iR (x.take i) ++ iR (x.drop (i + 1)) = iR (delAt x i):=by unfold iR delAt; rw [List.map_append]
 rw [List.take_nil,List.nil_append,List.drop_zero,List.take_of_length_le (by omega : (iR (x.take i)).length ≤ 0 + (iR (x.take i)).length),e]
 exact List.take_of_length_le (by rw [← e,List.length_append]; omega)
theorem rleast_c (p : Pl) (bud : Int) (hs0 : Small [] p) (hD : p.demands.length ≤ 1073741823) (h : k (.tup [.d (ints (leastF p bud).1),I (leastF p bud).2]) L) : CallP C 30 [plV p,I bud] L k:=by
 obtain ⟨R,hR⟩ : ∃ R,leastF p bud = R:=⟨_,rfl⟩
 rw [hR] at h
 refine CallP.pure ?_ rfl (fun _=>rfl) h
 clear h
 refine callP_cut (fun c=>match c with | .region 14 _ _=>true | _=>false) C_ok Tryz.func30 rfl rfl (n:=_) rfl (w18 rfl) (rs:=_) rfl ?_
 by_cases e0 : (planF p bud).e = 0
 ·have hR' : R = ([],300):=by rw [← hR]; unfold leastF; rw [if_pos e0]
  subst hR'
  repeat' ((conv=>whnf); first|refine rplanP_c p bud hs0 ?_|refine w8 (w19 e0) ?_|refine w0 ?_|refine w1 ?_|refine w2 (fun h=>?_) (fun h=>?_)|refine w3 ?_|refine w4 (fun h=>?_) (fun h=>?_)|refine w5 _ rfl ?_|refine w6 rfl ?_|refine w7 mixed rfl ?_)
  conv=>whnf
  exact FinP.data (L':=[]) (.pair (.d .nil) (.d (.d _))) rfl rfl ⟨rfl,rfl⟩
 by_cases e1 : (planF p bud).e = 320
 ·have hR' : leastGo p bud p.demands.length (allN p.demands.length) = R:=by rw [← hR]; unfold leastF; rw [if_neg e0,if_pos e1]
  obtain ⟨l0,hl0⟩ : ∃ l0,(planF p bud).l = l0:=⟨_,rfl⟩
  repeat' ((conv=>whnf); first|refine rplanP_c p bud hs0 ?_|refine w9 (w20 e0) ?_|refine w8 (w19 e1) ?_|simp only [hl0]|refine w0 ?_|refine w1 ?_|refine w2 (fun h=>?_) (fun h=>?_)|refine w3 ?_|refine w4 (fun h=>?_) (fun h=>?_)|refine w5 _ rfl ?_|refine w6 rfl ?_|refine w7 mixed rfl ?_)
  conv=>whnf
  refine LoopP.inv (fun i=>i ≤ p.demands.length) (fun i=>⟨[(1,I bud),(2,.ptr 0 0),(9,.own 2 i 0 (allN i).length),(10,I i)],Tryz.f30.ntmps,[.cells (p.cells.map .d),.cells [.d (lisD l0)],.row i 1 (iR (allN i))],[],none⟩) (fun i=>p.demands.length - i) 0 (w22 _) ?_ ?_
  ·exact Weak.by ⟨rfl,rfl,rfl,rfl,trivial⟩
  intro i hi
  by_cases hi' : i < p.demands.length
  ·have hlt : (i : Int) < ((p.demands.map Dm.cells).length : Int):=by rw [List.length_map]; omega
   have hw : IntKind.i64.wrap ((i : Int) + 1) = ((i + 1 : Nat) : Int):=by rw [wrap_in (by omega)]; omega
   have hal:=allN_len i
   have hnx:=allN_next i
   generalize allN i = x at hal hnx
   repeat' ((conv=>whnf); first|simp only [Nat.beq_refl,Bool.and_self]|refine Br.yes (decide_eq_true hlt) ?_|refine Need.intro (Nat.le_trans (m:=4294967296) (show x.length + 1 ≤ 4294967296 by omega) (apLim_ge _)) ?_|refine Br.tt ?_|refine Br.ff ?_|refine Br.dec (fun h=>?_) (fun h=>?_)|refine Br.not ?_|refine Br.intro (fun h=>?_) (fun h=>?_)|refine GetE.intro _ rfl ?_|refine Need.intro rfl ?_|refine DrawP.go mixed rfl ?_)
   conv=>whnf
   refine ⟨i + 1,hi',by omega,Weak.to 3 ?_ (w22 _) (w18 rfl) ⟨rfl,rfl,?_,congrArg I hw,trivial⟩ (hB:=?_)⟩
   ·exact congrArg (fun z=>[Blk.cells (p.cells.map .d),.cells [.d (lisD l0)],.row (i + 1) 1 z]) ((iR_snoc x _).trans (by rw [hnx]))
   ·exact congrArg (fun n : Nat=>V.own 2 (i + 1) 0 n) (by rw [hnx,List.length_append]; rfl)
   ·show (V.belL 3 (p.cells.map .d) && (true && (belR 3 (iR _) && true))) = true
    rw [V.belL_d,iR_bel]; rfl
  ·have hlt : ¬ (i : Int) < ((p.demands.map Dm.cells).length : Int):=by rw [List.length_map]; omega
   have hie : i = p.demands.length:=by omega
   subst hie
   have hal:=allN_len p.demands.length
   have hw0 : IntKind.i64.wrap (((p.demands.map Dm.cells).length : Int) - 1) = (p.demands.length : Int) - 1:=by rw [List.length_map,wrap_in (by omega)]
   repeat' ((conv=>whnf); first|simp only [Nat.beq_refl,Bool.and_self]|refine Br.no (decide_eq_false hlt) ?_|refine Br.tt ?_|refine Br.ff ?_|refine Br.dec (fun h=>?_) (fun h=>?_)|refine Br.not ?_|refine Br.intro (fun h=>?_) (fun h=>?_)|refine GetE.intro _ rfl ?_|refine Need.intro rfl ?_|refine DrawP.go mixed rfl ?_)
   conv=>whnf
   refine LoopP.inv (fun q : Nat × List Int=>leastGo p bud q.1 q.2 = R ∧ q.1 ≤ q.2.length ∧ q.2.length ≤ p.demands.length) (fun q=>⟨[(1,I bud),(2,.ptr 0 0),(9,.d (ints q.2)),(11,I ((q.1 : Int) - 1))],Tryz.f30.ntmps,[.cells (p.cells.map .d),.cells [.d (lisD l0)]],[],none⟩) (fun q=>q.1) (p.demands.length,allN p.demands.length) ⟨hR',by rw [hal]; exact Nat.le_refl _,by rw [hal]; exact Nat.le_refl _⟩ ?_ ?_
   ·refine Weak.thaw 2 (Nat.zero_le _) (Nat.le_of_ble_eq_true rfl) rfl ⟨.inl ⟨rfl,rfl⟩,.inl ⟨rfl,rfl⟩,.inr (.d (.rowL (ds:=(allN p.demands.length).map fun n=>[DI n]) (Nat.le_refl 2) rfl (iR_cv _) (by rw [List.length_map]) (lenC _))),.inl ⟨congrArg I hw0,rfl⟩,trivial⟩ (fun b x y hx hy=>bc_same rfl ?_ rfl hx hy)
    show (V.belL 2 (p.cells.map .d) && true) = true
    rw [V.belL_d]; rfl
   rintro ⟨i,x⟩ ⟨hx1,hx2,hx3⟩
   simp only at hx1 hx2 hx3
   cases i with
   | zero =>
    have hlt : ¬ (0 : Int) ≤ ((0 : Nat) : Int) - 1:=by omega
    repeat' ((conv=>whnf); first|refine w9 (w20 hlt) ?_|refine w0 ?_|refine w1 ?_|refine w2 (fun h=>?_) (fun h=>?_)|refine w3 ?_|refine w4 (fun h=>?_) (fun h=>?_)|refine w5 _ rfl ?_|refine w6 rfl ?_|refine w7 mixed rfl ?_)
    conv=>whnf
    refine w16 (L':=[]) (.pair (.d (.d _)) (.d (.d _))) rfl rfl ⟨rfl,?_⟩
    rw [← hx1]; rfl
   | succ i =>
    have hlt : (0 : Int) ≤ ((i + 1 : Nat) : Int) - 1:=by omega
    have hi1 : ((i + 1 : Nat) : Int) - 1 = (i : Int):=by omega
    have hw : IntKind.i64.wrap ((i : Int) + 1) = ((i + 1 : Nat) : Int):=by rw [wrap_in (by omega)]; omega
    have hw2 : IntKind.i64.wrap ((i : Int) - 1) = (i : Int) - 1:=wrap_in (by omega)
    have hdl:=delAt_len (x:=x) (i:=i) (by omega)
    have hsk : Small [] (keepX p (delAt x i)):=small_keep hs0 (by omega)
    rw [hi1]
    have hlt' : (0 : Int) ≤ (i : Int):=by omega
    repeat' ((conv=>whnf); first|refine w8 (w19 hlt') ?_|refine w0 ?_|refine w1 ?_|refine w2 (fun h=>?_) (fun h=>?_)|refine w3 ?_|refine w4 (fun h=>?_) (fun h=>?_)|refine w5 _ rfl ?_|refine w6 rfl ?_|refine w7 mixed rfl ?_)
    conv=>whnf
    refine CutP.intro (ι:=Unit) (fun _=>⟨[(1,I bud),(2,.ptr 0 0),(9,.d (ints x)),(11,I i),(12,.d (ints (delAt x i)))],Tryz.f30.ntmps,[.cells (p.cells.map .d),.cells [.d (lisD l0)]],[],none⟩) ?_ (fun _=>?_)
    ·refine DrawP.por mixed [] [[(1,0),(2,0),(3,1),(5,0),(6,0),(7,0),(8,1),(0,0),(4,0),(9,0),(10,0)]] (by kernel_rfl) ?_
     all_goals
      repeat' ((conv=>whnf); first|refine w0 ?_|refine w1 ?_|refine w2 (fun h=>?_) (fun h=>?_)|refine w3 ?_|refine w4 (fun h=>?_) (fun h=>?_)|refine w5 _ rfl ?_|refine w6 rfl ?_|refine w7 mixed rfl ?_|refine w6 (lenC _) ?_|refine w6 (fun e he=>lenC _ e (List.mem_of_mem_drop (List.mem_of_mem_take he))) ?_|simp only [Nat.beq_refl,Bool.and_self]|refine w6 (w23 (m:=4294967296) (by simp; omega) (apLim_ge _)) ?_|refine SliceP.intro 0 i rfl rfl (w22 _) (by rw [List.length_map]; omega) ?_|refine SliceP.intro (i + 1) x.length hw (by rw [List.length_map]; rfl) (by omega) (by rw [List.length_map]; exact Nat.le_refl _) ?_)
     all_goals conv=>whnf
     all_goals
      refine ⟨(),Weak.thaw 2 (w22 _) (w18 rfl) rfl ⟨.inl ⟨rfl,rfl⟩,.inl ⟨rfl,rfl⟩,.inl ⟨rfl,rfl⟩,.inl ⟨rfl,rfl⟩,.inr (.d (.rowL (ds:=(delAt x i).map fun n=>[DI n]) (w21 2) rfl (CvLL.cong ?_ (iR_rows _)) ?_ (lenC _))),trivial⟩ (fun b x y hx hy=>bc_same rfl ?_ rfl hx hy)⟩
     ·exact del_rows x i (by omega)
     ·rw [del_len1,del_len2 x i (by omega),List.length_map,hdl]; omega
     ·show (V.belL 2 (p.cells.map .d) && true) = true
      rw [V.belL_d]; rfl
    by_cases f0 : (planF (keepX p (delAt x i)) bud).e = 0
    ·repeat' (conv => whnf
              first|refine rkeep_c p (delAt x i) hs0.hc hs0.hd (by omega) (by omega) ?_|refine rplanP_c (keepX p (delAt x i)) bud hsk ?_|refine w3 ?_|refine w8 (w19 f0) ?_|refine w9 (w20 (show ¬ (planF (keepX p (delAt x i)) bud).e = 320 by omega)) ?_|refine w0 ?_|refine w1 ?_|refine w2 (fun h=>?_) (fun h=>?_)|refine w3 ?_|refine w4 (fun h=>?_) (fun h=>?_)|refine w5 _ rfl ?_|refine w6 rfl ?_|refine w7 mixed rfl ?_)
     conv=>whnf
     refine ⟨(i,x),⟨by rw [← hx1]; simp only [leastGo]; rw [if_pos f0],by simp only; omega,by simp only; omega⟩,by simp only; omega,Weak.to 2 rfl (w22 _) (w18 rfl) ⟨rfl,rfl,rfl,congrArg I hw2,trivial⟩ (hB:=?_)⟩
     show (V.belL 2 (p.cells.map .d) && true) = true
     rw [V.belL_d]; rfl
    by_cases f1 : (planF (keepX p (delAt x i)) bud).e = 320
    ·repeat' (conv => whnf
              first|refine rkeep_c p (delAt x i) hs0.hc hs0.hd (by omega) (by omega) ?_|refine rplanP_c (keepX p (delAt x i)) bud hsk ?_|refine w8 (w19 f1) ?_|refine w0 ?_|refine w1 ?_|refine w2 (fun h=>?_) (fun h=>?_)|refine w3 ?_|refine w4 (fun h=>?_) (fun h=>?_)|refine w5 _ rfl ?_|refine w6 rfl ?_|refine w7 mixed rfl ?_)
     conv=>whnf
     refine ⟨(i,delAt x i),⟨by rw [← hx1]; simp only [leastGo]; rw [if_neg f0,if_pos f1],by simp only; omega,by simp only; omega⟩,by simp only; omega,Weak.to 2 rfl (w22 _) (w18 rfl) ⟨rfl,rfl,rfl,congrArg I hw2,trivial⟩ (hB:=?_)⟩
     show (V.belL 2 (p.cells.map .d) && true) = true
     rw [V.belL_d]; rfl
    ·repeat' (conv => whnf
              first|refine rkeep_c p (delAt x i) hs0.hc hs0.hd (by omega) (by omega) ?_|refine rplanP_c (keepX p (delAt x i)) bud hsk ?_|refine w3 ?_|refine w9 (w20 f1) ?_|refine w9 (w20 f0) ?_|refine w0 ?_|refine w1 ?_|refine w2 (fun h=>?_) (fun h=>?_)|refine w3 ?_|refine w4 (fun h=>?_) (fun h=>?_)|refine w5 _ rfl ?_|refine w6 rfl ?_|refine w7 mixed rfl ?_)
     conv=>whnf
     refine w16 (L':=[]) (.pair (.d .nil) (.d (.d _))) rfl rfl ⟨rfl,?_⟩
     rw [← hx1]; simp only [leastGo]; rw [if_neg f0,if_neg f1]; rfl
 ·have hR' : R = ([],(planF p bud).e):=by rw [← hR]; unfold leastF; rw [if_neg e0,if_neg e1]
  subst hR'
  repeat' ((conv=>whnf); first|refine rplanP_c p bud hs0 ?_|refine w9 (w20 e0) ?_|refine w9 (w20 e1) ?_|refine w0 ?_|refine w1 ?_|refine w2 (fun h=>?_) (fun h=>?_)|refine w3 ?_|refine w4 (fun h=>?_) (fun h=>?_)|refine w5 _ rfl ?_|refine w6 rfl ?_|refine w7 mixed rfl ?_)
  conv=>whnf
  exact FinP.data (L':=[]) (.pair (.d .nil) (.d (.d _))) rfl rfl ⟨rfl,rfl⟩
theorem leastGo_len (p : Pl) (bud : Int) : ∀ (i : Nat) (x : List Int),(leastGo p bud i x).1.length ≤ x.length
 | 0,x=>w21 _
 | i + 1,x=>by
  simp only [leastGo]
  split
  ·exact leastGo_len p bud i x
  ·split
   ·refine w23 (leastGo_len p bud i _) ?_
    unfold delAt; rw [List.length_append,List.length_take,List.length_drop]; omega
   ·exact Nat.zero_le _
theorem leastF_len (p : Pl) (bud : Int) : (leastF p bud).1.length ≤ p.demands.length:=by
 unfold leastF
 split
 ·exact Nat.zero_le _
 ·split
  ·have:=leastGo_len p bud p.demands.length (allN p.demands.length)
   rwa [allN_len] at this
  ·exact Nat.zero_le _
theorem rsameI_t {a : List Int} (ha : a.length ≤ 1073741824) (h : k (B true) L) : CallP C 31 [.d (ints a),.d (ints a)] L k :=
 rsameI_c a a (Nat.le_trans ha (by decide)) (by rw [decide_eq_true rfl]; exact h)
end Go.Proofs.YtndlggbljkhfbaaGreat
