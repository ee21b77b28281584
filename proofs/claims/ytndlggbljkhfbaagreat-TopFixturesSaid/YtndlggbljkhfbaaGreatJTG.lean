import Derived.Test.YtndlggbljkhfbaaGreatJTF
set_option maxRecDepth 100000
set_option maxHeartbeats 0
set_option linter.unusedSimpArgs false
set_option linter.unusedVariables false
namespace Go.Proofs.YtndlggbljkhfbaaGreat
open Go.Tidy
variable {L : List Blk} {k : V → List Blk → Prop}
def alE (p : Pl) (us : List Int) : List (V × V):=us.map fun u=>(I u,plV (keepX p [u]))
theorem alE_bel (n : Nat) (p : Pl) : ∀ us : List Int,belM n (alE p us) = true
 | []=>rfl
 | u :: us=>by simp only [alE,List.map_cons,belM,V.bel,V.belL_d,Bool.true_and]; exact alE_bel n p us
theorem al_find {p : Pl} {us : List Int} {u : Int} {κ : Option (Nat × V) → Prop} (h1 : u ∈ us → ∀ i,κ (some (i,plV (keepX p [u])))) (h2 : u ∉ us → κ none) : MapF (.int .i64) (alE p us) (I u) κ:=by
 have hks : (alE p us).map (·.1) = us.map fun m=>.d (.int .i64 m):=by unfold alE; rw [List.map_map]; rfl
 refine MapF.ints us hks ?_
 by_cases h : u ∈ us
 ·left
  have hm : I u ∈ intK us:=(intK_mem us u).2 h
  obtain ⟨i,e1,e2⟩:=firstIn hm
  have hg : ∀ j : Nat,(intK us)[j]? = (us[j]?).map fun n=>I n:=fun j=>List.getElem?_map
  have e3 : us[i]? = some u:=by
   rw [hg] at e1
   cases hq : us[i]? with
   | none=>rw [hq] at e1; cases e1
   | some y=>rw [hq] at e1; cases e1; rfl
  refine ⟨i,plV (keepX p [u]),e3,fun j hj he=>e2 j hj (by rw [hg,he]; rfl),?_,h1 h i⟩
  unfold alE; rw [List.getElem?_map,e3]; rfl
 ·exact .inr ⟨h,h2 h⟩
def capK : List V:=[.ptr 0 0,.ptr 4 0,.ptr 3 0]
def ckM (p : Pl) (us : List Int) (r : List Brc) : List Blk:=[.cells (p.cells.map .d),.cells [.d (ints us),.d (.sl (brcs r))],.map (alE p us),.cells [.map 2],.cells [.fn 56 capK]]
theorem ckM_bel (p : Pl) (us : List Int) (r : List Brc) : belB 5 (ckM p us r) = true:=by
 show (V.belL 5 (p.cells.map .d) && (true && (belM 5 (alE p us) && true))) = true
 rw [V.belL_d,alE_bel]; rfl
def ckS (p : Pl) (us : List Int) (r : List Brc) (l : Lst) (t : List Brc) (lr : LoopR) (i : Nat) : List Blk:=ckM p us r ++ [.cells [.d (lisD l)],.cells [.d (.sl (brcs t))],.cells [B false],.cells [I i],.defr,.loop lr]
def ckW (p : Pl) (us : List Int) (r : List Brc) (l : Lst) (t : List Brc) (z : Int) (y : LoopR) : List Blk:=ckM p us r ++ [.cells [.d (lisD l)],.cells [.d (.sl (brcs t))],.cells [B false],.cells [I z],.defr,.loop y]
theorem ckW_eq (p : Pl) (us : List Int) (r : List Brc) (l : Lst) (t : List Brc) {z : Int} {y lr : LoopR} {i : Nat} (h1 : z = (i : Int)) (h2 : y = lr) : ckW p us r l t z y = ckS p us r l t lr i:=by subst h1 h2; rfl
theorem al_yes {p : Pl} {us : List Int} {u : Int} {κ : Option (Nat × V) → Prop} (h : u ∈ us) (h1 : ∀ i,κ (some (i,plV (keepX p [u])))) : MapF (.int .i64) (alE p us) (I u) κ:=al_find (fun _=>h1) fun h2=>absurd h h2
theorem al_no {p : Pl} {us : List Int} {u : Int} {κ : Option (Nat × V) → Prop} (h : u ∉ us) (h1 : κ none) : MapF (.int .i64) (alE p us) (I u) κ:=al_find (fun h2=>absurd h2 h) fun _=>h1
def ckE (p : Pl) (us : List Int) (r : List Brc) (l : Lst) (t : List Brc) (lr : LoopR) (i : Int) : List Blk:=ckM p us r ++ [.cells [.d (lisD l)],.cells [.d (.sl (brcs t))],.cells [B false],.cells [I i],.defr,.loop { lr with st:=.done,pend:=some .ret }]
theorem check1_c (p : Pl) (us : List Int) (r : List Brc) (h0 : checkP p = 0) (hs0 : Small [] p) (hus : IndP p.demands.length us) :
  ∀ (n : Nat) (l : Lst) (t : List Brc),PartP l p → roundsN p * halfN p < l.flatten.length + n →
   CallP C 56 (lisV l :: .d (.sl (brcs t)) :: capK) (ckM p us r) fun X L'=>X = B (chk p us n l t) ∧ L' = ckM p us r
 | 0,l,t,hP,hfu=>by have:=part_total hP; omega
 | n + 1,l,t,hP,hfu=>by
  have hlen : 1 ≤ p.clubs.length ∧ p.clubs.length ≤ 1000:=by
   have hf:=checkP_field h0
   simp only [fieldOk,Bool.and_eq_true,decide_eq_true_eq] at hf; omega
  obtain ⟨hsl,hsx⟩:=part_small hs0 hlen.2 hP ⟨0,0⟩
  have hh:=halfN_le hlen.2
  have hrw : ∀ r ∈ l,r.length + 1 ≤ 4294967296:=fun r hr=>by have:=part_row hP hr; omega
  have hcp:=chE_part h0 hP
  have hcl : (chE l p).length ≤ 4294967296:=by
   unfold chE; split
   ·exact chs_len l p hlen.2
   ·exact Nat.zero_le _
  obtain ⟨q,hq⟩ : ∃ q,chk p us (n + 1) l t = q:=⟨_,rfl⟩
  rw [hq]
  have hlf:=chk_len (p:=p) (us:=us) (n:=n) (l:=l) (t:=t)
  have hyes:=chk_yes (p:=p) (us:=us) (n:=n) (l:=l) (t:=t)
  have hnok:=fun {i : Nat}=>chk_no (p:=p) (us:=us) (n:=n) (l:=l) (t:=t) (i:=i)
  have hih0 : ∀ (x : Lst) (b : Brc),PartP x p → roundsN p * halfN p < x.flatten.length + n → CallP C 56 (lisV x :: .d (.sl (brcs b.t)) :: capK) (ckM p us r) fun X L'=>X = B (chk p us n x b.t) ∧ L' = ckM p us r:=fun x b h1 h2=>check1_c p us r h0 hs0 hus n x b.t h1 h2
  rw [hq] at hlf hyes hnok
  generalize chk p us n = f0 at hih0 hyes hnok
  have hbl:=brcs_len t
  refine callP_of C_ok Tryz.func56 rfl rfl (n:=_) rfl (w18 rfl) (rs:=_) rfl ?_
  repeat' ((conv=>whnf); first|refine ways_c l p ?_|refine w0 ?_|refine w1 ?_|refine w2 (fun h=>?_) (fun h=>?_)|refine w3 ?_|refine w4 (fun h=>?_) (fun h=>?_)|refine w5 _ rfl ?_|refine w6 rfl ?_|refine w7 mixed rfl ?_)
  conv=>whnf
  refine CallP.cnv (args':=.yld 10 :: [D.rptr [lisD l],.rptr p.cells].map .d) (L':=ckM p us r ++ [.cells [.d (lisD l)],.cells [.d (.sl (brcs t))],.cells [B false],.cells [I 0],.defr,.loop _]) rfl rfl ?_
  generalize hlr : LoopR.mk _ _ _ _ _ _ _ _ = lr
  have hlrd : lr.df = 9:=by rw [← hlr]; rfl
  have hlrs : lr.st = .ready:=by rw [← hlr]
  have hlrp : lr.pend = none:=by rw [← hlr]
  have hback : (⟨.ready,none,lr.fr,lr.n,lr.ps,lr.assign,lr.body,lr.df⟩ : LoopR) = lr:=by rw [← hlr]
  have hblkb : (Blk.loop lr).bel 11 = true:=by rw [← hlr]; rfl
  have hSb : ∀ i,belB 11 (ckS p us r l t lr i) = true:=fun i=>by
   refine belB_append (belB_le (by decide) (ckM_bel p us r)) ?_
   show (true && (true && (true && (true && (true && ((Blk.loop lr).bel 11 && true)))))) = true
   rw [hblkb]; rfl
  have hEb : ∀ i,belB 11 (ckE p us r l t lr i) = true:=fun i=>by
   refine belB_append (belB_le (by decide) (ckM_bel p us r)) ?_
   show (true && (true && (true && (true && (true && ((Blk.loop lr).bel 11 && true)))))) = true
   rw [hblkb]; rfl
  have hSd : ∀ i,dfB (ckS p us r l t lr i) = true:=fun i=>by
   refine dfB_of fun c l' hc=>?_
   match c,hc with
   | 0,hc | 1,hc | 2,hc | 3,hc | 4,hc | 5,hc | 6,hc | 7,hc | 8,hc | 9,hc=>cases hc
   | 10,hc =>
    have : lr = l':=by cases hc; rfl
    rw [← this,hlrd]; rfl
   | c + 11,hc=>cases hc
  obtain ⟨ms,hms⟩ : ∃ ms,chE l p = ms:=⟨_,rfl⟩
  have hwi:=ways_it 0 (fun _ _=>False) l p hsl hlen.2 hrw
  rw [hms] at hwi
  simp only [hms] at hlf hyes hnok hcp hcl
  refine hwi 10 11 (fun i=>i ≤ t.length ∧ ∀ (j : Nat) (h1 : j < ms.length) (h2 : j < t.length),j < i → okBr f0 l p us ms[j] t[j] = true) (fun i=>ckS p us r l t lr i) _ (w22 _) (fun i=>rfl) hSb hSd (by omega) ?_ ?_ ⟨w22 _,fun j _ _ h=>absurd h (Nat.not_lt_zero j)⟩
  ·rintro i hi ⟨hit,hok⟩
   rw [List.length_map] at hi
   rw [List.getElem_map]
   obtain ⟨x,hx⟩ : ∃ x,x = extL l p ms[i]:=⟨_,rfl⟩
   have hnx : nxV l p ms[i] = .agg [.d (DI ms[i].home),.d (DI ms[i].away),I (atN l p),.d (lisD x)]:=by rw [hx]; rfl
   have hPx : PartP x p:=by rw [hx]; exact hcp _ (List.getElem_mem hi)
   have hsx : Small x p:=hx ▸ (part_small hs0 hlen.2 hP ms[i]).2
   have hbig : roundsN p * halfN p < x.flatten.length + n:=by rw [hx,extL_flat,List.length_append]; simp only [List.length_singleton]; omega
   have hdm0 : ∀ {L : List Blk} {k : V → List Blk → Prop},k (.tup [I (dmA x ⟨[],false,[]⟩),I (dmE x ⟨[],false,[]⟩)]) L → CallP C 43 [lisV x,.agg [.nil,B false,.nil]] L k:=fun h =>
    CallP.freeze (args:=[lisV x,.agg [.nil,B false,.nil]]) (dargs:=[lisV x,plV ⟨[],false,[]⟩]) [] rfl rfl (.keep (.cv (.aggL (.cons .nil (.cons (.d _) (.cons .nil .nil)))) .nil)) (dmd_c x ⟨[],false,[]⟩ ⟨hsx.hl,hsx.hr,by simp,by simp,by simp⟩ h)
   rw [hnx]
   have hw : IntKind.i64.wrap ((i : Int) + 1) = ((i + 1 : Nat) : Int):=by rw [wrap_in (by omega)]; omega
   refine YieldP.roundE (C_ok.wp 0 _) (fun _=>false) hlr rfl rfl ?_ (w22 _)
   by_cases hi' : i < t.length
   ·have hnge : ¬ ((brcs t).length : Int) ≤ (i : Int):=by omega
    have rb:=brcs_at hi'
    have hno : okBr f0 l p us ms[i] t[i] = false → q = false:=fun e=>hnok hi hi' e
    have hgo : okBr f0 l p us ms[i] t[i] = true → ∀ (j : Nat) (h1 : j < ms.length) (h2 : j < t.length),j < i + 1 → okBr f0 l p us ms[j] t[j] = true:=fun e j h1 h2 hji=>by
     by_cases e2 : j = i
     ·subst e2; exact e
     ·exact hok j h1 h2 (by omega)
    have hih:=hih0 x t[i] hPx hbig
    generalize t[i] = b at rb hno hgo hih
    have hx':=hx.symm
    have hsk : Small x (keepX p [b.b]):=by
     have h:=small_keep (w:=[b.b]) hs0 (by simp)
     exact ⟨hsx.hl,hsx.hr,h.hc,h.hd,h.hD⟩
    have d1':=mEq b.m ms[i]
    have hfB:=fullB_eq h0 hPx
    by_cases e1 : b.m = ms[i]
    ·have d1:=d1'.trans (w19 e1)
     by_cases e2 : b.r = (atN l p : Int)
     ·by_cases e3 : b.b = -1
      ·by_cases e4 : fullC x p = true
       ·have e4':=hfB.trans e4
        repeat' ((conv=>whnf); first|simp only [hlrs,setB_eq]|refine Br.not ?_|refine Idx.intro i _ rfl rb ?_|refine CallP.up (full_c x p hsx ?_)|refine CallP.up (dmd_c x (keepX p [b.b]) hsk ?_)|refine CallP.up (hdm0 ?_)|refine Br.no (decide_eq_false hnge) ?_|refine Br.yes d1 ?_|refine Br.yes (decide_eq_true e2) ?_|refine Br.yes (decide_eq_true e3) ?_|refine Br.yes e4' ?_|refine Br.tt ?_|refine Br.ff ?_|refine Br.dec (fun h=>?_) (fun h=>?_)|refine Br.not ?_|refine Br.intro (fun h=>?_) (fun h=>?_)|refine GetE.intro _ rfl ?_|refine Need.intro rfl ?_|refine DrawP.go mixed rfl ?_)
        conv=>whnf
        refine w15 (n:=11) (L':=ckE p us r l t lr (IntKind.i64.wrap ((i : Int) + 1))) rfl (w21 _) rfl (hEb _) (.inr ⟨rfl,rfl,hEb _,?_⟩)
        repeat' ((conv=>whnf); first|refine w0 ?_|refine w1 ?_|refine w2 (fun h=>?_) (fun h=>?_)|refine w3 ?_|refine w4 (fun h=>?_) (fun h=>?_)|refine w5 _ rfl ?_|refine w6 rfl ?_|refine w7 mixed rfl ?_|simp only [hlrs,hlrp])
        conv=>whnf
        exact FinP.drop (n:=5) (L':=ckM p us r) rfl (Nat.le_refl _) rfl (ckM_bel p us r) ⟨congrArg B (hno (by simp [okBr,e1,e2,e3,hx',e4])).symm,rfl⟩
       ·have e4':=hfB.trans (eq_false_of_ne_true e4)
        repeat' ((conv=>whnf); first|simp only [hlrs,setB_eq]|refine Br.not ?_|refine Idx.intro i _ rfl rb ?_|refine CallP.up (full_c x p hsx ?_)|refine CallP.up (dmd_c x (keepX p [b.b]) hsk ?_)|refine CallP.up (hdm0 ?_)|refine Br.no (decide_eq_false hnge) ?_|refine Br.yes d1 ?_|refine Br.yes (decide_eq_true e2) ?_|refine Br.yes (decide_eq_true e3) ?_|refine Br.no e4' ?_|refine Br.tt ?_|refine Br.ff ?_|refine Br.dec (fun h=>?_) (fun h=>?_)|refine Br.not ?_|refine Br.intro (fun h=>?_) (fun h=>?_)|refine GetE.intro _ rfl ?_|refine Need.intro rfl ?_|refine DrawP.go mixed rfl ?_)
        conv=>whnf
        refine CallP.cnv (args':=lisV x :: .d (.sl (brcs b.t)) :: capK) (L':=ckM p us r ++ [.cells [.d (lisD l)],.cells [.d (.sl (brcs t))],.cells [B false],.cells [I (IntKind.i64.wrap ((i : Int) + 1))],.defr,.loop { lr with st:=.busy },.cells [.d (DI ms[i].home),.d (DI ms[i].away),I (atN l p),.d (lisD x)],.cells [.d (DI b.m.home),.d (DI b.m.away),.d (DI b.r),.d (DI b.b),.d (.sl (brcs b.t))]]) rfl rfl ?_
        refine CallP.frameP (w22 _) (w14 hih) (ckM_bel p us r) rfl rfl ?_
        rintro X L1 ⟨rfl,rfl⟩
        refine ⟨rfl,ckM_bel p us r,rfl,?_⟩
        by_cases e5 : f0 x b.t = true
        ·repeat' (conv => whnf
                  first|simp only [hlrs,setB_eq]|refine w3 ?_|refine w10 i _ rfl rb ?_|refine w14 (full_c x p hsx ?_)|refine w14 (dmd_c x (keepX p [b.b]) hsk ?_)|refine w14 (hdm0 ?_)|refine w8 e5 ?_|refine w0 ?_|refine w1 ?_|refine w2 (fun h=>?_) (fun h=>?_)|refine w3 ?_|refine w4 (fun h=>?_) (fun h=>?_)|refine w5 _ rfl ?_|refine w6 rfl ?_|refine w7 mixed rfl ?_)
         conv=>whnf
         exact FinP.drop (n:=11) (L':=ckS p us r l t lr (i + 1)) (ckW_eq p us r l t hw hback) (Nat.le_refl _) rfl (hSb _) (.inl ⟨rfl,rfl,hi',hgo (by simp [okBr,e1,e2,e3,hx',e4,e5])⟩)
        ·repeat' (conv => whnf
                  first|simp only [hlrs,setB_eq]|refine w3 ?_|refine w10 i _ rfl rb ?_|refine w14 (full_c x p hsx ?_)|refine w14 (dmd_c x (keepX p [b.b]) hsk ?_)|refine w14 (hdm0 ?_)|refine w9 (eq_false_of_ne_true e5) ?_|refine w0 ?_|refine w1 ?_|refine w2 (fun h=>?_) (fun h=>?_)|refine w3 ?_|refine w4 (fun h=>?_) (fun h=>?_)|refine w5 _ rfl ?_|refine w6 rfl ?_|refine w7 mixed rfl ?_)
         conv=>whnf
         refine w15 (n:=11) (L':=ckE p us r l t lr (IntKind.i64.wrap ((i : Int) + 1))) rfl (w21 _) rfl (hEb _) (.inr ⟨rfl,rfl,hEb _,?_⟩)
         repeat' ((conv=>whnf); first|refine w0 ?_|refine w1 ?_|refine w2 (fun h=>?_) (fun h=>?_)|refine w3 ?_|refine w4 (fun h=>?_) (fun h=>?_)|refine w5 _ rfl ?_|refine w6 rfl ?_|refine w7 mixed rfl ?_|simp only [hlrs,hlrp])
         conv=>whnf
         exact FinP.drop (n:=5) (L':=ckM p us r) rfl (Nat.le_refl _) rfl (ckM_bel p us r) ⟨congrArg B (hno (by simp [okBr,e1,e2,e3,hx',e4,e5])).symm,rfl⟩
      ·by_cases e4 : b.b ∈ us
       ·by_cases e6 : 0 ≤ dmA x (keepX p [b.b])
        ·have e6' : ¬ dmA x (keepX p [b.b]) < 0:=by omega
         have e7 : dmB x p b.b = true:=w19 e6
         by_cases e5 : b.t = []
         ·have e5' : ¬ (0 : Int) < ((brcs b.t).length : Int):=by rw [e5]; decide
          repeat' ((conv=>whnf); first|simp only [hlrs,setB_eq]|refine Br.not ?_|refine Idx.intro i _ rfl rb ?_|refine CallP.up (full_c x p hsx ?_)|refine CallP.up (dmd_c x (keepX p [b.b]) hsk ?_)|refine CallP.up (hdm0 ?_)|refine Br.no (decide_eq_false hnge) ?_|refine Br.yes d1 ?_|refine Br.yes (decide_eq_true e2) ?_|refine Br.no (decide_eq_false e3) ?_|refine al_yes e4 (fun _=>?_)|refine Br.no (decide_eq_false e6') ?_|refine Br.no (decide_eq_false e5') ?_|refine Br.tt ?_|refine Br.ff ?_|refine Br.dec (fun h=>?_) (fun h=>?_)|refine Br.not ?_|refine Br.intro (fun h=>?_) (fun h=>?_)|refine GetE.intro _ rfl ?_|refine Need.intro rfl ?_|refine DrawP.go mixed rfl ?_)
          conv=>whnf
          exact FinP.drop (n:=11) (L':=ckS p us r l t lr (i + 1)) (ckW_eq p us r l t hw hback) (Nat.le_refl _) rfl (hSb _) (.inl ⟨rfl,rfl,hi',hgo (by simp [okBr,e1,e2,e3,hx',e4,e5,e7])⟩)
         ·have e5' : (0 : Int) < ((brcs b.t).length : Int):=by
           have:=List.length_pos_iff.2 e5
           rw [brcs_len]; omega
          repeat' ((conv=>whnf); first|simp only [hlrs,setB_eq]|refine Br.not ?_|refine Idx.intro i _ rfl rb ?_|refine CallP.up (full_c x p hsx ?_)|refine CallP.up (dmd_c x (keepX p [b.b]) hsk ?_)|refine CallP.up (hdm0 ?_)|refine Br.no (decide_eq_false hnge) ?_|refine Br.yes d1 ?_|refine Br.yes (decide_eq_true e2) ?_|refine Br.no (decide_eq_false e3) ?_|refine al_yes e4 (fun _=>?_)|refine Br.no (decide_eq_false e6') ?_|refine Br.yes (decide_eq_true e5') ?_|refine Br.tt ?_|refine Br.ff ?_|refine Br.dec (fun h=>?_) (fun h=>?_)|refine Br.not ?_|refine Br.intro (fun h=>?_) (fun h=>?_)|refine GetE.intro _ rfl ?_|refine Need.intro rfl ?_|refine DrawP.go mixed rfl ?_)
          conv=>whnf
          refine w15 (n:=11) (L':=ckE p us r l t lr (IntKind.i64.wrap ((i : Int) + 1))) rfl (w21 _) rfl (hEb _) (.inr ⟨rfl,rfl,hEb _,?_⟩)
          repeat' ((conv=>whnf); first|refine w0 ?_|refine w1 ?_|refine w2 (fun h=>?_) (fun h=>?_)|refine w3 ?_|refine w4 (fun h=>?_) (fun h=>?_)|refine w5 _ rfl ?_|refine w6 rfl ?_|refine w7 mixed rfl ?_|simp only [hlrs,hlrp])
          conv=>whnf
          exact FinP.drop (n:=5) (L':=ckM p us r) rfl (Nat.le_refl _) rfl (ckM_bel p us r) ⟨congrArg B (hno (by simp [okBr,e1,e2,e3,hx',e4,e5])).symm,rfl⟩
        ·have e6' : dmA x (keepX p [b.b]) < 0:=by omega
         have e7 : dmB x p b.b = false:=w20 e6
         repeat' ((conv=>whnf); first|simp only [hlrs,setB_eq]|refine Br.not ?_|refine Idx.intro i _ rfl rb ?_|refine CallP.up (full_c x p hsx ?_)|refine CallP.up (dmd_c x (keepX p [b.b]) hsk ?_)|refine CallP.up (hdm0 ?_)|refine Br.no (decide_eq_false hnge) ?_|refine Br.yes d1 ?_|refine Br.yes (decide_eq_true e2) ?_|refine Br.no (decide_eq_false e3) ?_|refine al_yes e4 (fun _=>?_)|refine Br.yes (decide_eq_true e6') ?_|refine Br.tt ?_|refine Br.ff ?_|refine Br.dec (fun h=>?_) (fun h=>?_)|refine Br.not ?_|refine Br.intro (fun h=>?_) (fun h=>?_)|refine GetE.intro _ rfl ?_|refine Need.intro rfl ?_|refine DrawP.go mixed rfl ?_)
         conv=>whnf
         refine w15 (n:=11) (L':=ckE p us r l t lr (IntKind.i64.wrap ((i : Int) + 1))) rfl (w21 _) rfl (hEb _) (.inr ⟨rfl,rfl,hEb _,?_⟩)
         repeat' ((conv=>whnf); first|refine w0 ?_|refine w1 ?_|refine w2 (fun h=>?_) (fun h=>?_)|refine w3 ?_|refine w4 (fun h=>?_) (fun h=>?_)|refine w5 _ rfl ?_|refine w6 rfl ?_|refine w7 mixed rfl ?_|simp only [hlrs,hlrp])
         conv=>whnf
         exact FinP.drop (n:=5) (L':=ckM p us r) rfl (Nat.le_refl _) rfl (ckM_bel p us r) ⟨congrArg B (hno (by simp [okBr,e1,e2,e3,hx',e4,e7])).symm,rfl⟩
       ·repeat' (conv => whnf
                 first|simp only [hlrs,setB_eq]|refine w3 ?_|refine w10 i _ rfl rb ?_|refine w14 (full_c x p hsx ?_)|refine w14 (dmd_c x (keepX p [b.b]) hsk ?_)|refine w14 (hdm0 ?_)|refine w9 (w20 hnge) ?_|refine w8 d1 ?_|refine w8 (w19 e2) ?_|refine w9 (w20 e3) ?_|refine al_no e4 ?_|refine w0 ?_|refine w1 ?_|refine w2 (fun h=>?_) (fun h=>?_)|refine w3 ?_|refine w4 (fun h=>?_) (fun h=>?_)|refine w5 _ rfl ?_|refine w6 rfl ?_|refine w7 mixed rfl ?_)
        conv=>whnf
        refine w15 (n:=11) (L':=ckE p us r l t lr (IntKind.i64.wrap ((i : Int) + 1))) rfl (w21 _) rfl (hEb _) (.inr ⟨rfl,rfl,hEb _,?_⟩)
        repeat' ((conv=>whnf); first|refine w0 ?_|refine w1 ?_|refine w2 (fun h=>?_) (fun h=>?_)|refine w3 ?_|refine w4 (fun h=>?_) (fun h=>?_)|refine w5 _ rfl ?_|refine w6 rfl ?_|refine w7 mixed rfl ?_|simp only [hlrs,hlrp])
        conv=>whnf
        exact FinP.drop (n:=5) (L':=ckM p us r) rfl (Nat.le_refl _) rfl (ckM_bel p us r) ⟨congrArg B (hno (by simp [okBr,e1,e2,e3,hx',e4])).symm,rfl⟩
     ·repeat' (conv => whnf
               first|simp only [hlrs,setB_eq]|refine w3 ?_|refine w10 i _ rfl rb ?_|refine w14 (full_c x p hsx ?_)|refine w14 (dmd_c x (keepX p [b.b]) hsk ?_)|refine w14 (hdm0 ?_)|refine w9 (w20 hnge) ?_|refine w8 d1 ?_|refine w9 (w20 e2) ?_|refine w0 ?_|refine w1 ?_|refine w2 (fun h=>?_) (fun h=>?_)|refine w3 ?_|refine w4 (fun h=>?_) (fun h=>?_)|refine w5 _ rfl ?_|refine w6 rfl ?_|refine w7 mixed rfl ?_)
      conv=>whnf
      refine w15 (n:=11) (L':=ckE p us r l t lr (i : Int)) rfl (w21 _) rfl (hEb _) (.inr ⟨rfl,rfl,hEb _,?_⟩)
      repeat' ((conv=>whnf); first|refine w0 ?_|refine w1 ?_|refine w2 (fun h=>?_) (fun h=>?_)|refine w3 ?_|refine w4 (fun h=>?_) (fun h=>?_)|refine w5 _ rfl ?_|refine w6 rfl ?_|refine w7 mixed rfl ?_|simp only [hlrs,hlrp])
      conv=>whnf
      exact FinP.drop (n:=5) (L':=ckM p us r) rfl (Nat.le_refl _) rfl (ckM_bel p us r) ⟨congrArg B (hno (by simp [okBr,e1,e2])).symm,rfl⟩
    ·have d1:=d1'.trans (w20 e1)
     repeat' ((conv=>whnf); first|simp only [hlrs,setB_eq]|refine Br.not ?_|refine Idx.intro i _ rfl rb ?_|refine CallP.up (full_c x p hsx ?_)|refine CallP.up (dmd_c x (keepX p [b.b]) hsk ?_)|refine CallP.up (hdm0 ?_)|refine Br.no (decide_eq_false hnge) ?_|refine Br.no d1 ?_|refine Br.tt ?_|refine Br.ff ?_|refine Br.dec (fun h=>?_) (fun h=>?_)|refine Br.not ?_|refine Br.intro (fun h=>?_) (fun h=>?_)|refine GetE.intro _ rfl ?_|refine Need.intro rfl ?_|refine DrawP.go mixed rfl ?_)
     conv=>whnf
     refine w15 (n:=11) (L':=ckE p us r l t lr (i : Int)) rfl (w21 _) rfl (hEb _) (.inr ⟨rfl,rfl,hEb _,?_⟩)
     repeat' ((conv=>whnf); first|refine w0 ?_|refine w1 ?_|refine w2 (fun h=>?_) (fun h=>?_)|refine w3 ?_|refine w4 (fun h=>?_) (fun h=>?_)|refine w5 _ rfl ?_|refine w6 rfl ?_|refine w7 mixed rfl ?_|simp only [hlrs,hlrp])
     conv=>whnf
     exact FinP.drop (n:=5) (L':=ckM p us r) rfl (Nat.le_refl _) rfl (ckM_bel p us r) ⟨congrArg B (hno (by simp [okBr,e1])).symm,rfl⟩
   ·have hge : ((brcs t).length : Int) ≤ (i : Int):=by omega
    repeat' ((conv=>whnf); first|simp only [hlrs,setB_eq]|refine Br.not ?_|refine CallP.up (full_c x p hsx ?_)|refine CallP.up (hdm0 ?_)|refine Br.yes (decide_eq_true hge) ?_|refine Br.tt ?_|refine Br.ff ?_|refine Br.dec (fun h=>?_) (fun h=>?_)|refine Br.not ?_|refine Br.intro (fun h=>?_) (fun h=>?_)|refine GetE.intro _ rfl ?_|refine Need.intro rfl ?_|refine DrawP.go mixed rfl ?_)
    conv=>whnf
    refine w15 (n:=11) (L':=ckE p us r l t lr (i : Int)) rfl (w21 _) rfl (hEb _) (.inr ⟨rfl,rfl,hEb _,?_⟩)
    repeat' ((conv=>whnf); first|refine w0 ?_|refine w1 ?_|refine w2 (fun h=>?_) (fun h=>?_)|refine w3 ?_|refine w4 (fun h=>?_) (fun h=>?_)|refine w5 _ rfl ?_|refine w6 rfl ?_|refine w7 mixed rfl ?_|simp only [hlrs,hlrp])
    conv=>whnf
    exact FinP.drop (n:=5) (L':=ckM p us r) rfl (w21 _) rfl (ckM_bel p us r) ⟨congrArg B (hlf (by omega)).symm,rfl⟩
  ·rintro ⟨hit,hok⟩
   rw [List.length_map] at hit hok
   by_cases he : ms.length = t.length
   ·have he' : ((ms.map fun m=>[nxV l p m]).length : Int) = ((brcs t).length : Int):=by rw [List.length_map]; omega
    have hall : q = true:=hyes he fun j h1 h2=>hok j h1 h2 h1
    repeat' ((conv=>whnf); first|refine w0 ?_|refine w1 ?_|refine w2 (fun h=>?_) (fun h=>?_)|refine w3 ?_|refine w4 (fun h=>?_) (fun h=>?_)|refine w5 _ rfl ?_|refine w6 rfl ?_|refine w7 mixed rfl ?_|simp only [hlrs,hlrp])
    conv=>whnf
    exact FinP.drop (n:=5) (L':=ckM p us r) rfl (w21 _) rfl (ckM_bel p us r) ⟨congrArg B ((w19 he').trans hall.symm),rfl⟩
   ·have he' : ¬ ((ms.map fun m=>[nxV l p m]).length : Int) = ((brcs t).length : Int):=by rw [List.length_map]; omega
    repeat' ((conv=>whnf); first|refine w0 ?_|refine w1 ?_|refine w2 (fun h=>?_) (fun h=>?_)|refine w3 ?_|refine w4 (fun h=>?_) (fun h=>?_)|refine w5 _ rfl ?_|refine w6 rfl ?_|refine w7 mixed rfl ?_|simp only [hlrs,hlrp])
    conv=>whnf
    exact FinP.drop (n:=5) (L':=ckM p us r) rfl (w21 _) rfl (ckM_bel p us r) ⟨congrArg B ((w20 he').trans (hlf he).symm),rfl⟩
end Go.Proofs.YtndlggbljkhfbaaGreat
namespace Go.Proofs.YtndlggbljkhfbaaGreat
open Go.Tidy
variable {L : List Blk} {k : V → List Blk → Prop}
theorem alE_snoc (p : Pl) (us : List Int) (u : Int) : alE p (us ++ [u]) = alE p us ++ [(I u,plV (keepX p [u]))]:=by unfold alE; rw [List.map_append]; rfl
def chkE (p : Pl) (us : List Int) (t : List Brc) : Int:=if checkP p = 0 then (if IndP p.demands.length us then (if chk p us (fuelN p) [] t = true then 0 else 330) else 330) else checkP p
def alS (p : Pl) (us xs : List Int) (r : List Brc) : List Blk:=[.cells (p.cells.map .d),.cells [.d (ints us),.d (.sl (brcs r))],.map (alE p xs),.cells [.map 2]]
theorem alS_bel (p : Pl) (us xs : List Int) (r : List Brc) : belB 4 (alS p us xs r) = true:=by
 show (V.belL 4 (p.cells.map .d) && (true && (belM 4 (alE p xs) && true))) = true
 rw [V.belL_d,alE_bel]; rfl
theorem ind_fresh {n : Nat} {us : List Int} (h : IndP n us) {i : Nat} (hi : i < us.length) : us[i] ∉ us.take i:=fun hm=>by
 obtain ⟨j,hj,e⟩:=List.getElem_of_mem hm
 rw [List.length_take] at hj
 rw [List.getElem_take] at e
 have hlt:=List.pairwise_iff_getElem.1 (ind_pair h) j i (by omega) hi (by omega)
 omega
theorem check33_c (p : Pl) (us : List Int) (r : List Brc) (hs0 : Small [] p) (hul : us.length ≤ 1073741824) (h : k (I (chkE p us r)) L) : CallP C 18 [plV p,refV us r] L k:=by
 have hD:=hs0.hD
 refine CallP.pure ?_ rfl (fun _=>rfl) h
 clear h
 refine callP_of C_ok Tryz.func18 rfl rfl (n:=_) rfl (w18 rfl) (rs:=_) rfl ?_
 by_cases h0 : checkP p = 0
 ·by_cases hi : IndP p.demands.length us
  ·repeat' (conv => whnf
            first|refine check_c p hs0.hc hs0.hd (by omega) ?_|refine w3 ?_|refine w8 (w19 h0) ?_|refine indices_c p us (by omega) ?_|refine w8 (w19 hi) ?_|refine w0 ?_|refine w1 ?_|refine w2 (fun h=>?_) (fun h=>?_)|refine w3 ?_|refine w4 (fun h=>?_) (fun h=>?_)|refine w5 _ rfl ?_|refine w6 rfl ?_|refine w7 mixed rfl ?_)
   conv=>whnf
   refine LoopP.inv (fun i=>i ≤ us.length) (fun i=>⟨[(2,.ptr 0 0),(3,.ptr 1 0),(4,I 0),(6,.ptr 3 0),(22,.d (ints us)),(23,I us.length),(24,I i)],Tryz.f18.ntmps,alS p us (us.take i) r,[],none⟩) (fun i=>us.length - i) 0 (w22 _) ?_ ?_
   ·exact Weak.by ⟨rfl,rfl,rfl,rfl,rfl,congrArg (fun n : Nat=>I n) (List.length_map ..),rfl,trivial⟩
   intro i hi1
   by_cases hi' : i < us.length
   ·have hlt : (i : Int) < (us.length : Int):=by omega
    have hww : IntKind.i64.wrap ((i : Int) + 1) = ((i + 1 : Nat) : Int):=by rw [wrap_in (by omega)]; omega
    repeat' ((conv=>whnf); first|refine w8 (w19 hlt) ?_|refine w11 i rfl hi' ?_|refine w0 ?_|refine w1 ?_|refine w2 (fun h=>?_) (fun h=>?_)|refine w3 ?_|refine w4 (fun h=>?_) (fun h=>?_)|refine w5 _ rfl ?_|refine w6 rfl ?_|refine w7 mixed rfl ?_)
    conv=>whnf
    have hnx : alE p (us.take (i + 1)) = alE p (us.take i) ++ [(I us[i],plV (keepX p [us[i]]))]:=by rw [take_next hi',alE_snoc]
    refine DrawP.por mixed [0,2,5] [[(1,0),(3,0),(0,2),(2,2),(4,0),(5,2),(6,0),(7,0),(8,0),(9,0)],[(1,0),(3,0),(0,2),(4,0),(2,2),(5,2),(6,0),(7,0),(8,0),(9,0)],[(1,0),(3,0),(2,2),(0,2),(4,0),(5,2),(6,0),(7,0),(8,0),(9,0)],[(1,0),(3,0),(2,2),(4,0),(0,2),(5,2),(6,0),(7,0),(8,0),(9,0)],[(1,0),(3,0),(2,2),(4,0),(5,2),(0,2),(6,0),(7,0),(8,0),(9,0)],[(1,0),(3,0),(4,0),(0,2),(2,2),(5,2),(6,0),(7,0),(8,0),(9,0)],[(1,0),(3,0),(4,0),(2,2),(0,2),(5,2),(6,0),(7,0),(8,0),(9,0)],[(1,0),(3,0),(4,0),(2,2),(5,2),(0,2),(6,0),(7,0),(8,0),(9,0)]] (by kernel_rfl) ?_
    conv=>whnf
    refine And.intro ?_ ?_
    rotate_left 1
    conv=>whnf
    refine And.intro ?_ ?_
    rotate_left 1
    conv=>whnf
    refine And.intro ?_ ?_
    rotate_left 1
    conv=>whnf
    refine And.intro ?_ ?_
    rotate_left 1
    conv=>whnf
    refine And.intro ?_ ?_
    rotate_left 1
    conv=>whnf
    refine And.intro ?_ ?_
    rotate_left 1
    conv=>whnf
    refine And.intro ?_ ?_
    all_goals
     repeat' ((conv=>whnf); first|refine w0 ?_|refine w1 ?_|refine w2 (fun h=>?_) (fun h=>?_)|refine w3 ?_|refine w4 (fun h=>?_) (fun h=>?_)|refine w5 _ rfl ?_|refine w6 rfl ?_|refine w7 mixed rfl ?_|refine QCallW.rd (.map 2) ⟨rfl,rfl⟩ ?_|refine QCallW.rd (plV p) ⟨rfl,rfl⟩ ?_|refine w13 (.tup [plV (keepX p [us[i]]),I (keepE p [us[i]])]) _ (CallP.freeze (args:=[plV p,.own 4 0 0 1]) [4] rfl rfl (.keep (.cv (.d (.rowL (ds:=[[DI us[i]]]) (List.mem_singleton.2 rfl) rfl (.cons (.cons (.d _) .nil) .nil) rfl (by exact len1 rfl))) .nil)) (keep_c p [us[i]] hs0.hc hs0.hd (by omega) (by simp) ⟨rfl,rfl⟩)) ?_|refine al_no (ind_fresh hi hi') ?_)
    all_goals conv=>whnf
    all_goals exact ⟨i + 1,hi',by omega,Weak.to 4 (Eq.trans rfl (congrArg (fun m : List (V × V)=>[Blk.cells (p.cells.map .d),.cells [.d (ints us),.d (.sl (brcs r))],.map m,.cells [.map 2]]) hnx.symm)) (w22 _) (w18 rfl) ⟨rfl,rfl,rfl,rfl,rfl,rfl,congrArg I hww,trivial⟩ (hB:=alS_bel p us _ r)⟩
   ·have hlt : ¬ (i : Int) < (us.length : Int):=by omega
    have hit : us.take i = us:=List.take_of_length_le (by omega)
    rw [hit]
    have hck:=check1_c p us r h0 hs0 hi (fuelN p) [] r (part_nil p) (by unfold fuelN; simp)
    have he : chkE p us r = if chk p us (fuelN p) [] r = true then 0 else 330:=by unfold chkE; rw [if_pos h0,if_pos hi]
    rw [he]
    repeat' ((conv=>whnf); first|refine w9 (w20 hlt) ?_|refine w0 ?_|refine w1 ?_|refine w2 (fun h=>?_) (fun h=>?_)|refine w3 ?_|refine w4 (fun h=>?_) (fun h=>?_)|refine w5 _ rfl ?_|refine w6 rfl ?_|refine w7 mixed rfl ?_)
    conv=>whnf
    refine CallP.cnv (args':=.agg [.nil] :: .d (.sl (brcs r)) :: capK) (L':=ckM p us r) rfl rfl ?_
    refine CallP.freeze (args:=.agg [.nil] :: .d (.sl (brcs r)) :: capK) (dargs:=lisV [] :: .d (.sl (brcs r)) :: capK) [] rfl rfl (.cv (.aggL (.cons .nil .nil)) (.keep (.keep (.keep (.keep .nil))))) ?_
    refine hck.mono ?_
    rintro X L' ⟨rfl,rfl⟩
    by_cases e : chk p us (fuelN p) [] r = true
    ·rw [if_pos e]
     repeat' ((conv=>whnf); first|refine w3 ?_|refine w8 e ?_|refine w0 ?_|refine w1 ?_|refine w2 (fun h=>?_) (fun h=>?_)|refine w3 ?_|refine w4 (fun h=>?_) (fun h=>?_)|refine w5 _ rfl ?_|refine w6 rfl ?_|refine w7 mixed rfl ?_)
     conv=>whnf
     exact FinP.drop (n:=0) rfl (w21 0) rfl rfl ⟨rfl,rfl⟩
    ·rw [if_neg e]
     repeat' ((conv=>whnf); first|refine w3 ?_|refine w9 (eq_false_of_ne_true e) ?_|refine w0 ?_|refine w1 ?_|refine w2 (fun h=>?_) (fun h=>?_)|refine w3 ?_|refine w4 (fun h=>?_) (fun h=>?_)|refine w5 _ rfl ?_|refine w6 rfl ?_|refine w7 mixed rfl ?_)
     conv=>whnf
     exact FinP.drop (n:=0) rfl (w21 0) rfl rfl ⟨rfl,rfl⟩
  ·repeat' (conv => whnf
            first|refine check_c p hs0.hc hs0.hd (by omega) ?_|refine w3 ?_|refine w8 (w19 h0) ?_|refine indices_c p us (by omega) ?_|refine w9 (w20 hi) ?_|refine w0 ?_|refine w1 ?_|refine w2 (fun h=>?_) (fun h=>?_)|refine w3 ?_|refine w4 (fun h=>?_) (fun h=>?_)|refine w5 _ rfl ?_|refine w6 rfl ?_|refine w7 mixed rfl ?_)
   conv=>whnf
   exact FinP.drop (n:=0) rfl (Nat.le_refl 0) rfl rfl ⟨rfl,by unfold chkE; rw [if_pos h0,if_neg hi]; rfl⟩
 ·repeat' (conv => whnf
           first|refine check_c p hs0.hc hs0.hd (by omega) ?_|refine w3 ?_|refine w9 (w20 h0) ?_|refine w0 ?_|refine w1 ?_|refine w2 (fun h=>?_) (fun h=>?_)|refine w3 ?_|refine w4 (fun h=>?_) (fun h=>?_)|refine w5 _ rfl ?_|refine w6 rfl ?_|refine w7 mixed rfl ?_)
  conv=>whnf
  exact FinP.drop (n:=0) rfl (Nat.le_refl 0) rfl rfl ⟨rfl,by unfold chkE; rw [if_neg h0]; rfl⟩
end Go.Proofs.YtndlggbljkhfbaaGreat
namespace Go.Proofs.YtndlggbljkhfbaaGreat
open Go.Tidy
variable {L : List Blk} {k : V → List Blk → Prop}
theorem allN_mem {n : Nat} {x : Int} : x ∈ allN n ↔ 0 ≤ x ∧ x < (n : Int):=by
 unfold allN
 rw [List.mem_map]
 constructor
 ·rintro ⟨i,hi,rfl⟩
  have:=List.mem_range.1 hi; omega
 ·rintro ⟨h1,h2⟩
  exact ⟨x.toNat,List.mem_range.2 (by omega),by omega⟩
theorem allN_pair (n : Nat) : (allN n).Pairwise (· < ·):=by
 unfold allN
 exact List.Pairwise.map _ (fun a b h=>by omega) List.pairwise_lt_range
theorem sort_filter {n : Nat} {us : List Int} (hn : us.Nodup) (hr : ∀ u ∈ us,0 ≤ u ∧ u < (n : Int)) : sortI us = (allN n).filter fun x=>decide (x ∈ us):=by
 have tr : ∀ a b c : Int,decide (a ≤ b) = true → decide (b ≤ c) = true → decide (a ≤ c) = true:=fun a b c h1 h2=>by simp only [decide_eq_true_eq] at *; omega
 have to : ∀ a b : Int,(decide (a ≤ b) || decide (b ≤ a)) = true:=fun a b=>by simp only [Bool.or_eq_true,decide_eq_true_eq]; omega
 have hp2:=(allN_pair n).filter (p:=fun x=>decide (x ∈ us))
 refine List.Perm.eq_of_pairwise (le:=fun a b : Int=>decide (a ≤ b) = true) (fun a b _ _ h1 h2=>?_) (List.pairwise_mergeSort tr to us) (hp2.imp fun {a b} h=>by simp only [decide_eq_true_eq]; omega) ?_
 ·simp only [decide_eq_true_eq] at h1 h2; omega
 ·refine (List.mergeSort_perm us _).trans ((List.perm_ext_iff_of_nodup hn (hp2.imp fun {a b} h=>by omega)).2 fun x=>?_)
  rw [List.mem_filter,allN_mem,decide_eq_true_eq]
  exact ⟨fun h=>⟨hr x h,h⟩,fun h=>h.2⟩
end Go.Proofs.YtndlggbljkhfbaaGreat
namespace Go.Proofs.YtndlggbljkhfbaaGreat
open Go.Tidy
variable {L : List Blk} {k : V → List Blk → Prop}
theorem prove_e {p : Pl} {bud : Int} {us : List Int} {t : List Brc} {e : Int} (hs : Small [] p) (hv : proveU p bud = us ∧ proveT p bud = t ∧ proveE p bud = e) (h : k (.tup [refV us t,I e]) L) : CallP C 14 [plV p,I bud] L k:=by
 obtain ⟨rfl,rfl,rfl⟩:=hv; exact prove_c p bud hs h
theorem least_e {p : Pl} {bud : Int} {x : List Int} {e : Int} (hs : Small [] p) (hD : p.demands.length ≤ 1073741823) (hv : leastF p bud = (x,e)) (h : k (.tup [.d (ints x),I e]) L) : CallP C 19 [plV p,I bud] L k :=
 least_c p bud hs hD (by rw [hv]; exact h)
theorem chk_e {p : Pl} {us : List Int} {r : List Brc} {e : Int} (hs : Small [] p) (hul : us.length ≤ 1073741824) (hv : chkE p us r = e) (h : k (I e) L) : CallP C 18 [plV p,refV us r] L k:=by
 subst hv; exact check33_c p us r hs hul h
end Go.Proofs.YtndlggbljkhfbaaGreat
namespace Go.Proofs.YtndlggbljkhfbaaGreat
open Go.Tidy
theorem proveU_le (p : Pl) (bud : Int) : (proveU p bud).length ≤ 1073741824:=by
 unfold proveU
 split
 ·rename_i hA
  split
  ·rename_i sp us t ho
   obtain ⟨h0,h1,h2⟩:=argE_zero hA
   obtain ⟨hu1,hu2,hu3⟩:=brs_us p _ h0 _ _ _ _ (part_nil p) (w22 _) List.nodup_nil _ _ _ ho
   have h2:=(brs_keep p _ _ _ _ _ (w22 _) _ _ _ ho).1
   unfold sortI; rw [List.length_mergeSort]; omega
  ·exact Nat.zero_le _
 ·exact Nat.zero_le _
end Go.Proofs.YtndlggbljkhfbaaGreat
namespace Go.Proofs.YtndlggbljkhfbaaGreat
open Go.Tidy
theorem dmA_m1 {l : Lst} {p : Pl} (h : dmA l p < 0) : dmA l p = -1:=by
 unfold dmA at *
 split at h
 ·rename_i hc
  rw [if_pos hc]
  rcases doomL_head (pR l p) p with h1 | h1
  ·exact h1.1
  ·obtain ⟨a,ha,e,_⟩:=doomL_mem.1 h1
   omega
 ·omega
theorem dm_hit {x : Lst} {p : Pl} (h0 : checkP p = 0) (hP : PartP x p) (h : 0 ≤ dmA x p) : dmB x p (dmA x p) = true:=by
 obtain ⟨a,ha,e,hx⟩:=dmA_pos h0 hP h
 have hr : 0 ≤ dmA x p ∧ dmA x p < (p.demands.length : Int):=by omega
 have h1:=ind_one hr
 obtain ⟨ke,kx⟩:=keep_ok h0 h1
 refine w19 (Int.not_lt.1 fun hn=>?_)
 rw [kx] at hn
 obtain ⟨_,_,hd⟩:=dmA_neg.1 hn
 have hg : getD p (dmA x p) = p.demands[a]:=by unfold getD; rw [e,Int.toNat_natCast,List.getElem?_eq_getElem ha]; rfl
 have:=hd (getD p (dmA x p)) (List.mem_map.2 ⟨_,List.mem_singleton.2 rfl,rfl⟩)
 rw [hg] at this
 exact absurd (this.symm.trans hx) (by decide)
theorem okBr_hit {f : Lst → List Brc → Bool} {l : Lst} {p : Pl} {us : List Int} {m : Mt} {b : Int} (h1 : ¬ b = -1) (h2 : b ∈ us) (h3 : dmB (extL l p m) p b = true) : okBr f l p us m (.mk m (atN l p) b []) = true:=by
 show (decide (m = m) && decide ((atN l p : Int) = (atN l p : Int)) && (if b = -1 then _ else (decide (b ∈ us) && true && dmB (extL l p m) p b))) = true
 rw [if_neg h1,decide_eq_true rfl,decide_eq_true rfl,decide_eq_true h2,h3]; rfl
theorem okBr_on {f : Lst → List Brc → Bool} {l : Lst} {p : Pl} {us : List Int} {m : Mt} {b : Int} {t : List Brc} (h1 : b = -1) (h2 : fullC (extL l p m) p = false) (h3 : f (extL l p m) t = true) : okBr f l p us m (.mk m (atN l p) b t) = true:=by
 show (decide (m = m) && decide ((atN l p : Int) = (atN l p : Int)) && (if b = -1 then (!fullC (extL l p m) p && f (extL l p m) t) else _)) = true
 rw [if_pos h1,decide_eq_true rfl,decide_eq_true rfl,h2,h3]; rfl
theorem brs_chk {p : Pl} {bud : Nat} (h0 : checkP p = 0) : ∀ (n : Nat) (l : Lst) (sp : Nat) (us : List Int),PartP l p → roundsN p * halfN p < l.flatten.length + n → ∀ (sp' : Nat) (us' : List Int) (t : List Brc),brs p bud n l sp us = .go sp' us' t →
  (∀ u ∈ us,u ∈ us') ∧ ∀ us2 : List Int,(∀ u ∈ us',u ∈ us2) → chk p us2 n l t = true
 | 0,l,sp,us,hP,hfu,_,_,_,_=>by have:=part_total hP; omega
 | n + 1,l,sp,us,hP,hfu,sp',us',t,h=>by
  have key : ∀ (ms : List Mt) (sp : Nat) (us : List Int) (t : List Brc),(∀ m ∈ ms,PartP (extL l p m) p) → ∀ (sp' : Nat) (us' : List Int) (t' : List Brc),brLoop (brs p bud n) l p bud ms sp us t = .go sp' us' t' →
    (∀ u ∈ us,u ∈ us') ∧ ∃ bs,t' = t ++ bs ∧ ms.length = bs.length ∧ ∀ us2 : List Int,(∀ u ∈ us',u ∈ us2) → ((ms.zip bs).all fun q=>okBr (chk p us2 n) l p us2 q.1 q.2) = true:=by
   intro ms
   induction ms with
   | nil=>intro sp us t _ sp' us' t' h; cases h; exact ⟨fun u h=>h,[],by simp,rfl,fun us2 _=>rfl⟩
   | cons m ms ih =>
    intro sp us t hm sp' us' t' h
    have hPx:=hm m (by simp)
    have hm' : ∀ m ∈ ms,PartP (extL l p m) p:=fun m h=>hm m (by simp [h])
    simp only [brLoop] at h
    split at h
    ·cases h
    ·split at h
     ·rename_i hd
      obtain ⟨h1,bs,h2,h3,h4⟩:=ih _ _ _ hm' _ _ _ h
      refine ⟨fun u hu=>h1 u (by split <;> simp [hu]),_ :: bs,by rw [h2,List.append_assoc]; rfl,by simp [h3],fun us2 hs=>?_⟩
      rw [List.zip_cons_cons,List.all_cons,h4 us2 hs,Bool.and_true]
      have hmem : dmA (extL l p m) p ∈ us2:=hs _ (h1 _ (by split <;> simp_all))
      have hne : ¬ dmA (extL l p m) p = -1:=by omega
      have hh:=dm_hit h0 hPx hd
      exact okBr_hit hne hmem hh
     ·rename_i hd
      have hd1:=dmA_m1 (Int.not_le.1 hd)
      split at h
      ·cases h
      ·rename_i hf
       split at h
       ·rename_i sp2 us2 t2 h2
        have hfl : roundsN p * halfN p < (extL l p m).flatten.length + n:=by rw [extL_flat,List.length_append]; simp only [List.length_singleton]; omega
        obtain ⟨k1,k2⟩:=brs_chk h0 n _ (sp + 1) us hPx hfl _ _ _ h2
        obtain ⟨h1,bs,h2,h3,h4⟩:=ih _ _ _ hm' _ _ _ h
        refine ⟨fun u hu=>h1 u (k1 u hu),_ :: bs,by rw [h2,List.append_assoc]; rfl,by simp [h3],fun us3 hs=>?_⟩
        rw [List.zip_cons_cons,List.all_cons,h4 us3 hs,Bool.and_true]
        have hk:=k2 us3 fun u hu=>hs u (h1 u hu)
        exact okBr_on hd1 (eq_false_of_ne_true hf) hk
       ·cases h
  obtain ⟨h1,bs,h2,h3,h4⟩:=key _ _ _ _ (chE_part h0 hP) _ _ _ h
  refine ⟨h1,fun us2 hs=>?_⟩
  rw [List.nil_append] at h2
  subst h2
  unfold chk
  rw [decide_eq_true h3,h4 us2 hs]; rfl
theorem prove_chk {p : Pl} {bud : Int} (hA : argE p bud = 0) (he : proveE p bud = 0) : IndP p.demands.length (proveU p bud) ∧ chk p (proveU p bud) (fuelN p) [] (proveT p bud) = true:=by
 obtain ⟨h0,hb1,hb2⟩:=argE_zero hA
 unfold proveE at he
 unfold proveU proveT
 rw [if_pos hA] at he ⊢
 rw [if_pos hA]
 cases ho : proveO p bud with
 | stop e=>rw [ho] at he; exact absurd he (by
   have hs:=brs_sim (p:=p) (bud:=bud.toNat) (fuelN p) [] 0 [] h0 (part_nil p) (full_nil p) (by unfold fuelN; simp)
   have ho' : brs p bud.toNat (fuelN p) [] 0 [] = .stop e:=ho
   rw [ho'] at hs
   cases h2 : examP p bud.toNat false (fuelN p) [] 0 [] with
   | go a b=>rw [h2] at hs; exact hs.elim
   | stop a b c=>rw [h2] at hs; rcases hs with ⟨rfl,_⟩ | ⟨rfl,_⟩ <;> decide)
 | go sp us t =>
  obtain ⟨hu1,hu2,hu3⟩:=brs_us p _ h0 _ _ _ _ (part_nil p) (w22 _) List.nodup_nil _ _ _ ho
  obtain ⟨k1,k2⟩:=brs_chk h0 _ _ _ _ (part_nil p) (by unfold fuelN; simp) _ _ _ ho
  have hr : ∀ u ∈ us,0 ≤ u ∧ u < (p.demands.length : Int):=fun u hu=>by
   rcases hu3 u hu with h | h
   ·cases h
   ·exact h
  refine ⟨?_,k2 _ fun u hu=>by unfold sortI; exact List.mem_mergeSort.2 hu⟩
  show IndP p.demands.length (sortI us)
  have hsf:=sort_filter hu2 hr
  have hpw : (sortI us).Pairwise (· < ·):=by rw [hsf]; exact (allN_pair _).filter (p:=fun x=>decide (x ∈ us))
  intro i hi
  refine ⟨?_,fun h=>?_⟩
  ·have : (sortI us)[i] ∈ sortI us:=List.getElem_mem hi
   unfold sortI at this
   exact hr _ (List.mem_mergeSort.1 this)
  ·exact List.pairwise_iff_getElem.1 hpw (i - 1) i (by omega) hi (by omega)
theorem prove_chkE {p : Pl} {bud : Int} (hA : argE p bud = 0) (he : proveE p bud = 0) : chkE p (proveU p bud) (proveT p bud) = 0:=by
 obtain ⟨h1,h2⟩:=prove_chk hA he
 unfold chkE
 rw [if_pos (argE_zero hA).1,if_pos h1,if_pos h2]
end Go.Proofs.YtndlggbljkhfbaaGreat
namespace Go.Proofs.YtndlggbljkhfbaaGreat
open Go.Tidy
theorem last_step {p : Pl} {x : Lst} (h0 : checkP p = 0) (hP : PartP x p) (hx : x ≠ []) : ∃ (A : Lst) (m : Mt),PartP A p ∧ m ∈ chs A p ∧ extL A p m = x ∧ Beg A x ∧ A.flatten.length + 1 = x.flatten.length:=by
 obtain ⟨bf,w,rfl⟩ : ∃ bf w,x = bf ++ [w]:=⟨x.dropLast,x.getLast hx,(List.dropLast_concat_getLast hx).symm⟩
 obtain ⟨hn,hb,hw⟩:=PartP_snoc.1 hP
 have hw0 : w ≠ []:=fun e=>hw.1 (by rw [e]; rfl)
 obtain ⟨rd,m,rfl⟩ : ∃ rd m,w = rd ++ [m]:=⟨w.dropLast,w.getLast hw0,(List.dropLast_concat_getLast hw0).symm⟩
 have hwl : rd.length + 1 ≤ halfN p:=by have:=hw.2.1; rw [List.length_append] at this; exact this
 have hok : OkQ p bf.flatten rd m:=by
  have h:=hw.2.2.2.1 rd.length (by rw [List.length_append]; exact Nat.lt_succ_self _)
  rwa [List.take_left,List.getElem_append_right (Nat.le_refl _),show (([m] : List Mt)[rd.length - rd.length]'(by simp)) = m by simp] at h
 have hso:=sorted_of h0
 have hpr : m ∈ prs p.clubs:=by
  obtain ⟨h1,h2,h3,_⟩:=hok
  rcases Int.lt_or_gt_of_ne h1 with h | h
  ·exact (mem_prs hso h2 h3 h).1
  ·exact (mem_prs hso h3 h2 h).2
 have fin : ∀ A : Lst,Beg A (bf ++ [rd ++ [m]]) → (nxR A p).2.2 = true → extL A p m = bf ++ [rd ++ [m]] → A.flatten.length + 1 = (bf ++ [rd ++ [m]]).flatten.length →
   ∃ (A : Lst) (m' : Mt),PartP A p ∧ m' ∈ chs A p ∧ extL A p m' = bf ++ [rd ++ [m]] ∧ Beg A (bf ++ [rd ++ [m]]) ∧ A.flatten.length + 1 = (bf ++ [rd ++ [m]]).flatten.length:=fun A hA hnx he hl=>by
  have hPA:=beg_part hA h0 hP
  refine ⟨A,m,hPA,?_,he,hA,hl⟩
  rw [chs_eq h0 hPA]
  unfold rchs
  rw [if_pos hnx,List.mem_filter]
  refine ⟨hpr,decide_eq_true ?_⟩
  rw [ext_eq hnx,he]
  exact (PartP_iff _ _ (checkP_field h0)).1 hP
 by_cases hrd : rd = []
 ·subst hrd
  have hop : openR bf p = ([],true,decide (bf.length < roundsN p)):=by
   unfold openR
   split
   ·rename_i r hr
    rw [List.getLast?_eq_getElem?] at hr
    have hlt:=lt_of_get hr
    rw [List.getElem?_eq_getElem hlt] at hr
    have:=(hb _ hlt).2.2.1 trivial
    rw [Option.some.inj hr] at this
    rw [if_neg (by omega)]
   ·rfl
  refine fin bf ?_ ?_ ?_ ?_
  ·have:=beg_take bf.length (bf ++ [[] ++ [m]])
   rwa [List.take_left] at this
  ·unfold nxR; rw [hop]; simp only [Bool.true_eq_false,if_false]; rw [if_pos (by omega)]
  ·unfold extL; rw [hop]; rfl
  ·simp
 ·have hlt : rd.length < halfN p:=by omega
  have hop : openR (bf ++ [rd]) p = (rd,false,true):=by
   unfold openR
   rw [List.getLast?_append]
   simp only [List.getLast?_singleton,Option.some_or]
   rw [if_pos hlt]
  refine fin (bf ++ [rd]) ?_ ?_ ?_ ?_
  ·have:=beg_take1 bf.length (bf ++ [rd ++ [m]]) (by simp) rd.length (List.length_pos_iff.2 hrd)
   rwa [List.take_left,List.getElem_append_right (Nat.le_refl _),show (([rd ++ [m]] : Lst)[bf.length - bf.length]'(by simp)) = rd ++ [m] by simp,List.take_left] at this
  ·unfold nxR; rw [hop]; rfl
  ·unfold extL; rw [hop]; simp
  ·simp; omega
inductive Path (p : Pl) (ok : Lst → Bool) : Lst → Lst → Prop
 | refl (x : Lst) : Path p ok x x
 | step {l : Lst} {m : Mt} {x : Lst} (hm : m ∈ chs l p) (hok : ok (extL l p m) = true) (h : Path p ok (extL l p m) x) : Path p ok l x
theorem Path.snoc {p : Pl} {ok : Lst → Bool} {l A : Lst} {m : Mt} (h : Path p ok l A) (hm : m ∈ chs A p) (hok : ok (extL A p m) = true) : Path p ok l (extL A p m):=by
 induction h with
 | refl=>exact .step hm hok (.refl _)
 | step hm' hok' _ ih=>exact .step hm' hok' (ih hm hok)
theorem path_of {p : Pl} {ok : Lst → Bool} (h0 : checkP p = 0) (hm : ∀ A x,Beg A x → PartP x p → ok x = true → ok A = true) : ∀ (n : Nat) (x : Lst),x.flatten.length ≤ n → PartP x p → ok x = true → Path p ok [] x
 | 0,x,hn,hP,hok=>by
  by_cases hx : x = []
  ·subst hx; exact .refl _
  ·obtain ⟨A,m,h1,h2,h3,h4,h5⟩:=last_step h0 hP hx
   omega
 | n + 1,x,hn,hP,hok=>by
  by_cases hx : x = []
  ·subst hx; exact .refl _
  ·obtain ⟨A,m,h1,h2,rfl,h4,h5⟩:=last_step h0 hP hx
   exact (path_of h0 hm n A (by omega) h1 (hm _ _ h4 hP hok)).snoc h2 hok
theorem part_small0 {p : Pl} {x : Lst} (hs : Small [] p) (h0 : checkP p = 0) (hP : PartP x p) : Small x p:=by
 have hlen : p.clubs.length ≤ 1000:=by
  have hf:=checkP_field h0
  simp only [fieldOk,Bool.and_eq_true,decide_eq_true_eq] at hf; omega
 exact (part_small hs hlen hP ⟨0,0⟩).1
theorem okD_mono {p : Pl} (hs : Small [] p) (h0 : checkP p = 0) (A x : Lst) (hb : Beg A x) (hP : PartP x p) (h : okD p x = true) : okD p A = true:=by
 have hsx:=part_small0 hs h0 hP
 obtain ⟨_,_,hd⟩:=dmA_neg.1 (of_decide_eq_true h)
 refine w19 (dmA_neg.2 ⟨h0,beg_part hb h0 hP,fun d hdm=>?_⟩)
 have:=hd d hdm
 cases hc : doomsF (pR A p) d with
 | false=>rfl
 | true =>
  obtain ⟨a,ha,rfl⟩:=List.getElem_of_mem hdm
  obtain ⟨b,hb',e,hx⟩:=doomL_mem.1 (beg_dooms hb hsx h0 hP (doomL_mem.2 ⟨a,ha,rfl,hc⟩))
  have hab : a = b:=by omega
  subst hab
  rw [this] at hx; cases hx
theorem path_fulls {p : Pl} {ok : Lst → Bool} {x : Lst} (h0 : checkP p = 0) (hf : fullC x p = true) (hP0 : PartP x p) : ∀ (n : Nat) (l : Lst),PartP l p → roundsN p * halfN p < l.flatten.length + n → Path p ok l x → x ∈ fulls (trace (fun l=>fullC l p) (fun l m=>extL l p m) (fun l=>chs l p) ok n l)
 | 0,l,hP,hfu,h=>by have:=part_total hP; omega
 | n + 1,l,hP,hfu,h=>by
  unfold trace
  cases h with
  | refl=>rw [if_pos hf]; exact List.mem_cons_self ..
  | step hm hok h =>
   rename_i m
   have hnf : ¬ fullC l p = true:=fun hfl=>by
    have:=full_chs h0 hP (fullB_part h0 hP hfl)
    rw [this] at hm; cases hm
   rw [if_neg hnf]
   have hPx:=ch_mem h0 hP hm
   have ih:=path_fulls h0 hf hP0 n (extL l p m) hPx (by rw [extL_flat,List.length_append]; simp only [List.length_singleton]; omega) h
   have key : ∀ ms : List Mt,m ∈ ms → x ∈ fulls (ms.flatMap fun m=>.tick :: if ok (extL l p m) = true then trace (fun l=>fullC l p) (fun l m=>extL l p m) (fun l=>chs l p) ok n (extL l p m) else []):=by
    intro ms
    induction ms with
    | nil=>intro h; cases h
    | cons y ms ihm =>
     intro hy
     rw [List.flatMap_cons,fulls_append,List.mem_append]
     rcases List.mem_cons.1 hy with rfl | hy
     ·refine .inl ?_
      rw [if_pos hok]; exact ih
     ·exact .inr (ihm hy)
   exact key _ hm
theorem full_mem {p : Pl} {x : Lst} (hs : Small [] p) (h0 : checkP p = 0) (hF : FullP x p) (hd : brkL x p = []) : x ∈ fulls (trP p):=by
 have hfc : fullC x p = true:=by
  obtain ⟨h1,h2,h3⟩:=hF
  unfold fullC
  rw [decide_eq_true h2,Bool.true_and]
  cases hl : x.getLast? with
  | none =>
   rw [List.getLast?_eq_none_iff] at hl
   subst hl
   have hf:=checkP_field h0
   simp only [fieldOk,Bool.and_eq_true,decide_eq_true_eq] at hf
   have h2 : 0 = roundsN p:=h2
   unfold roundsN at h2; split at h2 <;> omega
  | some r =>
   have h4:=h3 r hl
   rw [List.getLast?_eq_getElem?] at hl
   have hlt:=lt_of_get hl
   rw [List.getElem?_eq_getElem hlt] at hl
   have:=h1.len hlt
   rw [Option.some.inj hl] at this
   exact decide_eq_true (by omega)
 have hok : okD p x = true:=by
  refine w19 (dmA_neg.2 ⟨h0,hF.1,fun d hdm=>?_⟩)
  cases hc : doomsF (pR x p) d with
  | false=>rfl
  | true =>
   obtain ⟨a,ha,rfl⟩:=List.getElem_of_mem hdm
   have : (a : Int) ∈ brkL x p:=by unfold brkL; rw [if_pos ⟨h0,hF⟩]; exact doomL_mem.2 ⟨a,ha,rfl,hc⟩
   rw [hd] at this; cases this
 exact path_fulls h0 hfc hF.1 (fuelN p) [] (part_nil p) (by unfold fuelN; simp) (path_of h0 (okD_mono hs h0) _ x (Nat.le_refl _) hF.1 hok)
end Go.Proofs.YtndlggbljkhfbaaGreat
namespace Go.Proofs.YtndlggbljkhfbaaGreat
open Go.Tidy
theorem prs_length : ∀ cs : List Int,(prs cs).length = cs.length * (cs.length - 1)
 | []=>rfl
 | c :: cs=>by
  rw [prs,List.length_append,prIn_len,prs_length cs,List.length_cons,Nat.add_sub_cancel]
  cases h : cs.length with
  | zero=>rfl
  | succ n=>rw [Nat.add_sub_cancel]; simp only [Nat.add_mul,Nat.mul_add]; omega
theorem chs_sub {l : Lst} {p : Pl} (h0 : checkP p = 0) {m : Mt} (hm : m ∈ chs l p) : m ∈ prs p.clubs ∧ m ∉ takenOf l p:=by
 have hinc:=sorted_of h0
 unfold chs at hm
 split at hm
 ·rw [chOut_eq _ _ _ _ _ hinc] at hm
  obtain ⟨h1,h2⟩:=List.mem_filter.1 hm
  obtain ⟨_,_,h3,_⟩:=of_decide_eq_true h2
  exact ⟨h1,h3⟩
 ·cases hm
def cP (p : Pl) : Nat:=if p.double then 1 else 2
theorem taken_ok {p : Pl} (h0 : checkP p = 0) : ∀ (n : Nat) (x : Lst),x.flatten.length ≤ n → PartP x p → (takenOf x p).Nodup ∧ ∀ m ∈ takenOf x p,m ∈ prs p.clubs
 | 0,x,hn,hP=>by
  by_cases hx : x = []
  ·subst hx; exact ⟨.nil,fun m h=>by cases h⟩
  ·obtain ⟨A,m,h1,h2,h3,h4,h5⟩:=last_step h0 hP hx
   omega
 | n + 1,x,hn,hP=>by
  by_cases hx : x = []
  ·subst hx; exact ⟨.nil,fun m h=>by cases h⟩
  ·obtain ⟨A,m,h1,h2,rfl,h4,h5⟩:=last_step h0 hP hx
   obtain ⟨i1,i2⟩:=taken_ok h0 n A (by omega) h1
   obtain ⟨k1,k2⟩:=chs_sub h0 h2
   obtain ⟨a,b,ha,hb,hab,_,hm⟩:=prs_mem (sorted_of h0) k1
   obtain ⟨e1,e2⟩:=mem_prs (sorted_of h0) ha hb hab
   have hne : m ≠ m.swap:=by
    rcases hm with rfl | rfl <;> (intro h; have:=congrArg Mt.home h; simp only [Mt.swap] at this; omega)
   have hr : m.swap ∈ prs p.clubs:=by rcases hm with rfl | rfl <;> assumption
   have et : takenOf (extL A p m) p = takenOf A p ++ tkM p m:=by unfold takenOf; rw [extL_flat,List.flatMap_append]; simp
   obtain ⟨f1,f2⟩:=mem_taken.1 k2
   rw [et]
   have hin : ∀ y ∈ tkM p m,y ∈ prs p.clubs ∧ y ∉ takenOf A p:=by
    intro y hy
    unfold tkM at hy
    cases hd : p.double with
    | true =>
     rw [hd,if_pos rfl] at hy
     rw [List.mem_singleton.1 hy]; exact ⟨k1,k2⟩
    | false =>
     rw [hd,if_neg (by decide)] at hy
     have k3 : m.swap ∉ takenOf A p:=mem_taken.2 ⟨f2 hd,fun _=>f1⟩
     simp only [List.mem_cons,List.not_mem_nil,or_false] at hy
     rcases hy with rfl | rfl
     ·exact ⟨k1,k2⟩
     ·exact ⟨hr,k3⟩
   have hnd : (tkM p m).Nodup:=by
    unfold tkM
    split
    ·simp
    ·simp [hne]
   refine ⟨List.nodup_append.2 ⟨i1,hnd,fun y hy z hz e=>?_⟩,fun y hy=>?_⟩
   ·subst e; exact (hin _ hz).2 hy
   ·rcases List.mem_append.1 hy with h | h
    ·exact i2 y h
    ·exact (hin y h).1
theorem tk_len (p : Pl) (m : Mt) : (tkM p m).length = cP p:=by unfold tkM cP; split <;> rfl
theorem taken_ext (l : Lst) (p : Pl) (m : Mt) : (takenOf (extL l p m) p).length = (takenOf l p).length + cP p:=by
 unfold takenOf; rw [extL_flat,List.flatMap_append,List.length_append]; simp [tk_len]
theorem chs_few {l : Lst} {p : Pl} (h0 : checkP p = 0) (hP : PartP l p) : (chs l p).length + (takenOf l p).length ≤ p.clubs.length * (p.clubs.length - 1):=by
 obtain ⟨h1,h2⟩:=taken_ok h0 _ l (w21 _) hP
 rw [← prs_length,← List.length_append]
 refine List.Nodup.length_le_of_subset (List.nodup_append.2 ⟨chs_nodup h0 hP,h1,fun y hy z hz e=>?_⟩) fun y hy=>?_
 ·subst e; exact (chs_sub h0 hy).2 hz
 ·rcases List.mem_append.1 hy with h | h
  ·exact (chs_sub h0 h).1
  ·exact h2 y h
def tb (c : Nat) : Nat → Nat → Nat
 | 0,_=>0
 | n + 1,a=>a * (1 + tb c n (a - c))
theorem tb_fuel (c : Nat) : ∀ (n m a : Nat),n ≤ m → tb c n a ≤ tb c m a
 | 0,_,_,_=>w22 _
 | n + 1,0,_,h=>by omega
 | n + 1,m + 1,a,h=>Nat.mul_le_mul_left _ (Nat.add_le_add_left (tb_fuel c n m _ (by omega)) 1)
theorem ticks_append : ∀ a b : List Ev,ticks (a ++ b) = ticks a + ticks b
 | [],b=>by simp [ticks]
 | .tick :: a,b=>by rw [List.cons_append,ticks,ticks,ticks_append a b]; omega
 | .found _ :: a,b=>by rw [List.cons_append,ticks,ticks,ticks_append a b]
theorem trace_ticks {p : Pl} {ok : Lst → Bool} (h0 : checkP p = 0) : ∀ (n : Nat) (l : Lst) (a : Nat),PartP l p → p.clubs.length * (p.clubs.length - 1) ≤ a + (takenOf l p).length →
  ticks (trace (fun l=>fullC l p) (fun l m=>extL l p m) (fun l=>chs l p) ok n l) ≤ tb (cP p) n a
 | 0,l,a,_,_=>w21 _
 | n + 1,l,a,hP,ha=>by
  have hf:=chs_few h0 hP
  unfold trace
  split
  ·exact Nat.zero_le _
  ·have key : ∀ ms : List Mt,(∀ m ∈ ms,PartP (extL l p m) p) → ticks (ms.flatMap fun m=>.tick :: if ok (extL l p m) = true then trace (fun l=>fullC l p) (fun l m=>extL l p m) (fun l=>chs l p) ok n (extL l p m) else []) ≤ ms.length * (1 + tb (cP p) n (a - cP p)):=by
    intro ms
    induction ms with
    | nil=>intro _; exact Nat.zero_le _
    | cons m ms ih =>
     intro hm
     rw [List.flatMap_cons,ticks_append,List.length_cons,Nat.add_mul,Nat.one_mul]
     have h1:=ih fun m h=>hm m (by simp [h])
     have h2 : ticks (Ev.tick :: if ok (extL l p m) = true then trace (fun l=>fullC l p) (fun l m=>extL l p m) (fun l=>chs l p) ok n (extL l p m) else []) ≤ 1 + tb (cP p) n (a - cP p):=by
      rw [ticks]
      split
      ·have:=trace_ticks (ok:=ok) h0 n (extL l p m) (a - cP p) (hm m (by simp)) (by rw [taken_ext]; omega)
       omega
      ·simp [ticks]
     omega
   exact Nat.le_trans (key _ fun m hm=>ch_mem h0 hP hm) (Nat.mul_le_mul_right _ (by omega))
theorem few_ticks {p : Pl} (h0 : checkP p = 0) (hn : p.clubs.length ≤ 3 ∨ p.clubs.length = 4 ∧ p.double = false) : ticks (trP p) ≤ 75972:=by
 have hf:=checkP_field h0
 simp only [fieldOk,Bool.and_eq_true,decide_eq_true_eq] at hf
 have h:=trace_ticks (ok:=okD p) h0 (fuelN p) [] (p.clubs.length * (p.clubs.length - 1)) (part_nil p) (Nat.le_add_right _ _)
 have hfu : fuelN p ≤ 7:=by
  unfold fuelN roundsN halfN
  rcases hn with h | ⟨h,hd⟩
  ·have : p.clubs.length = 2 ∨ p.clubs.length = 3:=by omega
   rcases this with e | e <;> rw [e] <;> split <;> decide
  ·rw [h,hd]; decide
 refine w23 h (w23 (tb_fuel _ _ 7 _ hfu) ?_)
 unfold cP
 rcases hn with h | ⟨h,hd⟩
 ·have : p.clubs.length = 2 ∨ p.clubs.length = 3:=by omega
  rcases this with e | e <;> rw [e] <;> split <;> decide
 ·rw [h,hd]; decide
end Go.Proofs.YtndlggbljkhfbaaGreat
namespace Go.Proofs.YtndlggbljkhfbaaGreat
open Go.Tidy
variable {L : List Blk} {k : V → List Blk → Prop}
end Go.Proofs.YtndlggbljkhfbaaGreat
namespace Go.Proofs.YtndlggbljkhfbaaGreat
open Go.Tidy
theorem checkP_vals (p : Pl) : checkP p = 0 ∨ checkP p = 310 ∨ checkP p = 2 ∨ checkP p = 1:=by
 unfold checkP
 split
 ·split
  ·split
   ·exact .inl rfl
   ·exact .inr (.inl rfl)
  ·exact .inr (.inr (.inl rfl))
 ·exact .inr (.inr (.inr rfl))
theorem prove_stop {p : Pl} {n e : Int} (hA : argE p n = 0) (h : proveO p n = .stop e) : proveE p n = e ∧ proveT p n = [] ∧ proveU p n = []:=by
 unfold proveE proveT proveU
 rw [if_pos hA,if_pos hA,if_pos hA,h]
 exact ⟨rfl,rfl,rfl⟩
theorem outcome {p : Pl} {n : Int} (h1 : 0 ≤ n) (h2 : n ≤ 1073741824) :
  (∃ (x : Lst) (j : Nat),checkP p = 0 ∧ x ∈ fulls (trP p) ∧ planF p n = ⟨x,j,0⟩ ∧ proveE p n = 300 ∧ proveT p n = []) ∨
  (checkP p = 0 ∧ argE p n = 0 ∧ fulls (trP p) = [] ∧ planF p n = ⟨[],0,320⟩ ∧ proveE p n = 0) ∨
  (∃ e : Int,e ≠ 0 ∧ e ≠ 320 ∧ planF p n = ⟨[],0,e⟩ ∧ proveE p n = e ∧ proveT p n = []):=by
 by_cases h0 : checkP p = 0
 ·have hA:=argE_of h0 h1 h2
  obtain ⟨q1,q2⟩:=prov_tr n.toNat h0
  obtain ⟨p1,p2⟩:=plan_tr h0 h1 h2
  cases hT : fulls (trP p) with
  | nil =>
   by_cases ht : (ticks (trP p) : Int) ≤ n
   ·obtain ⟨sp,us,t,ho⟩:=(q1 hT).1 (by omega)
    refine .inr (.inl ⟨h0,hA,rfl,(p1 hT).1 ht,?_⟩)
    have ho' : proveO p n = .go sp us t:=ho
    unfold proveE; rw [if_pos hA,ho']
   ·have ho : proveO p n = .stop 3:=(q1 hT).2 (by omega)
    obtain ⟨e1,e2,_⟩:=prove_stop hA ho
    exact .inr (.inr ⟨3,by decide,by decide,(p1 hT).2 (by omega),e1,e2⟩)
  | cons x r =>
   by_cases ht : (firstAtE (trP p) : Int) ≤ n
   ·have ho : proveO p n = .stop 300:=(q2 x r hT).1 (by omega)
    obtain ⟨e1,e2,_⟩:=prove_stop hA ho
    exact .inl ⟨x,_,h0,List.mem_cons_self ..,(p2 x r hT).1 ht,e1,e2⟩
   ·have ho : proveO p n = .stop 3:=(q2 x r hT).2 (by omega)
    obtain ⟨e1,e2,_⟩:=prove_stop hA ho
    exact .inr (.inr ⟨3,by decide,by decide,(p2 x r hT).2 (by omega),e1,e2⟩)
 ·have hA : argE p n = checkP p:=by unfold argE; rw [if_neg h0]
  have hA0 : ¬ argE p n = 0:=by rw [hA]; exact h0
  refine .inr (.inr ⟨checkP p,h0,by have:=checkP_vals p; omega,?_,?_,?_⟩)
  ·unfold planF; rw [if_neg hA0,hA]
  ·unfold proveE; rw [if_neg hA0,hA]
  ·unfold proveT; rw [if_neg hA0]
end Go.Proofs.YtndlggbljkhfbaaGreat
namespace Go.Proofs.YtndlggbljkhfbaaGreat
open Go.Tidy
theorem ind_of {n : Nat} {w : List Int} (hr : ∀ u ∈ w,0 ≤ u ∧ u < (n : Int)) (hp : w.Pairwise (· < ·)) : IndP n w:=fun i hi =>
 ⟨hr _ (List.getElem_mem hi),fun h=>List.pairwise_iff_getElem.1 hp (i - 1) i (by omega) hi (by omega)⟩
theorem delAt_sub (x : List Int) (i : Nat) : (delAt x i).Sublist x:=by
 unfold delAt
 conv=>rhs; rw [← List.take_append_drop i x]
 refine List.Sublist.append (List.Sublist.refl _) ?_
 rw [← List.drop_drop (i:=1)]
 exact List.drop_sublist _ _
theorem ind_del {n : Nat} {w : List Int} (h : IndP n w) (i : Nat) : IndP n (delAt w i) :=
 ind_of (fun u hu=>ind_range h u ((delAt_sub w i).subset hu)) ((ind_pair h).sublist (delAt_sub w i))
theorem delAt_eq (x : List Int) (i : Nat) : delAt x i = x.eraseIdx i:=by unfold delAt; rw [List.eraseIdx_eq_take_drop_succ]
theorem del_del (x : List Int) {i j : Nat} (h : i ≤ j) : delAt (delAt x i) j = delAt (delAt x (j + 1)) i:=by
 apply List.ext_getElem?
 intro k
 simp only [delAt_eq,List.getElem?_eraseIdx]
 by_cases h1 : k < i
 ·have h2 : k < j:=by omega
  have h3 : k < j + 1:=by omega
  simp [h1,h2,h3]
 ·by_cases h2 : k < j
  ·have h3 : k + 1 < j + 1:=by omega
   simp [h1,h2,h3]
  ·have h3 : ¬ k + 1 < i:=by omega
   have h4 : ¬ k + 1 < j + 1:=by omega
   simp [h1,h2,h3,h4]
theorem keep_all (p : Pl) : keepP p (allN p.demands.length) = p:=by
 unfold keepP allN
 rw [List.map_map]
 have : (List.range p.demands.length).map (getD p ∘ fun (i : Nat)=>(i : Int)) = p.demands:=by
  apply List.ext_getElem (by simp)
  intro i h1 h2
  simp [getD,h2]
 rw [this]
theorem ind_all (n : Nat) : IndP n (allN n):=ind_of (fun u hu=>by
 unfold allN at hu
 obtain ⟨i,hi,rfl⟩:=List.mem_map.1 hu
 have:=List.mem_range.1 hi
 omega) (allN_pair n)
theorem fulls_more {p : Pl} {w v : List Int} (h0 : checkP p = 0) (hw : IndP p.demands.length w) (hv : IndP p.demands.length v) (hs : ∀ u ∈ v,u ∈ w) (h : fulls (trP (keepP p w)) ≠ []) : fulls (trP (keepP p v)) ≠ []:=fun hn=>by
 have h1:=fulls_sub (tr_fewer (p:=keepP p w) (ds:=v.map (getD p)) (keepP_check h0 hv) fun d hd=>by
  obtain ⟨u,hu,rfl⟩:=List.mem_map.1 hd
  exact List.mem_map.2 ⟨u,hs u hu,rfl⟩)
 have h2 : fulls (trP ⟨(keepP p w).clubs,(keepP p w).double,v.map (getD p)⟩) = []:=hn
 rw [h2] at h1
 exact h (List.sublist_nil.1 h1)
theorem plan_none {p : Pl} {n : Int} (h : (planF p n).e = 320) : checkP p = 0 ∧ 0 ≤ n ∧ n ≤ 1073741824:=by
 by_cases hA : argE p n = 0
 ·exact argE_zero hA
 ·exfalso
  unfold planF at h
  rw [if_neg hA] at h
  have h : argE p n = 320:=h
  unfold argE at h
  split at h
  ·split at h <;> omega
  ·have:=checkP_vals p; omega
theorem plan_some {p : Pl} {n : Int} (h0 : checkP p = 0) (h1 : 0 ≤ n) (h2 : n ≤ 1073741824) (h : (planF p n).e = 0) : fulls (trP p) ≠ []:=fun hn=>by
 obtain ⟨p1,p2⟩:=plan_tr h0 h1 h2
 by_cases ht : (ticks (trP p) : Int) ≤ n
 ·rw [(p1 hn).1 ht] at h; cases h
 ·rw [(p1 hn).2 (by omega)] at h; cases h
theorem leastGo_ok {p : Pl} {n : Int} (h0 : checkP p = 0) (h1 : 0 ≤ n) (h2 : n ≤ 1073741824) : ∀ (i : Nat) (x : List Int),i ≤ x.length → IndP p.demands.length x → (planF (keepP p x) n).e = 320 → (∀ j,i ≤ j → j < x.length → fulls (trP (keepP p (delAt x j))) ≠ []) →
  ∀ (y : List Int) (e : Int),leastGo p n i x = (y,e) → (e ≠ 0 → y = []) ∧ (e = 0 → IndP p.demands.length y ∧ (planF (keepP p y) n).e = 320 ∧ ∀ j,j < y.length → fulls (trP (keepP p (delAt y j))) ≠ [])
 | 0,x,hi,hx,hpl,hm,y,e,h=>by
  cases h
  exact ⟨fun h=>absurd rfl h,fun _=>⟨hx,hpl,fun j hj=>hm j (w22 _) hj⟩⟩
 | i + 1,x,hi,hx,hpl,hm,y,e,h=>by
  have hd:=ind_del hx i
  obtain ⟨_,kx⟩:=keep_ok h0 hd
  simp only [leastGo] at h
  rw [kx] at h
  split at h
  ·rename_i he
   refine leastGo_ok h0 h1 h2 i x (by omega) hx hpl (fun j hj hjl=>?_) y e h
   by_cases e2 : i = j
   ·subst e2; exact plan_some (keepP_check h0 hd) h1 h2 he
   ·exact hm j (by omega) hjl
  ·split at h
   ·rename_i he
    have hl:=delAt_len (x:=x) (i:=i) (by omega)
    refine leastGo_ok h0 h1 h2 i (delAt x i) (by omega) hd he (fun j hj hjl=>?_) y e h
    rw [del_del x hj]
    exact fulls_more h0 (ind_del hx (j + 1)) (ind_del (ind_del hx (j + 1)) i) (fun u hu=>(delAt_sub _ _).subset hu) (hm (j + 1) (by omega) (by omega))
   ·rename_i hne _
    cases h
    exact ⟨fun _=>rfl,fun h=>absurd h hne⟩
theorem least_ok {p : Pl} {n : Int} {y : List Int} {e : Int} (h : leastF p n = (y,e)) : (e ≠ 0 → y = []) ∧ (e = 0 → checkP p = 0 ∧ 0 ≤ n ∧ n ≤ 1073741824 ∧ IndP p.demands.length y ∧ (planF (keepP p y) n).e = 320 ∧ ∀ j,j < y.length → fulls (trP (keepP p (delAt y j))) ≠ []):=by
 unfold leastF at h
 split at h
 ·cases h; exact ⟨fun _=>rfl,fun h=>by cases h⟩
 ·split at h
  ·rename_i hn
   obtain ⟨h0,h1,h2⟩:=plan_none hn
   have hk : (planF (keepP p (allN p.demands.length)) n).e = 320:=by rw [keep_all]; exact hn
   obtain ⟨a,b⟩:=leastGo_ok h0 h1 h2 p.demands.length (allN p.demands.length) (by rw [allN_len]; exact Nat.le_refl _) (ind_all _) hk (fun j hj hjl=>by rw [allN_len] at hjl; omega) y e h
   exact ⟨a,fun he=>⟨h0,h1,h2,b he⟩⟩
  ·rename_i hne _
   cases h; exact ⟨fun _=>rfl,fun h=>absurd h hne⟩
theorem plan_found {p : Pl} {n : Int} (h0 : checkP p = 0) (h1 : 75972 ≤ n) (h2 : n ≤ 1073741824) (hn : p.clubs.length ≤ 3 ∨ p.clubs.length = 4 ∧ p.double = false) (h : fulls (trP p) ≠ []) : (planF p n).e = 0:=by
 obtain ⟨p1,p2⟩:=plan_tr h0 (by omega) h2
 cases hf : fulls (trP p) with
 | nil=>exact absurd hf h
 | cons x r =>
  have:=few_ticks h0 hn
  have:=first_le (trP p)
  rw [(p2 x r hf).1 (by omega)]
end Go.Proofs.YtndlggbljkhfbaaGreat
namespace Go.Proofs.YtndlggbljkhfbaaGreat
open Go.Tidy
end Go.Proofs.YtndlggbljkhfbaaGreat
namespace Go.Proofs.YtndlggbljkhfbaaGreat
open Go.Tidy
theorem full_RQ {l : Lst} {p : Pl} (hl : l.length = roundsN p) (h : ∀ (i : Nat) (hi : i < l.length),RQ p l[i] (l.take i).flatten True) : FullP l p:=by
 refine ⟨⟨Nat.le_of_eq hl,fun i hi=>(RoundP_Q hi).2 ?_⟩,hl,fun r hr=>?_⟩
 ·obtain ⟨a,b,c,d,e⟩:=h i hi
  exact ⟨a,b,fun _=>c trivial,d,e⟩
 ·rw [List.getLast?_eq_getElem?] at hr
  have hlt:=lt_of_get hr
  rw [List.getElem?_eq_getElem hlt] at hr
  rw [← Option.some.inj hr]
  exact (h _ hlt).2.2.1 trivial
theorem dd_cv {S : Nat → Prop} {L : List Blk} : ∀ els : List (List D),CvLL S L (els.map fun y=>y.map V.d) els
 | []=>.nil
 | y :: els=>.cons (CvL.data y) (dd_cv els)
end Go.Proofs.YtndlggbljkhfbaaGreat
namespace Go.Proofs.YtndlggbljkhfbaaGreat
open Go.Tidy
variable {L : List Blk} {k : V → List Blk → Prop}
def hitM (m x : Mt) : Bool:=decide (x.home = m.home ∨ x.home = m.away ∨ x.away = m.home ∨ x.away = m.away)
def busyT (r : List Mt) (m : Mt) : Bool:=r.any (hitM m)
theorem any_hit {α : Type} {f : α → Bool} {l : List α} {i : Nat} (hi : i < l.length) (h : f l[i] = true) : l.any f = true:=List.any_eq_true.2 ⟨_,List.getElem_mem hi,h⟩
theorem any_none {α : Type} {f : α → Bool} {l : List α} (h : ∀ (i : Nat) (hi : i < l.length),f l[i] = false) : l.any f = false:=List.any_eq_false.2 fun x hx=>by
 obtain ⟨i,hi,rfl⟩:=List.getElem_of_mem hx
 rw [h i hi]; decide
theorem busy_c (r : List Mt) (m : Mt) (hr : r.length ≤ 4611686018427387904) (h : k (B (busyT r m)) L) : CallP C 109 [.d (mts r),mtV m] L k:=by
 obtain ⟨q,hq⟩ : ∃ q,busyT r m = q:=⟨_,rfl⟩
 rw [hq] at h
 refine CallP.pure ?_ rfl (fun _=>rfl) h
 clear h
 refine callP_of C_ok Tryz.func109 rfl rfl (n:=_) rfl (w18 rfl) (rs:=_) rfl ?_
 conv=>whnf
 refine LoopP.inv (fun i=>i ≤ r.length ∧ ∀ (j : Nat) (hj : j < r.length),j < i → hitM m r[j] = false) (fun i=>⟨[(0,.d (mts r)),(3,.ptr 0 0),(4,B false),(5,I i)],Tryz.f109.ntmps,[.cells [I m.home,I m.away]],[],none⟩) (fun i=>r.length - i) 0 ⟨w22 _,fun j _ h=>absurd h (Nat.not_lt_zero j)⟩ ?_ ?_
 ·exact Weak.by ⟨rfl,rfl,rfl,rfl,trivial⟩
 rintro i ⟨hi,hok⟩
 by_cases hi' : i < r.length
 ·have hlt : (i : Int) < ((r.map Mt.cells).length : Int):=by rw [List.length_map]; omega
  have hw : IntKind.i64.wrap ((i : Int) + 1) = ((i + 1 : Nat) : Int):=by rw [wrap_in (by omega)]; omega
  have r1 : (r.map Mt.cells)[i]? = some [DI r[i].home,DI r[i].away]:=by rw [List.getElem?_map,List.getElem?_eq_getElem hi']; rfl
  repeat' ((conv=>whnf); first|refine w8 (w19 hlt) ?_|refine w10 i _ rfl r1 ?_|refine w0 ?_|refine w1 ?_|refine w2 (fun h=>?_) (fun h=>?_)|refine w3 ?_|refine w4 (fun h=>?_) (fun h=>?_)|refine w5 _ rfl ?_|refine w6 rfl ?_|refine w7 mixed rfl ?_)
  all_goals conv=>whnf
  all_goals first
   | exact ⟨i + 1,⟨hi',fun j hj hji=>by
     by_cases e : j = i
     ·subst e; exact decide_eq_false (by omega)
     ·exact hok j hj (by omega)⟩,by omega,Weak.to 1 rfl (w22 _) (w18 rfl) ⟨rfl,rfl,rfl,congrArg I hw,trivial⟩⟩
   | exact FinP.drop (n:=0) rfl (w21 0) rfl rfl ⟨rfl,congrArg B (hq.symm.trans (any_hit hi' (w19 (by omega)))).symm⟩
 ·have hlt : ¬ (i : Int) < ((r.map Mt.cells).length : Int):=by rw [List.length_map]; omega
  repeat' ((conv=>whnf); first|refine w9 (w20 hlt) ?_|refine w0 ?_|refine w1 ?_|refine w2 (fun h=>?_) (fun h=>?_)|refine w3 ?_|refine w4 (fun h=>?_) (fun h=>?_)|refine w5 _ rfl ?_|refine w6 rfl ?_|refine w7 mixed rfl ?_)
  conv=>whnf
  exact FinP.drop (n:=0) rfl (w21 0) rfl rfl ⟨rfl,congrArg B (hq.symm.trans (any_none fun j hj=>hok j hj (by omega))).symm⟩
def metM (m x : Mt) : Bool:=decide (x = m ∨ x.home = m.away ∧ x.away = m.home)
def metT (l : Lst) (m : Mt) : Bool:=l.any fun r=>r.any (metM m)
theorem met_hit {l : Lst} {m : Mt} {i j : Nat} (hi : i < l.length) (hj : j < l[i].length) (h : metM m l[i][j] = true) : metT l m = true:=by
 unfold metT
 exact any_hit (f:=fun r : List Mt=>r.any (metM m)) hi (show l[i].any (metM m) = true from any_hit hj h)
theorem met_none {l : Lst} {m : Mt} (h : ∀ (i : Nat) (hi : i < l.length),l[i].any (metM m) = false) : metT l m = false:=by
 unfold metT
 exact any_none (f:=fun r : List Mt=>r.any (metM m)) h
theorem met_c (l : Lst) (m : Mt) (hl : l.length ≤ 4611686018427387904) (hr : ∀ r ∈ l,r.length ≤ 4611686018427387904) (h : k (B (metT l m)) L) : CallP C 110 [lisV l,mtV m] L k:=by
 obtain ⟨q,hq⟩ : ∃ q,metT l m = q:=⟨_,rfl⟩
 rw [hq] at h
 refine CallP.pure ?_ rfl (fun _=>rfl) h
 clear h
 refine callP_of C_ok Tryz.func110 rfl rfl (n:=_) rfl (w18 rfl) (rs:=_) rfl ?_
 conv=>whnf
 refine LoopP.inv (fun i=>i ≤ l.length ∧ ∀ (j : Nat) (hj : j < l.length),j < i → (l[j].any (metM m)) = false) (fun i=>⟨[(2,.ptr 0 0),(3,.ptr 1 0),(4,B false),(5,I i)],Tryz.f110.ntmps,[.cells [.d (lisD l)],.cells [I m.home,I m.away]],[],none⟩) (fun i=>l.length - i) 0 ⟨w22 _,fun j _ h=>absurd h (Nat.not_lt_zero j)⟩ ?_ ?_
 ·exact Weak.by ⟨rfl,rfl,rfl,rfl,trivial⟩
 rintro r ⟨hr1,hok⟩
 by_cases hr' : r < l.length
 ·have hlt : (r : Int) < ((l.map fun r=>[mts r]).length : Int):=by rw [List.length_map]; omega
  have hw : IntKind.i64.wrap ((r : Int) + 1) = ((r + 1 : Nat) : Int):=by rw [wrap_in (by omega)]; omega
  have hrow:=hr _ (List.getElem_mem hr')
  repeat' ((conv=>whnf); first|refine w8 (w19 hlt) ?_|refine w0 ?_|refine w1 ?_|refine w2 (fun h=>?_) (fun h=>?_)|refine w3 ?_|refine w4 (fun h=>?_) (fun h=>?_)|refine w5 _ rfl ?_|refine w6 rfl ?_|refine w7 mixed rfl ?_)
  conv=>whnf
  refine LoopP.inv (fun i=>i ≤ l[r].length ∧ ∀ (j : Nat) (hj : j < l[r].length),j < i → metM m l[r][j] = false) (fun i=>⟨[(2,.ptr 0 0),(3,.ptr 1 0),(4,B false),(5,I r),(6,I i)],Tryz.f110.ntmps,[.cells [.d (lisD l)],.cells [I m.home,I m.away]],[],none⟩) (fun i=>l[r].length - i) 0 ⟨w22 _,fun j _ h=>absurd h (Nat.not_lt_zero j)⟩ ?_ ?_
  ·exact Weak.by ⟨rfl,rfl,rfl,rfl,rfl,trivial⟩
  rintro i ⟨hi,hok2⟩
  by_cases hi' : i < l[r].length
  ·have hlt2 : (i : Int) < ((l[r].map Mt.cells).length : Int):=by rw [List.length_map]; omega
   have hw2 : IntKind.i64.wrap ((i : Int) + 1) = ((i + 1 : Nat) : Int):=by rw [wrap_in (by omega)]; omega
   have r1 : (l[r].map Mt.cells)[i]? = some [DI l[r][i].home,DI l[r][i].away]:=by rw [List.getElem?_map,List.getElem?_eq_getElem hi']; rfl
   have hme:=mEq l[r][i] m
   have hyes : l[r][i] = m ∨ (l[r][i].home = m.away ∧ l[r][i].away = m.home) → true = q:=fun h=>hq ▸ (met_hit hr' hi' (w19 h)).symm
   have hno : ¬ (l[r][i] = m ∨ (l[r][i].home = m.away ∧ l[r][i].away = m.home)) → ∀ (j : Nat) (hj : j < l[r].length),j < i + 1 → metM m l[r][j] = false:=fun h j hj hji=>by
    by_cases e : j = i
    ·subst e; exact decide_eq_false h
    ·exact hok2 j hj (by omega)
   by_cases e1 : l[r][i] = m
   ·repeat' (conv => whnf
             first|refine w11 r rfl hr' ?_|refine w8 (w19 hlt2) ?_|refine w10 i _ rfl r1 ?_|refine w8 (hme.trans (w19 e1)) ?_|refine w0 ?_|refine w1 ?_|refine w2 (fun h=>?_) (fun h=>?_)|refine w3 ?_|refine w4 (fun h=>?_) (fun h=>?_)|refine w5 _ rfl ?_|refine w6 rfl ?_|refine w7 mixed rfl ?_)
    conv=>whnf
    exact FinP.drop (n:=0) rfl (w21 0) rfl rfl ⟨rfl,congrArg B (hyes (.inl e1))⟩
   ·repeat' (conv => whnf
             first|refine w11 r rfl hr' ?_|refine w8 (w19 hlt2) ?_|refine w10 i _ rfl r1 ?_|refine w9 (hme.trans (w20 e1)) ?_|refine w0 ?_|refine w1 ?_|refine w2 (fun h=>?_) (fun h=>?_)|refine w3 ?_|refine w4 (fun h=>?_) (fun h=>?_)|refine w5 _ rfl ?_|refine w6 rfl ?_|refine w7 mixed rfl ?_)
    all_goals conv=>whnf
    all_goals first
     | exact FinP.drop (n:=0) rfl (w21 0) rfl rfl ⟨rfl,congrArg B (hyes (.inr ⟨by assumption,by assumption⟩))⟩
     | exact ⟨i + 1,⟨hi',hno fun h=>h.elim e1 fun h=>absurd h.1 (by assumption)⟩,by omega,Weak.to 2 rfl (w22 _) (w18 rfl) ⟨rfl,rfl,rfl,rfl,congrArg I hw2,trivial⟩⟩
     | exact ⟨i + 1,⟨hi',hno fun h=>h.elim e1 fun h=>absurd h.2 (by assumption)⟩,by omega,Weak.to 2 rfl (w22 _) (w18 rfl) ⟨rfl,rfl,rfl,rfl,congrArg I hw2,trivial⟩⟩
  ·have hlt2 : ¬ (i : Int) < ((l[r].map Mt.cells).length : Int):=by rw [List.length_map]; omega
   repeat' ((conv=>whnf); first|refine w11 r rfl hr' ?_|refine w9 (w20 hlt2) ?_|refine w0 ?_|refine w1 ?_|refine w2 (fun h=>?_) (fun h=>?_)|refine w3 ?_|refine w4 (fun h=>?_) (fun h=>?_)|refine w5 _ rfl ?_|refine w6 rfl ?_|refine w7 mixed rfl ?_)
   conv=>whnf
   exact ⟨r + 1,⟨hr',fun j hj hji=>by
    by_cases e : j = r
    ·subst e; exact any_none fun i' hi2=>hok2 i' hi2 (by omega)
    ·exact hok j hj (by omega)⟩,by omega,Weak.to 2 rfl (w18 rfl) (w18 rfl) ⟨rfl,rfl,rfl,congrArg I hw,trivial⟩⟩
 ·have hlt : ¬ (r : Int) < ((l.map fun r=>[mts r]).length : Int):=by rw [List.length_map]; omega
  repeat' ((conv=>whnf); first|refine w9 (w20 hlt) ?_|refine w0 ?_|refine w1 ?_|refine w2 (fun h=>?_) (fun h=>?_)|refine w3 ?_|refine w4 (fun h=>?_) (fun h=>?_)|refine w5 _ rfl ?_|refine w6 rfl ?_|refine w7 mixed rfl ?_)
  conv=>whnf
  exact FinP.drop (n:=0) rfl (w21 0) rfl rfl ⟨rfl,congrArg B (hq.symm.trans (met_none fun j hj=>hok j hj (by omega))).symm⟩
def withoutL (n : Nat) (b : Int) : List Int:=(allN n).filter fun x=>decide (x ≠ b)
theorem without_next (n : Nat) (b : Int) : withoutL (n + 1) b = if (n : Int) ≠ b then withoutL n b ++ [(n : Int)] else withoutL n b:=by
 unfold withoutL
 rw [allN_next,List.filter_append]
 by_cases h : (n : Int) = b
 ·simp [h]
 ·simp [h]
theorem without_len (n : Nat) (b : Int) : (withoutL n b).length ≤ n:=by
 unfold withoutL
 exact Nat.le_trans (List.length_filter_le _ _) (by rw [allN_len]; exact Nat.le_refl _)
theorem without_c (n : Nat) (b : Int) (hn : n ≤ 1073741824) (h : k (.d (ints (withoutL n b))) L) : CallP C 21 [I n,I b] L k:=by
 refine CallP.pure ?_ rfl (fun _=>rfl) h
 clear h
 refine callP_of C_ok Tryz.func21 rfl rfl (n:=_) rfl (w18 rfl) (rs:=_) rfl ?_
 conv=>whnf
 refine LoopP.inv (fun i=>i ≤ n) (fun i=>⟨[(0,I n),(1,I b),(5,.own 0 (withoutL i b).length 0 (withoutL i b).length),(6,I i)],Tryz.f21.ntmps,[.row (withoutL i b).length 1 (iR (withoutL i b))],[],none⟩) (fun i=>n - i) 0 (w22 _) ?_ ?_
 ·exact (Weak.nilOwn 5 1 rfl (by decide)).trans (Weak.by ⟨rfl,rfl,rfl,rfl,trivial⟩)
 intro i hi
 by_cases hi' : i < n
 ·have hlt : (i : Int) < (n : Int):=by omega
  have hw : IntKind.i64.wrap ((i : Int) + 1) = ((i + 1 : Nat) : Int):=by rw [wrap_in (by omega)]; omega
  have hnx:=without_next i b
  have hln:=without_len i b
  generalize hxx : withoutL i b = x at hnx hln
  by_cases he : (i : Int) = b
  ·rw [if_neg (by simpa using he)] at hnx
   repeat' ((conv=>whnf); first|refine w8 (w19 hlt) ?_|refine w3 ?_|refine w8 (w19 he) ?_|refine w0 ?_|refine w1 ?_|refine w2 (fun h=>?_) (fun h=>?_)|refine w3 ?_|refine w4 (fun h=>?_) (fun h=>?_)|refine w5 _ rfl ?_|refine w6 rfl ?_|refine w7 mixed rfl ?_)
   conv=>whnf
   refine ⟨i + 1,hi',by omega,?_⟩
   rw [hnx]
   exact Weak.to 1 rfl (Nat.zero_le _) (Nat.le_of_ble_eq_true rfl) ⟨rfl,rfl,rfl,congrArg I hw,trivial⟩ (hB:=by show (belR 1 (iR x) && true) = true; rw [iR_bel]; rfl)
  ·rw [if_pos he] at hnx
   repeat' ((conv=>whnf); first|refine w8 (w19 hlt) ?_|refine w3 ?_|refine w9 (w20 he) ?_|simp only [Nat.beq_refl,Bool.and_self]|refine w6 (w23 (m:=4294967296) (show x.length + 1 ≤ 4294967296 by omega) (apLim_ge _)) ?_|refine w0 ?_|refine w1 ?_|refine w2 (fun h=>?_) (fun h=>?_)|refine w3 ?_|refine w4 (fun h=>?_) (fun h=>?_)|refine w5 _ rfl ?_|refine w6 rfl ?_|refine w7 mixed rfl ?_)
   conv=>whnf
   refine ⟨i + 1,hi',by omega,?_⟩
   rw [hnx]
   refine Weak.to 1 ?_ (w22 _) (w18 rfl) ⟨rfl,rfl,?_,congrArg I hw,trivial⟩ (hB:=by show (belR 1 (iR _) && true) = true; rw [iR_bel]; rfl)
   ·rw [List.length_append]; exact congrArg (fun z=>[Blk.row (x.length + 1) 1 z]) (iR_snoc x _)
   ·rw [List.length_append]; rfl
 ·have hlt : ¬ (i : Int) < (n : Int):=by omega
  have hie : i = n:=by omega
  subst hie
  repeat' ((conv=>whnf); first|refine w9 (w20 hlt) ?_|refine w0 ?_|refine w1 ?_|refine w2 (fun h=>?_) (fun h=>?_)|refine w3 ?_|refine w4 (fun h=>?_) (fun h=>?_)|refine w5 _ rfl ?_|refine w6 rfl ?_|refine w7 mixed rfl ?_)
  conv=>whnf
  exact FinP.data (L':=[]) (.d (.rowL (ds:=(withoutL i b).map fun n=>[DI n]) (Nat.zero_le _) rfl (iR_cv _) (by rw [List.length_map]) (lenC _))) rfl rfl ⟨rfl,rfl⟩
def holdsAll (p : Pl) (l : Lst) : Bool:=p.demands.all (holdsF l)
theorem admits1_c (p : Pl) (l : Lst) (hs : Small l p) : CallP C 53 [lisV l,.ptr 0 0] [.cells (p.cells.map .d)] fun X L'=>X = B (holdsAll p l) ∧ L' = [.cells (p.cells.map .d)]:=by
 have hbp : belB 1 [.cells (p.cells.map .d)] = true:=by show (V.belL 1 (p.cells.map .d) && true) = true; rw [V.belL_d]; rfl
 have hD:=hs.hD
 obtain ⟨q,hq⟩ : ∃ q,holdsAll p l = q:=⟨_,rfl⟩
 rw [hq]
 refine callP_of C_ok Tryz.func53 rfl rfl (n:=_) rfl (w18 rfl) (rs:=_) rfl ?_
 repeat' ((conv=>whnf); first|refine w0 ?_|refine w1 ?_|refine w2 (fun h=>?_) (fun h=>?_)|refine w3 ?_|refine w4 (fun h=>?_) (fun h=>?_)|refine w5 _ rfl ?_|refine w6 rfl ?_|refine w7 mixed rfl ?_)
 conv=>whnf
 refine LoopP.inv (fun i=>i ≤ p.demands.length ∧ ∀ (j : Nat) (hj : j < p.demands.length),j < i → holdsF l p.demands[j] = true) (fun i=>⟨[(1,.ptr 0 0),(2,.ptr 1 0),(3,B false),(4,I i)],Tryz.f53.ntmps,[.cells (p.cells.map .d),.cells [.d (lisD l)]],[],none⟩) (fun i=>p.demands.length - i) 0 ⟨w22 _,fun j _ h=>absurd h (Nat.not_lt_zero j)⟩ ?_ ?_
 ·exact Weak.by ⟨rfl,rfl,rfl,rfl,trivial⟩
 rintro i ⟨hi,hok⟩
 by_cases hi' : i < p.demands.length
 ·have hlt : (i : Int) < ((p.demands.map Dm.cells).length : Int):=by rw [List.length_map]; omega
  have hw : IntKind.i64.wrap ((i : Int) + 1) = ((i + 1 : Nat) : Int):=by rw [wrap_in (by omega)]; omega
  have r1 : (p.demands.map Dm.cells)[i]? = some (p.demands[i]).cells:=by rw [List.getElem?_map,List.getElem?_eq_getElem hi']; rfl
  have hdi:=hs.hd _ (List.getElem_mem hi')
  by_cases hh : holdsF l p.demands[i] = true
  ·repeat' (conv => whnf
            first|refine w8 (w19 hlt) ?_|refine w10 i _ rfl r1 ?_|refine w3 ?_|refine w12 _ (holds_c l p.demands[i] hs.hl hs.hr hdi ⟨rfl,rfl⟩) ?_|refine w8 hh ?_|refine w0 ?_|refine w1 ?_|refine w2 (fun h=>?_) (fun h=>?_)|refine w3 ?_|refine w4 (fun h=>?_) (fun h=>?_)|refine w5 _ rfl ?_|refine w6 rfl ?_|refine w7 mixed rfl ?_)
   conv=>whnf
   exact ⟨i + 1,⟨hi',fun j hj hji=>by
    by_cases e : j = i
    ·subst e; exact hh
    ·exact hok j hj (by omega)⟩,by omega,Weak.to 2 rfl (w18 rfl) (w18 rfl) ⟨rfl,rfl,rfl,congrArg I hw,trivial⟩⟩
  ·have hqf : false = q:=by
    rw [← hq]; unfold holdsAll
    exact (List.all_eq_false.2 ⟨_,List.getElem_mem hi',hh⟩).symm
   repeat' ((conv=>whnf); first|refine w8 (w19 hlt) ?_|refine w10 i _ rfl r1 ?_|refine w3 ?_|refine w12 _ (holds_c l p.demands[i] hs.hl hs.hr hdi ⟨rfl,rfl⟩) ?_|refine w9 (eq_false_of_ne_true hh) ?_|refine w0 ?_|refine w1 ?_|refine w2 (fun h=>?_) (fun h=>?_)|refine w3 ?_|refine w4 (fun h=>?_) (fun h=>?_)|refine w5 _ rfl ?_|refine w6 rfl ?_|refine w7 mixed rfl ?_)
   conv=>whnf
   exact FinP.drop (n:=1) (L':=[.cells (p.cells.map .d)]) rfl (w18 rfl) rfl hbp ⟨congrArg B hqf,rfl⟩
 ·have hlt : ¬ (i : Int) < ((p.demands.map Dm.cells).length : Int):=by rw [List.length_map]; omega
  have hqt : true = q:=by
   rw [← hq]; unfold holdsAll
   exact (List.all_eq_true.2 fun d hd=>by
    obtain ⟨j,hj,rfl⟩:=List.getElem_of_mem hd
    exact hok j hj (by omega)).symm
  repeat' ((conv=>whnf); first|refine w9 (w20 hlt) ?_|refine w0 ?_|refine w1 ?_|refine w2 (fun h=>?_) (fun h=>?_)|refine w3 ?_|refine w4 (fun h=>?_) (fun h=>?_)|refine w5 _ rfl ?_|refine w6 rfl ?_|refine w7 mixed rfl ?_)
  conv=>whnf
  exact FinP.drop (n:=1) (L':=[.cells (p.cells.map .d)]) rfl (w18 rfl) rfl hbp ⟨congrArg B hqt,rfl⟩
end Go.Proofs.YtndlggbljkhfbaaGreat
namespace Go.Proofs.YtndlggbljkhfbaaGreat
open Go.Tidy
variable {L : List Blk} {k : V → List Blk → Prop}
def mT (cl : List Int) (i k : Nat) : Mt:=⟨cl.getD i 0,cl.getD k 0⟩
def lastOk (now : List Mt) (m : Mt) : Bool:=match now.getLast? with | none=>true | some x=>decide (¬ firstM m < firstM x)
def okC (cl : List Int) (now : List Mt) (bf : Lst) (i k : Nat) : Bool:=decide (i ≠ k) && !busyT now (mT cl i k) && !metT bf (mT cl i k) && lastOk now (mT cl i k)
def nowT (n : Nat) (l : Lst) : List Mt × Lst:=match l.getLast? with | some r=>if r.length = n / 2 then ([],l) else (r,l.dropLast) | none=>([],l)
def endT (n : Nat) (l : Lst) : Bool:=match l.getLast? with | some r=>decide (r.length = n / 2) && decide (l.length = n - 1 + n % 2) | none=>false
def listsF (found : Lst → Bool) (cl : List Int) : Nat → Lst → Bool
 | 0,_=>false
 | n + 1,l=>if endT cl.length l then found l else (List.range cl.length).any fun i=>(List.range cl.length).any fun k=>okC cl (nowT cl.length l).1 (nowT cl.length l).2 i k && listsF found cl n ((nowT cl.length l).2 ++ [(nowT cl.length l).1 ++ [mT cl i k]])
def ShT (n : Nat) (l : Lst) : Prop:=l.length ≤ n - 1 + n % 2 ∧ ∀ (i : Nat) (hi : i < l.length),0 < l[i].length ∧ l[i].length ≤ n / 2 ∧ (i + 1 < l.length → l[i].length = n / 2)
def M0 (p : Pl) : List Blk:=[.cells (p.cells.map .d)]
theorem M0_bel (p : Pl) : belB 1 (M0 p) = true:=by show (V.belL 1 (p.cells.map .d) && true) = true; rw [V.belL_d]; rfl
theorem preC {f : FuncId} {args : List V} {E : List Blk} {p : Pl} {b : Bool} (h : CallP C f args (M0 p) fun X L'=>X = B b ∧ L' = M0 p) (ha : V.belL 1 args = true) (hk : k (B b) (M0 p ++ E)) : CallP C f args (M0 p ++ E) k:=by
 refine CallP.frameP (w22 _) h (M0_bel p) rfl ha ?_
 rintro X L1 ⟨rfl,rfl⟩
 exact ⟨rfl,M0_bel p,rfl,hk⟩
theorem cvClp {S : Nat → Prop} {L : List Blk} {els els' : List (List D)} (h : els = els') : Cv S L (.clp els) (.sl els'):=h ▸ .clp els
theorem drop_rows (l : Lst) : ((l.map fun r=>[mts r]).drop 0).take (l.length - 1 - 0) = l.dropLast.map fun r=>[mts r]:=by
 rw [List.drop_zero,Nat.sub_zero,← List.map_take,List.dropLast_eq_take]
theorem len2M (l : List Mt) : ∀ e ∈ l.map Mt.cells,e.length = 2:=fun e he=>by obtain ⟨x,_,rfl⟩:=List.mem_map.1 he; rfl
theorem now_len (now : List Mt) (m : Mt) : 0 + ((now.map Mt.cells).map fun y=>y.map V.d).length + 1 = ((now ++ [m]).map Mt.cells).length:=by simp
theorem now_row (now : List Mt) (m : Mt) : ((((now.map Mt.cells).map fun y=>y.map V.d).length |> fun a=>(([] : List (List V)).take 0 ++ ((now.map Mt.cells).map fun y=>y.map V.d)).take (0 + a) ++ ([[I m.home,I m.away]].drop 0).take 1).drop 0).take (0 + ((now.map Mt.cells).map fun y=>y.map V.d).length + 1) = ((now ++ [m]).map Mt.cells).map fun y=>y.map V.d:=by
 simp only
 rw [List.take_nil,List.nil_append,List.drop_zero,List.take_of_length_le (Nat.le_of_eq (Nat.zero_add _).symm),List.map_append,List.map_append]
 exact List.take_of_length_le (by simp)
theorem bf_len (bf : Lst) (r : List Mt) : 0 + ((bf.map fun r=>[mts r]).map fun y=>y.map V.d).length + 1 = ((bf ++ [r]).map fun r=>[mts r]).length:=by simp
theorem bf_row (bf : Lst) (r : List Mt) : ((((bf.map fun r=>[mts r]).map fun y=>y.map V.d).length |> fun a=>(([] : List (List V)).take 0 ++ ((bf.map fun r=>[mts r]).map fun y=>y.map V.d)).take (0 + a) ++ ([[V.d (mts r)]].drop 0).take 1).drop 0).take (0 + ((bf.map fun r=>[mts r]).map fun y=>y.map V.d).length + 1) = ((bf ++ [r]).map fun r=>[mts r]).map fun y=>y.map V.d:=by
 simp only
 rw [List.take_nil,List.nil_append,List.drop_zero,List.take_of_length_le (Nat.le_of_eq (Nat.zero_add _).symm),List.map_append,List.map_append]
 exact List.take_of_length_le (by simp)
theorem len1R (l : Lst) : ∀ e ∈ l.map (fun r=>[mts r]),e.length = 1:=fun e he=>by obtain ⟨x,_,rfl⟩:=List.mem_map.1 he; rfl
theorem flatT_le : ∀ (l : Lst) (F : Nat),(∀ r ∈ l,r.length ≤ F) → l.flatten.length ≤ l.length * F
 | [],F,_=>w22 _
 | r :: l,F,h=>by
  have h1:=flatT_le l F fun x hx=>h x (by simp [hx])
  have h2:=h r (by simp)
  rw [List.flatten_cons,List.length_append,List.length_cons,Nat.add_mul,Nat.one_mul]; omega
theorem sh_flat {n : Nat} {l : Lst} (hS : ShT n l) : l.flatten.length ≤ (n - 1 + n % 2) * (n / 2):=by
 refine w23 (flatT_le l (n / 2) fun r hr=>?_) (Nat.mul_le_mul_right _ hS.1)
 obtain ⟨i,hi,rfl⟩:=List.getElem_of_mem hr
 exact (hS.2 i hi).2.1
theorem sh_snoc {n : Nat} {bf : Lst} {w : List Mt} (hb : bf.length + 1 ≤ n - 1 + n % 2) (h1 : ∀ (i : Nat) (hi : i < bf.length),bf[i].length = n / 2) (hn : 2 ≤ n) (h2 : 0 < w.length ∧ w.length ≤ n / 2) : ShT n (bf ++ [w]):=by
 refine ⟨by rw [List.length_append]; exact hb,fun i hi=>?_⟩
 rw [List.length_append,List.length_singleton] at hi ⊢
 by_cases h : i < bf.length
 ·have e : (bf ++ [w])[i]'(by rw [List.length_append,List.length_singleton]; omega) = bf[i]:=List.getElem_append_left h
  rw [e]
  have:=h1 i h
  exact ⟨by omega,by omega,fun _=>this⟩
 ·have e : (bf ++ [w])[i]'(by rw [List.length_append,List.length_singleton]; omega) = w:=by rw [List.getElem_append_right (by omega)]; simp
  rw [e]
  exact ⟨h2.1,h2.2,fun h=>by omega⟩
theorem sh_next {n : Nat} {l : Lst} (hn : 2 ≤ n) (hS : ShT n l) (he : ¬ endT n l = true) : (nowT n l).1.length + 1 ≤ n / 2 ∧ (nowT n l).2.length + 1 ≤ n - 1 + n % 2 ∧ (∀ (i : Nat) (hi : i < (nowT n l).2.length),((nowT n l).2[i]).length = n / 2) ∧ (nowT n l).2.flatten.length + (nowT n l).1.length = l.flatten.length:=by
 unfold nowT
 unfold endT at he
 rcases hg : l.getLast? with _ | r
 ·have hl0 : l = []:=List.getLast?_eq_none_iff.1 hg
  subst hl0
  exact ⟨by simp; omega,by simp; omega,fun i hi=>absurd hi (Nat.not_lt_zero i),rfl⟩
 ·obtain ⟨ys,rfl⟩:=List.getLast?_eq_some_iff.1 hg
  rw [hg] at he
  simp only [List.dropLast_concat] at he ⊢
  have hlen : (ys ++ [r]).length = ys.length + 1:=by simp
  have hrl : ∀ (i : Nat) (hi : i < ys.length),(ys[i]).length = n / 2:=fun i hi=>by
   have h:=(hS.2 i (by omega)).2.2 (by omega)
   rwa [List.getElem_append_left hi] at h
  have hrr : r.length ≤ n / 2:=by
   have:=(hS.2 ys.length (by omega)).2.1
   rwa [List.getElem_append_right (Nat.le_refl _),show (([r] : Lst)[ys.length - ys.length]'(by simp)) = r by simp] at this
  have h1:=hS.1
  have h2 : 1 ≤ n / 2:=by omega
  split
  ·rename_i h
   have hlR : ¬ (ys ++ [r]).length = n - 1 + n % 2:=fun h2=>he (by rw [decide_eq_true h,decide_eq_true h2]; rfl)
   refine ⟨h2,Nat.lt_of_le_of_ne h1 hlR,fun i hi=>?_,Nat.add_zero _⟩
   by_cases h3 : i < ys.length
   ·rw [List.getElem_append_left h3]; exact hrl i h3
   ·rw [List.getElem_append_right (by omega)]; simp; exact h
  ·rename_i h
   refine ⟨by simp only; omega,by simp only; omega,hrl,?_⟩
   rw [List.flatten_append,List.length_append]; simp
theorem lists_c (p : Pl) (found : Lst → Bool) (fd : FuncId) (cl : List Int) (h2 : 2 ≤ cl.length ∧ cl.length ≤ 1000) (hf : ∀ l : Lst,ShT cl.length l → CallP C fd [lisV l,.ptr 0 0] (M0 p) fun X L'=>X = B (found l) ∧ L' = M0 p) :
  ∀ (n : Nat) (l : Lst),ShT cl.length l → (cl.length - 1 + cl.length % 2) * (cl.length / 2) < l.flatten.length + n → CallP C 52 [.d (ints cl),lisV l,.fn fd [.ptr 0 0]] (M0 p) fun X L'=>X = B (listsF found cl n l) ∧ L' = M0 p
 | 0,l,hS,hfu=>by
  have:=sh_flat hS; omega
 | n + 1,l,hS,hfu=>by
  obtain ⟨q,hq⟩ : ∃ q,listsF found cl (n + 1) l = q:=⟨_,rfl⟩
  rw [hq]
  have hcl : ((cl.map fun n=>[DI n]).length : Int) = (cl.length : Nat):=by rw [List.length_map]
  have hll : ((l.map fun r=>[mts r]).length : Int) = (l.length : Nat):=by rw [List.length_map]
  have hR : IntKind.i64.wrap (IntKind.i64.wrap (((cl.map fun n=>[DI n]).length : Int) - 1) + ((cl.map fun n=>[DI n]).length : Int).tmod 2) = ((cl.length - 1 + cl.length % 2 : Nat) : Int):=by
   rw [hcl,Int.tmod_eq_emod_of_nonneg (by omega),wrap_in (n:=((cl.length : Nat) : Int) - 1) (by omega),wrap_in (by omega)]; omega
  have hF : IntKind.i64.wrap (((cl.map fun n=>[DI n]).length : Int).tdiv 2) = ((cl.length / 2 : Nat) : Int):=by rw [hcl,Int.tdiv_eq_ediv_of_nonneg (by omega),wrap_in (by omega)]; omega
  have hlb : l.length ≤ 1001:=by have:=hS.1; omega
  have hL : IntKind.i64.wrap (((l.map fun r=>[mts r]).length : Int) - 1) = (l.length : Int) - 1:=by rw [hll,wrap_in (by omega)]
  have n2 : (2 : Int) ≠ 0:=by decide
  by_cases he : endT cl.length l = true
  ·obtain ⟨r,hgl,hrF,hlR⟩ : ∃ r,l.getLast? = some r ∧ r.length = cl.length / 2 ∧ l.length = cl.length - 1 + cl.length % 2:=by
    unfold endT at he
    cases hg : l.getLast? with
    | none=>rw [hg] at he; cases he
    | some r =>
     rw [hg] at he
     simp only [Bool.and_eq_true,decide_eq_true_eq] at he
     exact ⟨r,rfl,he.1,he.2⟩
   have hlp : 0 < l.length:=by
    cases l with
    | nil=>cases hgl
    | cons a b=>exact Nat.succ_pos _
   have hpos : (0 : Int) ≤ (l.length : Int) - 1:=by omega
   have hlr : l[l.length - 1]? = some r:=by rw [← hgl,List.getLast?_eq_getElem?]
   have r1 : (l.map fun r=>[mts r])[l.length - 1]? = some [mts r]:=by rw [List.getElem?_map,hlr]; rfl
   have hrF' : ((r.map Mt.cells).length : Int) = ((cl.length / 2 : Nat) : Int):=by rw [List.length_map]; omega
   have hlR' : ((l.map fun r=>[mts r]).length : Int) = ((cl.length - 1 + cl.length % 2 : Nat) : Int):=by rw [List.length_map]; omega
   have hqf : found l = q:=by rw [← hq,listsF,if_pos he]
   refine callP_of C_ok Tryz.func52 rfl rfl (n:=_) rfl (w18 rfl) (rs:=_) rfl ?_
   repeat' ((conv=>whnf); first|refine w6 n2 ?_|simp only [hR,hF,hL]|refine w8 (w19 hpos) ?_|refine w10 (l.length - 1) _ (by omega) r1 ?_|refine w8 (w19 hrF') ?_|refine w8 (w19 hlR') ?_|refine w0 ?_|refine w1 ?_|refine w2 (fun h=>?_) (fun h=>?_)|refine w3 ?_|refine w4 (fun h=>?_) (fun h=>?_)|refine w5 _ rfl ?_|refine w6 rfl ?_|refine w7 mixed rfl ?_)
   conv=>whnf
   refine CallP.cnv (args':=[lisV l,.ptr 0 0]) (L':=M0 p ++ [.cells [.d (lisD l)]]) rfl rfl ?_
   refine preC (hf l hS) rfl ?_
   repeat' ((conv=>whnf); first|refine w0 ?_|refine w1 ?_|refine w2 (fun h=>?_) (fun h=>?_)|refine w3 ?_|refine w4 (fun h=>?_) (fun h=>?_)|refine w5 _ rfl ?_|refine w6 rfl ?_|refine w7 mixed rfl ?_)
   conv=>whnf
   exact FinP.drop (n:=1) (L':=M0 p) rfl (w18 rfl) rfl (M0_bel p) ⟨congrArg B hqf,rfl⟩
  obtain ⟨now,hnow⟩ : ∃ now,(nowT cl.length l).1 = now:=⟨_,rfl⟩
  obtain ⟨bf,hbf⟩ : ∃ bf,(nowT cl.length l).2 = bf:=⟨_,rfl⟩
  have hqa : q = (List.range cl.length).any fun i=>(List.range cl.length).any fun k=>okC cl now bf i k && listsF found cl n (bf ++ [now ++ [mT cl i k]]):=by rw [← hq,listsF,if_neg he,hnow,hbf]
  have hcase : (l = [] ∧ now = [] ∧ bf = l) ∨ (∃ r,l.getLast? = some r ∧ r.length = cl.length / 2 ∧ ¬ l.length = cl.length - 1 + cl.length % 2 ∧ now = [] ∧ bf = l) ∨ (∃ r,l.getLast? = some r ∧ ¬ r.length = cl.length / 2 ∧ now = r ∧ bf = l.dropLast):=by
   unfold nowT at hnow hbf
   unfold endT at he
   cases hg : l.getLast? with
   | none =>
    rw [hg] at hnow hbf
    exact .inl ⟨List.getLast?_eq_none_iff.1 hg,hnow.symm,hbf.symm⟩
   | some r =>
    rw [hg] at hnow hbf he
    simp only at hnow hbf he
    by_cases h : r.length = cl.length / 2
    ·rw [if_pos h] at hnow hbf
     refine .inr (.inl ⟨r,rfl,h,fun h2=>he (by rw [decide_eq_true h,decide_eq_true h2]; rfl),hnow.symm,hbf.symm⟩)
    ·rw [if_neg h] at hnow hbf
     exact .inr (.inr ⟨r,rfl,h,hnow.symm,hbf.symm⟩)
  obtain ⟨s1,s2,s3,s4⟩:=sh_next h2.1 hS he
  rw [hnow,hbf] at s4
  rw [hnow] at s1
  rw [hbf] at s2
  have s3 : ∀ (i : Nat) (hi : i < bf.length),bf[i].length = cl.length / 2:=by subst hbf; exact s3
  have hsh : ∀ m : Mt,ShT cl.length (bf ++ [now ++ [m]]) ∧ (bf ++ [now ++ [m]]).flatten.length = l.flatten.length + 1:=fun m=>by
   have e1 : (now ++ [m]).length = now.length + 1:=by simp
   have e2 : (bf ++ [now ++ [m]]).flatten.length = bf.flatten.length + (now ++ [m]).length:=by rw [List.flatten_append,List.length_append]; simp
   exact ⟨sh_snoc s2 s3 h2.1 ⟨by omega,by omega⟩,by omega⟩
  have hnl0 : now.length ≤ 1000:=by omega
  have hnl : now.length ≤ 4611686018427387904:=by omega
  have hbl0 : bf.length ≤ 1001:=by omega
  have hbl : bf.length ≤ 4611686018427387904:=by omega
  have hbr : ∀ r ∈ bf,r.length ≤ 4611686018427387904:=fun r hr=>by
   obtain ⟨j,hj,rfl⟩:=List.getElem_of_mem hr
   rw [s3 j hj]; omega
  have hneg : ¬ (0 : Int) ≤ -1:=by decide
  have hneg0 : ¬ (0 : Int) ≤ (([] : Lst).length : Int) - 1:=by decide
  have hpos : ∀ r,l.getLast? = some r → 0 < l.length ∧ (l.map fun r=>[mts r])[l.length - 1]? = some [mts r]:=fun r hgl=>by
   refine ⟨?_,?_⟩
   ·cases l with
    | nil=>cases hgl
    | cons a b=>exact Nat.succ_pos _
   ·rw [List.getElem?_map,← List.getLast?_eq_getElem?,hgl]; rfl
  refine callP_cut (fun c=>match c with | .region 18 _ _=>true | .region 19 _ _=>true | .region 20 _ _=>true | _=>false) C_ok Tryz.func52 rfl rfl (n:=_) rfl (w18 rfl) (rs:=_) rfl ?_
  rcases hcase with ⟨hl0,hn,hb⟩ | ⟨r,hgl,hrF,hlR,hn,hb⟩ | ⟨r,hgl,hrF,hn,hb⟩
  focus
   subst hl0
   repeat' ((conv=>whnf); first|refine w6 n2 ?_|simp only [hR,hF,hL]|refine w9 (w20 hneg0) ?_|refine w0 ?_|refine w1 ?_|refine w2 (fun h=>?_) (fun h=>?_)|refine w3 ?_|refine w4 (fun h=>?_) (fun h=>?_)|refine w5 _ rfl ?_|refine w6 rfl ?_|refine w7 mixed rfl ?_)
   conv=>whnf
  rotate_left
  focus
   obtain ⟨hlp,r1⟩:=hpos r hgl
   have hpos : (0 : Int) ≤ (l.length : Int) - 1:=by omega
   have hrF' : ((r.map Mt.cells).length : Int) = ((cl.length / 2 : Nat) : Int):=by rw [List.length_map]; omega
   have hlR' : ¬ ((l.map fun r=>[mts r]).length : Int) = ((cl.length - 1 + cl.length % 2 : Nat) : Int):=by rw [List.length_map]; omega
   repeat' ((conv=>whnf); first|refine w6 n2 ?_|simp only [hR,hF,hL]|refine w8 (w19 hpos) ?_|refine w10 (l.length - 1) _ (by omega) r1 ?_|refine w8 (w19 hrF') ?_|refine w9 (w20 hlR') ?_|refine w9 (w20 hneg) ?_|refine w0 ?_|refine w1 ?_|refine w2 (fun h=>?_) (fun h=>?_)|refine w3 ?_|refine w4 (fun h=>?_) (fun h=>?_)|refine w5 _ rfl ?_|refine w6 rfl ?_|refine w7 mixed rfl ?_)
   conv=>whnf
  rotate_left
  focus
   obtain ⟨hlp,r1⟩:=hpos r hgl
   have hpos : (0 : Int) ≤ (l.length : Int) - 1:=by omega
   have hlc : (l.length : Int) - 1 = ((l.length - 1 : Nat) : Int):=by omega
   have hrF' : ¬ ((r.map Mt.cells).length : Int) = ((cl.length / 2 : Nat) : Int):=by rw [List.length_map]; omega
   repeat' ((conv=>whnf); first|refine w6 n2 ?_|simp only [hR,hF,hL]|refine w8 (w19 hpos) ?_|refine w10 (l.length - 1) _ (by omega) r1 ?_|refine w9 (w20 hrF') ?_|refine w6 (len1R l) ?_|refine SliceP.intro 0 (l.length - 1) rfl hlc (w22 _) (by rw [List.length_map]; omega) ?_|refine w6 hlc ?_|refine w0 ?_|refine w1 ?_|refine w2 (fun h=>?_) (fun h=>?_)|refine w3 ?_|refine w4 (fun h=>?_) (fun h=>?_)|refine w5 _ rfl ?_|refine w6 rfl ?_|refine w7 mixed rfl ?_)
   conv=>whnf
  rotate_left
  all_goals refine LoopP.inv (fun i=>i ≤ cl.length ∧ ∀ j,j < i → ((List.range cl.length).any fun k=>okC cl now bf j k && listsF found cl n (bf ++ [now ++ [mT cl j k]])) = false) (fun i=>⟨[(0,.d (ints cl)),(2,.fn fd [.ptr 0 0]),(4,.ptr 1 0),(6,B false),(10,.d (mts now)),(11,I i)],Tryz.f52.ntmps,[.cells (p.cells.map .d),.cells [.d (lisD bf)]],[],none⟩) (fun i=>cl.length - i) 0 ⟨w22 _,fun j h=>absurd h (Nat.not_lt_zero j)⟩ ?_ ?_
  focus
   subst hn hb
   exact Weak.thaw 2 (w18 rfl) (w18 rfl) rfl ⟨.inl ⟨rfl,rfl⟩,.inl ⟨rfl,rfl⟩,.inl ⟨rfl,rfl⟩,.inl ⟨rfl,rfl⟩,.inr (.d .nil),.inl ⟨rfl,rfl⟩,trivial⟩ fun b x y hx hy=>by
    match b,hx,hy with
    | 0,hx,hy=>cases hx; cases hy; exact .inl ⟨rfl,V.belL_d 2 p.cells⟩
    | 1,hx,hy=>cases hx; cases hy; exact .inl ⟨rfl,rfl⟩
    | b + 2,hx,hy=>cases hy
  rotate_left
  focus
   subst hn hb
   exact Weak.thaw 2 (w18 rfl) (w18 rfl) rfl ⟨.inl ⟨rfl,rfl⟩,.inl ⟨rfl,rfl⟩,.inl ⟨rfl,rfl⟩,.inl ⟨rfl,rfl⟩,.inr (.d .nil),.inl ⟨rfl,rfl⟩,trivial⟩ fun b x y hx hy=>by
    match b,hx,hy with
    | 0,hx,hy=>cases hx; cases hy; exact .inl ⟨rfl,V.belL_d 2 p.cells⟩
    | 1,hx,hy=>cases hx; cases hy; exact .inl ⟨rfl,rfl⟩
    | b + 2,hx,hy=>cases hy
  rotate_left
  focus
   subst hn hb
   exact Weak.thaw 2 (w18 rfl) (w18 rfl) rfl ⟨.inl ⟨rfl,rfl⟩,.inl ⟨rfl,rfl⟩,.inl ⟨rfl,rfl⟩,.inl ⟨rfl,rfl⟩,.inl ⟨rfl,rfl⟩,.inl ⟨rfl,rfl⟩,trivial⟩ fun b x y hx hy=>by
    match b,hx,hy with
    | 0,hx,hy=>cases hx; cases hy; exact .inl ⟨rfl,V.belL_d 2 p.cells⟩
    | 1,hx,hy =>
     cases hx; cases hy
     refine .inr (.inr ⟨_,_,rfl,rfl,rfl,fun j u v hu hv=>?_⟩)
     match j,hu,hv with
     | 0,hu,hv=>cases hu; cases hv; exact .inr (.d (cvClp (drop_rows l)))
     | j + 1,hu,hv=>cases hv
    | b + 2,hx,hy=>cases hy
  all_goals
   rintro i ⟨hi,hok⟩
   by_cases hi' : i < cl.length
   ·have hlt : (i : Int) < ((cl.map fun n=>[DI n]).length : Int):=by rw [List.length_map]; omega
    have hw : IntKind.i64.wrap ((i : Int) + 1) = ((i + 1 : Nat) : Int):=by rw [wrap_in (by omega)]; omega
    repeat' ((conv=>whnf); first|refine w8 (w19 hlt) ?_|refine w0 ?_|refine w1 ?_|refine w2 (fun h=>?_) (fun h=>?_)|refine w3 ?_|refine w4 (fun h=>?_) (fun h=>?_)|refine w5 _ rfl ?_|refine w6 rfl ?_|refine w7 mixed rfl ?_)
    conv=>whnf
    refine LoopP.inv (fun k=>k ≤ cl.length ∧ ∀ j,j < k → (okC cl now bf i j && listsF found cl n (bf ++ [now ++ [mT cl i j]])) = false) (fun k=>⟨[(0,.d (ints cl)),(2,.fn fd [.ptr 0 0]),(4,.ptr 1 0),(6,B false),(10,.d (mts now)),(11,I i),(12,I k)],Tryz.f52.ntmps,[.cells (p.cells.map .d),.cells [.d (lisD bf)]],[],none⟩) (fun k=>cl.length - k) 0 ⟨w22 _,fun j h=>absurd h (Nat.not_lt_zero j)⟩ ?_ ?_
    ·exact Weak.by ⟨rfl,rfl,rfl,rfl,rfl,rfl,rfl,trivial⟩
    rintro kk ⟨hk,hok2⟩
    by_cases hk' : kk < cl.length
    ·have hlt2 : (kk : Int) < ((cl.map fun n=>[DI n]).length : Int):=by rw [List.length_map]; omega
     have hw2 : IntKind.i64.wrap ((kk : Int) + 1) = ((kk + 1 : Nat) : Int):=by rw [wrap_in (by omega)]; omega
     have hmT : mT cl i kk = ⟨cl[i],cl[kk]⟩:=by unfold mT; simp [List.getD,List.getElem?_eq_getElem hi',List.getElem?_eq_getElem hk']
     have hnext : (okC cl now bf i kk && listsF found cl n (bf ++ [now ++ [mT cl i kk]])) = false → ∀ j,j < kk + 1 → (okC cl now bf i j && listsF found cl n (bf ++ [now ++ [mT cl i j]])) = false:=fun h j hj=>by
      by_cases e : j = kk
      ·subst e; exact h
      ·exact hok2 j (by omega)
     have hgo:=hok2
     obtain ⟨m,hm⟩ : ∃ m,mT cl i kk = m:=⟨_,rfl⟩
     have hm1 : cl[i] = m.home:=by rw [← hm,hmT]
     have hm2 : cl[kk] = m.away:=by rw [← hm,hmT]
     rw [hm] at hnext
     obtain ⟨nb,hnb⟩ : ∃ nb,listsF found cl n (bf ++ [now ++ [m]]) = nb:=⟨_,rfl⟩
     rw [hnb] at hnext
     have hokd : okC cl now bf i kk = (decide (i ≠ kk) && !busyT now m && !metT bf m && lastOk now m):=by unfold okC; rw [hm]
     repeat' ((conv=>whnf); first|refine w8 (w19 hlt2) ?_|refine w0 ?_|refine w1 ?_|refine w2 (fun h=>?_) (fun h=>?_)|refine w3 ?_|refine w4 (fun h=>?_) (fun h=>?_)|refine w5 _ rfl ?_|refine w6 rfl ?_|refine w7 mixed rfl ?_)
     conv=>whnf
     refine CutP.intro (ι:=Unit) (fun _=>⟨[(0,.d (ints cl)),(2,.fn fd [.ptr 0 0]),(4,.ptr 1 0),(6,B false),(10,.d (mts now)),(11,I i),(12,I kk),(13,.ptr 2 0)],Tryz.f52.ntmps,[.cells (p.cells.map .d),.cells [.d (lisD bf)],.cells [I m.home,I m.away]],[],none⟩) ?_ (fun _=>?_)
     ·refine DrawP.por mixed [] [[(0,0),(1,0),(2,3),(3,3),(4,0),(5,0),(6,3),(7,3),(8,0),(9,0),(10,0)]] (by kernel_rfl) ?_
      all_goals
       repeat' ((conv=>whnf); first|refine w0 ?_|refine w1 ?_|refine w2 (fun h=>?_) (fun h=>?_)|refine w3 ?_|refine w4 (fun h=>?_) (fun h=>?_)|refine w5 _ rfl ?_|refine w6 rfl ?_|refine w7 mixed rfl ?_|refine w11 i rfl hi' ?_|refine w11 kk rfl hk' ?_|simp only [hm1,hm2])
      all_goals conv=>whnf
      all_goals exact ⟨(),Weak.by ⟨rfl,rfl,rfl,rfl,rfl,rfl,rfl,rfl,trivial⟩⟩
     obtain ⟨ov,hov⟩ : ∃ ov,okC cl now bf i kk = ov:=⟨_,rfl⟩
     rw [hov] at hnext
     refine CutP.intro (ι:=Unit) (fun _=>⟨[(0,.d (ints cl)),(2,.fn fd [.ptr 0 0]),(4,.ptr 1 0),(6,B false),(10,.d (mts now)),(11,I i),(12,I kk),(13,.ptr 2 0),(123,B (!ov))],Tryz.f52.ntmps,[.cells (p.cells.map .d),.cells [.d (lisD bf)],.cells [I m.home,I m.away]],[],none⟩) ?_ (fun _=>?_)
     ·by_cases e1 : i = kk
      ·have e1' : (i : Int) = (kk : Int):=by omega
       have hv : ov = false:=by rw [← hov,hokd]; simp [e1]
       subst hv
       refine DrawP.por mixed [] [[(0,0),(1,0),(2,0),(3,0),(4,0),(5,0),(6,0),(7,0),(8,0),(9,0),(10,0),(11,0),(12,0),(13,0),(14,0),(15,0),(16,0),(17,0),(18,0),(19,1),(20,0),(21,1),(23,0),(24,0),(25,1),(26,0),(27,1),(28,0),(29,1),(30,0),(31,0),(32,1),(33,0),(34,1),(35,0),(36,1),(22,0),(37,0),(38,0),(39,0),(40,0)],[(0,0),(1,0),(2,0),(3,0),(4,0),(5,0),(6,0),(7,0),(8,0),(9,0),(10,0),(11,0),(12,0),(13,0),(14,0),(15,0),(16,0),(17,0),(18,0),(19,1),(20,0),(21,1),(23,0),(24,0),(25,1),(26,0),(27,1),(28,0),(29,1),(30,0),(31,0),(32,1),(33,0),(34,1),(35,0),(36,1),(37,0),(22,0),(38,0),(39,0),(40,0)]] (by kernel_rfl) ?_
       conv=>whnf
       refine And.intro ?_ ?_
       all_goals
        repeat' ((conv=>whnf); first|refine w12 _ (busy_c now m hnl ⟨rfl,rfl⟩) ?_|refine w12 _ (met_c bf m hbl hbr ⟨rfl,rfl⟩) ?_|refine w8 (w19 e1') ?_|refine w0 ?_|refine w1 ?_|refine w2 (fun h=>?_) (fun h=>?_)|refine w3 ?_|refine w4 (fun h=>?_) (fun h=>?_)|refine w5 _ rfl ?_|refine w6 rfl ?_|refine w7 mixed rfl ?_)
       all_goals conv=>whnf
       all_goals exact ⟨(),Weak.by ⟨rfl,rfl,rfl,rfl,rfl,rfl,rfl,rfl,rfl,trivial⟩⟩
      have e1' : ¬ (i : Int) = (kk : Int):=by omega
      by_cases e2 : busyT now m = true
      ·skip
       have hv : ov = false:=by rw [← hov,hokd]; simp [e2]
       subst hv
       refine DrawP.por mixed [] [[(0,0),(1,0),(2,0),(3,0),(4,0),(5,0),(6,0),(7,0),(8,0),(9,0),(10,0),(11,0),(12,0),(13,0),(14,0),(15,0),(16,0),(17,0),(18,0),(19,1),(20,0),(21,1),(23,0),(24,0),(25,1),(26,0),(27,1),(28,0),(29,1),(30,0),(31,0),(32,1),(33,0),(34,1),(35,0),(36,1),(22,0),(37,0),(38,0),(39,0),(40,0)],[(0,0),(1,0),(2,0),(3,0),(4,0),(5,0),(6,0),(7,0),(8,0),(9,0),(10,0),(11,0),(12,0),(13,0),(14,0),(15,0),(16,0),(17,0),(18,0),(19,1),(20,0),(21,1),(23,0),(24,0),(25,1),(26,0),(27,1),(28,0),(29,1),(30,0),(31,0),(32,1),(33,0),(34,1),(35,0),(36,1),(37,0),(22,0),(38,0),(39,0),(40,0)]] (by kernel_rfl) ?_
       conv=>whnf
       refine And.intro ?_ ?_
       all_goals
        repeat' ((conv=>whnf); first|refine w12 _ (busy_c now m hnl ⟨rfl,rfl⟩) ?_|refine w12 _ (met_c bf m hbl hbr ⟨rfl,rfl⟩) ?_|refine w9 (w20 e1') ?_|refine w8 e2 ?_|refine w0 ?_|refine w1 ?_|refine w2 (fun h=>?_) (fun h=>?_)|refine w3 ?_|refine w4 (fun h=>?_) (fun h=>?_)|refine w5 _ rfl ?_|refine w6 rfl ?_|refine w7 mixed rfl ?_)
       all_goals conv=>whnf
       all_goals exact ⟨(),Weak.by ⟨rfl,rfl,rfl,rfl,rfl,rfl,rfl,rfl,rfl,trivial⟩⟩
      have e2:=eq_false_of_ne_true e2
      by_cases e3 : metT bf m = true
      ·skip
       have hv : ov = false:=by rw [← hov,hokd]; simp [e3]
       subst hv
       refine DrawP.por mixed [] [[(0,0),(1,0),(2,0),(3,0),(4,0),(5,0),(6,0),(7,0),(8,0),(9,0),(10,0),(11,0),(12,0),(13,0),(14,0),(15,0),(16,0),(17,0),(18,0),(19,1),(20,0),(21,1),(23,0),(24,0),(25,1),(26,0),(27,1),(28,0),(29,1),(30,0),(31,0),(32,1),(33,0),(34,1),(35,0),(36,1),(22,0),(37,0),(38,0),(39,0),(40,0)],[(0,0),(1,0),(2,0),(3,0),(4,0),(5,0),(6,0),(7,0),(8,0),(9,0),(10,0),(11,0),(12,0),(13,0),(14,0),(15,0),(16,0),(17,0),(18,0),(19,1),(20,0),(21,1),(23,0),(24,0),(25,1),(26,0),(27,1),(28,0),(29,1),(30,0),(31,0),(32,1),(33,0),(34,1),(35,0),(36,1),(37,0),(22,0),(38,0),(39,0),(40,0)]] (by kernel_rfl) ?_
       conv=>whnf
       refine And.intro ?_ ?_
       all_goals
        repeat' ((conv=>whnf); first|refine w12 _ (busy_c now m hnl ⟨rfl,rfl⟩) ?_|refine w12 _ (met_c bf m hbl hbr ⟨rfl,rfl⟩) ?_|refine w9 (w20 e1') ?_|refine w9 e2 ?_|refine w8 e3 ?_|refine w0 ?_|refine w1 ?_|refine w2 (fun h=>?_) (fun h=>?_)|refine w3 ?_|refine w4 (fun h=>?_) (fun h=>?_)|refine w5 _ rfl ?_|refine w6 rfl ?_|refine w7 mixed rfl ?_)
       all_goals conv=>whnf
       all_goals exact ⟨(),Weak.by ⟨rfl,rfl,rfl,rfl,rfl,rfl,rfl,rfl,rfl,trivial⟩⟩
      have e3:=eq_false_of_ne_true e3
      rcases hgn : now.getLast? with _ | x
      ·have hn0 : now = []:=List.getLast?_eq_none_iff.1 hgn
       have hn0' : ¬ (0 : Int) < ((now.map Mt.cells).length : Int):=by rw [hn0]; decide
       have e4 : lastOk now m = true:=by unfold lastOk; rw [hgn]
       have hv : ov = true:=by rw [← hov,hokd,e2,e3,e4]; simp [e1]
       subst hv
       refine DrawP.por mixed [] [[(0,0),(1,0),(2,0),(3,0),(4,0),(5,0),(6,0),(7,0),(8,0),(9,0),(10,0),(11,0),(12,0),(13,0),(14,0),(15,0),(16,0),(17,0),(18,0),(19,1),(20,0),(21,1),(23,0),(24,0),(25,1),(26,0),(27,1),(28,0),(29,1),(30,0),(31,0),(32,1),(33,0),(34,1),(35,0),(36,1),(22,0),(37,0),(38,0),(39,0),(40,0)],[(0,0),(1,0),(2,0),(3,0),(4,0),(5,0),(6,0),(7,0),(8,0),(9,0),(10,0),(11,0),(12,0),(13,0),(14,0),(15,0),(16,0),(17,0),(18,0),(19,1),(20,0),(21,1),(23,0),(24,0),(25,1),(26,0),(27,1),(28,0),(29,1),(30,0),(31,0),(32,1),(33,0),(34,1),(35,0),(36,1),(37,0),(22,0),(38,0),(39,0),(40,0)]] (by kernel_rfl) ?_
       conv=>whnf
       refine And.intro ?_ ?_
       all_goals
        repeat' ((conv=>whnf); first|refine w12 _ (busy_c now m hnl ⟨rfl,rfl⟩) ?_|refine w12 _ (met_c bf m hbl hbr ⟨rfl,rfl⟩) ?_|refine w9 (w20 e1') ?_|refine w9 e2 ?_|refine w9 e3 ?_|refine w9 (w20 hn0') ?_|refine w0 ?_|refine w1 ?_|refine w2 (fun h=>?_) (fun h=>?_)|refine w3 ?_|refine w4 (fun h=>?_) (fun h=>?_)|refine w5 _ rfl ?_|refine w6 rfl ?_|refine w7 mixed rfl ?_)
       all_goals conv=>whnf
       all_goals exact ⟨(),Weak.by ⟨rfl,rfl,rfl,rfl,rfl,rfl,rfl,rfl,rfl,trivial⟩⟩
      ·have hnp : 0 < now.length:=by
        cases now with
        | nil=>cases hgn
        | cons a b=>exact Nat.succ_pos _
       have hnp' : (0 : Int) < ((now.map Mt.cells).length : Int):=by rw [List.length_map]; omega
       have r1 : (now.map Mt.cells)[now.length - 1]? = some [DI x.home,DI x.away]:=by rw [List.getElem?_map,← List.getLast?_eq_getElem?,hgn]; rfl
       have hwn : IntKind.i64.wrap (((now.map Mt.cells).length : Int) - 1) = ((now.length - 1 : Nat) : Int):=by rw [List.length_map,wrap_in (by omega)]; omega
       by_cases e5 : firstM m < firstM x
       ·have e4 : lastOk now m = false:=by unfold lastOk; rw [hgn]; exact decide_eq_false (not_not_intro e5)
        have hv : ov = false:=by rw [← hov,hokd,e4]; simp
        subst hv
        refine DrawP.por mixed [19,21] [[(0,0),(1,0),(2,0),(3,0),(4,0),(5,0),(6,0),(7,0),(8,0),(9,0),(10,0),(11,0),(12,0),(13,0),(14,0),(15,0),(16,0),(17,0),(18,0),(20,0),(23,0),(24,0),(25,1),(26,0),(27,1),(28,0),(29,1),(30,0),(31,0),(32,1),(33,0),(34,1),(35,0),(36,1),(19,2),(21,2),(22,0),(37,0),(38,0),(39,0),(40,0)],[(0,0),(1,0),(2,0),(3,0),(4,0),(5,0),(6,0),(7,0),(8,0),(9,0),(10,0),(11,0),(12,0),(13,0),(14,0),(15,0),(16,0),(17,0),(18,0),(20,0),(23,0),(24,0),(25,1),(26,0),(27,1),(28,0),(29,1),(30,0),(31,0),(32,1),(33,0),(34,1),(35,0),(36,1),(19,2),(21,2),(37,0),(22,0),(38,0),(39,0),(40,0)],[(0,0),(1,0),(2,0),(3,0),(4,0),(5,0),(6,0),(7,0),(8,0),(9,0),(10,0),(11,0),(12,0),(13,0),(14,0),(15,0),(16,0),(17,0),(18,0),(20,0),(23,0),(24,0),(25,1),(26,0),(27,1),(28,0),(29,1),(30,0),(31,0),(32,1),(33,0),(34,1),(35,0),(36,1),(19,2),(37,0),(21,2),(22,0),(38,0),(39,0),(40,0)],[(0,0),(1,0),(2,0),(3,0),(4,0),(5,0),(6,0),(7,0),(8,0),(9,0),(10,0),(11,0),(12,0),(13,0),(14,0),(15,0),(16,0),(17,0),(18,0),(20,0),(23,0),(24,0),(25,1),(26,0),(27,1),(28,0),(29,1),(30,0),(31,0),(32,1),(33,0),(34,1),(35,0),(36,1),(21,2),(19,2),(22,0),(37,0),(38,0),(39,0),(40,0)],[(0,0),(1,0),(2,0),(3,0),(4,0),(5,0),(6,0),(7,0),(8,0),(9,0),(10,0),(11,0),(12,0),(13,0),(14,0),(15,0),(16,0),(17,0),(18,0),(20,0),(23,0),(24,0),(25,1),(26,0),(27,1),(28,0),(29,1),(30,0),(31,0),(32,1),(33,0),(34,1),(35,0),(36,1),(21,2),(19,2),(37,0),(22,0),(38,0),(39,0),(40,0)],[(0,0),(1,0),(2,0),(3,0),(4,0),(5,0),(6,0),(7,0),(8,0),(9,0),(10,0),(11,0),(12,0),(13,0),(14,0),(15,0),(16,0),(17,0),(18,0),(20,0),(23,0),(24,0),(25,1),(26,0),(27,1),(28,0),(29,1),(30,0),(31,0),(32,1),(33,0),(34,1),(35,0),(36,1),(21,2),(37,0),(19,2),(22,0),(38,0),(39,0),(40,0)],[(0,0),(1,0),(2,0),(3,0),(4,0),(5,0),(6,0),(7,0),(8,0),(9,0),(10,0),(11,0),(12,0),(13,0),(14,0),(15,0),(16,0),(17,0),(18,0),(20,0),(23,0),(24,0),(25,1),(26,0),(27,1),(28,0),(29,1),(30,0),(31,0),(32,1),(33,0),(34,1),(35,0),(36,1),(37,0),(19,2),(21,2),(22,0),(38,0),(39,0),(40,0)],[(0,0),(1,0),(2,0),(3,0),(4,0),(5,0),(6,0),(7,0),(8,0),(9,0),(10,0),(11,0),(12,0),(13,0),(14,0),(15,0),(16,0),(17,0),(18,0),(20,0),(23,0),(24,0),(25,1),(26,0),(27,1),(28,0),(29,1),(30,0),(31,0),(32,1),(33,0),(34,1),(35,0),(36,1),(37,0),(21,2),(19,2),(22,0),(38,0),(39,0),(40,0)]] (by kernel_rfl) ?_
        conv=>whnf
        refine And.intro ?_ ?_
        rotate_left 1
        conv=>whnf
        refine And.intro ?_ ?_
        rotate_left 1
        conv=>whnf
        refine And.intro ?_ ?_
        rotate_left 1
        conv=>whnf
        refine And.intro ?_ ?_
        rotate_left 1
        conv=>whnf
        refine And.intro ?_ ?_
        rotate_left 1
        conv=>whnf
        refine And.intro ?_ ?_
        rotate_left 1
        conv=>whnf
        refine And.intro ?_ ?_
        all_goals
         repeat' ((conv=>whnf); first|refine w12 _ (busy_c now m hnl ⟨rfl,rfl⟩) ?_|refine w12 _ (met_c bf m hbl hbr ⟨rfl,rfl⟩) ?_|refine w9 (w20 e1') ?_|refine w9 e2 ?_|refine w9 e3 ?_|refine w8 (w19 hnp') ?_|refine w10 (now.length - 1) _ hwn r1 ?_|refine QCallW.rd (I m.home) ⟨rfl,rfl⟩ ?_|refine QCallW.rd (I m.away) ⟨rfl,rfl⟩ ?_|refine w8 (w19 e5) ?_|refine w0 ?_|refine w1 ?_|refine w2 (fun h=>?_) (fun h=>?_)|refine w3 ?_|refine w4 (fun h=>?_) (fun h=>?_)|refine w5 _ rfl ?_|refine w6 rfl ?_|refine w7 mixed rfl ?_)
        all_goals conv=>whnf
        all_goals exact ⟨(),Weak.by ⟨rfl,rfl,rfl,rfl,rfl,rfl,rfl,rfl,congrArg (fun b : Bool=>norm (B b)) (w19 e5),trivial⟩⟩
       ·have e4 : lastOk now m = true:=by unfold lastOk; rw [hgn]; exact decide_eq_true e5
        have hv : ov = true:=by rw [← hov,hokd,e2,e3,e4]; simp [e1]
        subst hv
        refine DrawP.por mixed [19,21] [[(0,0),(1,0),(2,0),(3,0),(4,0),(5,0),(6,0),(7,0),(8,0),(9,0),(10,0),(11,0),(12,0),(13,0),(14,0),(15,0),(16,0),(17,0),(18,0),(20,0),(23,0),(24,0),(25,1),(26,0),(27,1),(28,0),(29,1),(30,0),(31,0),(32,1),(33,0),(34,1),(35,0),(36,1),(19,2),(21,2),(22,0),(37,0),(38,0),(39,0),(40,0)],[(0,0),(1,0),(2,0),(3,0),(4,0),(5,0),(6,0),(7,0),(8,0),(9,0),(10,0),(11,0),(12,0),(13,0),(14,0),(15,0),(16,0),(17,0),(18,0),(20,0),(23,0),(24,0),(25,1),(26,0),(27,1),(28,0),(29,1),(30,0),(31,0),(32,1),(33,0),(34,1),(35,0),(36,1),(19,2),(21,2),(37,0),(22,0),(38,0),(39,0),(40,0)],[(0,0),(1,0),(2,0),(3,0),(4,0),(5,0),(6,0),(7,0),(8,0),(9,0),(10,0),(11,0),(12,0),(13,0),(14,0),(15,0),(16,0),(17,0),(18,0),(20,0),(23,0),(24,0),(25,1),(26,0),(27,1),(28,0),(29,1),(30,0),(31,0),(32,1),(33,0),(34,1),(35,0),(36,1),(19,2),(37,0),(21,2),(22,0),(38,0),(39,0),(40,0)],[(0,0),(1,0),(2,0),(3,0),(4,0),(5,0),(6,0),(7,0),(8,0),(9,0),(10,0),(11,0),(12,0),(13,0),(14,0),(15,0),(16,0),(17,0),(18,0),(20,0),(23,0),(24,0),(25,1),(26,0),(27,1),(28,0),(29,1),(30,0),(31,0),(32,1),(33,0),(34,1),(35,0),(36,1),(21,2),(19,2),(22,0),(37,0),(38,0),(39,0),(40,0)],[(0,0),(1,0),(2,0),(3,0),(4,0),(5,0),(6,0),(7,0),(8,0),(9,0),(10,0),(11,0),(12,0),(13,0),(14,0),(15,0),(16,0),(17,0),(18,0),(20,0),(23,0),(24,0),(25,1),(26,0),(27,1),(28,0),(29,1),(30,0),(31,0),(32,1),(33,0),(34,1),(35,0),(36,1),(21,2),(19,2),(37,0),(22,0),(38,0),(39,0),(40,0)],[(0,0),(1,0),(2,0),(3,0),(4,0),(5,0),(6,0),(7,0),(8,0),(9,0),(10,0),(11,0),(12,0),(13,0),(14,0),(15,0),(16,0),(17,0),(18,0),(20,0),(23,0),(24,0),(25,1),(26,0),(27,1),(28,0),(29,1),(30,0),(31,0),(32,1),(33,0),(34,1),(35,0),(36,1),(21,2),(37,0),(19,2),(22,0),(38,0),(39,0),(40,0)],[(0,0),(1,0),(2,0),(3,0),(4,0),(5,0),(6,0),(7,0),(8,0),(9,0),(10,0),(11,0),(12,0),(13,0),(14,0),(15,0),(16,0),(17,0),(18,0),(20,0),(23,0),(24,0),(25,1),(26,0),(27,1),(28,0),(29,1),(30,0),(31,0),(32,1),(33,0),(34,1),(35,0),(36,1),(37,0),(19,2),(21,2),(22,0),(38,0),(39,0),(40,0)],[(0,0),(1,0),(2,0),(3,0),(4,0),(5,0),(6,0),(7,0),(8,0),(9,0),(10,0),(11,0),(12,0),(13,0),(14,0),(15,0),(16,0),(17,0),(18,0),(20,0),(23,0),(24,0),(25,1),(26,0),(27,1),(28,0),(29,1),(30,0),(31,0),(32,1),(33,0),(34,1),(35,0),(36,1),(37,0),(21,2),(19,2),(22,0),(38,0),(39,0),(40,0)]] (by kernel_rfl) ?_
        conv=>whnf
        refine And.intro ?_ ?_
        rotate_left 1
        conv=>whnf
        refine And.intro ?_ ?_
        rotate_left 1
        conv=>whnf
        refine And.intro ?_ ?_
        rotate_left 1
        conv=>whnf
        refine And.intro ?_ ?_
        rotate_left 1
        conv=>whnf
        refine And.intro ?_ ?_
        rotate_left 1
        conv=>whnf
        refine And.intro ?_ ?_
        rotate_left 1
        conv=>whnf
        refine And.intro ?_ ?_
        all_goals
         repeat' ((conv=>whnf); first|refine w12 _ (busy_c now m hnl ⟨rfl,rfl⟩) ?_|refine w12 _ (met_c bf m hbl hbr ⟨rfl,rfl⟩) ?_|refine w9 (w20 e1') ?_|refine w9 e2 ?_|refine w9 e3 ?_|refine w8 (w19 hnp') ?_|refine w10 (now.length - 1) _ hwn r1 ?_|refine QCallW.rd (I m.home) ⟨rfl,rfl⟩ ?_|refine QCallW.rd (I m.away) ⟨rfl,rfl⟩ ?_|refine w9 (w20 e5) ?_|refine w0 ?_|refine w1 ?_|refine w2 (fun h=>?_) (fun h=>?_)|refine w3 ?_|refine w4 (fun h=>?_) (fun h=>?_)|refine w5 _ rfl ?_|refine w6 rfl ?_|refine w7 mixed rfl ?_)
        all_goals conv=>whnf
        all_goals exact ⟨(),Weak.by ⟨rfl,rfl,rfl,rfl,rfl,rfl,rfl,rfl,congrArg (fun b : Bool=>norm (B b)) (w20 e5),trivial⟩⟩
     cases ov with
     | false =>
      repeat' ((conv=>whnf); first|refine w3 ?_|refine w8 (show (!false) = true from rfl) ?_|refine w0 ?_|refine w1 ?_|refine w2 (fun h=>?_) (fun h=>?_)|refine w3 ?_|refine w4 (fun h=>?_) (fun h=>?_)|refine w5 _ rfl ?_|refine w6 rfl ?_|refine w7 mixed rfl ?_)
      conv=>whnf
      exact ⟨kk + 1,⟨hk',hnext rfl⟩,by omega,Weak.to 2 rfl (w18 rfl) (w18 rfl) ⟨rfl,rfl,rfl,rfl,rfl,rfl,congrArg I hw2,trivial⟩⟩
     | true =>
      repeat' ((conv=>whnf); first|refine w3 ?_|refine w9 (show (!true) = false from rfl) ?_|refine w0 ?_|refine w1 ?_|refine w2 (fun h=>?_) (fun h=>?_)|refine w3 ?_|refine w4 (fun h=>?_) (fun h=>?_)|refine w5 _ rfl ?_|refine w6 rfl ?_|refine w7 mixed rfl ?_)
      conv=>whnf
      refine CutP.intro (ι:=Unit) (fun _=>⟨[(0,.d (ints cl)),(2,.fn fd [.ptr 0 0]),(4,.ptr 1 0),(6,B false),(10,.d (mts now)),(11,I i),(12,I kk),(14,.d (mts (now ++ [m])))],Tryz.f52.ntmps,[.cells (p.cells.map .d),.cells [.d (lisD bf)],.cells [I m.home,I m.away]],[],none⟩) ?_ (fun _=>?_)
      ·refine DrawP.por mixed [] [[(1,0),(3,4),(0,0),(2,0),(4,0),(5,0),(6,0)],[(1,0),(3,4),(0,0),(4,0),(2,0),(5,0),(6,0)],[(1,0),(3,4),(4,0),(0,0),(2,0),(5,0),(6,0)]] (by kernel_rfl) ?_
       conv=>whnf
       refine And.intro ?_ ?_
       rotate_left 1
       conv=>whnf
       refine And.intro ?_ ?_
       all_goals
        repeat' ((conv=>whnf); first|refine w0 ?_|refine w1 ?_|refine w2 (fun h=>?_) (fun h=>?_)|refine w3 ?_|refine w4 (fun h=>?_) (fun h=>?_)|refine w5 _ rfl ?_|refine w6 rfl ?_|refine w7 mixed rfl ?_|refine w6 (len2M now) ?_|simp only [Nat.beq_refl,Bool.and_self]|refine w6 (w23 (m:=4294967296) (by simp; omega) (apLim_ge _)) ?_)
       all_goals conv=>whnf
       all_goals
        refine ⟨(),Weak.thaw 3 (w18 rfl) (w18 rfl) rfl ⟨.inl ⟨rfl,rfl⟩,.inl ⟨rfl,rfl⟩,.inl ⟨rfl,rfl⟩,.inl ⟨rfl,rfl⟩,.inl ⟨rfl,rfl⟩,.inl ⟨rfl,rfl⟩,.inl ⟨rfl,rfl⟩,.inr (.d (.rowL (ds:=(now ++ [m]).map Mt.cells) (w18 rfl) rfl (CvLL.cong (now_row now m) (dd_cv _)) (now_len now m) (len2M _))),trivial⟩ fun b x y hx hy=>?_⟩
        match b,hx,hy with
        | 0,hx,hy=>cases hx; cases hy; exact .inl ⟨rfl,V.belL_d 3 p.cells⟩
        | 1,hx,hy=>cases hx; cases hy; exact .inl ⟨rfl,rfl⟩
        | 2,hx,hy=>cases hx; cases hy; exact .inl ⟨rfl,rfl⟩
        | b + 3,hx,hy=>cases hy
      ·repeat' (conv => whnf
                first|refine w0 ?_|refine w1 ?_|refine w2 (fun h=>?_) (fun h=>?_)|refine w3 ?_|refine w4 (fun h=>?_) (fun h=>?_)|refine w5 _ rfl ?_|refine w6 rfl ?_|refine w7 mixed rfl ?_|refine w6 (len1R bf) ?_|simp only [Nat.beq_refl,Bool.and_self]|refine w6 (w23 (m:=4294967296) (by simp; omega) (apLim_ge _)) ?_)
       conv=>whnf
       refine CallP.freeze [3] rfl rfl (.keep (.cv (.aggL (.cons (.rowL (ds:=(bf ++ [now ++ [m]]).map fun r=>[mts r]) (List.mem_singleton.2 rfl) rfl (CvLL.cong (bf_row bf (now ++ [m])) (dd_cv _)) (bf_len bf (now ++ [m])) (len1R _)) .nil)) (.keep .nil))) ?_
       obtain ⟨hS2,hf2⟩:=hsh m
       refine CallP.cnv (args':=[.d (ints cl),lisV (bf ++ [now ++ [m]]),.fn fd [.ptr 0 0]]) (L':=M0 p ++ _) rfl rfl ?_
       refine preC (lists_c p found fd cl h2 hf n (bf ++ [now ++ [m]]) hS2 (by omega)) rfl ?_
       rw [hnb]
       cases nb with
       | false =>
        repeat' ((conv=>whnf); first|refine w9 (show false = false from rfl) ?_|refine w0 ?_|refine w1 ?_|refine w2 (fun h=>?_) (fun h=>?_)|refine w3 ?_|refine w4 (fun h=>?_) (fun h=>?_)|refine w5 _ rfl ?_|refine w6 rfl ?_|refine w7 mixed rfl ?_)
        conv=>whnf
        exact ⟨kk + 1,⟨hk',hnext (by simp)⟩,by omega,Weak.to 2 rfl (Nat.le_of_ble_eq_true rfl) (Nat.le_of_ble_eq_true rfl) ⟨rfl,rfl,rfl,rfl,rfl,rfl,congrArg I hw2,trivial⟩⟩
       | true =>
        have hqt : true = q:=by
         rw [hqa]
         refine (List.any_eq_true.2 ⟨i,List.mem_range.2 hi',List.any_eq_true.2 ⟨kk,List.mem_range.2 hk',?_⟩⟩).symm
         rw [hov,hm,hnb]; rfl
        repeat' ((conv=>whnf); first|refine w8 (show true = true from rfl) ?_|refine w0 ?_|refine w1 ?_|refine w2 (fun h=>?_) (fun h=>?_)|refine w3 ?_|refine w4 (fun h=>?_) (fun h=>?_)|refine w5 _ rfl ?_|refine w6 rfl ?_|refine w7 mixed rfl ?_)
        conv=>whnf
        exact FinP.drop (n:=1) (L':=M0 p) rfl (w18 rfl) rfl (M0_bel p) ⟨congrArg B hqt,rfl⟩
    ·have hlt2 : ¬ (kk : Int) < ((cl.map fun n=>[DI n]).length : Int):=by rw [List.length_map]; omega
     repeat' ((conv=>whnf); first|refine w9 (w20 hlt2) ?_|refine w0 ?_|refine w1 ?_|refine w2 (fun h=>?_) (fun h=>?_)|refine w3 ?_|refine w4 (fun h=>?_) (fun h=>?_)|refine w5 _ rfl ?_|refine w6 rfl ?_|refine w7 mixed rfl ?_)
     conv=>whnf
     refine ⟨i + 1,⟨hi',fun j hj=>?_⟩,by omega,Weak.to 2 rfl (w18 rfl) (w18 rfl) ⟨rfl,rfl,rfl,rfl,rfl,congrArg I hw,trivial⟩⟩
     by_cases e : j = i
     ·subst e; exact List.any_eq_false.2 fun x hx=>by
       rw [hok2 x (by have:=List.mem_range.1 hx; omega)]; decide
     ·exact hok j (by omega)
   ·have hlt : ¬ (i : Int) < ((cl.map fun n=>[DI n]).length : Int):=by rw [List.length_map]; omega
    have hqf : false = q:=by
     rw [hqa]
     exact (List.any_eq_false.2 fun x hx=>by
      rw [hok x (by have:=List.mem_range.1 hx; omega)]; decide).symm
    repeat' ((conv=>whnf); first|refine w9 (w20 hlt) ?_|refine w0 ?_|refine w1 ?_|refine w2 (fun h=>?_) (fun h=>?_)|refine w3 ?_|refine w4 (fun h=>?_) (fun h=>?_)|refine w5 _ rfl ?_|refine w6 rfl ?_|refine w7 mixed rfl ?_)
    conv=>whnf
    exact FinP.drop (n:=1) (L':=M0 p) rfl (w18 rfl) rfl (M0_bel p) ⟨congrArg B hqf,rfl⟩
end Go.Proofs.YtndlggbljkhfbaaGreat
namespace Go.Proofs.YtndlggbljkhfbaaGreat
open Go.Tidy
variable {L : List Blk} {k : V → List Blk → Prop}
def fuelT (cl : List Int) : Nat:=(cl.length - 1 + cl.length % 2) * (cl.length / 2) + 1
def admitsF (p : Pl) : Bool:=listsF (holdsAll p) p.clubs (fuelT p.clubs) []
theorem sh_small {p : Pl} {l : Lst} (hs : Small [] p) (h2 : 2 ≤ p.clubs.length ∧ p.clubs.length ≤ 1000) (hS : ShT p.clubs.length l) : Small l p:=by
 have h1:=hS.1
 refine ⟨by omega,fun r hr=>?_,hs.hc,hs.hd,hs.hD⟩
 obtain ⟨i,hi,rfl⟩:=List.getElem_of_mem hr
 have:=(hS.2 i hi).2.1
 omega
theorem admits_c (p : Pl) (hs : Small [] p) (h2 : 2 ≤ p.clubs.length ∧ p.clubs.length ≤ 1000) (h : k (B (admitsF p)) L) : CallP C 17 [plV p] L k:=by
 have hnil : ShT p.clubs.length []:=⟨w22 _,fun i hi=>absurd hi (Nat.not_lt_zero i)⟩
 have hl:=lists_c p (holdsAll p) 53 p.clubs h2 (fun l hS=>admits1_c p l (sh_small hs h2 hS)) (fuelT p.clubs) [] hnil (by unfold fuelT; simp)
 refine CallP.pure ?_ rfl (fun _=>rfl) h
 clear h
 refine callP_of C_ok Tryz.func17 rfl rfl (n:=_) rfl (w18 rfl) (rs:=_) rfl ?_
 repeat' ((conv=>whnf); first|refine w0 ?_|refine w1 ?_|refine w2 (fun h=>?_) (fun h=>?_)|refine w3 ?_|refine w4 (fun h=>?_) (fun h=>?_)|refine w5 _ rfl ?_|refine w6 rfl ?_|refine w7 mixed rfl ?_)
 conv=>whnf
 refine CallP.freeze (args:=[.d (ints p.clubs),.agg [.nil],.fn 53 [.ptr 0 0]]) (dargs:=[.d (ints p.clubs),lisV [],.fn 53 [.ptr 0 0]]) [] rfl rfl (.keep (.cv (.aggL (.cons .nil .nil)) (.keep .nil))) ?_
 refine hl.mono ?_
 rintro X L' ⟨rfl,rfl⟩
 repeat' ((conv=>whnf); first|refine w0 ?_|refine w1 ?_|refine w2 (fun h=>?_) (fun h=>?_)|refine w3 ?_|refine w4 (fun h=>?_) (fun h=>?_)|refine w5 _ rfl ?_|refine w6 rfl ?_|refine w7 mixed rfl ?_)
 conv=>whnf
 exact FinP.drop (n:=0) rfl (w21 0) rfl rfl ⟨rfl,rfl⟩
def pF : Pl:=⟨[1,2],false,[⟨1,1,0,0,0,[]⟩,⟨1,2,0,0,0,[]⟩]⟩
theorem smF : Small [] pF:=⟨by decide,by decide,by decide,by decide,by decide⟩
theorem fv1 : planF pF 99 = ⟨[],0,320⟩:=by
 have h : (planF pF 99).l = [] ∧ (planF pF 99).sp = 0 ∧ (planF pF 99).e = 320:=by decide +kernel
 obtain ⟨a,b,c⟩:=h
 generalize planF pF 99 = o at a b c
 cases o; simp only at a b c; subst a b c; rfl
theorem fv2 : argE pF 99 = 0 ∧ proveE pF 99 = 0:=by decide +kernel
theorem fv3 : leastF pF 99 = ([0,1],0):=by decide +kernel
theorem fv4 : keepE pF [1] = 0:=by decide +kernel
theorem fv5 : (planF (keepX pF [1]) 99).l = [[⟨2,1⟩]] ∧ (planF (keepX pF [1]) 99).e = 0:=by decide +kernel
theorem fv6 : chkE pF (proveU pF 99) (proveT pF 99) = 0:=prove_chkE fv2.1 fv2.2
theorem planL_e {p : Pl} {n : Int} {l : Lst} {e : Int} (hs : Small [] p) (hv : (planF p n).l = l ∧ (planF p n).e = e) (h : ∀ sp : Nat,k (.tup [lisV l,I sp,I e]) L) : CallP C 13 [plV p,I n] L k:=by
 obtain ⟨rfl,rfl⟩:=hv; exact plan_c p n hs (h _)
theorem fsane_c (h : k (B true) L) : CallP C 11 [] L k:=by
 refine CallP.pure ?_ rfl (fun _=>rfl) h
 clear h
 refine callP_cut (fun c=>match c with | .region 1 _ _=>true | _=>false) C_ok Tryz.func11 rfl rfl (n:=_) rfl (w18 rfl) (rs:=_) rfl ?_
 conv=>whnf
 refine CutP.intro (ι:=Unit) (fun _=>⟨[(1,.ptr 0 0),(0,B false)],Tryz.f11.ntmps,[.cells (pF.cells.map .d)],[],none⟩) ?_ (fun _=>?_)
 ·repeat' (conv => whnf
           first|refine w0 ?_|refine w1 ?_|refine w2 (fun h=>?_) (fun h=>?_)|refine w3 ?_|refine w4 (fun h=>?_) (fun h=>?_)|refine w5 _ rfl ?_|refine w6 rfl ?_|refine w7 mixed rfl ?_)
  conv=>whnf
  refine ⟨(),Weak.trans (σ':=⟨[(1,.ptr 0 0),(0,B false)],Tryz.f11.ntmps,[.cells [.own 1 0 0 2,B false,.own 2 0 0 2],.row 0 1 [[I 1],[I 2]],.row 0 6 [[I 1,I 1,I 0,I 0,I 0,.nil],[I 1,I 2,I 0,I 0,I 0,.nil]]],[],none⟩) ?_ ?_⟩
  ·exact Weak.re [2,0,1] ⟨rfl,rfl,trivial⟩ rfl (by decide) rfl
  ·refine Weak.thaw 1 (w22 _) (w18 rfl) rfl ⟨.inl ⟨rfl,rfl⟩,.inl ⟨rfl,rfl⟩,trivial⟩ ?_
   intro b x y hx hy
   match b,hx,hy with
   | 0,hx,hy =>
    cases hx; cases hy
    refine .inr (.inr ⟨_,_,rfl,rfl,rfl,fun j u v hu hv=>?_⟩)
    match j,hu,hv with
    | 0,hu,hv=>cases hu; cases hv; exact .inr (.d (.rowL (by decide) rfl (.cons (.cons (.d _) .nil) (.cons (.cons (.d _) .nil) .nil)) rfl (by decide)))
    | 1,hu,hv=>cases hu; cases hv; exact .inl ⟨rfl,rfl⟩
    | 2,hu,hv=>cases hu; cases hv; exact .inr (.d (.rowL (ds:=pF.demands.map Dm.cells) (by decide) rfl (.cons (.cons (.d _) (.cons (.d _) (.cons (.d _) (.cons (.d _) (.cons (.d _) (.cons .nil .nil)))))) (.cons (.cons (.d _) (.cons (.d _) (.cons (.d _) (.cons (.d _) (.cons (.d _) (.cons .nil .nil)))))) .nil)) rfl (by exact len6 rfl)))
    | j + 3,hu,hv=>cases hv
   | b + 1,hx,hy=>cases hy
 ·repeat' (conv => whnf
           first|refine plan_e smF fv1 ?_|refine prove_e smF ⟨rfl,rfl,fv2.2⟩ ?_|refine least_e smF (by decide) fv3 ?_|refine CallP.freeze (args:=[plV pF,.own 3 0 0 1]) [3] rfl rfl (.keep (.cv (.d (.rowL (ds:=[[DI 1]]) (List.mem_singleton.2 rfl) rfl (.cons (.cons (.d _) .nil) .nil) rfl (by exact len1 rfl))) .nil)) (keep_c pF [1] smF.hc smF.hd (by decide) (by simp) ?_)|refine planL_e (small_keep smF (by decide)) fv5 (fun sp=>?_)|refine chk_e smF (proveU_le pF 99) fv6 ?_|refine w10 0 _ rfl rfl ?_|refine w8 (w19 fv4) ?_|refine w0 ?_|refine w1 ?_|refine w2 (fun h=>?_) (fun h=>?_)|refine w3 ?_|refine w4 (fun h=>?_) (fun h=>?_)|refine w5 _ rfl ?_|refine w6 rfl ?_|refine w7 mixed rfl ?_)
  conv=>whnf
  exact FinP.drop (n:=0) rfl (w21 0) rfl rfl ⟨rfl,rfl⟩
end Go.Proofs.YtndlggbljkhfbaaGreat
namespace Go.Proofs.YtndlggbljkhfbaaGreat
open Go.Tidy
theorem now_open {p : Pl} {l : Lst} (hP : PartP l p) : (nowT p.clubs.length l).1 = (openR l p).1 ∧ (nowT p.clubs.length l).2 = if (openR l p).2.1 then l else l.dropLast:=by
 rcases hg0 : l.getLast? with _ | r
 ·have hn : nowT p.clubs.length l = ([],l):=by unfold nowT; rw [hg0]
  have ho : openR l p = ([],true,decide (l.length < roundsN p)):=by unfold openR; rw [hg0]
  rw [hn,ho]; exact ⟨rfl,rfl⟩
 ·have hg:=hg0
  rw [List.getLast?_eq_getElem?] at hg
  have hlt:=lt_of_get hg
  rw [List.getElem?_eq_getElem hlt] at hg
  have hle:=hP.len hlt
  rw [Option.some.inj hg] at hle
  by_cases h : r.length = p.clubs.length / 2
  ·have hn : nowT p.clubs.length l = ([],l):=by unfold nowT; rw [hg0]; exact if_pos h
   have ho : openR l p = ([],true,decide (l.length < roundsN p)):=by unfold openR; rw [hg0]; exact if_neg (by unfold halfN; omega)
   rw [hn,ho]; exact ⟨rfl,rfl⟩
  ·have hn : nowT p.clubs.length l = (r,l.dropLast):=by unfold nowT; rw [hg0]; exact if_neg h
   have ho : openR l p = (r,false,true):=by unfold openR; rw [hg0]; exact if_pos (by unfold halfN at *; omega)
   rw [hn,ho]; exact ⟨rfl,rfl⟩
theorem now_ext {p : Pl} {l : Lst} (hP : PartP l p) (m : Mt) : (nowT p.clubs.length l).2 ++ [(nowT p.clubs.length l).1 ++ [m]] = extL l p m:=by
 obtain ⟨h1,h2⟩:=now_open hP
 rw [h1,h2]; rfl
theorem okC_of {p : Pl} {l : Lst} {m : Mt} (hd : p.double = false) (hP : PartP l p) (hX : PartP (extL l p m) p) : ∃ i k,i < p.clubs.length ∧ k < p.clubs.length ∧ mT p.clubs i k = m ∧ okC p.clubs (nowT p.clubs.length l).1 (nowT p.clubs.length l).2 i k = true:=by
 rw [← now_ext hP] at hX
 generalize (nowT p.clubs.length l).1 = now at hX ⊢
 generalize (nowT p.clubs.length l).2 = bf at hX ⊢
 obtain ⟨_,_,hw⟩:=PartP_snoc.1 hX
 have h:=hw.2.2.2.1 now.length (by rw [List.length_append]; exact Nat.lt_succ_self _)
 rw [List.take_left,List.getElem_append_right (Nat.le_refl _),show (([m] : List Mt)[now.length - now.length]'(by simp)) = m by simp] at h
 obtain ⟨h1,h2,h3,h4,h5,h6,h7,h8⟩:=h
 obtain ⟨i,hi,e1⟩:=List.getElem_of_mem h2
 obtain ⟨k,hk,e2⟩:=List.getElem_of_mem h3
 have hmT : mT p.clubs i k = m:=by
  unfold mT; simp [List.getD,List.getElem?_eq_getElem hi,List.getElem?_eq_getElem hk,e1,e2]
 refine ⟨i,k,hi,hk,hmT,?_⟩
 have a1 : i ≠ k:=fun e=>by subst e; exact h1 (e1.symm.trans e2)
 have a2 : busyT now m = false:=by
  unfold busyT
  refine List.any_eq_false.2 fun x hx hh=>?_
  have hh:=of_decide_eq_true hh
  rcases hh with h | h | h | h
  ·exact h4 (mem_busyL.2 ⟨x,hx,.inl h⟩)
  ·exact h5 (mem_busyL.2 ⟨x,hx,.inl h⟩)
  ·exact h4 (mem_busyL.2 ⟨x,hx,.inr h⟩)
  ·exact h5 (mem_busyL.2 ⟨x,hx,.inr h⟩)
 have a3 : metT bf m = false:=by
  unfold metT
  refine List.any_eq_false.2 fun r hr hh=>?_
  obtain ⟨x,hx,hh⟩:=List.any_eq_true.1 hh
  have hmem : x ∈ bf.flatten:=List.mem_flatten.2 ⟨r,hr,hx⟩
  rcases of_decide_eq_true hh with h | ⟨h,h'⟩
  ·subst h; exact h6 (List.mem_append.2 (.inl hmem))
  ·have : x = ⟨m.away,m.home⟩:=by cases x; simp only at h h'; rw [h,h']
   rw [this] at hmem
   exact h7 hd (List.mem_append.2 (.inl hmem))
 have a4 : lastOk now m = true:=by
  unfold lastOk
  rcases hg : now.getLast? with _ | x
  ·rfl
  ·have:=h8 x hg
   exact decide_eq_true (by omega)
 unfold okC
 rw [hmT,a2,a3,a4,decide_eq_true a1]; rfl
theorem rounds_one {p : Pl} (hd : p.double = false) (h2 : 2 ≤ p.clubs.length) : roundsN p = p.clubs.length - 1 + p.clubs.length % 2:=by
 unfold roundsN; rw [hd]; simp; omega
theorem endT_full {p : Pl} {l : Lst} (hd : p.double = false) (h2 : 2 ≤ p.clubs.length) : endT p.clubs.length l = fullC l p:=by
 unfold endT fullC
 rw [rounds_one hd h2]
 rcases hg : l.getLast? with _ | r
 ·simp
 ·by_cases a : r.length = p.clubs.length / 2 <;> by_cases b : l.length = p.clubs.length - 1 + p.clubs.length % 2 <;> simp [halfN,a,b]
theorem path_lists {p : Pl} {ok found : Lst → Bool} {x : Lst} (h0 : checkP p = 0) (hd : p.double = false) (h2 : 2 ≤ p.clubs.length) (hf : fullC x p = true) (hx : found x = true) : ∀ (n : Nat) (l : Lst),PartP l p → roundsN p * halfN p < l.flatten.length + n → Path p ok l x → listsF found p.clubs n l = true
 | 0,l,hP,hfu,h=>by have:=part_total hP; omega
 | n + 1,l,hP,hfu,h=>by
  rw [listsF]
  cases h with
  | refl=>rw [if_pos (by rw [endT_full hd h2]; exact hf)]; exact hx
  | step hm hok h =>
   rename_i m
   have hnf : ¬ fullC l p = true:=fun hfl=>by
    have:=full_chs h0 hP (fullB_part h0 hP hfl)
    rw [this] at hm; cases hm
   rw [if_neg (by rw [endT_full hd h2]; exact hnf)]
   have hPx:=ch_mem h0 hP hm
   obtain ⟨i,k,hi,hk,hmT,ho⟩:=okC_of hd hP hPx
   refine List.any_eq_true.2 ⟨i,List.mem_range.2 hi,List.any_eq_true.2 ⟨k,List.mem_range.2 hk,?_⟩⟩
   rw [ho,hmT,now_ext hP,path_lists h0 hd h2 hf hx n (extL l p m) hPx (by rw [extL_flat,List.length_append]; simp only [List.length_singleton]; omega) h]; rfl
end Go.Proofs.YtndlggbljkhfbaaGreat
namespace Go.Proofs.YtndlggbljkhfbaaGreat
open Go.Tidy
def InvT (p : Pl) (l : Lst) : Prop:=∀ (i : Nat) (hi : i < l.length) (k : Nat) (hk : k < l[i].length),OkQ p (l.take i).flatten (l[i].take k) l[i][k]
theorem inv_nil (p : Pl) : InvT p []:=fun i hi=>absurd hi (Nat.not_lt_zero i)
theorem okQ_of {p : Pl} {bf : Lst} {now : List Mt} {i k : Nat} (hso : p.clubs.Pairwise (· < ·)) (hi : i < p.clubs.length) (hk : k < p.clubs.length) (h : okC p.clubs now bf i k = true) : OkQ p bf.flatten now (mT p.clubs i k):=by
 have hmT : mT p.clubs i k = ⟨p.clubs[i],p.clubs[k]⟩:=by unfold mT; simp [List.getD,List.getElem?_eq_getElem hi,List.getElem?_eq_getElem hk]
 unfold okC at h
 obtain ⟨m,hm⟩ : ∃ m,mT p.clubs i k = m:=⟨_,rfl⟩
 rw [hm] at h hmT ⊢
 simp only [Bool.and_eq_true,decide_eq_true_eq,Bool.not_eq_true'] at h
 obtain ⟨⟨⟨a1,a2⟩,a3⟩,a4⟩:=h
 have e1 : m.home = p.clubs[i]:=by rw [hmT]
 have e2 : m.away = p.clubs[k]:=by rw [hmT]
 have hne : m.home ≠ m.away:=by
  rw [e1,e2]
  rcases Nat.lt_or_gt_of_ne a1 with h | h
  ·have:=List.pairwise_iff_getElem.1 hso i k hi hk h; omega
  ·have:=List.pairwise_iff_getElem.1 hso k i hk hi h; omega
 have hb : ∀ x ∈ now,¬ (x.home = m.home ∨ x.home = m.away ∨ x.away = m.home ∨ x.away = m.away):=fun x hx hc=>by
  have:=List.any_eq_false.1 a2 x hx
  exact this (w19 hc)
 have hmt : ∀ x ∈ bf.flatten,¬ (x = m ∨ x.home = m.away ∧ x.away = m.home):=fun x hx hc=>by
  obtain ⟨r,hr,hx⟩:=List.mem_flatten.1 hx
  have:=List.any_eq_false.1 a3 r hr
  exact this (List.any_eq_true.2 ⟨x,hx,decide_eq_true hc⟩)
 refine ⟨hne,by rw [e1]; exact List.getElem_mem hi,by rw [e2]; exact List.getElem_mem hk,?_,?_,?_,fun _=>?_,fun x hx=>?_⟩
 ·intro h
  obtain ⟨x,hx,h⟩:=mem_busyL.1 h
  exact hb x hx (by omega)
 ·intro h
  obtain ⟨x,hx,h⟩:=mem_busyL.1 h
  exact hb x hx (by omega)
 ·intro h
  rcases List.mem_append.1 h with h | h
  ·exact hmt _ h (.inl rfl)
  ·exact hb _ h (.inl rfl)
 ·intro h
  rcases List.mem_append.1 h with h | h
  ·exact hmt _ h (.inr ⟨rfl,rfl⟩)
  ·exact hb _ h (.inr (.inl rfl))
 ·have hx' : x ∈ now:=List.mem_of_getLast? hx
  have hbx:=hb x hx'
  unfold lastOk at a4
  rw [hx] at a4
  have h4:=of_decide_eq_true a4
  have f1 : firstM m = m.home ∨ firstM m = m.away:=by unfold firstM; split <;> simp
  have f2 : firstM x = x.home ∨ firstM x = x.away:=by unfold firstM; split <;> simp
  rcases f1 with f1 | f1 <;> rcases f2 with f2 | f2 <;> omega
theorem inv_snoc {p : Pl} {bf : Lst} {w : List Mt} (h : InvT p bf) (hw : ∀ (k : Nat) (hk : k < w.length),OkQ p bf.flatten (w.take k) w[k]) : InvT p (bf ++ [w]):=by
 intro i hi k hk
 have hi' : i < bf.length + 1:=by rw [List.length_append] at hi; exact hi
 by_cases hc : i < bf.length
 ·have e : (bf ++ [w])[i] = bf[i]:=List.getElem_append_left hc
  have et : (bf ++ [w]).take i = bf.take i:=List.take_append_of_le_length (by omega)
  rw [et]
  simp only [e] at hk ⊢
  exact h i hc k hk
 ·have hie : i = bf.length:=by omega
  subst hie
  have e : (bf ++ [w])[bf.length] = w:=by rw [List.getElem_append_right (Nat.le_refl _)]; simp
  rw [List.take_left]
  simp only [e] at hk ⊢
  exact hw k hk
theorem inv_now {p : Pl} {l : Lst} (h : InvT p l) : InvT p (nowT p.clubs.length l).2 ∧ ∀ (k : Nat) (hk : k < (nowT p.clubs.length l).1.length),OkQ p (nowT p.clubs.length l).2.flatten ((nowT p.clubs.length l).1.take k) (nowT p.clubs.length l).1[k]:=by
 unfold nowT
 rcases hg : l.getLast? with _ | r
 ·have hl0 : l = []:=List.getLast?_eq_none_iff.1 hg
  subst hl0
  exact ⟨inv_nil p,fun k hk=>absurd hk (Nat.not_lt_zero k)⟩
 ·obtain ⟨ys,rfl⟩:=List.getLast?_eq_some_iff.1 hg
  simp only [List.dropLast_concat]
  split
  ·exact ⟨h,fun k hk=>absurd hk (Nat.not_lt_zero k)⟩
  ·refine ⟨fun i hi k hk=>?_,fun k hk=>?_⟩
   ·have hi : i < ys.length:=hi
    have hi2 : i < (ys ++ [r]).length:=by rw [List.length_append]; omega
    have e : (ys ++ [r])[i] = ys[i]:=List.getElem_append_left hi
    have:=h i hi2 k (by simp only [e]; exact hk)
    rw [List.take_append_of_le_length (by omega)] at this
    simp only [e] at this
    exact this
   ·have hi2 : ys.length < (ys ++ [r]).length:=by rw [List.length_append]; exact Nat.lt_succ_self _
    have e : (ys ++ [r])[ys.length] = r:=by rw [List.getElem_append_right (Nat.le_refl _)]; simp
    have:=h ys.length hi2 k (by simp only [e]; exact hk)
    rw [List.take_left] at this
    simp only [e] at this
    exact this
theorem lists_full {p : Pl} {found : Lst → Bool} (hso : p.clubs.Pairwise (· < ·)) (h2 : 2 ≤ p.clubs.length) : ∀ (n : Nat) (l : Lst),ShT p.clubs.length l → InvT p l → listsF found p.clubs n l = true → ∃ x,ShT p.clubs.length x ∧ InvT p x ∧ endT p.clubs.length x = true ∧ found x = true
 | 0,l,_,_,h=>by cases h
 | n + 1,l,hS,hI,h=>by
  rw [listsF] at h
  by_cases he : endT p.clubs.length l = true
  ·rw [if_pos he] at h
   exact ⟨l,hS,hI,he,h⟩
  ·rw [if_neg he] at h
   obtain ⟨i,hi,h⟩:=List.any_eq_true.1 h
   obtain ⟨k,hk,h⟩:=List.any_eq_true.1 h
   rw [Bool.and_eq_true] at h
   have hi:=List.mem_range.1 hi
   have hk:=List.mem_range.1 hk
   obtain ⟨s1,s2,s3,s4⟩:=sh_next h2 hS he
   obtain ⟨i1,i2⟩:=inv_now hI
   have hq:=okQ_of hso hi hk h.1
   refine lists_full hso h2 n _ (sh_snoc s2 s3 h2 ⟨by rw [List.length_append]; exact Nat.succ_pos _,by rw [List.length_append]; exact s1⟩) (inv_snoc i1 fun j hj=>?_) h.2
   rw [List.length_append,List.length_singleton] at hj
   by_cases hc : j < (nowT p.clubs.length l).1.length
   ·rw [List.getElem_append_left hc,List.take_append_of_le_length (by omega)]; exact i2 j hc
   ·have hje : j = (nowT p.clubs.length l).1.length:=by omega
    subst hje
    rw [List.getElem_append_right (Nat.le_refl _),List.take_left]
    simpa using hq
theorem full_left {p : Pl} {r : List Mt} {met : List Mt} (hso : p.clubs.Pairwise (· < ·)) (hr : r.length = p.clubs.length / 2) (hq : ∀ (k : Nat) (hk : k < r.length),OkQ p met (r.take k) r[k]) : leftGo (p.clubs.length % 2) (lastM r) (busyL r) p.clubs 0 = true:=by
 rw [leftGo_eq hso (Nat.zero_le _)]
 refine w19 ?_
 have hnd:=busy_nodup (fun k hk=>⟨(hq k hk).1,(hq k hk).2.2.2.1,(hq k hk).2.2.2.2.1⟩) r.length (w21 _)
 rw [List.take_length] at hnd
 have hsub : busyL r ⊆ p.clubs.filter fun c=>busyB r c:=fun c hc=>by
  refine List.mem_filter.2 ⟨?_,busyB_iff.2 hc⟩
  obtain ⟨m,hm,h⟩:=mem_busyL.1 hc
  obtain ⟨k,hk,rfl⟩:=List.getElem_of_mem hm
  rcases h with rfl | rfl
  ·exact (hq k hk).2.1
  ·exact (hq k hk).2.2.1
 have h1:=List.Nodup.length_le_of_subset hnd hsub
 rw [busyL_len,← List.countP_eq_length_filter] at h1
 have h2 : p.clubs.length = p.clubs.countP (fun c=>busyB r c) + p.clubs.countP (fun c=>!busyB r c):=by
  have:=List.length_eq_countP_add_countP (fun c=>busyB r c) (l:=p.clubs)
  simpa using this
 have h3 : (p.clubs.countP fun c=>decide (c < lastM r) && !busyB r c) ≤ p.clubs.countP fun c=>!busyB r c:=List.countP_mono_left fun c _ h=>by
  simp only [Bool.and_eq_true] at h; exact h.2
 omega
theorem full_inv {p : Pl} {x : Lst} (hd : p.double = false) (h2 : 2 ≤ p.clubs.length) (hso : p.clubs.Pairwise (· < ·)) (hS : ShT p.clubs.length x) (hI : InvT p x) (he : endT p.clubs.length x = true) : FullP x p:=by
 unfold endT at he
 rcases hg : x.getLast? with _ | r
 ·rw [hg] at he; cases he
 ·rw [hg] at he
  simp only [Bool.and_eq_true,decide_eq_true_eq] at he
  have hrow : ∀ (i : Nat) (hi : i < x.length),x[i].length = p.clubs.length / 2:=fun i hi=>by
   by_cases h : i + 1 < x.length
   ·exact (hS.2 i hi).2.2 h
   ·rw [List.getLast?_eq_getElem?,List.getElem?_eq_getElem (by omega)] at hg
    have e : i = x.length - 1:=by omega
    subst e
    rw [Option.some.inj hg]; exact he.1
  refine full_RQ (by rw [rounds_one hd h2]; exact he.2) fun i hi=>?_
  have h1:=hrow i hi
  exact ⟨by omega,by unfold halfN; omega,fun _=>by unfold halfN; omega,hI i hi,full_left hso h1 (hI i hi)⟩
end Go.Proofs.YtndlggbljkhfbaaGreat
namespace Go.Proofs.YtndlggbljkhfbaaGreat
open Go.Tidy
theorem holds_all {p : Pl} {x : Lst} (hs : Small [] p) (h0 : checkP p = 0) (hF : FullP x p) : holdsAll p x = true ↔ brkL x p = []:=by
 have hsx:=part_small0 hs h0 hF.1
 have hh : ∀ d ∈ p.demands,holdsF x d = !doomsF (pR x p) d:=fun d hd=>full_holds hsx.hr hF (checkP_valid h0 d hd)
 unfold holdsAll brkL
 rw [if_pos ⟨h0,hF⟩]
 constructor
 ·intro h
  rw [List.eq_nil_iff_forall_not_mem]
  intro a ha
  obtain ⟨i,hi,_,hd⟩:=doomL_mem.1 ha
  have:=List.all_eq_true.1 h _ (List.getElem_mem hi)
  rw [hh _ (List.getElem_mem hi),hd] at this; cases this
 ·intro h
  refine List.all_eq_true.2 fun d hd=>?_
  rw [hh d hd]
  cases hc : doomsF (pR x p) d with
  | false=>rfl
  | true =>
   obtain ⟨i,hi,rfl⟩:=List.getElem_of_mem hd
   have : (i : Int) ∈ doomL (pR x p) p:=doomL_mem.2 ⟨i,hi,rfl,hc⟩
   rw [h] at this; cases this
theorem admits_iff {p : Pl} (hs : Small [] p) (h0 : checkP p = 0) (hd : p.double = false) : admitsF p = true ↔ fulls (trP p) ≠ []:=by
 have hf:=checkP_field h0
 have hso:=sorted_of h0
 simp only [fieldOk,Bool.and_eq_true,decide_eq_true_eq] at hf
 have h2 : 2 ≤ p.clubs.length:=by omega
 constructor
 ·intro h hn
  obtain ⟨x,hS,hI,he,hx⟩:=lists_full hso h2 _ [] ⟨w22 _,fun i hi=>absurd hi (Nat.not_lt_zero i)⟩ (inv_nil p) h
  have hF:=full_inv hd h2 hso hS hI he
  have:=full_mem hs h0 hF ((holds_all hs h0 hF).1 hx)
  rw [hn] at this; cases this
 ·intro h
  obtain ⟨x,hx⟩:=List.exists_mem_of_ne_nil _ h
  obtain ⟨hF,_⟩:=fulls_mem hx
  have hb:=(fulls_brk hx).2
  have hfc : fullC x p = true:=fullC_len h0 hF.1 (fullB_len h0 (full_games h0 hF))
  refine path_lists h0 hd h2 hfc ((holds_all hs h0 hF).2 hb) (fuelT p.clubs) [] (part_nil p) ?_ (path_of (ok:=fun _=>true) h0 (fun _ _ _ _ _=>rfl) _ x (w21 _) hF.1 rfl)
  unfold fuelT
  rw [rounds_one hd h2]; simp [halfN]
end Go.Proofs.YtndlggbljkhfbaaGreat
namespace Go.Proofs.YtndlggbljkhfbaaGreat
open Go.Tidy
theorem without_del {n i : Nat} (hi : i < n) : withoutL n (i : Int) = delAt (allN n) i:=by
 have hp1 : (withoutL n (i : Int)).Pairwise (· < ·):=(allN_pair n).filter (p:=fun x=>decide (x ≠ (i : Int)))
 have hp2 : (delAt (allN n) i).Pairwise (· < ·):=(allN_pair n).sublist (delAt_sub _ _)
 have hget : (allN n)[i]'(by rw [allN_len]; exact hi) = (i : Int):=by simp [allN]
 have hmem : ∀ u,u ∈ withoutL n (i : Int) ↔ u ∈ delAt (allN n) i:=fun u=>by
  unfold withoutL
  rw [List.mem_filter,delAt_eq,List.mem_eraseIdx_iff_getElem]
  simp only [decide_eq_true_eq]
  constructor
  ·rintro ⟨h1,h2⟩
   obtain ⟨j,hj,rfl⟩:=List.getElem_of_mem h1
   refine ⟨j,hj,fun e=>h2 ?_,rfl⟩
   subst e; exact hget
  ·rintro ⟨j,hj,hne,rfl⟩
   refine ⟨List.getElem_mem hj,fun e=>hne ?_⟩
   have : (allN n)[j] = (j : Int):=by simp [allN]
   omega
 refine List.Perm.eq_of_pairwise (le:=fun a b : Int=>a < b) (fun a b _ _ h1 h2=>by omega) hp1 hp2 ?_
 exact (List.perm_ext_iff_of_nodup (hp1.imp fun {a b} h=>by omega) (hp2.imp fun {a b} h=>by omega)).2 hmem
theorem without_ind (n i : Nat) : IndP n (withoutL n (i : Int)):=ind_of (fun u hu=>by
 unfold withoutL at hu
 have:=(List.mem_filter.1 hu).1
 unfold allN at this
 obtain ⟨j,hj,rfl⟩:=List.mem_map.1 this
 have:=List.mem_range.1 hj
 omega) ((allN_pair n).filter (p:=fun x=>decide (x ≠ (i : Int))))
theorem keep_without {p : Pl} {x : List Int} {i : Nat} (hi : i < x.length) : keepP (keepP p x) (withoutL x.length (i : Int)) = keepP p (delAt x i):=by
 have h : (keepP p x).demands.length = x.length:=by unfold keepP; simp
 have ha:=keep_all (keepP p x)
 rw [h] at ha
 have hd : (allN x.length).map (getD (keepP p x)) = x.map (getD p):=congrArg Pl.demands ha
 rw [without_del hi]
 show Pl.mk p.clubs p.double ((delAt (allN x.length) i).map (getD (keepP p x))) = Pl.mk p.clubs p.double ((delAt x i).map (getD p))
 unfold delAt
 simp only [List.map_append,List.map_take,List.map_drop,hd]
theorem plan_fine {p : Pl} {n : Int} (h0 : checkP p = 0) (h1 : 75972 ≤ n) (h2 : n ≤ 1073741824) (hn : p.clubs.length ≤ 3 ∨ p.clubs.length = 4 ∧ p.double = false) : (planF p n).e = 0 ∨ (planF p n).e = 320:=by
 obtain ⟨p1,p2⟩:=plan_tr h0 (by omega) h2
 have:=few_ticks h0 hn
 cases hf : fulls (trP p) with
 | nil=>right; rw [(p1 hf).1 (by omega)]
 | cons x r =>
  have:=first_le (trP p)
  left; rw [(p2 x r hf).1 (by omega)]
theorem leastGo_zero {p : Pl} {n : Int} (h0 : checkP p = 0) (h1 : 75972 ≤ n) (h2 : n ≤ 1073741824) (hn : p.clubs.length ≤ 3 ∨ p.clubs.length = 4 ∧ p.double = false) : ∀ (i : Nat) (x : List Int),IndP p.demands.length x → (leastGo p n i x).2 = 0
 | 0,x,_=>rfl
 | i + 1,x,hx=>by
  have hd:=ind_del hx i
  obtain ⟨_,kx⟩:=keep_ok h0 hd
  simp only [leastGo]
  rw [kx]
  rcases plan_fine (p:=keepP p (delAt x i)) (keepP_check h0 hd) h1 h2 hn with h | h
  ·rw [if_pos h]; exact leastGo_zero h0 h1 h2 hn i x hx
  ·rw [if_neg (by omega),if_pos h]; exact leastGo_zero h0 h1 h2 hn i _ hd
theorem leastF_zero {p : Pl} {n : Int} (h0 : checkP p = 0) (h1 : 75972 ≤ n) (h2 : n ≤ 1073741824) (hn : p.clubs.length ≤ 3 ∨ p.clubs.length = 4 ∧ p.double = false) (h : (planF p n).e = 320) : (leastF p n).2 = 0:=by
 unfold leastF
 rw [if_neg (by omega),if_pos h]
 exact leastGo_zero h0 h1 h2 hn _ _ (ind_all _)
end Go.Proofs.YtndlggbljkhfbaaGreat
