import Derived.Test.YtndlggbljkhfbaaGreatJTG
set_option maxRecDepth 100000
set_option maxHeartbeats 0
set_option linter.unusedSimpArgs false
set_option linter.unusedVariables false
namespace Go.Proofs.YtndlggbljkhfbaaGreat.topFixtures
open Go.Tidy Go.ChangeShapes Go.WideShapes Go.ChangeAt Go.RowKit
theorem law (p : Pl) (hp : PlB p) : CallP C 3 [plV p] [] fun X L=>L = [] ∧ X = .d (.bool true):=by
 have hcc : ∀ {L : List Blk} {k : V → List Blk → Prop},k (I (checkP p)) L → CallP C 12 [plV p] L k:=fun h=>check_c p (w23 hp.hc (by decide)) (fun d hd=>w23 (hp.hd d hd) (by decide)) (w23 hp.hD (by decide)) h
 refine callP_of C_ok Tryz.func3 rfl rfl (n:=_) rfl (w18 rfl) (rs:=_) rfl ?_
 by_cases c1 : 4 < p.clubs.length
 ·have c1' : (4 : Int) < ((p.clubs.map fun n=>[DI n]).length : Int):=by rw [List.length_map]; omega
  repeat' ((conv=>whnf); first|refine fsane_c ?_|refine w3 ?_|refine w8 (w19 c1') ?_|refine w0 ?_|refine w1 ?_|refine w2 (fun h=>?_) (fun h=>?_)|refine w3 ?_|refine w4 (fun h=>?_) (fun h=>?_)|refine w5 _ rfl ?_|refine w6 rfl ?_|refine w7 mixed rfl ?_)
  conv=>whnf
  exact FinP.drop (n:=0) rfl (w21 0) rfl rfl ⟨rfl,rfl⟩
 have c1' : ¬ (4 : Int) < ((p.clubs.map fun n=>[DI n]).length : Int):=by rw [List.length_map]; omega
 by_cases c2 : p.double = true
 ·repeat' (conv => whnf
           first|refine fsane_c ?_|refine w3 ?_|refine w9 (w20 c1') ?_|refine w8 c2 ?_|refine w0 ?_|refine w1 ?_|refine w2 (fun h=>?_) (fun h=>?_)|refine w3 ?_|refine w4 (fun h=>?_) (fun h=>?_)|refine w5 _ rfl ?_|refine w6 rfl ?_|refine w7 mixed rfl ?_)
  conv=>whnf
  exact FinP.drop (n:=0) rfl (w21 0) rfl rfl ⟨rfl,rfl⟩
 have c2:=eq_false_of_ne_true c2
 by_cases c3 : 7 < p.demands.length
 ·have c3' : (7 : Int) < ((p.demands.map Dm.cells).length : Int):=by rw [List.length_map]; omega
  repeat' ((conv=>whnf); first|refine fsane_c ?_|refine w3 ?_|refine w9 (w20 c1') ?_|refine w9 c2 ?_|refine w8 (w19 c3') ?_|refine w0 ?_|refine w1 ?_|refine w2 (fun h=>?_) (fun h=>?_)|refine w3 ?_|refine w4 (fun h=>?_) (fun h=>?_)|refine w5 _ rfl ?_|refine w6 rfl ?_|refine w7 mixed rfl ?_)
  conv=>whnf
  exact FinP.drop (n:=0) rfl (w21 0) rfl rfl ⟨rfl,rfl⟩
 have c3' : ¬ (7 : Int) < ((p.demands.map Dm.cells).length : Int):=by rw [List.length_map]; omega
 by_cases h0 : checkP p = 0
 ·repeat' (conv => whnf
           first|refine fsane_c ?_|refine w3 ?_|refine w9 (w20 c1') ?_|refine w9 c2 ?_|refine w9 (w20 c3') ?_|refine hcc ?_|refine w8 (w19 h0) ?_|refine w0 ?_|refine w1 ?_|refine w2 (fun h=>?_) (fun h=>?_)|refine w3 ?_|refine w4 (fun h=>?_) (fun h=>?_)|refine w5 _ rfl ?_|refine w6 rfl ?_|refine w7 mixed rfl ?_)
  conv=>whnf
  have hfo:=checkP_field h0
  have hso:=sorted_of h0
  simp only [fieldOk,Bool.and_eq_true,decide_eq_true_eq] at hfo
  have hrng : ∀ (i : Nat) (hi : i < p.clubs.length),0 ≤ p.clubs[i] ∧ p.clubs[i] < 192:=fun i hi=>((incr_iff p.clubs).1 hfo.1.1 i _ (List.getElem?_eq_getElem hi)).1
  refine LoopP.inv (fun i=>i ≤ p.clubs.length) (fun i=>⟨[(1,.ptr 0 0),(2,B false),(3,I i)],Tryz.f3.ntmps,[.cells (p.cells.map .d)],[],none⟩) (fun i=>p.clubs.length - i) 0 (w22 _) ?_ ?_
  ·exact Weak.by ⟨rfl,rfl,rfl,trivial⟩
  intro i hi
  by_cases hi' : i < p.clubs.length
  ·have hlt : (i : Int) < ((p.clubs.map fun n=>[DI n]).length : Int):=by rw [List.length_map]; omega
   have hw : IntKind.i64.wrap ((i : Int) + 1) = ((i + 1 : Nat) : Int):=by rw [wrap_in (by omega)]; omega
   obtain ⟨g1,g2⟩:=hrng i hi'
   have g1' : ¬ p.clubs[i] < 0:=by omega
   have g2' : ¬ (192 : Int) ≤ p.clubs[i]:=by omega
   by_cases hz : 0 < i
   ·have hz' : (0 : Int) < (i : Int):=by omega
    have hgr:=List.pairwise_iff_getElem.1 hso (i - 1) i (by omega) hi' (by omega)
    have g3 : ¬ p.clubs[i] ≤ p.clubs[i - 1]:=by omega
    repeat' ((conv=>whnf); first|refine w8 (w19 hlt) ?_|refine w11 i rfl hi' ?_|refine w11 (i - 1) (by rw [wrap_in (by omega)]; omega) (by omega) ?_|refine w9 (w20 g1') ?_|refine w9 (w20 g2') ?_|refine w8 (w19 hz') ?_|refine w9 (w20 g3) ?_|refine w0 ?_|refine w1 ?_|refine w2 (fun h=>?_) (fun h=>?_)|refine w3 ?_|refine w4 (fun h=>?_) (fun h=>?_)|refine w5 _ rfl ?_|refine w6 rfl ?_|refine w7 mixed rfl ?_)
    conv=>whnf
    exact ⟨i + 1,hi',by omega,Weak.to 1 rfl (w22 _) (w18 rfl) ⟨rfl,rfl,congrArg I hw,trivial⟩⟩
   ·have hz' : ¬ (0 : Int) < (i : Int):=by omega
    repeat' ((conv=>whnf); first|refine w8 (w19 hlt) ?_|refine w11 i rfl hi' ?_|refine w9 (w20 g1') ?_|refine w9 (w20 g2') ?_|refine w9 (w20 hz') ?_|refine w0 ?_|refine w1 ?_|refine w2 (fun h=>?_) (fun h=>?_)|refine w3 ?_|refine w4 (fun h=>?_) (fun h=>?_)|refine w5 _ rfl ?_|refine w6 rfl ?_|refine w7 mixed rfl ?_)
    conv=>whnf
    exact ⟨i + 1,hi',by omega,Weak.to 1 rfl (w22 _) (w18 rfl) ⟨rfl,rfl,congrArg I hw,trivial⟩⟩
  ·have hlt : ¬ (i : Int) < ((p.clubs.map fun n=>[DI n]).length : Int):=by rw [List.length_map]; omega
   have hn : p.clubs.length ≤ 3 ∨ p.clubs.length = 4 ∧ p.double = false:=by
    rcases Nat.lt_or_ge 3 p.clubs.length with h | h
    ·exact .inr ⟨by omega,c2⟩
    ·exact .inl h
   have hs : Small [] p:=⟨by decide,by simp,by omega,fun d hd=>Nat.le_trans (hp.hd d hd) (by decide),by omega⟩
   have hlt2 : ¬ ((p.clubs.map fun n=>[DI n]).length : Int) < 2:=by rw [List.length_map]; omega
   have htk:=few_ticks h0 hn
   rcases outcome (p:=p) (n:=100000) (by decide) (by decide) with ⟨x,j,_,hx,e1,e2,e3⟩ | ⟨_,hA,hT,e1,e2⟩ | ⟨e,hne,hne2,e1,e2,e3⟩
   ·have hsx:=fulls_small hs hx
    obtain ⟨b1,b2⟩:=fulls_brk hx
    obtain ⟨hFx,_⟩:=fulls_mem hx
    have had : admitsF p = true:=(admits_iff hs h0 c2).2 (List.ne_nil_of_mem hx)
    have hfe : ∀ {L : List Blk} {k : V → List Blk → Prop},k (.tup [B true,I 0]) L → CallP C 16 [lisV x,.d (ints p.clubs),B false] L k:=fun h=>ffull_c x p.clubs false hsx.hl hsx.hr hsx.hc (by
     have h1:=full_fullB h0 hFx
     rw [c2] at h1
     rw [h1,full_fixE h0 hFx]; exact h)
    repeat' ((conv=>whnf); first|refine w9 (w20 hlt) ?_|refine w9 (w20 hlt2) ?_|refine plan_e hs e1 ?_|refine prove_e hs ⟨rfl,e3,e2⟩ ?_|refine brk_e hsx b2 b1 ?_|refine hfe ?_|refine admits_c p hs (by omega) ?_|refine w0 ?_|refine w1 ?_|refine w2 (fun h=>?_) (fun h=>?_)|refine w3 ?_|refine w4 (fun h=>?_) (fun h=>?_)|refine w5 _ rfl ?_|refine w6 rfl ?_|refine w7 mixed rfl ?_)
    conv=>whnf
    exact FinP.drop (n:=0) rfl (w21 0) rfl rfl ⟨rfl,congrArg B had⟩
   ·have hck:=prove_chkE hA e2
    have hul:=proveU_le p 100000
    have had : admitsF p = false:=eq_false_of_ne_true fun h=>(admits_iff hs h0 c2).1 h hT
    obtain ⟨⟨x,e⟩,hv⟩ : ∃ q,leastF p 100000 = q:=⟨_,rfl⟩
    have hz:=leastF_zero h0 (n:=100000) (by decide) (by decide) hn (by rw [e1])
    rw [hv] at hz
    have hz : e = 0:=hz
    subst hz
    obtain ⟨_,_,_,hx,hpl,hdel⟩:=(least_ok hv).2 rfl
    obtain ⟨ke,kx⟩:=keep_ok h0 hx
    have hxl : x.length ≤ 7:=by have:=pair_len (l:=p.demands) (ind_pair hx) (ind_range hx); omega
    have hkeep : ∀ {L : List Blk} {k : V → List Blk → Prop},k (.tup [plV (keepP p x),I 0]) L → CallP C 20 [plV p,.d (ints x)] L k:=fun h=>keep_c p x hs.hc hs.hd (by omega) (by omega) (by rw [ke,kx]; exact h)
    have hsq : Small [] (keepP p x):=by have:=small_keep hs (w:=x) (by omega); rwa [kx] at this
    have hadq : admitsF (keepP p x) = false:=eq_false_of_ne_true fun h=>by
     have:=plan_found (p:=keepP p x) (n:=100000) (keepP_check h0 hx) (by decide) (by decide) hn ((admits_iff hsq (keepP_check h0 hx) c2).1 h)
     rw [hpl] at this; cases this
    have hdl : (((keepP p x).demands.map Dm.cells).length : Int) = ((x.map fun n=>[DI n]).length : Int):=by simp [keepP]
    repeat' ((conv=>whnf); first|refine w9 (w20 hlt) ?_|refine w9 (w20 hlt2) ?_|refine plan_e hs e1 ?_|refine prove_e hs ⟨rfl,rfl,e2⟩ ?_|refine chk_e hs hul hck ?_|refine admits_c p hs (by omega) ?_|refine least_e hs (by omega) hv ?_|refine hkeep ?_|refine admits_c (keepP p x) hsq (by show 2 ≤ p.clubs.length ∧ p.clubs.length ≤ 1000; omega) ?_|refine w3 ?_|refine w9 had ?_|refine w9 hadq ?_|refine w8 (w19 hdl) ?_|refine w0 ?_|refine w1 ?_|refine w2 (fun h=>?_) (fun h=>?_)|refine w3 ?_|refine w4 (fun h=>?_) (fun h=>?_)|refine w5 _ rfl ?_|refine w6 rfl ?_|refine w7 mixed rfl ?_)
    conv=>whnf
    refine LoopP.inv (fun i=>i ≤ x.length) (fun i=>⟨[(2,B false),(13,.d (ints x)),(15,.ptr 3 0),(17,I i)],Tryz.f3.ntmps,[.cells (p.cells.map .d),.cells [.d (lisD [])],.cells [.d (ints (proveU p 100000)),.d (.sl (brcs (proveT p 100000)))],.cells ((keepP p x).cells.map .d)],[],none⟩) (fun i=>x.length - i) 0 (w22 _) ?_ ?_
    ·exact Weak.by ⟨rfl,rfl,rfl,rfl,trivial⟩
    intro i hi
    by_cases hi' : i < x.length
    ·have hlt : (i : Int) < ((x.map fun n=>[DI n]).length : Int):=by rw [List.length_map]; omega
     have hw : IntKind.i64.wrap ((i : Int) + 1) = ((i + 1 : Nat) : Int):=by rw [wrap_in (by omega)]; omega
     have hql : (keepP p x).demands.length = x.length:=by simp [keepP]
     have hwi:=without_ind x.length i
     rw [← hql] at hwi
     obtain ⟨we,wx⟩:=keep_ok (keepP_check h0 hx) hwi
     rw [hql] at we wx
     have hwl:=without_len x.length (i : Int)
     have hxx : ((x.map fun n=>[DI n]).length : Int) = (x.length : Nat):=by rw [List.length_map]
     have hwo : ∀ {L : List Blk} {k : V → List Blk → Prop},k (.d (ints (withoutL x.length i))) L → CallP C 21 [I ((x.map fun n=>[DI n]).length : Int),I i] L k:=fun h=>by rw [hxx]; exact without_c x.length i (by omega) h
     have hk2 : ∀ {L : List Blk} {k : V → List Blk → Prop},k (.tup [plV (keepP p (delAt x i)),I 0]) L → CallP C 20 [plV (keepP p x),.d (ints (withoutL x.length i))] L k:=fun h=>keep_c (keepP p x) (withoutL x.length i) hsq.hc hsq.hd (by omega) (by omega) (by rw [we,wx,keep_without hi']; exact h)
     have hdi:=ind_del hx i
     have hsd : Small [] (keepP p (delAt x i)):=by
      have:=small_keep hs (w:=delAt x i) (by have:=delAt_len hi'; omega)
      rwa [(keep_ok h0 hdi).2] at this
     have hadd : admitsF (keepP p (delAt x i)) = true:=(admits_iff hsd (keepP_check h0 hdi) c2).2 (hdel i hi')
     repeat' ((conv=>whnf); first|refine w8 (w19 hlt) ?_|refine w0 ?_|refine w1 ?_|refine w2 (fun h=>?_) (fun h=>?_)|refine w3 ?_|refine w4 (fun h=>?_) (fun h=>?_)|refine w5 _ rfl ?_|refine w6 rfl ?_|refine w7 mixed rfl ?_)
     conv=>whnf
     refine DrawP.por mixed [0,4,5] [[(1,0),(2,1),(3,0),(0,2),(4,2),(5,2),(6,0),(7,0),(8,0),(9,0),(10,0),(11,0)],[(1,0),(2,1),(3,0),(0,2),(4,2),(9,0),(5,2),(6,0),(7,0),(8,0),(10,0),(11,0)],[(1,0),(2,1),(3,0),(0,2),(9,0),(4,2),(5,2),(6,0),(7,0),(8,0),(10,0),(11,0)],[(1,0),(2,1),(3,0),(4,2),(0,2),(5,2),(6,0),(7,0),(8,0),(9,0),(10,0),(11,0)],[(1,0),(2,1),(3,0),(4,2),(0,2),(9,0),(5,2),(6,0),(7,0),(8,0),(10,0),(11,0)],[(1,0),(2,1),(3,0),(4,2),(9,0),(0,2),(5,2),(6,0),(7,0),(8,0),(10,0),(11,0)],[(1,0),(2,1),(3,0),(9,0),(0,2),(4,2),(5,2),(6,0),(7,0),(8,0),(10,0),(11,0)],[(1,0),(2,1),(3,0),(9,0),(4,2),(0,2),(5,2),(6,0),(7,0),(8,0),(10,0),(11,0)]] (by kernel_rfl) ?_
     conv=>whnf
     refine And.intro ?_ ?_
     rotate_left 1
     conv=>whnf
     refine And.intro ?_ ?_
     rotate_left 1
     conv=>whnf
     refine And.intro ?_ ?_
     rotate_left 1
     conv=>whnf
     refine And.intro ?_ ?_
     rotate_left 1
     conv=>whnf
     refine And.intro ?_ ?_
     rotate_left 1
     conv=>whnf
     refine And.intro ?_ ?_
     rotate_left 1
     conv=>whnf
     refine And.intro ?_ ?_
     all_goals
      repeat' ((conv=>whnf); first|refine QCallW.rd (plV (keepP p x)) ⟨rfl,rfl⟩ ?_|refine w13 (.d (ints (withoutL x.length i))) _ (hwo ⟨rfl,rfl⟩) ?_|refine w13 (.tup [plV (keepP p (delAt x i)),I 0]) _ (hk2 ⟨rfl,rfl⟩) ?_|refine admits_c (keepP p (delAt x i)) hsd (by show 2 ≤ p.clubs.length ∧ p.clubs.length ≤ 1000; omega) ?_|refine w3 ?_|refine w8 hadd ?_|refine w0 ?_|refine w1 ?_|refine w2 (fun h=>?_) (fun h=>?_)|refine w3 ?_|refine w4 (fun h=>?_) (fun h=>?_)|refine w5 _ rfl ?_|refine w6 rfl ?_|refine w7 mixed rfl ?_)
     all_goals conv=>whnf
     all_goals exact ⟨i + 1,hi',by omega,Weak.to 4 rfl (w22 _) (w18 rfl) ⟨rfl,rfl,rfl,congrArg I hw,trivial⟩⟩
    ·have hlt : ¬ (i : Int) < ((x.map fun n=>[DI n]).length : Int):=by rw [List.length_map]; omega
     repeat' ((conv=>whnf); first|refine w9 (w20 hlt) ?_|refine w0 ?_|refine w1 ?_|refine w2 (fun h=>?_) (fun h=>?_)|refine w3 ?_|refine w4 (fun h=>?_) (fun h=>?_)|refine w5 _ rfl ?_|refine w6 rfl ?_|refine w7 mixed rfl ?_)
     conv=>whnf
     exact FinP.drop (n:=0) rfl (w21 0) rfl rfl ⟨rfl,rfl⟩
   ·exfalso
    obtain ⟨p1,p2⟩:=plan_tr (most:=100000) h0 (by decide) (by decide)
    cases hf : fulls (trP p) with
    | nil =>
     rw [(p1 hf).1 (by omega)] at e1
     exact hne2 (congrArg PlanR.e e1).symm
    | cons x r =>
     have:=first_le (trP p)
     rw [(p2 x r hf).1 (by omega)] at e1
     exact hne (congrArg PlanR.e e1).symm
 ·repeat' (conv => whnf
           first|refine fsane_c ?_|refine w3 ?_|refine w9 (w20 c1') ?_|refine w9 c2 ?_|refine w9 (w20 c3') ?_|refine hcc ?_|refine w9 (w20 h0) ?_|refine w0 ?_|refine w1 ?_|refine w2 (fun h=>?_) (fun h=>?_)|refine w3 ?_|refine w4 (fun h=>?_) (fun h=>?_)|refine w5 _ rfl ?_|refine w6 rfl ?_|refine w7 mixed rfl ?_)
  conv=>whnf
  exact FinP.drop (n:=0) rfl (w21 0) rfl rfl ⟨rfl,rfl⟩
theorem call_closed : ∀ xss,TyA C.P Tryz.f3.params.toList xss → (∀ xs ∈ xss,∀ y ∈ xs,Dsm reachBytes y) → CallP C 3 (argVs C.P Tryz.f3.params.toList xss) [] fun X L=>L = [] ∧ X = .d (.bool true):=by
 intro xss h hsm
 match xss,h,hsm with
 | [x1],⟨h1,_⟩,hsm =>
  obtain ⟨x1,rfl,b1⟩:=plT h1 (hsm _ (by simp))
  exact law x1 b1
set_option maxRecDepth 100000 in
theorem lifted (os : Os) (started : os.Started) (H : Type) (enc : TypeId × Value → H) :
  ReturnsInHanded {} Tryz.checked os 3 .any (Rows.topFixturesSpec.pre6 enc Tryz.prog Tryz.f3 Rows.topFixturesRow.domain false) (Rows.topFixturesSpec.post enc Tryz.prog Tryz.f3 false true false false):=by
 refine returnsInHanded_of_change_sized (C:=Tryz.checked) own started (by kernel_rfl) Tryz.func3
  (ChangeSpec.witness6 (enc:=enc) (C:=Tryz.checked) false ⟨#[],#[.agg #[.slice none 0 0,.bool false,.slice none 0 0]],[]⟩ 8 (by kernel_rfl) (by kernel_rfl) (by kernel_rfl) (by kernel_rfl)) ?_
 intro W base args ds gs before hval hW _ hz _
 refine law_ofB (C:=C) (l:=plainTys) kids full plainOk bytesOk plainLt (fun t ht=>?_) rfl rfl Tryz.underlying4 (fun ds hd=>?_) call_closed hval hW hz
 ·have : Tryz.f3.params.toList.all (fun t=>plainTys.contains t) = true:=by kernel_rfl
  simpa using List.all_eq_true.1 this t ht
 ·match ds,hd with
  | [d1],_=>rfl
theorem proved : Rows.TopFixturesSaid :=
 OpenClaim.holds_of_wide 3 Tryz.f3 rfl rfl rfl rfl rfl rfl rfl ⟨rfl,rfl,rfl,rfl,rfl⟩ rfl rfl rfl rfl rfl (by kernel_rfl) Tryz.func3 (by kernel_rfl)
  (of_decide_eq_true (by kernel_rfl)) (by unfold Func.isWrapper; first | (rw [if_pos (by decide +kernel)]; kernel_rfl) | (rw [if_neg (by decide +kernel)]; exact ⟨rfl,rfl⟩))
  (fun os started H enc _=>lifted os started H enc)
end Go.Proofs.YtndlggbljkhfbaaGreat.topFixtures
