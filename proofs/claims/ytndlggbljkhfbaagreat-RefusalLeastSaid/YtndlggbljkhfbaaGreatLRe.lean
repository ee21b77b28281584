import Derived.Test.YtndlggbljkhfbaaGreatJNG
set_option maxRecDepth 100000
set_option maxHeartbeats 0
set_option linter.unusedSimpArgs false
set_option linter.unusedVariables false
namespace Go.Proofs.YtndlggbljkhfbaaGreat.refusalLeast
open Go.Tidy Go.ChangeShapes Go.WideShapes Go.ChangeAt Go.RowKit
theorem law (p : Pl) (n : Int) (hp : PlB p) (hn : 0 ≤ n ∧ n ≤ 65535) : CallP C 7 [plV p,.d (.int .u16 n)] [] fun X L=>L = [] ∧ X = .d (.bool true):=by
 refine callP_of C_ok Tryz.func7 rfl rfl (n:=_) rfl (w18 rfl) (rs:=_) rfl ?_
 by_cases hb : FewQ p
 ·have hs : Small [] p:=few_small33 hb
  have hb3:=hb.2.2
  have hm : 0 ≤ n.tmod 4000 ∧ n.tmod 4000 ≤ 3999:=by
   rw [Int.tmod_eq_emod_of_nonneg hn.1]; omega
  obtain ⟨m,hmm⟩ : ∃ m,n.tmod 4000 = m:=⟨_,rfl⟩
  have hw : IntKind.i64.wrap (n.tmod 4000) = m:=by rw [wrap_in (by omega)]; exact hmm
  rw [hmm] at hm
  have hD : p.demands.length ≤ 1073741823:=by omega
  obtain ⟨⟨x,e⟩,hv⟩ : ∃ q,leastF p m = q:=⟨_,rfl⟩
  obtain ⟨l1,l2⟩:=least_ok hv
  by_cases e0 : e = 0
  ·obtain ⟨h0,hm1,hm2,hx,hpl,hdel⟩:=l2 e0
   obtain ⟨ke,kx⟩:=keep_ok h0 hx
   have hxl : x.length ≤ 6:=by have:=pair_len (l:=p.demands) (ind_pair hx) (ind_range hx); omega
   have hsk : ∀ w : List Int,w.length ≤ 6 → IndP p.demands.length w → Small [] (keepP p w):=fun w hw hi=>by have:=small_keep hs (w:=w) (by omega); rwa [(keep_ok h0 hi).2] at this
   have hsx:=hsk x hxl hx
   have hkeep : ∀ {L : List Blk} {k : V → List Blk → Prop},k (.tup [plV (keepP p x),I 0]) L → CallP C 20 [plV p,.d (ints x)] L k:=fun h=>keep_c p x hs.hc hs.hd (by omega) (by omega) (by rw [ke,kx]; exact h)
   obtain ⟨l0,hl0⟩ : ∃ l0,(planF (keepP p x) m).l = l0:=⟨_,rfl⟩
   have hpl':=hpl
   subst e0
   repeat' ((conv=>whnf); first|refine rsane_c ?_|refine fewQ_c p (w23 hp.hD (by decide)) ?_|refine w3 ?_|refine w8 (w19 hb) ?_|refine w6 (show (4000 : Int) ≠ 0 by decide) ?_|simp only [hw,hl0]|refine least_e hs hD hv ?_|refine hkeep ?_|refine plan_c (keepP p x) m hsx ?_|refine w8 (w19 hpl) ?_|refine w0 ?_|refine w1 ?_|refine w2 (fun h=>?_) (fun h=>?_)|refine w3 ?_|refine w4 (fun h=>?_) (fun h=>?_)|refine w5 _ rfl ?_|refine w6 rfl ?_|refine w7 mixed rfl ?_)
   conv=>whnf
   refine LoopP.inv (fun q : Nat × List Int=>q.1 ≤ x.length) (fun q=>⟨[(2,.ptr 0 0),(4,B false),(6,.d (ints x)),(8,.ptr 1 0),(53,I x.length),(54,I q.1)],Tryz.f7.ntmps,[.cells (p.cells.map .d),.cells ((keepP p q.2).cells.map .d),.cells [.d (lisD l0)]],[],none⟩) (fun q=>x.length - q.1) (0,x) (w22 _) ?_ ?_
   ·exact Weak.by ⟨rfl,rfl,rfl,rfl,congrArg (fun n : Nat=>I n) (List.length_map ..),rfl,trivial⟩
   rintro ⟨i,w⟩ hi
   simp only at hi
   by_cases hi' : i < x.length
   ·have hlt : (i : Int) < (x.length : Int):=by omega
    have hww : IntKind.i64.wrap ((i : Int) + 1) = ((i + 1 : Nat) : Int):=by rw [wrap_in (by omega)]; omega
    repeat' ((conv=>whnf); first|refine w8 (w19 hlt) ?_|refine w0 ?_|refine w1 ?_|refine w2 (fun h=>?_) (fun h=>?_)|refine w3 ?_|refine w4 (fun h=>?_) (fun h=>?_)|refine w5 _ rfl ?_|refine w6 rfl ?_|refine w7 mixed rfl ?_)
    conv=>whnf
    have hdi:=ind_del hx i
    obtain ⟨de,dx⟩:=keep_ok h0 hdi
    have hdl:=delAt_len hi'
    have hsd:=hsk (delAt x i) (by omega) hdi
    have hkd : ∀ {L : List Blk} {k : V → List Blk → Prop},k (.tup [plV (keepP p (delAt x i)),I 0]) L → CallP C 20 [plV p,.d (ints (delAt x i))] L k:=fun h=>keep_c p (delAt x i) hs.hc hs.hd (by omega) (by omega) (by rw [de,dx]; exact h)
    have hpf : (planF (keepP p (delAt x i)) 1048576).e = 0:=plan_found (keepP_check h0 hdi) (by decide) (by decide) hb.2.1 (hdel i hi')
    have hle : 0 + ((((x.map fun n=>[DI n]).drop 0).take (i - 0)).map fun y=>y.map V.d).length + ((((x.map fun n=>[DI n]).drop (i + 1)).take (x.length - (i + 1))).map fun y=>y.map V.d).length = ((delAt x i).map fun n=>[DI n]).length:=by rw [del_len1,del_len2 x i hi',List.length_map,hdl]; omega
    obtain ⟨q1,hq1⟩ : ∃ q1,planF (keepP p (delAt x i)) 1048576 = q1:=⟨_,rfl⟩
    rw [hq1] at hpf
    refine DrawP.por mixed [0,11] [[(2,0),(3,0),(4,1),(6,0),(7,0),(8,0),(9,1),(0,2),(1,0),(5,0),(10,0),(11,2),(12,0),(13,0),(14,0),(15,0),(16,0)],[(2,0),(3,0),(4,1),(6,0),(7,0),(8,0),(9,1),(1,0),(0,2),(5,0),(10,0),(11,2),(12,0),(13,0),(14,0),(15,0),(16,0)],[(2,0),(3,0),(4,1),(6,0),(7,0),(8,0),(9,1),(1,0),(5,0),(0,2),(10,0),(11,2),(12,0),(13,0),(14,0),(15,0),(16,0)],[(2,0),(3,0),(4,1),(6,0),(7,0),(8,0),(9,1),(1,0),(5,0),(10,0),(0,2),(11,2),(12,0),(13,0),(14,0),(15,0),(16,0)]] (by kernel_rfl) ?_
    conv=>whnf
    refine And.intro ?_ ?_
    rotate_left 1
    conv=>whnf
    refine And.intro ?_ ?_
    rotate_left 1
    conv=>whnf
    refine And.intro ?_ ?_
    all_goals
     repeat' ((conv=>whnf); first|refine w0 ?_|refine w1 ?_|refine w2 (fun h=>?_) (fun h=>?_)|refine w3 ?_|refine w4 (fun h=>?_) (fun h=>?_)|refine w5 _ rfl ?_|refine w6 rfl ?_|refine w7 mixed rfl ?_|refine QCallW.rd (plV p) ⟨rfl,rfl⟩ ?_|refine w6 (lenC _) ?_|refine w6 (fun e he=>lenC _ e (List.mem_of_mem_drop (List.mem_of_mem_take he))) ?_|simp only [Nat.beq_refl,Bool.and_self]|refine w6 (w23 (m:=4294967296) (by simp; omega) (apLim_ge _)) ?_|refine SliceP.intro 0 i rfl rfl (w22 _) (by rw [List.length_map]; omega) ?_|refine SliceP.intro (i + 1) x.length hww (by rw [List.length_map]; rfl) (by omega) (by rw [List.length_map]; exact Nat.le_refl _) ?_|refine w13 (.tup [plV (keepP p (delAt x i)),I 0]) _ (CallP.freeze [3] rfl rfl (.keep (.cv (.d (.rowL (ds:=(delAt x i).map fun n=>[DI n]) (List.mem_singleton.2 rfl) rfl (CvLL.cong (del_rows x i hi') (iR_rows _)) hle (lenC _))) .nil)) (hkd ⟨rfl,rfl⟩)) ?_|refine plan_e hsd hq1 ?_|refine w9 (w20 (show ¬ ¬ q1.e = 0 by omega)) ?_|refine w3 ?_|refine w8 (w19 hpf) ?_)
    all_goals conv=>whnf
    all_goals first
     | exact ⟨(i + 1,delAt x i),hi',by simp only; omega,Weak.to 3 rfl (Nat.zero_le _) (Nat.le_of_ble_eq_true rfl) ⟨rfl,rfl,rfl,rfl,rfl,congrArg I hww,trivial⟩⟩
     | (exfalso; omega)
   ·have hlt : ¬ (i : Int) < (x.length : Int):=by omega
    repeat' ((conv=>whnf); first|refine w9 (w20 hlt) ?_|refine w0 ?_|refine w1 ?_|refine w2 (fun h=>?_) (fun h=>?_)|refine w3 ?_|refine w4 (fun h=>?_) (fun h=>?_)|refine w5 _ rfl ?_|refine w6 rfl ?_|refine w7 mixed rfl ?_)
    conv=>whnf
    exact FinP.drop (n:=0) rfl (w21 0) rfl rfl ⟨rfl,rfl⟩
  ·obtain rfl:=l1 e0
   repeat' ((conv=>whnf); first|refine rsane_c ?_|refine fewQ_c p (w23 hp.hD (by decide)) ?_|refine w3 ?_|refine w8 (w19 hb) ?_|refine w6 (show (4000 : Int) ≠ 0 by decide) ?_|simp only [hw]|refine least_e hs hD hv ?_|refine w9 (w20 e0) ?_|refine w0 ?_|refine w1 ?_|refine w2 (fun h=>?_) (fun h=>?_)|refine w3 ?_|refine w4 (fun h=>?_) (fun h=>?_)|refine w5 _ rfl ?_|refine w6 rfl ?_|refine w7 mixed rfl ?_)
   conv=>whnf
   exact FinP.drop (n:=0) rfl (w21 0) rfl rfl ⟨rfl,rfl⟩
 ·repeat' (conv => whnf
           first|refine rsane_c ?_|refine fewQ_c p (w23 hp.hD (by decide)) ?_|refine w3 ?_|refine w9 (w20 hb) ?_|refine w0 ?_|refine w1 ?_|refine w2 (fun h=>?_) (fun h=>?_)|refine w3 ?_|refine w4 (fun h=>?_) (fun h=>?_)|refine w5 _ rfl ?_|refine w6 rfl ?_|refine w7 mixed rfl ?_)
  conv=>whnf
  exact FinP.drop (n:=0) rfl (w21 0) rfl rfl ⟨rfl,rfl⟩
theorem call_closed : ∀ xss,TyA C.P Tryz.f7.params.toList xss → (∀ xs ∈ xss,∀ y ∈ xs,Dsm reachBytes y) → CallP C 7 (argVs C.P Tryz.f7.params.toList xss) [] fun X L=>L = [] ∧ X = .d (.bool true):=by
 intro xss h hsm
 match xss,h,hsm with
 | [x1,x2],⟨h1,h2,_⟩,hsm =>
  obtain ⟨x1,rfl,b1⟩:=plT h1 (hsm _ (by simp))
  obtain ⟨x2,rfl,b2⟩:=u16T h2 (hsm _ (by simp))
  exact law x1 x2 b1 b2
set_option maxRecDepth 100000 in
theorem lifted (os : Os) (started : os.Started) (H : Type) (enc : TypeId × Value → H) :
  ReturnsInHanded {} Tryz.checked os 7 .any (Rows.refusalLeastSpec.pre6 enc Tryz.prog Tryz.f7 Rows.refusalLeastRow.domain false) (Rows.refusalLeastSpec.post enc Tryz.prog Tryz.f7 false true false false):=by
 refine returnsInHanded_of_change_sized (C:=Tryz.checked) own started (by kernel_rfl) Tryz.func7
  (ChangeSpec.witness6 (enc:=enc) (C:=Tryz.checked) false ⟨#[],#[.agg #[.slice none 0 0,.bool false,.slice none 0 0],.int .u16 0],[]⟩ 8 (by kernel_rfl) (by kernel_rfl) (by kernel_rfl) (by kernel_rfl)) ?_
 intro W base args ds gs before hval hW _ hz _
 refine law_ofB (C:=C) (l:=plainTys) kids full plainOk bytesOk plainLt (fun t ht=>?_) rfl rfl Tryz.underlying4 (fun ds hd=>?_) call_closed hval hW hz
 ·have : Tryz.f7.params.toList.all (fun t=>plainTys.contains t) = true:=by kernel_rfl
  simpa using List.all_eq_true.1 this t ht
 ·match ds,hd with
  | [d1,d2],_=>rfl
theorem proved : Rows.RefusalLeastSaid :=
 OpenClaim.holds_of_wide 7 Tryz.f7 rfl rfl rfl rfl rfl rfl rfl ⟨rfl,rfl,rfl,rfl,rfl⟩ rfl rfl rfl rfl rfl (by kernel_rfl) Tryz.func7 (by kernel_rfl)
  (of_decide_eq_true (by kernel_rfl)) (by unfold Func.isWrapper; first | (rw [if_pos (by decide +kernel)]; kernel_rfl) | (rw [if_neg (by decide +kernel)]; exact ⟨rfl,rfl⟩))
  (fun os started H enc _=>lifted os started H enc)
end Go.Proofs.YtndlggbljkhfbaaGreat.refusalLeast
