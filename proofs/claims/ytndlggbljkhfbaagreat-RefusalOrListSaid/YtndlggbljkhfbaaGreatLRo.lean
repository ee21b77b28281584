import Derived.Test.YtndlggbljkhfbaaGreatJNG
set_option maxRecDepth 100000
set_option maxHeartbeats 0
set_option linter.unusedSimpArgs false
set_option linter.unusedVariables false
namespace Go.Proofs.YtndlggbljkhfbaaGreat.refusalOrList
open Go.Tidy Go.ChangeShapes Go.WideShapes Go.ChangeAt Go.RowKit
theorem law (p : Pl) (n : Int) (hp : PlB p) (hn : 0 ≤ n ∧ n ≤ 65535) : CallP C 9 [plV p,.d (.int .u16 n)] [] fun X L=>L = [] ∧ X = .d (.bool true):=by
 refine callP_of C_ok Tryz.func9 rfl rfl (n:=_) rfl (w18 rfl) (rs:=_) rfl ?_
 by_cases hb : FewQ p
 ·have hs : Small [] p:=few_small33 hb
  have hb3:=hb.2.2
  have hm : 0 ≤ n.tmod 4000 ∧ n.tmod 4000 ≤ 3999:=by
   rw [Int.tmod_eq_emod_of_nonneg hn.1]; omega
  obtain ⟨m,hmm⟩ : ∃ m,n.tmod 4000 = m:=⟨_,rfl⟩
  have hw : IntKind.i64.wrap (n.tmod 4000) = m:=by rw [wrap_in (by omega)]; exact hmm
  rw [hmm] at hm
  rcases outcome (p:=p) (n:=m) hm.1 (by omega) with ⟨x,j,h0,hx,e1,e2,e3⟩ | ⟨h0,hA,hT,e1,e2⟩ | ⟨e,hne,hne2,e1,e2,e3⟩
  ·have hsx:=fulls_small hs hx
   obtain ⟨b1,b2⟩:=fulls_brk hx
   repeat' ((conv=>whnf); first|refine rsane_c ?_|refine fewQ_c p (w23 hp.hD (by decide)) ?_|refine w3 ?_|refine w8 (w19 hb) ?_|refine w6 (show (4000 : Int) ≠ 0 by decide) ?_|simp only [hw]|refine plan_e hs e1 ?_|refine prove_e hs ⟨rfl,e3,e2⟩ ?_|refine brk_e hsx b2 b1 ?_|refine w0 ?_|refine w1 ?_|refine w2 (fun h=>?_) (fun h=>?_)|refine w3 ?_|refine w4 (fun h=>?_) (fun h=>?_)|refine w5 _ rfl ?_|refine w6 rfl ?_|refine w7 mixed rfl ?_)
   conv=>whnf
   exact FinP.drop (n:=0) rfl (w21 0) rfl rfl ⟨rfl,rfl⟩
  ·have hck:=prove_chkE hA e2
   have hul:=proveU_le p m
   repeat' ((conv=>whnf); first|refine rsane_c ?_|refine fewQ_c p (w23 hp.hD (by decide)) ?_|refine w3 ?_|refine w8 (w19 hb) ?_|refine w6 (show (4000 : Int) ≠ 0 by decide) ?_|simp only [hw]|refine plan_e hs e1 ?_|refine prove_e hs ⟨rfl,rfl,e2⟩ ?_|refine chk_e hs hul hck ?_|refine w0 ?_|refine w1 ?_|refine w2 (fun h=>?_) (fun h=>?_)|refine w3 ?_|refine w4 (fun h=>?_) (fun h=>?_)|refine w5 _ rfl ?_|refine w6 rfl ?_|refine w7 mixed rfl ?_)
   conv=>whnf
   exact FinP.drop (n:=0) rfl (w21 0) rfl rfl ⟨rfl,rfl⟩
  ·have g1 : ¬ e = 0:=hne
   have g2 : ¬ e = 320:=hne2
   repeat' ((conv=>whnf); first|refine rsane_c ?_|refine fewQ_c p (w23 hp.hD (by decide)) ?_|refine w3 ?_|refine w8 (w19 hb) ?_|refine w6 (show (4000 : Int) ≠ 0 by decide) ?_|simp only [hw]|refine plan_e hs e1 ?_|refine prove_e hs ⟨rfl,e3,e2⟩ ?_|refine w9 (w20 g1) ?_|refine w9 (w20 g2) ?_|refine w8 (w19 (show e = e from rfl)) ?_|refine w0 ?_|refine w1 ?_|refine w2 (fun h=>?_) (fun h=>?_)|refine w3 ?_|refine w4 (fun h=>?_) (fun h=>?_)|refine w5 _ rfl ?_|refine w6 rfl ?_|refine w7 mixed rfl ?_)
   conv=>whnf
   exact FinP.drop (n:=0) rfl (w21 0) rfl rfl ⟨rfl,rfl⟩
 ·repeat' (conv => whnf
           first|refine rsane_c ?_|refine fewQ_c p (w23 hp.hD (by decide)) ?_|refine w3 ?_|refine w9 (w20 hb) ?_|refine w0 ?_|refine w1 ?_|refine w2 (fun h=>?_) (fun h=>?_)|refine w3 ?_|refine w4 (fun h=>?_) (fun h=>?_)|refine w5 _ rfl ?_|refine w6 rfl ?_|refine w7 mixed rfl ?_)
  conv=>whnf
  exact FinP.drop (n:=0) rfl (w21 0) rfl rfl ⟨rfl,rfl⟩
theorem call_closed : ∀ xss,TyA C.P Tryz.f9.params.toList xss → (∀ xs ∈ xss,∀ y ∈ xs,Dsm reachBytes y) → CallP C 9 (argVs C.P Tryz.f9.params.toList xss) [] fun X L=>L = [] ∧ X = .d (.bool true):=by
 intro xss h hsm
 match xss,h,hsm with
 | [x1,x2],⟨h1,h2,_⟩,hsm =>
  obtain ⟨x1,rfl,b1⟩:=plT h1 (hsm _ (by simp))
  obtain ⟨x2,rfl,b2⟩:=u16T h2 (hsm _ (by simp))
  exact law x1 x2 b1 b2
set_option maxRecDepth 100000 in
theorem lifted (os : Os) (started : os.Started) (H : Type) (enc : TypeId × Value → H) :
  ReturnsInHanded {} Tryz.checked os 9 .any (Rows.refusalOrListSpec.pre6 enc Tryz.prog Tryz.f9 Rows.refusalOrListRow.domain false) (Rows.refusalOrListSpec.post enc Tryz.prog Tryz.f9 false true false false):=by
 refine returnsInHanded_of_change_sized (C:=Tryz.checked) own started (by kernel_rfl) Tryz.func9
  (ChangeSpec.witness6 (enc:=enc) (C:=Tryz.checked) false ⟨#[],#[.agg #[.slice none 0 0,.bool false,.slice none 0 0],.int .u16 0],[]⟩ 8 (by kernel_rfl) (by kernel_rfl) (by kernel_rfl) (by kernel_rfl)) ?_
 intro W base args ds gs before hval hW _ hz _
 refine law_ofB (C:=C) (l:=plainTys) kids full plainOk bytesOk plainLt (fun t ht=>?_) rfl rfl Tryz.underlying4 (fun ds hd=>?_) call_closed hval hW hz
 ·have : Tryz.f9.params.toList.all (fun t=>plainTys.contains t) = true:=by kernel_rfl
  simpa using List.all_eq_true.1 this t ht
 ·match ds,hd with
  | [d1,d2],_=>rfl
theorem proved : Rows.RefusalOrListSaid :=
 OpenClaim.holds_of_wide 9 Tryz.f9 rfl rfl rfl rfl rfl rfl rfl ⟨rfl,rfl,rfl,rfl,rfl⟩ rfl rfl rfl rfl rfl (by kernel_rfl) Tryz.func9 (by kernel_rfl)
  (of_decide_eq_true (by kernel_rfl)) (by unfold Func.isWrapper; first | (rw [if_pos (by decide +kernel)]; kernel_rfl) | (rw [if_neg (by decide +kernel)]; exact ⟨rfl,rfl⟩))
  (fun os started H enc _=>lifted os started H enc)
end Go.Proofs.YtndlggbljkhfbaaGreat.refusalOrList
