import Derived.Test.YtndlggbljkhfbaaGreatJLG
set_option maxRecDepth 100000
set_option maxHeartbeats 0
set_option linter.unusedSimpArgs false
set_option linter.unusedVariables false
namespace Go.Proofs.YtndlggbljkhfbaaGreat.refusalLeastSpec
open Go.Tidy Go.ChangeShapes Go.WideShapes Go.ChangeAt Go.RowKit
theorem law (p : Pl) (bud : Int) (hp : PlB p) : CallP C 6 [plV p,I bud] [] fun X L=>L = [] ∧ X = .d (.bool true):=by
 refine callP_of C_ok Tryz.func6 rfl rfl (n:=_) rfl (w18 rfl) (rs:=_) rfl ?_
 by_cases hb : FewQ p
 ·have hs : Small [] p:=few_small33 hb
  have hb3:=hb.2.2
  have hlen:=leastF_len p bud
  by_cases hl : 3 < p.clubs.length
  ·have hl' : (3 : Int) < ((p.clubs.map fun n=>[DI n]).length : Int):=by rw [List.length_map]; omega
   repeat' ((conv=>whnf); first|refine rsane_c ?_|refine fewQ_c p (w23 hp.hD (by decide)) ?_|refine w3 ?_|refine w8 (w19 hb) ?_|refine w8 (w19 hl') ?_|refine w0 ?_|refine w1 ?_|refine w2 (fun h=>?_) (fun h=>?_)|refine w3 ?_|refine w4 (fun h=>?_) (fun h=>?_)|refine w5 _ rfl ?_|refine w6 rfl ?_|refine w7 mixed rfl ?_)
   conv=>whnf
   exact FinP.drop (n:=0) rfl (w21 0) rfl rfl ⟨rfl,rfl⟩
  ·have hl' : ¬ (3 : Int) < ((p.clubs.map fun n=>[DI n]).length : Int):=by rw [List.length_map]; omega
   repeat' ((conv=>whnf); first|refine rsane_c ?_|refine fewQ_c p (w23 hp.hD (by decide)) ?_|refine w3 ?_|refine w8 (w19 hb) ?_|refine w9 (w20 hl') ?_|refine least_c p bud hs (by omega) ?_|refine rleast_c p bud hs (by omega) ?_|refine rsameI_t (by omega) ?_|refine w0 ?_|refine w1 ?_|refine w2 (fun h=>?_) (fun h=>?_)|refine w3 ?_|refine w4 (fun h=>?_) (fun h=>?_)|refine w5 _ rfl ?_|refine w6 rfl ?_|refine w7 mixed rfl ?_)
   conv=>whnf
   exact FinP.drop (n:=0) rfl (w21 0) rfl rfl ⟨rfl,congrArg B (w19 rfl)⟩
 ·repeat' (conv => whnf
           first|refine rsane_c ?_|refine fewQ_c p (w23 hp.hD (by decide)) ?_|refine w3 ?_|refine w9 (w20 hb) ?_|refine w0 ?_|refine w1 ?_|refine w2 (fun h=>?_) (fun h=>?_)|refine w3 ?_|refine w4 (fun h=>?_) (fun h=>?_)|refine w5 _ rfl ?_|refine w6 rfl ?_|refine w7 mixed rfl ?_)
  conv=>whnf
  exact FinP.drop (n:=0) rfl (w21 0) rfl rfl ⟨rfl,rfl⟩
theorem call_closed : ∀ xss,TyA C.P Tryz.f6.params.toList xss → (∀ xs ∈ xss,∀ y ∈ xs,Dsm reachBytes y) → CallP C 6 (argVs C.P Tryz.f6.params.toList xss) [] fun X L=>L = [] ∧ X = .d (.bool true):=by
 intro xss h hsm
 match xss,h,hsm with
 | [x1,x2],⟨h1,h2,_⟩,hsm =>
  obtain ⟨x1,rfl,b1⟩:=plT h1 (hsm _ (by simp))
  obtain ⟨x2,rfl,b2⟩:=intT h2 (hsm _ (by simp))
  exact law x1 x2 b1
set_option maxRecDepth 100000 in
theorem lifted (os : Os) (started : os.Started) (H : Type) (enc : TypeId × Value → H) :
  ReturnsInHanded {} Tryz.checked os 6 .any (Rows.refusalLeastSpecSpec.pre6 enc Tryz.prog Tryz.f6 Rows.refusalLeastSpecRow.domain false) (Rows.refusalLeastSpecSpec.post enc Tryz.prog Tryz.f6 false true false false):=by
 refine returnsInHanded_of_change_sized (C:=Tryz.checked) own started (by kernel_rfl) Tryz.func6
  (ChangeSpec.witness6 (enc:=enc) (C:=Tryz.checked) false ⟨#[],#[.agg #[.slice none 0 0,.bool false,.slice none 0 0],.int .i64 0],[]⟩ 8 (by kernel_rfl) (by kernel_rfl) (by kernel_rfl) (by kernel_rfl)) ?_
 intro W base args ds gs before hval hW _ hz _
 refine law_ofB (C:=C) (l:=plainTys) kids full plainOk bytesOk plainLt (fun t ht=>?_) rfl rfl Tryz.underlying4 (fun ds hd=>?_) call_closed hval hW hz
 ·have : Tryz.f6.params.toList.all (fun t=>plainTys.contains t) = true:=by kernel_rfl
  simpa using List.all_eq_true.1 this t ht
 ·match ds,hd with
  | [d1,d2],_=>rfl
theorem proved : Rows.RefusalLeastSpecSaid :=
 OpenClaim.holds_of_wide 6 Tryz.f6 rfl rfl rfl rfl rfl rfl rfl ⟨rfl,rfl,rfl,rfl,rfl⟩ rfl rfl rfl rfl rfl (by kernel_rfl) Tryz.func6 (by kernel_rfl)
  (of_decide_eq_true (by kernel_rfl)) (by unfold Func.isWrapper; first | (rw [if_pos (by decide +kernel)]; kernel_rfl) | (rw [if_neg (by decide +kernel)]; exact ⟨rfl,rfl⟩))
  (fun os started H enc _=>lifted os started H enc)
end Go.Proofs.YtndlggbljkhfbaaGreat.refusalLeastSpec
