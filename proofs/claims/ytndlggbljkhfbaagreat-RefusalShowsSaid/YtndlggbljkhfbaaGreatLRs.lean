import Derived.Test.YtndlggbljkhfbaaGreatJNG
set_option maxRecDepth 100000
set_option maxHeartbeats 0
set_option linter.unusedSimpArgs false
set_option linter.unusedVariables false
namespace Go.Proofs.YtndlggbljkhfbaaGreat.refusalShows
open Go.Tidy Go.ChangeShapes Go.WideShapes Go.ChangeAt Go.RowKit
theorem count_none {p : Pl} (h0 : checkP p = 0) (h : fulls (trP p) = []) : ∃ f : Int,(f = 0 ∨ f = 3) ∧ countN p 20000 = 0 ∧ countE p 20000 = f:=by
 obtain ⟨c1,c2⟩:=count_tr (most:=20000) h0 (by decide) (by decide)
 by_cases ht : (ticks (trP p) : Int) ≤ 20000
 ·obtain ⟨a,b⟩:=c1 ht
  rw [h] at a
  exact ⟨0,.inl rfl,a,b⟩
 ·obtain ⟨a,b⟩:=c2 (by omega)
  exact ⟨3,.inr rfl,a,b⟩
theorem law (p : Pl) (us : List Int) (t : List Brc) (l : Lst) (hp : PlB p) (hu : us.length ≤ 140737488355328) (hl : l.length ≤ 140737488355328 ∧ ∀ r ∈ l,r.length ≤ 140737488355328) : CallP C 10 [plV p,refV us t,lisV l] [] fun X L=>L = [] ∧ X = .d (.bool true):=by
 refine callP_of C_ok Tryz.func10 rfl rfl (n:=_) rfl (w18 rfl) (rs:=_) rfl ?_
 by_cases hb : FewQ p
 ·have hs : Small [] p:=few_small33 hb
  have hb3:=hb.2.2
  by_cases ht : brN 41 t ≤ 5000
  ·by_cases hul : 20 < us.length
   ·have hl' : (20 : Int) < ((us.map fun n=>[DI n]).length : Int):=by rw [List.length_map]; omega
    repeat' ((conv=>whnf); first|refine rsane_c ?_|refine fewQ_c p (w23 hp.hD (by decide)) ?_|refine rfew33_c t ?_|refine w3 ?_|refine w8 (w19 hb) ?_|refine w8 (w19 ht) ?_|refine w8 (w19 hl') ?_|refine w0 ?_|refine w1 ?_|refine w2 (fun h=>?_) (fun h=>?_)|refine w3 ?_|refine w4 (fun h=>?_) (fun h=>?_)|refine w5 _ rfl ?_|refine w6 rfl ?_|refine w7 mixed rfl ?_)
    conv=>whnf
    exact FinP.drop (n:=0) rfl (w21 0) rfl rfl ⟨rfl,rfl⟩
   ·have hl' : ¬ (20 : Int) < ((us.map fun n=>[DI n]).length : Int):=by rw [List.length_map]; omega
    by_cases hsh : shortB l = true
    ·by_cases hc : chkE p us t = 0
     ·obtain ⟨h0,hus,hq,hpn⟩:=chk_fulls hc
      obtain ⟨ke,kx⟩:=keep_ok h0 hus
      have hq0:=keepP_check h0 hus
      have hsq : Small [] (keepP p us):=by have:=small_keep hs (w:=us) (by omega); rwa [kx] at this
      obtain ⟨f,hf,c1,c2⟩:=count_none h0 hpn
      obtain ⟨g,hg,d1,d2⟩:=count_none hq0 hq
      have hln:=shortB_len hsh
      have hsl : Small l (keepP p us):=⟨by omega,fun r hr=>w23 (hl.2 r hr) (by decide),hsq.hc,hsq.hd,hsq.hD⟩
      have hkeep : ∀ {L : List Blk} {k : V → List Blk → Prop},k (.tup [plV (keepP p us),I 0]) L → CallP C 20 [plV p,.d (ints us)] L k:=fun h=>keep_c p us hs.hc hs.hd (by omega) (by omega) (by rw [ke,kx]; exact h)
      have hbr : brkE l (keepP p us) = 0 → 0 < (brkL l (keepP p us)).length:=fun he=>by
       refine List.length_pos_iff.2 fun hn=>?_
       have hF : FullP l (keepP p us):=by
        unfold brkE at he
        rw [if_pos hq0] at he
        split at he
        ·assumption
        ·cases he
       have:=full_mem hsq hq0 hF hn
       rw [hq] at this; cases this
      obtain ⟨e,he⟩ : ∃ e,brkE l (keepP p us) = e:=⟨_,rfl⟩
      obtain ⟨bl,hbl⟩ : ∃ bl,brkL l (keepP p us) = bl:=⟨_,rfl⟩
      rw [he,hbl] at hbr
      by_cases e0 : e = 0
      ·have hbp : (0 : Int) < ((bl.map fun n=>[DI n]).length : Int):=by have:=hbr e0; rw [List.length_map]; omega
       rcases hf with rfl | rfl <;> rcases hg with rfl | rfl
       all_goals
        repeat' ((conv=>whnf); first|refine rsane_c ?_|refine fewQ_c p (w23 hp.hD (by decide)) ?_|refine rfew33_c t ?_|refine short_c l hl.1 ?_|refine check33_c p us t hs (by omega) ?_|refine hkeep ?_|refine count_e hs c1 c2 ?_|refine count_e hsq d1 d2 ?_|refine brk_e hsl hbl he ?_|refine w3 ?_|refine w8 (w19 hb) ?_|refine w8 (w19 ht) ?_|refine w9 (w20 hl') ?_|refine w8 hsh ?_|refine w8 (w19 hc) ?_|refine w8 (w19 e0) ?_|refine w0 ?_|refine w1 ?_|refine w2 (fun h=>?_) (fun h=>?_)|refine w3 ?_|refine w4 (fun h=>?_) (fun h=>?_)|refine w5 _ rfl ?_|refine w6 rfl ?_|refine w7 mixed rfl ?_)
       all_goals conv=>whnf
       all_goals exact FinP.drop (n:=0) rfl (w21 0) rfl rfl ⟨rfl,congrArg B (w19 hbp)⟩
      ·rcases hf with rfl | rfl <;> rcases hg with rfl | rfl
       all_goals
        repeat' ((conv=>whnf); first|refine rsane_c ?_|refine fewQ_c p (w23 hp.hD (by decide)) ?_|refine rfew33_c t ?_|refine short_c l hl.1 ?_|refine check33_c p us t hs (by omega) ?_|refine hkeep ?_|refine count_e hs c1 c2 ?_|refine count_e hsq d1 d2 ?_|refine brk_e hsl hbl he ?_|refine w3 ?_|refine w8 (w19 hb) ?_|refine w8 (w19 ht) ?_|refine w9 (w20 hl') ?_|refine w8 hsh ?_|refine w8 (w19 hc) ?_|refine w9 (w20 e0) ?_|refine w0 ?_|refine w1 ?_|refine w2 (fun h=>?_) (fun h=>?_)|refine w3 ?_|refine w4 (fun h=>?_) (fun h=>?_)|refine w5 _ rfl ?_|refine w6 rfl ?_|refine w7 mixed rfl ?_)
       all_goals conv=>whnf
       all_goals exact FinP.drop (n:=0) rfl (w21 0) rfl rfl ⟨rfl,rfl⟩
     ·repeat' (conv => whnf
               first|refine rsane_c ?_|refine fewQ_c p (w23 hp.hD (by decide)) ?_|refine rfew33_c t ?_|refine short_c l hl.1 ?_|refine check33_c p us t hs (by omega) ?_|refine w3 ?_|refine w8 (w19 hb) ?_|refine w8 (w19 ht) ?_|refine w9 (w20 hl') ?_|refine w8 hsh ?_|refine w9 (w20 hc) ?_|refine w0 ?_|refine w1 ?_|refine w2 (fun h=>?_) (fun h=>?_)|refine w3 ?_|refine w4 (fun h=>?_) (fun h=>?_)|refine w5 _ rfl ?_|refine w6 rfl ?_|refine w7 mixed rfl ?_)
      conv=>whnf
      exact FinP.drop (n:=0) rfl (w21 0) rfl rfl ⟨rfl,rfl⟩
    ·repeat' (conv => whnf
              first|refine rsane_c ?_|refine fewQ_c p (w23 hp.hD (by decide)) ?_|refine rfew33_c t ?_|refine short_c l hl.1 ?_|refine w3 ?_|refine w8 (w19 hb) ?_|refine w8 (w19 ht) ?_|refine w9 (w20 hl') ?_|refine w9 (eq_false_of_ne_true hsh) ?_|refine w0 ?_|refine w1 ?_|refine w2 (fun h=>?_) (fun h=>?_)|refine w3 ?_|refine w4 (fun h=>?_) (fun h=>?_)|refine w5 _ rfl ?_|refine w6 rfl ?_|refine w7 mixed rfl ?_)
     conv=>whnf
     exact FinP.drop (n:=0) rfl (w21 0) rfl rfl ⟨rfl,rfl⟩
  ·repeat' (conv => whnf
            first|refine rsane_c ?_|refine fewQ_c p (w23 hp.hD (by decide)) ?_|refine rfew33_c t ?_|refine w3 ?_|refine w8 (w19 hb) ?_|refine w9 (w20 ht) ?_|refine w0 ?_|refine w1 ?_|refine w2 (fun h=>?_) (fun h=>?_)|refine w3 ?_|refine w4 (fun h=>?_) (fun h=>?_)|refine w5 _ rfl ?_|refine w6 rfl ?_|refine w7 mixed rfl ?_)
   conv=>whnf
   exact FinP.drop (n:=0) rfl (w21 0) rfl rfl ⟨rfl,rfl⟩
 ·repeat' (conv => whnf
           first|refine rsane_c ?_|refine fewQ_c p (w23 hp.hD (by decide)) ?_|refine w3 ?_|refine w9 (w20 hb) ?_|refine w0 ?_|refine w1 ?_|refine w2 (fun h=>?_) (fun h=>?_)|refine w3 ?_|refine w4 (fun h=>?_) (fun h=>?_)|refine w5 _ rfl ?_|refine w6 rfl ?_|refine w7 mixed rfl ?_)
  conv=>whnf
  exact FinP.drop (n:=0) rfl (w21 0) rfl rfl ⟨rfl,rfl⟩
theorem call_closed : ∀ xss,TyA C.P Tryz.f10.params.toList xss → (∀ xs ∈ xss,∀ y ∈ xs,Dsm reachBytes y) → CallP C 10 (argVs C.P Tryz.f10.params.toList xss) [] fun X L=>L = [] ∧ X = .d (.bool true):=by
 intro xss h hsm
 match xss,h,hsm with
 | [x1,x2,x3],⟨h1,h2,h3,_⟩,hsm =>
  obtain ⟨x1,rfl,b1⟩:=plT h1 (hsm _ (by simp))
  obtain ⟨x2,rfl,b2⟩:=refT h2 (hsm _ (by simp))
  obtain ⟨x3,rfl,b3⟩:=lisT h3 (hsm _ (by simp))
  exact law x1 x2.1 x2.2 x3 b1 b2 b3
set_option maxRecDepth 100000 in
theorem lifted (os : Os) (started : os.Started) (H : Type) (enc : TypeId × Value → H) :
  ReturnsInHanded {} Tryz.checked os 10 .any (Rows.refusalShowsSpec.pre6 enc Tryz.prog Tryz.f10 Rows.refusalShowsRow.domain false) (Rows.refusalShowsSpec.post enc Tryz.prog Tryz.f10 false true false false):=by
 refine returnsInHanded_of_change_sized (C:=Tryz.checked) own started (by kernel_rfl) Tryz.func10
  (ChangeSpec.witness6 (enc:=enc) (C:=Tryz.checked) false ⟨#[],#[.agg #[.slice none 0 0,.bool false,.slice none 0 0],.agg #[.slice none 0 0,.slice none 0 0],.agg #[.slice none 0 0]],[]⟩ 8 (by kernel_rfl) (by kernel_rfl) (by kernel_rfl) (by kernel_rfl)) ?_
 intro W base args ds gs before hval hW _ hz _
 refine law_ofB (C:=C) (l:=plainTys) kids full plainOk bytesOk plainLt (fun t ht=>?_) rfl rfl Tryz.underlying4 (fun ds hd=>?_) call_closed hval hW hz
 ·have : Tryz.f10.params.toList.all (fun t=>plainTys.contains t) = true:=by kernel_rfl
  simpa using List.all_eq_true.1 this t ht
 ·match ds,hd with
  | [d1,d2,d3],_=>rfl
theorem proved : Rows.RefusalShowsSaid :=
 OpenClaim.holds_of_wide 10 Tryz.f10 rfl rfl rfl rfl rfl rfl rfl ⟨rfl,rfl,rfl,rfl,rfl⟩ rfl rfl rfl rfl rfl (by kernel_rfl) Tryz.func10 (by kernel_rfl)
  (of_decide_eq_true (by kernel_rfl)) (by unfold Func.isWrapper; first | (rw [if_pos (by decide +kernel)]; kernel_rfl) | (rw [if_neg (by decide +kernel)]; exact ⟨rfl,rfl⟩))
  (fun os started H enc _=>lifted os started H enc)
end Go.Proofs.YtndlggbljkhfbaaGreat.refusalShows
