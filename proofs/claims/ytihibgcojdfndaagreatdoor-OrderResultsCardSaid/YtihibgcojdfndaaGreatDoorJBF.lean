import Derived.Test.YtihibgcojdfndaaGreatDoorJBE
set_option maxRecDepth 100000
set_option maxHeartbeats 0
set_option linter.unusedSimpArgs false
set_option linter.unusedVariables false
namespace Go.Proofs.YtihibgcojdfndaaGreatDoor
open Go.Tidy
open Sts (Res Row Worth Game rowsF addF rowC valueF inG known worthOk resOk fieldOk gameV resV ress rowV rowsD resE zR findI_all findI_some Del cells13 resE_map rindexFunc_c)
variable {L : List Blk} {k : V → List Blk → Prop}
theorem res2_belO (n g m : Nat) (l : List Res) : belB n [.row g 13 (l.map resE ++ List.replicate m zR)] = true:=by
 have:=Sts.res2_bel n g m (.bool true) l
 simp only [belB,Bool.and_eq_true,Bool.and_true] at this ⊢
 exact this.2
theorem res1_belO (n g : Nat) (l : List Res) : belB n [.row g 13 (l.map resE)] = true:=by
 simpa using res2_belO n g 0 l
theorem delR_0 (l : List Res) (group : List Int) (hl : l.length ≤ 4294967296) (f : FuncId) (caps : List D) (hp : ∀ r (L : List Blk) (k : V → List Blk → Prop),k (B (!known group r)) L → CallP C f ([resV r] ++ caps.map .d) L k) :
  CallP C 155 [.own 0 1 0 l.length,.d (.fn f caps)] [.row 1 13 (l.map resE)] fun X L' =>
   L' = [.row 1 13 ((inG group l).map resE ++ List.replicate (l.length - (inG group l).length) zR)] ∧ X = .own 0 1 0 (inG group l).length:=by
 refine callP_of C_ok Tryz.func155 rfl rfl (n:=_) rfl (zw18 rfl) (rs:=_) rfl ?_
 conv=>whnf
 refine CallP.lent (rindexFunc_c l (by omega) f caps (fun r=>!known group r) hp ⟨rfl,rfl⟩)
  (.cv (.d (.row (l.map Res.cells) trivial rfl ?_ ?_ (cells13 l))) (.keep .nil)) rfl rfl ?_
 ·rw [resE_map,List.drop_zero]; exact List.take_of_length_le (by simp)
 ·simp
 by_cases h : findI (fun r=>!known group r) l = -1
 ·have hall:=findI_all h
  rw [hall,h]
  repeat' ((conv=>whnf); first|refine zw0 ?_|refine zw1 ?_|refine zw2 (fun h=>?_) (fun h=>?_)|refine zw3 ?_|refine zw4 (fun h=>?_) (fun h=>?_)|refine zw5 _ rfl ?_|refine zw6 rfl ?_|refine zw7 mixed rfl ?_)
  conv=>whnf
  refine zw15 (n:=1) (L':=[.row 1 13 (l.map resE ++ List.replicate (l.length - l.length) zR)]) (congrArg (fun e=>[Blk.row 1 13 e]) (by simp)) (zw21 1) rfl (res2_belO _ _ _ _) ⟨rfl,rfl⟩
 ·obtain ⟨i0,hi0,hil,hk,hpre⟩:=findI_some h
  rw [hi0]
  rw [hi0] at h
  repeat' ((conv=>whnf); first|refine zw0 ?_|refine zw1 ?_|refine zw2 (fun h=>?_) (fun h=>?_)|refine zw3 ?_|refine zw4 (fun h=>?_) (fun h=>?_)|refine zw5 _ rfl ?_|refine zw6 rfl ?_|refine zw7 mixed rfl ?_|refine zw1 ?_)
  conv=>whnf
  refine LoopP.intro (ι:=Del group l) (fun s=>⟨[(0,.own 0 1 0 l.length),(1,.d (.fn f caps)),(5,I s.i),(6,I s.j)],42,[.row 1 13 (s.cur.map resE)],[],none⟩) (fun s=>l.length - s.j)
   ⟨i0,i0 + 1,l,rfl,Nat.lt_succ_self _,hil,by rw [take_next hil,inG,List.filter_append,← inG,hpre]; simp [hk],rfl⟩ ?_ ?_
  ·exact Weak.by ⟨rfl,rfl,rfl,congrArg I (by rw [wrap_in (by omega)]; simp),trivial⟩
  intro s
  conv=>whnf
  refine zw2 (fun hb'=>?_) (fun hb'=>?_)
  ·have hj : s.j < l.length:=by simpa using hb'
   have hgj : (s.cur.map resE)[s.j]? = some (resE l[s.j]):=by
    rw [List.getElem?_map,List.getElem?_eq_getElem (by rw [s.len]; exact hj),s.at hj]; rfl
   have hii : s.i < s.cur.length:=by rw [s.len]; have:=s.ij; omega
   have hgi : (s.cur.map resE)[s.i]? = some (resE s.cur[s.i]):=by
    rw [List.getElem?_map,List.getElem?_eq_getElem hii]; rfl
   have hgj0 : (s.cur.map resE)[0 + s.j]? = some (resE l[s.j]):=by rw [Nat.zero_add]; exact hgj
   have hgi0 : (s.cur.map resE)[0 + s.i]? = some (resE s.cur[s.i]):=by rw [Nat.zero_add]; exact hgi
   have hil' : s.i < l.length:=by rw [← s.len]; exact hii
   repeat' ((conv=>whnf); first|refine zw0 ?_|refine zw1 ?_|refine zw2 (fun h=>?_) (fun h=>?_)|refine zw3 ?_|refine zw4 (fun h=>?_) (fun h=>?_)|refine zw5 _ rfl ?_|refine zw6 rfl ?_|refine zw7 mixed rfl ?_|refine IdxN.intro s.j rfl hj ?_|refine zw5 _ hgj0 ?_|simp only [Nat.beq_refl,Bool.and_self])
   conv=>whnf
   refine hp l[s.j] _ _ ?_
   repeat' ((conv=>whnf); first|refine zw0 ?_|refine zw1 ?_|refine zw2 (fun h=>?_) (fun h=>?_)|refine zw3 ?_|refine zw4 (fun h=>?_) (fun h=>?_)|refine zw5 _ rfl ?_|refine zw6 rfl ?_|refine zw7 mixed rfl ?_|refine IdxN.intro s.i rfl hil' ?_|refine zw5 _ hgi0 ?_|simp only [Nat.beq_refl,Bool.and_self])
   all_goals conv=>whnf
   ·refine ⟨s.keep hj h,by simp only [Del.keep]; omega,Weak.to 1 (congrArg (fun e=>[Blk.row 1 13 e]) (Eq.trans (b:=(s.cur.map resE).set (0 + s.i) (resE l[s.j])) rfl ?_)) (Nat.le_refl 1) (Nat.le_of_ble_eq_true rfl)
     ⟨rfl,rfl,congrArg I (by rw [wrap_in (by omega)]; simp only [Del.keep]; omega),congrArg I (by rw [wrap_in (by omega)]; simp only [Del.keep]; omega),trivial⟩ (hB:=res1_belO _ _ _)⟩
    rw [Nat.zero_add]; simp only [Del.keep,List.map_set]
   ·exact ⟨s.skip hj h,by simp only [Del.skip]; omega,Weak.to 1 rfl (Nat.le_refl 1) (Nat.le_of_ble_eq_true rfl)
     ⟨rfl,rfl,congrArg I rfl,congrArg I (by rw [wrap_in (by omega)]; simp only [Del.skip]; omega),trivial⟩ (hB:=res1_belO _ _ _)⟩
  ·have hje : s.j = l.length:=by have:=s.jl; simp at hb'; omega
   have hii : s.i < l.length:=by have:=s.ij; omega
   have hkept : s.cur.take s.i = inG group l:=by rw [s.kept,hje,List.take_length]
   have hlen : (inG group l).length = s.i:=by rw [← hkept,List.length_take,s.len]; omega
   repeat' ((conv=>whnf); first|refine zw0 ?_|refine zw1 ?_|refine zw2 (fun h=>?_) (fun h=>?_)|refine zw3 ?_|refine zw4 (fun h=>?_) (fun h=>?_)|refine zw5 _ rfl ?_|refine zw6 rfl ?_|refine zw7 mixed rfl ?_|refine SliceP.intro s.i l.length rfl rfl (Nat.le_of_lt hii) (zw21 _) ?_|refine SliceP.intro 0 s.i rfl rfl (zw22 _) (Nat.le_of_lt hii) ?_|simp only [Nat.beq_refl,Bool.and_self])
   conv=>whnf
   refine zw15 (n:=1) (L':=[.row 1 13 ((inG group l).map resE ++ List.replicate (l.length - (inG group l).length) zR)])
    (congrArg (fun e=>[Blk.row 1 13 e]) (Eq.trans (b:=List.take (0 + s.i) (s.cur.map resE) ++ (List.replicate (l.length - s.i) zR ++ List.drop (0 + s.i + (l.length - s.i)) (s.cur.map resE))) rfl ?_)) (zw21 1) rfl (res2_belO _ _ _ _)
    ⟨rfl,congrArg (V.own 0 1 0) (Eq.trans (b:=s.i - 0) rfl (by rw [hlen]; rfl))⟩
   rw [Nat.zero_add,← List.map_take,hkept,hlen,List.drop_of_length_le (by rw [List.length_map,s.len]; omega),List.append_nil]
theorem rn_res (ρ : Nat → Nat) (r : Res) : V.rnL ρ (resE r) = resE r:=rfl
theorem rnR_res (ρ : Nat → Nat) : ∀ l : List Res,rnR ρ (l.map resE) = l.map resE
 | []=>rfl
 | r :: l=>by rw [List.map_cons,rnR,rn_res,rnR_res ρ l]
theorem rnR_rep (ρ : Nat → Nat) : ∀ n : Nat,rnR ρ (List.replicate n zR) = List.replicate n zR
 | 0=>rfl
 | n + 1=>by rw [List.replicate_succ,rnR,rnR_rep ρ n]; rfl
theorem rnR_app (ρ : Nat → Nat) : ∀ a b : List (List V),rnR ρ (a ++ b) = rnR ρ a ++ rnR ρ b
 | [],b=>rfl
 | x :: a,b=>by rw [List.cons_append,rnR,rnR,rnR_app ρ a b]; rfl
def valC (p : Cp) (g : List Int) (b c : Int) : Int :=
 if b = 12 then IntKind.i64.wrap (0 - valP (lotTab p.clubs p.lots p.lots.length) c)
 else if headB b then valueF (rowS p.ru.w (inG g p.res) c) b
 else if b = 1 then IntKind.i64.wrap ((rowS p.ru.w p.res c).points - valP (offTab p.clubs p.off p.clubs.length) c)
 else valueF (rowS p.ru.w p.res c) b
theorem whole1_c (p : Cp) (hL : LCp p) (x : V) (c b : Int) : CallP C 159 [.ptr 0 0,x,I c,.d (.rptr [DI b])] (cM p) fun X L'=>X = I (valueF (rowS p.ru.w p.res c) b) ∧ L' = cM p:=by
 have hrow : ∀ {k : V → List Blk → Prop},k (rowV (rowS p.ru.w p.res c)) (cM p) → CallP C 118 [.ptr 0 0,.d (ress p.res),I c] (cM p) k:=fun h=>(row_c p p.res c hL.res).mono fun X L' ⟨h1,h2⟩=>by subst h1 h2; exact h
 have hval : ∀ {L : List Blk} {k : V → List Blk → Prop},k (I (valueF (rowS p.ru.w p.res c) b)) L → CallP C 158 [rowV (rowS p.ru.w p.res c),I b] L k:=fun h=>Sts.value_c _ _ h
 generalize rowS p.ru.w p.res c = r at *
 refine callP_of C_ok Tryz.func159 rfl rfl (n:=_) rfl (zw18 rfl) (rs:=_) rfl ?_
 repeat' ((conv=>whnf); first|refine zw12 _ (hrow ⟨rfl,rfl⟩) ?_|refine zw12 _ (hval ⟨rfl,rfl⟩) ?_|refine zw0 ?_|refine zw1 ?_|refine zw2 (fun h=>?_) (fun h=>?_)|refine zw3 ?_|refine zw4 (fun h=>?_) (fun h=>?_)|refine zw5 _ rfl ?_|refine zw6 rfl ?_|refine zw7 mixed rfl ?_)
 conv=>whnf
 exact FinP.drop (n:=3) rfl (zw21 3) rfl (cM_bel p) ⟨rfl,rfl⟩
theorem points1_c (p : Cp) (hL : LCp p) (x : V) (c : Int) : CallP C 117 [.ptr 0 0,x,I c] (cM p) fun X L'=>X = I (IntKind.i64.wrap ((rowS p.ru.w p.res c).points - valP (offTab p.clubs p.off p.clubs.length) c)) ∧ L' = cM p:=by
 have hrow : ∀ {k : V → List Blk → Prop},k (rowV (rowS p.ru.w p.res c)) (cM p) → CallP C 118 [.ptr 0 0,.d (ress p.res),I c] (cM p) k:=fun h=>(row_c p p.res c hL.res).mono fun X L' ⟨h1,h2⟩=>by subst h1 h2; exact h
 generalize rowS p.ru.w p.res c = r at *
 obtain ⟨tab,ht⟩ : ∃ tab,tab = offTab p.clubs p.off p.clubs.length:=⟨_,rfl⟩
 have hM : cM p = [.cells p.cells,.map (esP tab),.map (esP (lotTab p.clubs p.lots p.lots.length))]:=by rw [ht]; rfl
 have hb:=cM_bel p
 rw [← ht]
 rw [hM] at hrow hb ⊢
 by_cases hc : c ∈ keysP tab
 ·have m1 : ∀ {q : Option (Nat × V) → Prop},q (some ((keysP tab).idxOf c,I (valP tab c))) → MapF (.int .i64) (esP tab) (I c) q:=fun h=>MapF.has hc h
  refine callP_of C_ok Tryz.func117 rfl rfl (n:=_) rfl (zw18 rfl) (rs:=_) rfl ?_
  repeat' ((conv=>whnf); first|refine zw12 _ (hrow ⟨rfl,rfl⟩) ?_|refine m1 ?_|refine zw0 ?_|refine zw1 ?_|refine zw2 (fun h=>?_) (fun h=>?_)|refine zw3 ?_|refine zw4 (fun h=>?_) (fun h=>?_)|refine zw5 _ rfl ?_|refine zw6 rfl ?_|refine zw7 mixed rfl ?_)
  conv=>whnf
  exact FinP.drop (n:=3) rfl (zw21 3) rfl hb ⟨rfl,rfl⟩
 ·have m1 : ∀ {q : Option (Nat × V) → Prop},q none → MapF (.int .i64) (esP tab) (I c) q:=fun h=>MapF.hasnt hc h
  have e : valP tab c = 0:=by unfold valP; rw [if_neg hc]
  rw [e]
  refine callP_of C_ok Tryz.func117 rfl rfl (n:=_) rfl (zw18 rfl) (rs:=_) rfl ?_
  repeat' ((conv=>whnf); first|refine zw12 _ (hrow ⟨rfl,rfl⟩) ?_|refine m1 ?_|refine zw0 ?_|refine zw1 ?_|refine zw2 (fun h=>?_) (fun h=>?_)|refine zw3 ?_|refine zw4 (fun h=>?_) (fun h=>?_)|refine zw5 _ rfl ?_|refine zw6 rfl ?_|refine zw7 mixed rfl ?_)
  conv=>whnf
  exact FinP.drop (n:=3) rfl (zw21 3) rfl hb ⟨rfl,rfl⟩
theorem lots1_c (p : Cp) (x : V) (c : Int) : CallP C 119 [.ptr 0 0,x,I c] (cM p) fun X L'=>X = I (IntKind.i64.wrap (0 - valP (lotTab p.clubs p.lots p.lots.length) c)) ∧ L' = cM p:=by
 obtain ⟨tab,ht⟩ : ∃ tab,tab = lotTab p.clubs p.lots p.lots.length:=⟨_,rfl⟩
 have hM : cM p = [.cells p.cells,.map (esP (offTab p.clubs p.off p.clubs.length)),.map (esP tab)]:=by rw [ht]; rfl
 have hb:=cM_bel p
 rw [← ht]
 rw [hM] at hb ⊢
 by_cases hc : c ∈ keysP tab
 ·have m1 : ∀ {q : Option (Nat × V) → Prop},q (some ((keysP tab).idxOf c,I (valP tab c))) → MapF (.int .i64) (esP tab) (I c) q:=fun h=>MapF.has hc h
  refine callP_of C_ok Tryz.func119 rfl rfl (n:=_) rfl (zw18 rfl) (rs:=_) rfl ?_
  repeat' ((conv=>whnf); first|refine m1 ?_|refine zw0 ?_|refine zw1 ?_|refine zw2 (fun h=>?_) (fun h=>?_)|refine zw3 ?_|refine zw4 (fun h=>?_) (fun h=>?_)|refine zw5 _ rfl ?_|refine zw6 rfl ?_|refine zw7 mixed rfl ?_)
  conv=>whnf
  exact FinP.drop (n:=3) rfl (zw21 3) rfl hb ⟨rfl,rfl⟩
 ·have m1 : ∀ {q : Option (Nat × V) → Prop},q none → MapF (.int .i64) (esP tab) (I c) q:=fun h=>MapF.hasnt hc h
  have e : valP tab c = 0:=by unfold valP; rw [if_neg hc]
  rw [e]
  refine callP_of C_ok Tryz.func119 rfl rfl (n:=_) rfl (zw18 rfl) (rs:=_) rfl ?_
  repeat' ((conv=>whnf); first|refine m1 ?_|refine zw0 ?_|refine zw1 ?_|refine zw2 (fun h=>?_) (fun h=>?_)|refine zw3 ?_|refine zw4 (fun h=>?_) (fun h=>?_)|refine zw5 _ rfl ?_|refine zw6 rfl ?_|refine zw7 mixed rfl ?_)
  conv=>whnf
  exact FinP.drop (n:=3) rfl (zw21 3) rfl hb ⟨rfl,rfl⟩
theorem headP_c (g : List Int) (hg : g.length ≤ 4611686018427387904) (r : Res) (h : k (B (!known g r)) L) : CallP C 157 [resV r,.d (.rptr [.fn 77 [.rptr [ins g]]])] L k:=by
 have ha : ∀ (n : Int) {L : List Blk} {k : V → List Blk → Prop},k (B (g.contains n)) L → CallP C 77 [I n,.d (.rptr [ins g])] L k:=fun n _ _ h=>among1_c g n hg h
 obtain ⟨⟨a1,a2,a3,a4⟩,a5,a6,a7,a8,a9,a10,a11,a12,a13⟩:=r
 have a3' : ∀ {L : List Blk} {k : V → List Blk → Prop},k (B (g.contains a3)) L → CallP C 77 [I a3,.d (.rptr [ins g])] L k:=fun h=>ha _ h
 have a4' : ∀ {L : List Blk} {k : V → List Blk → Prop},k (B (g.contains a4)) L → CallP C 77 [I a4,.d (.rptr [ins g])] L k:=fun h=>ha _ h
 unfold known at h
 simp only at h
 refine CallP.pure ?_ rfl (fun _=>rfl) h
 clear h
 refine callP_of C_ok Tryz.func157 rfl rfl (n:=_) rfl (zw18 rfl) (rs:=_) rfl ?_
 cases e1 : g.contains a3 with
 | false =>
  rw [e1] at a3'
  repeat' ((conv=>whnf); first|refine zw3 ?_|refine a3' ?_|refine zw0 ?_|refine zw1 ?_|refine zw2 (fun h=>?_) (fun h=>?_)|refine zw3 ?_|refine zw4 (fun h=>?_) (fun h=>?_)|refine zw5 _ rfl ?_|refine zw6 rfl ?_|refine zw7 mixed rfl ?_)
  conv=>whnf
  exact FinP.drop (n:=0) rfl (zw21 0) rfl rfl ⟨rfl,rfl⟩
 | true =>
  rw [e1] at a3'
  cases e2 : g.contains a4 with
  | false =>
   rw [e2] at a4'
   repeat' ((conv=>whnf); first|refine zw3 ?_|refine a3' ?_|refine a4' ?_|refine zw0 ?_|refine zw1 ?_|refine zw2 (fun h=>?_) (fun h=>?_)|refine zw3 ?_|refine zw4 (fun h=>?_) (fun h=>?_)|refine zw5 _ rfl ?_|refine zw6 rfl ?_|refine zw7 mixed rfl ?_)
   conv=>whnf
   exact FinP.drop (n:=0) rfl (zw21 0) rfl rfl ⟨rfl,rfl⟩
  | true =>
   rw [e2] at a4'
   repeat' ((conv=>whnf); first|refine zw3 ?_|refine a3' ?_|refine a4' ?_|refine zw0 ?_|refine zw1 ?_|refine zw2 (fun h=>?_) (fun h=>?_)|refine zw3 ?_|refine zw4 (fun h=>?_) (fun h=>?_)|refine zw5 _ rfl ?_|refine zw6 rfl ?_|refine zw7 mixed rfl ?_)
   conv=>whnf
   exact FinP.drop (n:=0) rfl (zw21 0) rfl rfl ⟨rfl,rfl⟩
theorem delR_c {b : Nat} (l : List Res) (group : List Int) (hl : l.length ≤ 4294967296) (f : FuncId) (caps : List D) (hp : ∀ r (L : List Blk) (k : V → List Blk → Prop),k (B (!known group r)) L → CallP C f ([resV r] ++ caps.map .d) L k) (hb : L[b]? = some (.row 1 13 (l.map resE)))
  (h : k (.own b 1 0 (inG group l).length) (L.set b (.row 1 13 ((inG group l).map resE ++ List.replicate (l.length - (inG group l).length) zR)))) : CallP C 155 [.own b 1 0 l.length,.d (.fn f caps)] L k:=by
 refine CallP.embed [b] (delR_0 l group hl f caps hp) ⟨by simp,fun c hc=>by rw [List.mem_singleton.1 hc]; exact lt_of_get hb,rfl,fun c d hc=>?_,res1_belO _ _ _,rfl⟩ rfl ?_
 ·match c,hc with
  | 0,hc =>
   cases hc
   rw [hb]
   show some (Blk.row 1 13 (l.map resE)) = some (Blk.row 1 13 (rnR _ (l.map resE)))
   rw [rnR_res]
  | c + 1,hc=>simp at hc
 rintro X L1 ⟨rfl,rfl⟩
 have e1 : (V.own 0 1 0 (inG group l).length).rn (rnI [b] L.length) = .own b 1 0 (inG group l).length:=rfl
 have e2 : putB [b] (rnB (rnI [b] L.length) [.row 1 13 ((inG group l).map resE ++ List.replicate (l.length - (inG group l).length) zR)]) L = L.set b (.row 1 13 ((inG group l).map resE ++ List.replicate (l.length - (inG group l).length) zR)):=by
  show putB [b] [Blk.row 1 13 (rnR _ ((inG group l).map resE ++ List.replicate (l.length - (inG group l).length) zR))] L = _
  rw [rnR_app,rnR_res,rnR_rep]; simp only [putB,List.append_nil]
 rw [e1,e2]
 exact h
end Go.Proofs.YtihibgcojdfndaaGreatDoor
namespace Go.Proofs.YtihibgcojdfndaaGreatDoor
open Go.Tidy
open Sts (Res Row Worth Game rowsF addF rowC valueF inG known worthOk resOk fieldOk gameV resV ress rowV rowsD resE zR findI_all findI_some Del cells13 resE_map rindexFunc_c)
variable {L : List Blk} {k : V → List Blk → Prop}
theorem resR_cv {S : Nat → Prop} {L : List Blk} {b gen m : Nat} (l : List Res) (hb : S b) (hL : L[b]? = some (.row gen 13 (l.map resE ++ List.replicate m zR))) : Cv S L (.own b gen 0 l.length) (ress l):=by
 refine .row (l.map Res.cells) hb hL ?_ (by simp) (cells13 l)
 rw [List.drop_zero,List.take_append_of_le_length (by simp),List.take_of_length_le (by simp),← resE_map]
theorem head1_c (p : Cp) (hL : LCp p) (g : List Int) (hg : g.length ≤ 4611686018427387904) (c b : Int) : CallP C 154 [.ptr 0 0,.d (ins g),I c,.d (.rptr [DI b])] (cM p) fun X L'=>X = I (valueF (rowS p.ru.w (inG g p.res) c) b) ∧ L' = cM p:=by
 have hin : (inG g p.res).length ≤ 1073741824:=zw23 (List.length_filter_le _ _) hL.res
 have hrow : ∀ {k : V → List Blk → Prop},k (rowV (rowS p.ru.w (inG g p.res) c)) (cM p) → CallP C 118 [.ptr 0 0,.d (ress (inG g p.res)),I c] (cM p) k:=fun h=>(row_c p _ c hin).mono fun X L' ⟨h1,h2⟩=>by subst h1 h2; exact h
 have hval : ∀ {L : List Blk} {k : V → List Blk → Prop},k (I (valueF (rowS p.ru.w (inG g p.res) c) b)) L → CallP C 158 [rowV (rowS p.ru.w (inG g p.res) c),I b] L k:=fun h=>Sts.value_c _ _ h
 generalize rowS p.ru.w (inG g p.res) c = r at *
 have hcl:=fun {L : List Blk} {k : V → List Blk → Prop} h=>Sts.clone_c (L:=L) (k:=k) p.res (by have:=hL.res; omega) h
 have hdl:=fun {L : List Blk} {k : V → List Blk → Prop} h1 h=>delR_c (L:=L) (k:=k) (b:=4) p.res g (by have:=hL.res; omega) 157 [.rptr [.fn 77 [.rptr [ins g]]]] (fun r L k h=>headP_c g hg r h) h1 h
 refine callP_cut (fun c=>match c with | .region 2 _ _=>true | _=>false) C_ok Tryz.func154 rfl rfl (n:=_) rfl (zw18 rfl) (rs:=_) rfl ?_
 repeat' ((conv=>whnf); first|refine among_c g ?_|refine zw0 ?_|refine zw1 ?_|refine zw2 (fun h=>?_) (fun h=>?_)|refine zw3 ?_|refine zw4 (fun h=>?_) (fun h=>?_)|refine zw5 _ rfl ?_|refine zw6 rfl ?_|refine zw7 mixed rfl ?_)
 conv=>whnf
 refine CutP.intro (ι:=Unit) (fun _=>⟨[(0,.ptr 0 0),(2,I c),(3,.d (.rptr [DI b])),(9,.d (ress (inG g p.res)))],Tryz.f154.ntmps,cM p,[],none⟩) ?_ (fun _=>?_)
 ·repeat' (conv => whnf
           first|refine hcl ?_|refine CallP.freeze (dargs:=[.own 4 1 0 p.res.length,.d (.fn 157 [.rptr [.fn 77 [.rptr [ins g]]]])]) [3] rfl rfl (.keep (.cv (.d (.fnL (.cons (.ptrL (List.mem_singleton.2 rfl) rfl (.cons (.d _) .nil)) .nil))) .nil)) (hdl rfl ?_)|refine zw0 ?_|refine zw1 ?_|refine zw2 (fun h=>?_) (fun h=>?_)|refine zw3 ?_|refine zw4 (fun h=>?_) (fun h=>?_)|refine zw5 _ rfl ?_|refine zw6 rfl ?_|refine zw7 mixed rfl ?_)
  conv=>whnf
  refine ⟨(),Weak.thaw 3 (zw21 3) (zw18 rfl) rfl ⟨.inl ⟨rfl,rfl⟩,.inl ⟨rfl,rfl⟩,.inl ⟨rfl,rfl⟩,.inr (.d (resR_cv (inG g p.res) (zw18 rfl) rfl)),trivial⟩ fun b x y hx hy=>?_⟩
  match b,hx,hy with
  | 0,hx,hy=>cases hx; cases hy; exact .inl ⟨rfl,rfl⟩
  | 1,hx,hy=>cases hx; cases hy; exact .inl ⟨rfl,esP_bel _ _⟩
  | 2,hx,hy=>cases hx; cases hy; exact .inl ⟨rfl,esP_bel _ _⟩
  | b + 3,hx,hy=>cases hy
 repeat' ((conv=>whnf); first|refine zw12 _ (hrow ⟨rfl,rfl⟩) ?_|refine zw12 _ (hval ⟨rfl,rfl⟩) ?_|refine zw0 ?_|refine zw1 ?_|refine zw2 (fun h=>?_) (fun h=>?_)|refine zw3 ?_|refine zw4 (fun h=>?_) (fun h=>?_)|refine zw5 _ rfl ?_|refine zw6 rfl ?_|refine zw7 mixed rfl ?_)
 conv=>whnf
 exact FinP.drop (n:=3) rfl (zw21 3) rfl (cM_bel p) ⟨rfl,rfl⟩
theorem head_c (n : Int) (h : k (.d (.fn 154 [.rptr [DI n]])) L) : CallP C 115 [I n] L k:=by
 refine CallP.pure ?_ rfl (fun _=>rfl) h
 clear h
 refine callP_of C_ok Tryz.func115 rfl rfl (n:=_) rfl (zw18 rfl) (rs:=_) rfl ?_
 repeat' ((conv=>whnf); first|refine zw0 ?_|refine zw1 ?_|refine zw2 (fun h=>?_) (fun h=>?_)|refine zw3 ?_|refine zw4 (fun h=>?_) (fun h=>?_)|refine zw5 _ rfl ?_|refine zw6 rfl ?_|refine zw7 mixed rfl ?_)
 conv=>whnf
 exact FinP.data (L':=[]) (.d (.fn _ _ _ rfl (CvL.get (.cons (.ptrL (zw22 _) rfl (.cons (.d _) .nil)) .nil)).2)) rfl rfl ⟨rfl,rfl⟩
theorem whole_c (n : Int) (h : k (.d (.fn 159 [.rptr [DI n]])) L) : CallP C 116 [I n] L k:=by
 refine CallP.pure ?_ rfl (fun _=>rfl) h
 clear h
 refine callP_of C_ok Tryz.func116 rfl rfl (n:=_) rfl (zw18 rfl) (rs:=_) rfl ?_
 repeat' ((conv=>whnf); first|refine zw0 ?_|refine zw1 ?_|refine zw2 (fun h=>?_) (fun h=>?_)|refine zw3 ?_|refine zw4 (fun h=>?_) (fun h=>?_)|refine zw5 _ rfl ?_|refine zw6 rfl ?_|refine zw7 mixed rfl ?_)
 conv=>whnf
 exact FinP.data (L':=[]) (.d (.fn _ _ _ rfl (CvL.get (.cons (.ptrL (zw22 _) rfl (.cons (.d _) .nil)) .nil)).2)) rfl rfl ⟨rfl,rfl⟩
def fnH (j : Nat) : V:=.d (.fn (bif Nat.ble 8 j && Nat.ble j 11 then 154 else 159) [.rptr [DI j]])
def arrO (i : Nat) : List V:=(List.range 13).map fun j=>bif Nat.blt j i then fnH j else .d .nilfn
def fnO (j : Nat) : V:=bif Nat.beq j 1 then .fn 117 [] else bif Nat.beq j 12 then .fn 119 [] else fnH j
theorem values_c (h : k (.agg ((List.range 13).map fnO)) L) : CallP C 81 [] L k:=by
 refine CallP.pure ?_ rfl (fun _=>rfl) h
 clear h
 refine callP_of C_ok Tryz.func81 rfl rfl (n:=_) rfl (zw18 rfl) (rs:=_) rfl ?_
 repeat' ((conv=>whnf); first|refine zw0 ?_|refine zw1 ?_|refine zw2 (fun h=>?_) (fun h=>?_)|refine zw3 ?_|refine zw4 (fun h=>?_) (fun h=>?_)|refine zw5 _ rfl ?_|refine zw6 rfl ?_|refine zw7 mixed rfl ?_)
 conv=>whnf
 refine LoopP.inv (fun i : Nat=>i ≤ 13) (fun i=>⟨[(0,.ptr 0 0),(1,.ptr 1 0),(3,I i)],Tryz.f81.ntmps,[.cells (arrO 0),.cells (arrO i)],[],none⟩) (fun i=>13 - i) 0 (zw22 _) ?_ ?_
 ·exact Weak.by ⟨rfl,rfl,rfl,trivial⟩
 intro i hi
 have h13 : i = 0 ∨ i = 1 ∨ i = 2 ∨ i = 3 ∨ i = 4 ∨ i = 5 ∨ i = 6 ∨ i = 7 ∨ i = 8 ∨ i = 9 ∨ i = 10 ∨ i = 11 ∨ i = 12 ∨ i = 13:=by omega
 rcases h13 with rfl | rfl | rfl | rfl | rfl | rfl | rfl | rfl | rfl | rfl | rfl | rfl | rfl | rfl
 rotate_right 1
 ·repeat' (conv => whnf
           first|refine zw9 rfl ?_|refine IdxN.intro 1 rfl (zw18 rfl) ?_|refine IdxN.intro 12 rfl (zw18 rfl) ?_|refine zw0 ?_|refine zw1 ?_|refine zw2 (fun h=>?_) (fun h=>?_)|refine zw3 ?_|refine zw4 (fun h=>?_) (fun h=>?_)|refine zw5 _ rfl ?_|refine zw6 rfl ?_|refine zw7 mixed rfl ?_)
  conv=>whnf
  exact FinP.drop (n:=0) rfl (zw21 0) rfl rfl ⟨rfl,rfl⟩
 all_goals
  repeat' ((conv=>whnf); first|refine zw8 rfl ?_|refine zw9 rfl ?_|refine head_c _ ?_|refine whole_c _ ?_|refine IdxN.intro _ rfl (zw18 rfl) ?_|refine zw0 ?_|refine zw1 ?_|refine zw2 (fun h=>?_) (fun h=>?_)|refine zw3 ?_|refine zw4 (fun h=>?_) (fun h=>?_)|refine zw5 _ rfl ?_|refine zw6 rfl ?_|refine zw7 mixed rfl ?_)
 all_goals conv=>whnf
 all_goals first | exact ⟨1,by decide,by decide,Weak.by ⟨rfl,rfl,rfl,trivial⟩⟩ | exact ⟨2,by decide,by decide,Weak.by ⟨rfl,rfl,rfl,trivial⟩⟩ | exact ⟨3,by decide,by decide,Weak.by ⟨rfl,rfl,rfl,trivial⟩⟩ | exact ⟨4,by decide,by decide,Weak.by ⟨rfl,rfl,rfl,trivial⟩⟩ | exact ⟨5,by decide,by decide,Weak.by ⟨rfl,rfl,rfl,trivial⟩⟩ | exact ⟨6,by decide,by decide,Weak.by ⟨rfl,rfl,rfl,trivial⟩⟩ | exact ⟨7,by decide,by decide,Weak.by ⟨rfl,rfl,rfl,trivial⟩⟩ | exact ⟨8,by decide,by decide,Weak.by ⟨rfl,rfl,rfl,trivial⟩⟩ | exact ⟨9,by decide,by decide,Weak.by ⟨rfl,rfl,rfl,trivial⟩⟩ | exact ⟨10,by decide,by decide,Weak.by ⟨rfl,rfl,rfl,trivial⟩⟩ | exact ⟨11,by decide,by decide,Weak.by ⟨rfl,rfl,rfl,trivial⟩⟩ | exact ⟨12,by decide,by decide,Weak.by ⟨rfl,rfl,rfl,trivial⟩⟩ | exact ⟨13,by decide,by decide,Weak.by ⟨rfl,rfl,rfl,trivial⟩⟩
end Go.Proofs.YtihibgcojdfndaaGreatDoor
namespace Go.Proofs.YtihibgcojdfndaaGreatDoor
open Go.Tidy
variable {L : List Blk} {k : V → List Blk → Prop}
theorem isNaNO_c (a : Int) (h : k (B false) L) : CallP C 162 [I a] L k:=by
 refine CallP.pure ?_ rfl (fun _=>rfl) h
 clear h
 refine callP_of C_ok Tryz.func162 rfl rfl (n:=_) rfl (zw18 rfl) (rs:=_) rfl ?_
 repeat' ((conv=>whnf); first|refine zw0 ?_|refine zw1 ?_|refine zw2 (fun h=>?_) (fun h=>?_)|refine zw3 ?_|refine zw4 (fun h=>?_) (fun h=>?_)|refine zw5 _ rfl ?_|refine zw6 rfl ?_|refine zw7 mixed rfl ?_)
 conv=>whnf
 exact FinP.drop (n:=0) rfl (Nat.le_refl 0) rfl rfl ⟨rfl,congrArg B (by simp)⟩
abbrev pairV (x : Int × Int) : V:=.agg [I x.1,I x.2]
def rdP (s : List (Int × Int)) : List (List V):=s.map fun x=>[I x.1,I x.2]
theorem rdP_bel (n : Nat) : ∀ s : List (Int × Int),belR n (rdP s) = true
 | []=>rfl
 | x :: s=>by
  have:=rdP_bel n s
  unfold rdP at this ⊢
  simp only [List.map_cons,belR,this,Bool.and_true]
  rfl
theorem rdP_rn (ρ : Nat → Nat) : ∀ s : List (Int × Int),rnR ρ (rdP s) = rdP s
 | []=>rfl
 | x :: s=>by
  have:=rdP_rn ρ s
  unfold rdP at this ⊢
  simp only [List.map_cons,rnR,this]
  rfl
theorem rdP_at {s : List (Int × Int)} {i : Nat} {x : Int × Int} (h : s[i]? = some x) : (rdP s)[0 + i]? = some [I x.1,I x.2]:=by
 unfold rdP; rw [Nat.zero_add,List.getElem?_map,h]; rfl
theorem rdP_set (s : List (Int × Int)) (i : Nat) (x : Int × Int) : (rdP s).set (0 + i) [I x.1,I x.2] = rdP (s.set i x):=by
 unfold rdP; rw [Nat.zero_add,List.map_set]
theorem compare_c (a b : Int) (h : k (I (if a < b then -1 else if b < a then 1 else 0)) L) : CallP C 122 [I a,I b] L k:=by
 refine CallP.pure ?_ rfl (fun _=>rfl) h
 clear h
 refine callP_of C_ok Tryz.func122 rfl rfl (n:=_) rfl (zw18 rfl) (rs:=_) rfl ?_
 by_cases c1 : a < b
 ·rw [if_pos c1]
  repeat' ((conv=>whnf); first|refine isNaNO_c _ ?_|refine zw8 (zw19 c1) ?_|refine zw0 ?_|refine zw1 ?_|refine zw2 (fun h=>?_) (fun h=>?_)|refine zw3 ?_|refine zw4 (fun h=>?_) (fun h=>?_)|refine zw5 _ rfl ?_|refine zw6 rfl ?_|refine zw7 mixed rfl ?_)
  conv=>whnf
  exact FinP.drop (n:=0) rfl (zw21 0) rfl rfl ⟨rfl,rfl⟩
 rw [if_neg c1]
 by_cases c2 : b < a
 ·rw [if_pos c2]
  repeat' ((conv=>whnf); first|refine isNaNO_c _ ?_|refine zw9 (zw20 c1) ?_|refine zw8 (zw19 c2) ?_|refine zw0 ?_|refine zw1 ?_|refine zw2 (fun h=>?_) (fun h=>?_)|refine zw3 ?_|refine zw4 (fun h=>?_) (fun h=>?_)|refine zw5 _ rfl ?_|refine zw6 rfl ?_|refine zw7 mixed rfl ?_)
  conv=>whnf
  exact FinP.drop (n:=0) rfl (zw21 0) rfl rfl ⟨rfl,rfl⟩
 ·rw [if_neg c2]
  repeat' ((conv=>whnf); first|refine isNaNO_c _ ?_|refine zw9 (zw20 c1) ?_|refine zw9 (zw20 c2) ?_|refine zw0 ?_|refine zw1 ?_|refine zw2 (fun h=>?_) (fun h=>?_)|refine zw3 ?_|refine zw4 (fun h=>?_) (fun h=>?_)|refine zw5 _ rfl ?_|refine zw6 rfl ?_|refine zw7 mixed rfl ?_)
  conv=>whnf
  exact FinP.drop (n:=0) rfl (zw21 0) rfl rfl ⟨rfl,rfl⟩
theorem cmp1_c (x y : Int × Int) (h : k (I (if y.2 < x.2 then -1 else if x.2 < y.2 then 1 else 0)) L) : CallP C 121 [pairV x,pairV y] L k:=by
 have hc : ∀ {L : List Blk} {k : V → List Blk → Prop},k (I (if y.2 < x.2 then -1 else if x.2 < y.2 then 1 else 0)) L → CallP C 122 [I y.2,I x.2] L k:=fun h=>compare_c _ _ h
 generalize (if y.2 < x.2 then -1 else if x.2 < y.2 then 1 else 0 : Int) = q at *
 refine CallP.pure ?_ rfl (fun _=>rfl) h
 clear h
 refine callP_of C_ok Tryz.func121 rfl rfl (n:=_) rfl (zw18 rfl) (rs:=_) rfl ?_
 repeat' ((conv=>whnf); first|refine hc ?_|refine zw0 ?_|refine zw1 ?_|refine zw2 (fun h=>?_) (fun h=>?_)|refine zw3 ?_|refine zw4 (fun h=>?_) (fun h=>?_)|refine zw5 _ rfl ?_|refine zw6 rfl ?_|refine zw7 mixed rfl ?_)
 conv=>whnf
 exact FinP.drop (n:=0) rfl (zw21 0) rfl rfl ⟨rfl,rfl⟩
def wayL (s : List (Int × Int)) (x : Int × Int) (rest : List (Int × Int)) (j : Nat) : List (Int × Int):=s.take j ++ x :: (s.drop j ++ rest)
theorem way_at {s : List (Int × Int)} {x : Int × Int} {rest : List (Int × Int)} {j : Nat} (h : j ≤ s.length) : (wayL s x rest j)[j]? = some x:=by
 unfold wayL
 rw [List.getElem?_append_right (by rw [List.length_take]; omega),List.length_take,Nat.min_eq_left h,Nat.sub_self]; rfl
theorem way_left {s : List (Int × Int)} {x : Int × Int} {rest : List (Int × Int)} {j : Nat} (h : j < s.length) : (wayL s x rest (j + 1))[j]? = some s[j]:=by
 unfold wayL
 rw [List.getElem?_append_left (by rw [List.length_take]; omega),List.getElem?_take_of_lt (by omega),List.getElem?_eq_getElem h]
theorem way_len (s : List (Int × Int)) (x : Int × Int) (rest : List (Int × Int)) (j : Nat) : (wayL s x rest j).length = s.length + 1 + rest.length:=by
 unfold wayL
 simp only [List.length_append,List.length_cons,List.length_take,List.length_drop]
 omega
theorem way_swap {s : List (Int × Int)} {x : Int × Int} {rest : List (Int × Int)} {j : Nat} (h : j < s.length) : ((wayL s x rest (j + 1)).set (j + 1) s[j]).set j x = wayL s x rest j:=by
 unfold wayL
 rw [take_next h,List.drop_eq_getElem_cons h]
 have hl : (s.take j).length = j:=by rw [List.length_take]; omega
 generalize s.take j = A at *
 subst hl
 rw [List.append_assoc]
 rw [List.set_append_right _ _ (by omega),show A.length + 1 - A.length = 1 by omega]
 rw [List.set_append_right _ _ (by omega),Nat.sub_self]
 rfl
theorem insertion_c (v : Int → Int) (g : List Int) (hg : 0 < g.length) (hl : g.length ≤ 1000) (gen : Nat) : CallP C 186 [.own 0 gen 0 g.length,I 0,I g.length,.fn 121 []] [.row gen 2 (rdP (g.map fun e=>(e,v e)))] fun X L'=>X = .tup [] ∧ L' = [.row gen 2 (rdP (flatC (clsF v g)))]:=by
 refine callP_of C_ok Tryz.func186 rfl rfl (n:=_) rfl (zw18 rfl) (rs:=_) rfl ?_
 repeat' ((conv=>whnf); first|refine zw0 ?_|refine zw1 ?_|refine zw2 (fun h=>?_) (fun h=>?_)|refine zw3 ?_|refine zw4 (fun h=>?_) (fun h=>?_)|refine zw5 _ rfl ?_|refine zw6 rfl ?_)
 conv=>whnf
 refine LoopP.inv (fun i : Nat=>1 ≤ i ∧ i ≤ g.length) (fun i=>⟨[(0,.own 0 gen 0 g.length),(1,I 0),(2,I g.length),(3,.fn 121 []),(8,I i)],Tryz.f186.ntmps,[.row gen 2 (rdP (flatC (clsF v (g.take i)) ++ (g.drop i).map fun e=>(e,v e)))],[],none⟩) (fun i=>g.length - i) 1 ⟨zw21 1,hg⟩ ?_ ?_
 ·refine Weak.by (hL:=?_) ⟨rfl,rfl,rfl,rfl,rfl,trivial⟩
  match g,hg with
  | e :: r,_=>rfl
 rintro i ⟨hi1,hi⟩
 by_cases hi' : i < g.length
 ·have hlt : (i : Int) < (g.length : Int):=by omega
  have hw : IntKind.i64.wrap ((i : Int) + 1) = ((i + 1 : Nat) : Int):=by rw [wrap_in (by omega)]; omega
  have hsl:=flat_len v (g.take i)
  rw [List.length_take,Nat.min_eq_left hi] at hsl
  have hss:=flat_sorted (cls_fall v (g.take i))
  have hin : insD (g[i],v g[i]) (flatC (clsF v (g.take i))) = flatC (clsF v (g.take (i + 1))):=by
   rw [insD_flat _ _ (cls_fall v (g.take i)),take_next hi',clsF_snoc]
  have hst : flatC (clsF v (g.take i)) ++ (g.drop i).map (fun e=>(e,v e)) = wayL (flatC (clsF v (g.take i))) (g[i],v g[i]) ((g.drop (i + 1)).map fun e=>(e,v e)) i:=by
   unfold wayL
   rw [List.take_of_length_le (l:=flatC (clsF v (g.take i))) (by omega),List.drop_of_length_le (l:=flatC (clsF v (g.take i))) (by omega),List.drop_eq_getElem_cons hi',List.map_cons]; rfl
  rw [hst]
  have hwl:=fun j=>way_len (flatC (clsF v (g.take i))) (g[i],v g[i]) ((g.drop (i + 1)).map fun e=>(e,v e)) j
  have hrl : ((g.drop (i + 1)).map fun e=>(e,v e)).length = g.length - (i + 1):=by simp
  generalize hre : (g.drop (i + 1)).map (fun e=>(e,v e)) = rest at *
  generalize flatC (clsF v (g.take i)) = s at *
  generalize hx : (g[i],v g[i]) = x at *
  have hgl : ∀ j,(wayL s x rest j).length = g.length:=fun j=>by rw [hwl]; omega
  repeat' ((conv=>whnf); first|refine zw8 (zw19 hlt) ?_|refine zw0 ?_|refine zw1 ?_|refine zw2 (fun h=>?_) (fun h=>?_)|refine zw3 ?_|refine zw4 (fun h=>?_) (fun h=>?_)|refine zw5 _ rfl ?_|refine zw6 rfl ?_)
  conv=>whnf
  refine LoopP.inv (fun j : Nat=>j ≤ i ∧ ∀ y ∈ s.drop j,y.2 < x.2) (fun j=>⟨[(0,.own 0 gen 0 g.length),(1,I 0),(2,I g.length),(3,.fn 121 []),(8,I i),(9,I j)],Tryz.f186.ntmps,[.row gen 2 (rdP (wayL s x rest j))],[],none⟩) (fun j=>j) i ⟨zw21 i,fun y hy=>by rw [List.drop_of_length_le (by omega)] at hy; cases hy⟩ ?_ ?_
  ·exact Weak.by ⟨rfl,rfl,rfl,rfl,rfl,rfl,trivial⟩
  rintro j ⟨hj,hd⟩
  have stop : (∀ y,0 < j → s[j - 1]? = some y → ¬ y.2 < x.2) → wayL s x rest j = flatC (clsF v (g.take (i + 1))) ++ (g.drop (i + 1)).map fun e=>(e,v e):=fun h2=>by
   rw [hre,← hin,insD_at hss (by omega) hd fun h=>h2 _ h (List.getElem?_eq_getElem (by omega))]
   unfold wayL
   simp
  by_cases j0 : (0 : Int) < (j : Int)
  rotate_left
  ·have e:=stop fun y h=>absurd h (by omega)
   repeat' ((conv=>whnf); first|refine zw9 (zw20 j0) ?_|refine zw0 ?_|refine zw1 ?_|refine zw2 (fun h=>?_) (fun h=>?_)|refine zw3 ?_|refine zw4 (fun h=>?_) (fun h=>?_)|refine zw5 _ rfl ?_|refine zw6 rfl ?_|refine zw7 mixed rfl ?_)
   conv=>whnf
   refine ⟨i + 1,⟨by omega,hi'⟩,by omega,?_⟩
   exact Weak.by (hL:=Eq.trans rfl (congrArg (fun z=>[Blk.row gen 2 (rdP z)]) e)) ⟨rfl,rfl,rfl,rfl,congrArg I hw,trivial⟩
  obtain ⟨m,rfl⟩ : ∃ m,j = m + 1:=⟨j - 1,by omega⟩
  have hm : m < s.length:=by omega
  have a1:=rdP_at (way_at (s:=s) (x:=x) (rest:=rest) (j:=m + 1) (by omega))
  have a2:=rdP_at (way_left (s:=s) (x:=x) (rest:=rest) hm)
  have hsw:=way_swap (x:=x) (rest:=rest) hm
  have hwj : IntKind.i64.wrap (((m + 1 : Nat) : Int) - 1) = (m : Int):=by rw [wrap_in (by omega)]; omega
  have hcm : ∀ {L : List Blk} {k : V → List Blk → Prop},k (I (if s[m].2 < x.2 then -1 else if x.2 < s[m].2 then 1 else 0)) L → CallP C 121 [pairV x,pairV s[m]] L k:=fun h=>cmp1_c _ _ h
  have hnx : (if s[m].2 < x.2 then -1 else if x.2 < s[m].2 then 1 else 0 : Int) < 0 ↔ s[m].2 < x.2:=by
   split
   ·simp [*]
   ·split <;> simp [*]
  have hdr : s[m].2 < x.2 → ∀ y ∈ s.drop m,y.2 < x.2:=fun h y hy=>by
   rw [List.drop_eq_getElem_cons hm] at hy
   rcases List.mem_cons.1 hy with rfl | hy
   ·exact h
   ·exact hd y hy
  have hstop : ¬ s[m].2 < x.2 → wayL s x rest (m + 1) = flatC (clsF v (g.take (i + 1))) ++ (g.drop (i + 1)).map fun e=>(e,v e):=fun h=>stop fun y _ hy=>by
   rw [show m + 1 - 1 = m by omega,List.getElem?_eq_getElem hm] at hy
   cases hy; exact h
  generalize (if s[m].2 < x.2 then -1 else if x.2 < s[m].2 then 1 else 0 : Int) = q at *
  generalize s[m] = y at *
  have i1 : m + 1 < g.length:=by omega
  have i2 : m < g.length:=by omega
  by_cases c1 : q < 0
  rotate_left
  ·have e:=hstop fun h=>c1 (hnx.2 h)
   repeat' ((conv=>whnf); first|refine zw8 (zw19 j0) ?_|refine zw9 (zw20 c1) ?_|refine IdxN.intro (m + 1) rfl i1 ?_|refine IdxN.intro m hwj i2 ?_|refine zw5 _ a1 ?_|refine zw5 _ a2 ?_|refine zw12 _ (hcm ⟨rfl,rfl⟩) ?_|simp only [Nat.beq_refl,Bool.and_self]|refine zw0 ?_|refine zw1 ?_|refine zw2 (fun h=>?_) (fun h=>?_)|refine zw3 ?_|refine zw4 (fun h=>?_) (fun h=>?_)|refine zw5 _ rfl ?_|refine zw6 rfl ?_|refine zw7 mixed rfl ?_)
   conv=>whnf
   refine ⟨i + 1,⟨by omega,hi'⟩,by omega,?_⟩
   exact Weak.by (hL:=Eq.trans rfl (congrArg (fun z=>[Blk.row gen 2 (rdP z)]) e)) ⟨rfl,rfl,rfl,rfl,congrArg I hw,trivial⟩
  ·have a3 : ((rdP (wayL s x rest (m + 1))).set (0 + (m + 1)) [I y.1,I y.2])[0 + m]? = some [I y.1,I y.2]:=by rw [List.getElem?_set_ne (by omega)]; exact a2
   have hend : ((rdP (wayL s x rest (m + 1))).set (0 + (m + 1)) [I y.1,I y.2]).set (0 + m) [I x.1,I x.2] = rdP (wayL s x rest m):=by rw [rdP_set,rdP_set,hsw]
   repeat' ((conv=>whnf); first|refine zw8 (zw19 j0) ?_|refine zw8 (zw19 c1) ?_|refine IdxN.intro (m + 1) rfl i1 ?_|refine IdxN.intro m hwj i2 ?_|refine zw5 _ a1 ?_|refine zw5 _ a2 ?_|refine zw5 _ a3 ?_|refine zw12 _ (hcm ⟨rfl,rfl⟩) ?_|simp only [Nat.beq_refl,Bool.and_self]|refine zw0 ?_|refine zw1 ?_|refine zw2 (fun h=>?_) (fun h=>?_)|refine zw3 ?_|refine zw4 (fun h=>?_) (fun h=>?_)|refine zw5 _ rfl ?_|refine zw6 rfl ?_|refine zw7 mixed rfl ?_)
   conv=>whnf
   exact ⟨m,⟨by omega,hdr (hnx.1 c1)⟩,by omega,Weak.by (hL:=Eq.trans rfl (congrArg (fun z=>[Blk.row gen 2 z]) hend)) ⟨rfl,rfl,rfl,rfl,rfl,congrArg I hwj,trivial⟩⟩
 ·have hlt : ¬ (i : Int) < (g.length : Int):=by omega
  obtain rfl : i = g.length:=by omega
  have e : flatC (clsF v (g.take g.length)) ++ (g.drop g.length).map (fun e=>(e,v e)) = flatC (clsF v g):=by rw [List.take_length,List.drop_length]; simp
  rw [e]
  repeat' ((conv=>whnf); first|refine zw9 (zw20 hlt) ?_|refine zw0 ?_|refine zw1 ?_|refine zw2 (fun h=>?_) (fun h=>?_)|refine zw3 ?_|refine zw4 (fun h=>?_) (fun h=>?_)|refine zw5 _ rfl ?_|refine zw6 rfl ?_)
  conv=>whnf
  exact FinP.drop (n:=1) rfl (Nat.le_refl 1) rfl (by show (belR 1 _ && true) = true; rw [rdP_bel]; rfl) ⟨rfl,rfl⟩
end Go.Proofs.YtihibgcojdfndaaGreatDoor
namespace Go.Proofs.YtihibgcojdfndaaGreatDoor
open Go.Tidy
open Sts (Res Row Worth Game rowsF addF rowC valueF inG known worthOk resOk fieldOk gameV resV ress rowV)
variable {L : List Blk} {k : V → List Blk → Prop}
def prs (v : Int → Int) (g : List Int) : List (Int × Int):=g.map fun e=>(e,v e)
theorem stable_c (v : Int → Int) (g : List Int) (hg : 0 < g.length) (hl : g.length ≤ 19) (gen : Nat) : CallP C 161 [.own 0 gen 0 g.length,I g.length,.fn 121 []] [.row gen 2 (rdP (prs v g))] fun X L'=>X = .tup [] ∧ L' = [.row gen 2 (rdP (flatC (clsF v g)))]:=by
 have c1 : ¬ (20 : Int) ≤ (g.length : Int):=by omega
 have c2 : ¬ (20 : Int) < (g.length : Int):=by omega
 refine callP_of C_ok Tryz.func161 rfl rfl (n:=_) rfl (zw18 rfl) (rs:=_) rfl ?_
 repeat' ((conv=>whnf); first|refine zw0 ?_|refine zw1 ?_|refine zw2 (fun h=>?_) (fun h=>?_)|refine zw3 ?_|refine zw4 (fun h=>?_) (fun h=>?_)|refine zw5 _ rfl ?_|refine zw6 rfl ?_)
 conv=>whnf
 refine LoopP.unroll ?_
 repeat' ((conv=>whnf); first|refine zw9 (zw20 c1) ?_|refine zw0 ?_|refine zw1 ?_|refine zw2 (fun h=>?_) (fun h=>?_)|refine zw3 ?_|refine zw4 (fun h=>?_) (fun h=>?_)|refine zw5 _ rfl ?_|refine zw6 rfl ?_)
 conv=>whnf
 refine (insertion_c v g hg (by omega) gen).mono ?_
 rintro X L' ⟨rfl,rfl⟩
 repeat' ((conv=>whnf); first|refine zw0 ?_|refine zw1 ?_|refine zw2 (fun h=>?_) (fun h=>?_)|refine zw3 ?_|refine zw4 (fun h=>?_) (fun h=>?_)|refine zw5 _ rfl ?_|refine zw6 rfl ?_)
 conv=>whnf
 refine LoopP.unroll ?_
 repeat' ((conv=>whnf); first|refine zw9 (zw20 c2) ?_|refine zw0 ?_|refine zw1 ?_|refine zw2 (fun h=>?_) (fun h=>?_)|refine zw3 ?_|refine zw4 (fun h=>?_) (fun h=>?_)|refine zw5 _ rfl ?_|refine zw6 rfl ?_)
 conv=>whnf
 exact FinP.drop (n:=1) rfl (Nat.le_refl 1) rfl (by show (belR 1 _ && true) = true; rw [rdP_bel]; rfl) ⟨rfl,rfl⟩
theorem sortS_0 (v : Int → Int) (g : List Int) (hg : 0 < g.length) (hl : g.length ≤ 19) (gen : Nat) : CallP C 120 [.own 0 gen 0 g.length,.fn 121 []] [.row gen 2 (rdP (prs v g))] fun X L'=>X = .tup [] ∧ L' = [.row gen 2 (rdP (flatC (clsF v g)))]:=by
 refine callP_of C_ok Tryz.func120 rfl rfl (n:=_) rfl (zw18 rfl) (rs:=_) rfl ?_
 repeat' ((conv=>whnf); first|simp only [Nat.beq_refl,Bool.and_self]|refine Br.tt ?_|refine Br.ff ?_|refine Br.dec (fun h=>?_) (fun h=>?_)|refine Br.not ?_|refine Br.intro (fun h=>?_) (fun h=>?_)|refine GetE.intro _ rfl ?_|refine Need.intro rfl ?_)
 conv=>whnf
 refine (stable_c v g hg hl gen).mono ?_
 rintro X L' ⟨rfl,rfl⟩
 repeat' ((conv=>whnf); first|refine zw0 ?_|refine zw1 ?_|refine zw2 (fun h=>?_) (fun h=>?_)|refine zw3 ?_|refine zw4 (fun h=>?_) (fun h=>?_)|refine zw5 _ rfl ?_|refine zw6 rfl ?_)
 conv=>whnf
 exact FinP.drop (n:=1) rfl (Nat.le_refl 1) rfl (by show (belR 1 _ && true) = true; rw [rdP_bel]; rfl) ⟨rfl,rfl⟩
theorem sortS_c {b gen : Nat} (v : Int → Int) (g : List Int) (hg : 0 < g.length) (hl : g.length ≤ 19) (hb : L[b]? = some (.row gen 2 (rdP (prs v g)))) (h : k (.tup []) (L.set b (.row gen 2 (rdP (flatC (clsF v g)))))) : CallP C 120 [.own b gen 0 g.length,.fn 121 []] L k:=by
 refine CallP.embed [b] (sortS_0 v g hg hl gen) ⟨by simp,fun c hc=>by rw [List.mem_singleton.1 hc]; exact lt_of_get hb,rfl,fun c d hc=>?_,by show (belR 1 _ && true) = true; rw [rdP_bel]; rfl,rfl⟩ rfl ?_
 ·match c,hc with
  | 0,hc =>
   cases hc
   rw [hb]
   show some (Blk.row gen 2 (rdP (prs v g))) = some (Blk.row gen 2 (rnR _ (rdP (prs v g))))
   rw [rdP_rn]
  | c + 1,hc=>simp at hc
 rintro X L1 ⟨rfl,rfl⟩
 have e2 : putB [b] (rnB (rnI [b] L.length) [.row gen 2 (rdP (flatC (clsF v g)))]) L = L.set b (.row gen 2 (rdP (flatC (clsF v g)))):=by
  show putB [b] [Blk.row gen 2 (rnR _ (rdP (flatC (clsF v g))))] L = _
  rw [rdP_rn]; simp only [putB,List.append_nil]
 rw [e2]
 exact h
def S6 (p : Cp) (g : List Int) (x : V) : List Blk:=cM p ++ [.cells [.ptr 0 0],.cells [.d (ins g)],.cells [x]]
theorem of_k {p : Cp} {f : FuncId} {args : List V} {n : Int} (h : CallP C f args (cM p) fun X L'=>X = I n ∧ L' = cM p) (ha : V.belL 3 args = true) {E : List Blk} {k : V → List Blk → Prop} (hk : k (I n) (cM p ++ E)) : CallP C f args (cM p ++ E) k :=
 CallP.pre h (cM_bel p) rfl ha fun X L1 hX=>by
  obtain ⟨rfl,rfl⟩:=hX
  exact ⟨rfl,cM_bel _,rfl,hk⟩
theorem S6_bel' (n : Nat) (h : 6 ≤ n) (p : Cp) (g : List Int) (x : V) (hx : x.bel n = true) : belB n (S6 p g x) = true :=
 belB_app' (cM_bel' n (by omega) p) (by show (V.belL n [.ptr 0 0] && (true && (V.belL n [x] && true))) = true; simp only [V.belL,hx,V.bel,decide_eq_true (show 0 < n by omega)]; rfl)
theorem S6_bel (p : Cp) (g : List Int) (x : V) (hx : x.bel 6 = true) : belB 6 (S6 p g x) = true :=
 belB_app' (cM_bel' 6 (by decide) p) (by show (true && (true && (V.belL 6 [x] && true))) = true; simp only [V.belL,hx]; rfl)
theorem fnO_bel (n j : Nat) : (fnO j).bel n = true:=by
 unfold fnO
 cases Nat.beq j 1 <;> cases Nat.beq j 12 <;> rfl
theorem split1_w (p : Cp) (g : List Int) (f : FuncId) (caps : List D) (c n : Int) (h : CallP C f ([.ptr 0 0,.d (ins g),I c] ++ caps.map .d) (cM p) fun X L'=>X = I n ∧ L' = cM p) : CallP C 83 [I c,.ptr 5 0,.ptr 3 0,.ptr 4 0] (S6 p g (.d (.fn f caps))) fun X L'=>X = I n ∧ L' = S6 p g (.d (.fn f caps)):=by
 have hof:=fun {E : List Blk} {k : V → List Blk → Prop} hk=>of_k (E:=E) (k:=k) h (by show V.belL 3 (.ptr 0 0 :: .d (ins g) :: I c :: caps.map .d) = true; simp only [V.belL,V.bel,V.belL_d]; rfl) hk
 refine callP_of C_ok Tryz.func83 rfl rfl (n:=_) rfl (zw18 rfl) (rs:=_) rfl ?_
 repeat' ((conv=>whnf); first|refine CallP.cnvO (L':=cM p ++ [.cells [.ptr 0 0],.cells [.d (ins g)],.cells [.d (.fn f caps)]]) rfl rfl (hof ?_)|refine zw0 ?_|refine zw1 ?_|refine zw2 (fun h=>?_) (fun h=>?_)|refine zw3 ?_|refine zw4 (fun h=>?_) (fun h=>?_)|refine zw5 _ rfl ?_|refine zw6 rfl ?_|refine zw7 mixed rfl ?_)
 conv=>whnf
 exact FinP.drop (n:=6) rfl (zw21 6) rfl (S6_bel p g _ rfl) ⟨rfl,rfl⟩
theorem split1_v (p : Cp) (g : List Int) (f : FuncId) (c n : Int) (h : CallP C f [.ptr 0 0,.d (ins g),I c] (cM p) fun X L'=>X = I n ∧ L' = cM p) : CallP C 83 [I c,.ptr 5 0,.ptr 3 0,.ptr 4 0] (S6 p g (.fn f [])) fun X L'=>X = I n ∧ L' = S6 p g (.fn f []):=by
 have hof:=fun {E : List Blk} {k : V → List Blk → Prop} hk=>of_k (E:=E) (k:=k) h rfl hk
 refine callP_of C_ok Tryz.func83 rfl rfl (n:=_) rfl (zw18 rfl) (rs:=_) rfl ?_
 repeat' ((conv=>whnf); first|refine CallP.cnvO (L':=cM p ++ [.cells [.ptr 0 0],.cells [.d (ins g)],.cells [.fn f []]]) rfl rfl (hof ?_)|refine zw0 ?_|refine zw1 ?_|refine zw2 (fun h=>?_) (fun h=>?_)|refine zw3 ?_|refine zw4 (fun h=>?_) (fun h=>?_)|refine zw5 _ rfl ?_|refine zw6 rfl ?_|refine zw7 mixed rfl ?_)
 conv=>whnf
 exact FinP.drop (n:=6) rfl (zw21 6) rfl (S6_bel p g _ rfl) ⟨rfl,rfl⟩
theorem beq_no {a b : Nat} (h : a ≠ b) : Nat.beq a b = false:=by
 cases e : Nat.beq a b with
 | false=>rfl
 | true=>exact absurd (Nat.eq_of_beq_eq_true e) h
theorem split1_c (p : Cp) (hL : LCp p) (g : List Int) (hg : g.length ≤ 4611686018427387904) (b : Nat) (hb : 1 ≤ b ∧ b ≤ 12) (c : Int) : CallP C 83 [I c,.ptr 5 0,.ptr 3 0,.ptr 4 0] (S6 p g (fnO b)) fun X L'=>X = I (valC p g b c) ∧ L' = S6 p g (fnO b):=by
 unfold valC headB
 by_cases b12 : b = 12
 ·subst b12
  rw [if_pos (by decide)]
  exact split1_v p g _ c _ (lots1_c p _ c)
 by_cases b1 : b = 1
 ·subst b1
  rw [if_neg (by decide),if_neg (by decide),if_pos (by decide)]
  exact split1_v p g _ c _ (points1_c p hL _ c)
 have hf : fnO b = fnH b:=by
  unfold fnO
  rw [beq_no b1,beq_no b12]; rfl
 rw [hf,if_neg (by omega)]
 unfold fnH
 by_cases hh : 8 ≤ b ∧ b ≤ 11
 ·rw [decide_eq_true (show (8 : Int) ≤ (b : Int) by omega),decide_eq_true (show (b : Int) ≤ 11 by omega),show (Nat.ble 8 b && Nat.ble b 11) = true by rw [Nat.ble_eq_true_of_le hh.1,Nat.ble_eq_true_of_le hh.2]; rfl]
  exact split1_w p g _ _ c _ (head1_c p hL g hg c b)
 ·rw [show (decide ((8 : Int) ≤ (b : Int)) && decide ((b : Int) ≤ 11)) = false by
    by_cases h8 : 8 ≤ b
    ·rw [decide_eq_false (show ¬ (b : Int) ≤ 11 by omega),Bool.and_false]
    ·rw [decide_eq_false (show ¬ (8 : Int) ≤ (b : Int) by omega),Bool.false_and],show (Nat.ble 8 b && Nat.ble b 11) = false by
    cases h1 : Nat.ble 8 b with
    | false=>rfl
    | true =>
     cases h2 : Nat.ble b 11 with
     | false=>rfl
     | true=>exact absurd ⟨zw18 h1,Nat.le_of_ble_eq_true h2⟩ hh,if_neg (by decide),if_neg (by omega)]
  exact split1_w p g _ _ c _ (whole1_c p hL _ c b)
end Go.Proofs.YtihibgcojdfndaaGreatDoor
namespace Go.Proofs.YtihibgcojdfndaaGreatDoor
open Go.Tidy
open Sts (Res Row Worth Game rowsF addF rowC valueF inG known worthOk resOk fieldOk gameV resV ress rowV)
variable {L : List Blk} {k : V → List Blk → Prop}
structure Rn where
 (d : List (List Int)) (c : List Int) (u : Int)
def rstep : Option Rn → Int × Int → Option Rn
 | none,x=>some ⟨[],[x.1],x.2⟩
 | some r,x=>if x.2 = r.u then some ⟨r.d,r.c ++ [x.1],r.u⟩ else some ⟨r.d ++ [r.c],[x.1],x.2⟩
def runsF (F : List (Int × Int)) : Option Rn:=F.foldl rstep none
theorem runs_grow (d : List (List Int)) (u : Int) : ∀ (es c : List Int),(es.map fun e=>(e,u)).foldl rstep (some ⟨d,c,u⟩) = some ⟨d,c ++ es,u⟩
 | [],c=>by simp
 | e :: es,c=>by
  rw [List.map_cons,List.foldl_cons,rstep,if_pos rfl,runs_grow d u es]
  simp
theorem runs_on : ∀ {cs : List (Int × List Int)},Fall cs → ∀ (d : List (List Int)) (c : List Int) (u : Int),(∀ p ∈ cs,p.1 < u) → ∃ r,(flatC cs).foldl rstep (some ⟨d,c,u⟩) = some r ∧ r.d ++ [r.c] = d ++ [c] ++ cs.map (·.2)
 | [],_,d,c,u,_=>⟨⟨d,c,u⟩,rfl,by simp⟩
 | (w,es) :: r,hf,d,c,u,hu=>by
  cases hf with
  | cons hr hw he =>
  match es,he with
  | e :: es,_ =>
   have hwu:=hu (w,e :: es) (by simp)
   simp only at hwu
   obtain ⟨r',h1,h2⟩:=runs_on hr (d ++ [c]) ([e] ++ es) w hw
   refine ⟨r',?_,?_⟩
   ·rw [flat_cons,List.map_cons,List.cons_append,List.foldl_cons,rstep,if_neg (by simp only; omega),List.foldl_append,runs_grow]
    exact h1
   ·rw [h2]; simp
theorem runs_cls {cs : List (Int × List Int)} (hf : Fall cs) (hne : cs ≠ []) : ∃ r,runsF (flatC cs) = some r ∧ r.d ++ [r.c] = cs.map (·.2):=by
 cases hf with
 | nil=>exact absurd rfl hne
 | @cons u es r hr hu he =>
  match es,he with
  | e :: es,_ =>
   obtain ⟨r',h1,h2⟩:=runs_on hr [] ([e] ++ es) u hu
   refine ⟨r',?_,by rw [h2]; simp⟩
   unfold runsF
   rw [flat_cons,List.map_cons,List.cons_append,List.foldl_cons,rstep,List.foldl_append,runs_grow]
   exact h1
theorem runs_next {F : List (Int × Int)} {i : Nat} (h : i < F.length) : runsF (F.take (i + 1)) = rstep (runsF (F.take i)) F[i]:=by
 unfold runsF; rw [take_next h,List.foldl_append]; rfl
theorem runs_last {F : List (Int × Int)} : ∀ {i : Nat} (h : i < F.length),∃ r,runsF (F.take (i + 1)) = some r ∧ r.u = F[i].2 ∧ r.c ≠ [] ∧ r.d.length ≤ i ∧ r.c.length ≤ i + 1
 | 0,h=>by
  rw [runs_next h]
  exact ⟨_,rfl,rfl,by simp,Nat.le_refl _,Nat.le_refl _⟩
 | i + 1,h=>by
  obtain ⟨r,h1,h2,h3,h4,h5⟩:=runs_last (F:=F) (i:=i) (by omega)
  rw [runs_next h,h1,rstep]
  split
  ·rename_i e
   exact ⟨_,rfl,e.symm,by simp,by simp only; omega,by simp only [List.length_append,List.length_singleton]; omega⟩
  ·exact ⟨_,rfl,rfl,by simp,by simp only [List.length_append,List.length_singleton]; omega,by simp only [List.length_singleton]; omega⟩
def grV (d : List (List Int)) : List (List V):=d.map fun es=>[V.d (ins es)]
def clsL (S : List Blk) (n : Nat) (F : List (Int × Int)) : Option Rn → List Blk
 | none=>S ++ [.row n 2 (rdP F),.row 0 1 []]
 | some r=>S ++ [.row n 2 (rdP F),.row (r.d.length + 1) 1 (grV r.d ++ [[.own 8 (r.c.length - 1) 0 r.c.length]]),.row (r.c.length - 1) 1 (rdI r.c)]
def clsT : Option Rn → V
 | none=>.own 7 0 0 0
 | some r=>.own 7 (r.d.length + 1) 0 (r.d.length + 1)
theorem grV_rn (ρ : Nat → Nat) : ∀ d : List (List Int),rnR ρ (grV d) = grV d
 | []=>rfl
 | e :: d=>by
  have:=grV_rn ρ d
  unfold grV at this ⊢
  simp only [List.map_cons,rnR,this]
  rfl
theorem grV_len (d : List (List Int)) : (grV d).length = d.length:=by unfold grV; simp
theorem rnR_appO (ρ : Nat → Nat) : ∀ a b : List (List V),rnR ρ (a ++ b) = rnR ρ a ++ rnR ρ b
 | [],b=>rfl
 | x :: a,b=>by rw [List.cons_append,rnR,rnR,rnR_appO ρ a b]; rfl
theorem rdI_rnO (ρ : Nat → Nat) : ∀ l : List Int,rnR ρ (rdI l) = rdI l
 | []=>rfl
 | e :: d=>by
  have:=rdI_rnO ρ d
  unfold rdI at this ⊢
  simp only [List.map_cons,rnR,this]
  rfl
theorem re_eq (p : Cp) (g : List Int) (x : V) (n : Nat) (F : List (Int × Int)) (ρ : Nat → Nat) (hx : ∀ ρ,x.rn ρ = x) (h0 : ρ 0 = 0) (h1 : ρ 1 = 1) (h2 : ρ 2 = 2) {X X' : Blk} {E E' : List Blk} (hX : X = X'.rn ρ) (hE : E.map some = E'.map fun b=>some (b.rn ρ)) :
  (S6 p g x ++ (.row n 2 (rdP F) :: X :: E)).map some = (S6 p g x ++ (.row n 2 (rdP F) :: X' :: E')).map fun b=>some (b.rn ρ):=by
 have e : ∀ b ∈ S6 p g x,b.rn ρ = b:=fun b hb=>by
  unfold S6 cM at hb
  simp only [List.cons_append,List.nil_append,List.mem_cons,List.not_mem_nil,or_false] at hb
  rcases hb with rfl | rfl | rfl | rfl | rfl | rfl
  ·show Blk.cells [.d (ress p.res),.d (ins p.clubs),.map (ρ 1),.d (.str p.ru.name),I p.ru.win,I p.ru.draw,I p.ru.loss,.d (sps p.ru.order),.d (zns p.ru.zones),.map (ρ 2)] = _
   rw [h1,h2]; rfl
  ·show Blk.map (rnM ρ _) = _
   rw [rnM_esP]
  ·show Blk.map (rnM ρ _) = _
   rw [rnM_esP]
  ·show Blk.cells [.ptr (ρ 0) 0] = _
   rw [h0]
  ·rfl
  ·show Blk.cells [x.rn ρ] = _
   rw [hx]
 rw [List.map_append,List.map_append,List.map_cons,List.map_cons,List.map_cons,List.map_cons,hE,hX]
 have e2 : (Blk.row n 2 (rdP F)).rn ρ = .row n 2 (rdP F):=by
  show Blk.row n 2 (rnR ρ (rdP F)) = _
  rw [rdP_rn]
 rw [e2,List.map_congr_left fun b hb=>congrArg some (e b hb).symm]
theorem Weak.reK {k : Nat} {σ σ' : TS} (bs : List Nat) (hk : ∀ b,b < k → bs[b]? = some b) (hfr : SubF σ.fr (rnF (rnI bs σ.L.length) σ'.fr)) (hget : bs.map (fun c=>σ.L[c]?) = σ'.L.map (fun x=>some (x.rn (rnI bs σ.L.length)))) (hnd : bs.Nodup) (hlt : bs.all (fun b=>decide (b < σ.L.length)) = true)
  (hbel : belB σ'.L.length σ'.L = true) (hdfB : dfB σ'.L = true:=by rfl) (hf : belF σ'.L.length σ'.fr = true:=by rfl) (hn : σ'.n = σ.n:=by rfl) (h2 : σ.df = []:=by rfl) (h2' : σ'.df = []:=by rfl) (h3 : σ.ro = none:=by rfl) (h3' : σ'.ro = none:=by rfl) : Weak k σ σ':=by
 have hlen : bs.length = σ'.L.length:=by simpa using congrArg List.length hget
 refine Weak.part bs ⟨hnd,fun b hb=>of_decide_eq_true (List.all_eq_true.1 hlt b hb),hlen,fun b c hb=>?_,hbel,hdfB⟩ hk hfr hn hf (by rw [h2,h2']; rfl) (by rw [h2']; intro b hb; cases hb) (by rw [h3,h3']; rfl) (by rw [h3']; intro b hb; cases hb)
 have h1 : (bs.map (fun c=>σ.L[c]?))[b]? = some (σ.L[c]?):=by rw [List.getElem?_map,hb]; rfl
 rw [hget,List.getElem?_map] at h1
 cases hx : σ'.L[b]? with
 | none=>rw [hx] at h1; cases h1
 | some x=>rw [hx] at h1; simpa using h1.symm
theorem six_id : ∀ b,b < 6 → [0,1,2,3,4,5,6,7,11][b]? = some b:=by decide
theorem six_id2 : ∀ b,b < 6 → [0,1,2,3,4,5,6,7,12,8][b]? = some b:=by decide
theorem gr_last (d : List (List Int)) (a : List V) : (grV d ++ [a])[0 + d.length]? = some a:=by
 rw [Nat.zero_add,List.getElem?_append_right (by rw [grV_len]; exact Nat.le_refl _),grV_len,Nat.sub_self]; rfl
theorem gr_take (d : List (List Int)) (a : List V) : (grV d ++ [a]).take (d.length + 1) = grV d ++ [a]:=List.take_of_length_le (by rw [List.length_append,grV_len]; exact Nat.le_refl _)
theorem gr_len2 (d : List (List Int)) (a : List V) : (grV d ++ [a]).length = d.length + 1:=by rw [List.length_append,grV_len]; rfl
theorem gr_last2 (d : List (List Int)) (a b : List V) : ((grV d ++ [a]).take (d.length + 1) ++ [b])[0 + (d.length + 1)]? = some b:=by
 rw [Nat.zero_add,gr_take,List.getElem?_append_right (by rw [gr_len2]; exact Nat.le_refl _),gr_len2,Nat.sub_self]; rfl
theorem gr_set2 (d : List (List Int)) (a b c : List V) : ((grV d ++ [a]).take (d.length + 1) ++ [b]).set (0 + (d.length + 1)) c = grV d ++ [a,c]:=by
 rw [Nat.zero_add,gr_take,List.set_append_right _ _ (by rw [gr_len2]; exact Nat.le_refl _),gr_len2,Nat.sub_self,List.append_assoc]; rfl
theorem gr_snoc (d : List (List Int)) (c : List Int) : grV (d ++ [c]) = grV d ++ [[V.d (ins c)]]:=by
 unfold grV; rw [List.map_append]; rfl
theorem gr_set (d : List (List Int)) (a b : List V) : (grV d ++ [a]).set (0 + d.length) b = grV d ++ [b]:=by
 rw [Nat.zero_add,List.set_append_right _ _ (by rw [grV_len]; exact Nat.le_refl _),grV_len,Nat.sub_self]; rfl
theorem gr_cv {S : Nat → Prop} {L : List Blk} {a : V} {es : List Int} (ha : Cv S L a (ins es)) : ∀ d : List (List Int),CvLL S L (grV d ++ [[a]]) (d.map (fun es=>[ins es]) ++ [es].map fun es=>[ins es])
 | []=>.cons (.cons ha .nil) .nil
 | e :: d=>.cons (.cons (.d _) .nil) (gr_cv ha d)
theorem gr_vc {n : Nat} {L : List Blk} {x y w : V} : ∀ (d : List (List Int)) (_ : Cw (fun b=>n ≤ b) L x y) (_ : w.bel n = true) (i j : Nat) {e e' : List V} {u v : V},(grV d ++ [[x],[w]])[i]? = some e → (grV d ++ [[y]] ++ [[w]])[i]? = some e' → e[j]? = some u → e'[j]? = some v → VC n L u v
 | [],h,hw,0,0,_,_,_,_,h1,h2,h3,h4=>by cases h1; cases h2; cases h3; cases h4; exact .inr h
 | [],h,hw,0,j + 1,_,_,_,_,h1,h2,h3,h4=>by cases h1; cases h2; simp at h3
 | [],h,hw,1,0,_,_,_,_,h1,h2,h3,h4=>by cases h1; cases h2; cases h3; cases h4; exact .inl ⟨rfl,hw⟩
 | [],h,hw,1,j + 1,_,_,_,_,h1,h2,h3,h4=>by cases h1; cases h2; simp at h3
 | [],h,hw,i + 2,j,_,_,_,_,h1,h2,h3,h4=>by simp [grV] at h1
 | a :: d,h,hw,0,j,_,_,_,_,h1,h2,h3,h4=>by
  cases h1; cases h2
  rw [h3] at h4
  cases h4
  match j,h3 with
  | 0,h3=>cases h3; exact .inl ⟨rfl,rfl⟩
  | j + 1,h3=>simp at h3
 | a :: d,h,hw,i + 1,j,_,_,_,_,h1,h2,h3,h4=>gr_vc d h hw i j h1 h2 h3 h4
theorem gr_bel (n : Nat) : ∀ d : List (List Int),belR n (grV d) = true
 | []=>rfl
 | e :: d=>by
  have:=gr_bel n d
  unfold grV at this ⊢
  simp only [List.map_cons,belR,this]
  rfl
theorem belR_app {n : Nat} : ∀ {A B : List (List V)},belR n A = true → belR n B = true → belR n (A ++ B) = true
 | [],B,_,h=>h
 | a :: A,B,h,h'=>by
  simp only [List.cons_append,belR,Bool.and_eq_true] at h ⊢
  exact ⟨h.1,belR_app h.2 h'⟩
theorem classes_c (p : Cp) (g : List Int) (x : V) (hx : ∀ n,x.bel n = true) (hxr : ∀ ρ,x.rn ρ = x) (v : Int → Int) (hg : 0 < g.length) (hl : g.length ≤ 19) (hv : ∀ c,CallP C 83 [I c,.ptr 5 0,.ptr 3 0,.ptr 4 0] (S6 p g x) fun X L'=>X = I (v c) ∧ L' = S6 p g x) :
  CallP C 82 [.d (ins g),.fn 83 [.ptr 5 0,.ptr 3 0,.ptr 4 0]] (S6 p g x) fun X L'=>X = .d (.sl ((splitF v g).map fun es=>[ins es])) ∧ L' = S6 p g x:=by
 have hS:=S6_bel p g x (hx 6)
 have hml : ((g.map fun n=>[DI n]).length : Int) = (g.length : Int):=by rw [insl]
 have hvk : ∀ (c : Int) {E : List Blk} {k : V → List Blk → Prop},k (I (v c)) (S6 p g x ++ E) → CallP C 83 [I c,.ptr 5 0,.ptr 3 0,.ptr 4 0] (S6 p g x ++ E) k:=fun c E k h =>
  CallP.pre (hv c) hS rfl rfl fun X L1 hX=>by
   obtain ⟨rfl,rfl⟩:=hX
   exact ⟨rfl,hS,rfl,h⟩
 have hb7 : ∀ (m : Nat) (s : List (Int × Int)),belB 7 (S6 p g x ++ [.row m 2 (rdP s)]) = true:=fun m s=>by
  exact belB_app' (S6_bel' 7 (by decide) p g x (hx 7)) (by show (belR 7 _ && true) = true; rw [rdP_bel]; rfl)
 have hb9 : ∀ (s : List (Int × Int)) (A : List (List V)) (n1 n2 : Nat) {B : List (List V)},belR 9 A = true → belR 9 B = true → belB 9 (S6 p g x ++ [.row g.length 2 (rdP s),.row n1 1 A,.row n2 1 B]) = true:=fun s A n1 n2 B hA hB =>
  belB_app' (S6_bel' 9 (by decide) p g x (hx 9)) (by show (belR 9 _ && (belR 9 _ && (belR 9 _ && true))) = true; rw [rdP_bel,hA,hB]; rfl)
 refine callP_of C_ok Tryz.func82 rfl rfl (n:=_) rfl (zw18 rfl) (rs:=_) rfl ?_
 repeat' ((conv=>whnf); first|refine zw0 ?_|refine zw1 ?_|refine zw2 (fun h=>?_) (fun h=>?_)|refine zw3 ?_|refine zw4 (fun h=>?_) (fun h=>?_)|refine zw5 _ rfl ?_|refine zw6 rfl ?_)
 conv=>whnf
 refine LoopP.inv (fun i : Nat=>i ≤ g.length) (fun i=>⟨[(0,.d (ins g)),(1,.fn 83 [.ptr 5 0,.ptr 3 0,.ptr 4 0]),(4,.nil),(5,.own 6 i 0 i),(10,.d (ins g)),(11,I g.length),(12,I i)],Tryz.f82.ntmps,S6 p g x ++ [.row i 2 (rdP (prs v (g.take i)))],[],none⟩) (fun i=>g.length - i) 0 (zw22 _) ?_ ?_
 ·exact (Weak.nilOwn 5 2 rfl (by decide)).trans (Weak.by ⟨rfl,rfl,rfl,rfl,rfl,congrArg I hml,rfl,trivial⟩)
 intro i hi
 by_cases hi' : i < g.length
 ·have hlt : (i : Int) < (g.length : Int):=by omega
  have hw : IntKind.i64.wrap ((i : Int) + 1) = ((i + 1 : Nat) : Int):=by rw [wrap_in (by omega)]; omega
  have r1:=ins_at hi'
  have hap : ∀ {X : Prop},X → Need (i + 1 ≤ 8796093022208) X:=fun h=>zw6 (by omega) h
  have hend : (rdP (prs v (g.take i))).take i ++ [[I g[i],I (v g[i])]] = rdP (prs v (g.take (i + 1))):=by
   rw [take_next hi']
   unfold rdP prs
   rw [List.take_of_length_le (by simp; omega),List.map_append,List.map_append]; rfl
  have hvi:=@hvk (g[i]'hi')
  generalize g[i] = c at *
  repeat' ((conv=>whnf); first|refine zw8 (zw19 hlt) ?_|refine zw10 i _ rfl r1 ?_|refine CallP.cnvO (L':=S6 p g x ++ [.row i 2 (rdP (prs v (g.take i)))]) rfl rfl (hvi ?_)|refine hap ?_|simp only [Nat.beq_refl,Bool.and_self]|refine zw0 ?_|refine zw1 ?_|refine zw2 (fun h=>?_) (fun h=>?_)|refine zw3 ?_|refine zw4 (fun h=>?_) (fun h=>?_)|refine zw5 _ rfl ?_|refine zw6 rfl ?_|refine zw7 mixed rfl ?_)
  conv=>whnf
  exact ⟨i + 1,hi',by omega,Weak.to 7 (Eq.trans rfl (congrArg (fun z=>S6 p g x ++ [Blk.row (i + 1) 2 z]) hend)) (zw18 rfl) (zw18 rfl) ⟨rfl,rfl,rfl,rfl,rfl,rfl,congrArg I hw,trivial⟩ (hB:=hb7 _ _)⟩
 have hlt : ¬ (i : Int) < (g.length : Int):=by omega
 obtain rfl : i = g.length:=by omega
 rw [List.take_length]
 have hso:=fun {L : List Blk} {k : V → List Blk → Prop} h1 h=>sortS_c (L:=L) (k:=k) (b:=6) (gen:=g.length) v g hg hl h1 h
 repeat' ((conv=>whnf); first|refine zw9 (zw20 hlt) ?_|refine hso rfl ?_|simp only [Nat.beq_refl,Bool.and_self]|refine zw0 ?_|refine zw1 ?_|refine zw2 (fun h=>?_) (fun h=>?_)|refine zw3 ?_|refine zw4 (fun h=>?_) (fun h=>?_)|refine zw5 _ rfl ?_|refine zw6 rfl ?_|refine zw7 mixed rfl ?_)
 conv=>whnf
 have hFl:=flat_len v g
 have hrc:=runs_cls (cls_fall v g)
 generalize hF : flatC (clsF v g) = F at *
 refine LoopP.inv (fun i : Nat=>i ≤ g.length) (fun i=>⟨[(4,clsT (runsF (F.take i))),(5,.own 6 g.length 0 g.length),(27,.own 6 g.length 0 g.length),(28,I g.length),(29,I i)],Tryz.f82.ntmps,clsL (S6 p g x) g.length F (runsF (F.take i)),[],none⟩) (fun i=>g.length - i) 0 (zw22 _) ?_ ?_
 ·exact (Weak.nilOwn 4 1 rfl (by decide)).trans (Weak.by ⟨rfl,rfl,rfl,rfl,rfl,trivial⟩)
 intro i _
 by_cases hi' : i < g.length
 ·have hlt : (i : Int) < (g.length : Int):=by omega
  have hw : IntKind.i64.wrap ((i : Int) + 1) = ((i + 1 : Nat) : Int):=by rw [wrap_in (by omega)]; omega
  have hiF : i < F.length:=by omega
  have a1 : (rdP F)[0 + i]? = some [I F[i].1,I F[i].2]:=rdP_at (List.getElem?_eq_getElem hiF)
  have hnx:=runs_next hiF
  have hap : ∀ {X : Prop} (m : Nat),m ≤ 100 → X → Need (m + 1 ≤ 4294967296) X:=fun m hm h=>zw6 (by omega) h
  match i,hi',hlt,hw,hiF,a1,hnx with
  | 0,hi',hlt,hw,hiF,a1,hnx =>
   generalize F[0] = y at *
   rw [show runsF (F.take 0) = none from rfl,rstep] at hnx
   have hfin0 : Weak (S6 p g x).length ⟨[(4,.own 7 1 0 1),(5,.own 6 g.length 0 g.length),(27,.own 6 g.length 0 g.length),(28,I g.length),(29,I ((0 + 1 : Nat) : Int))],Tryz.f82.ntmps,S6 p g x ++ [.row g.length 2 (rdP F),.row 1 1 [[.own 11 0 0 1]],.cells [I y.1,I y.2],.row 0 1 [[.nil]],.row 0 1 [[I y.1]],.row 0 1 [[I y.1]]],[],none⟩ ⟨[(4,clsT (runsF (F.take (0 + 1)))),(5,.own 6 g.length 0 g.length),(27,.own 6 g.length 0 g.length),(28,I g.length),(29,I ((0 + 1 : Nat) : Int))],Tryz.f82.ntmps,clsL (S6 p g x) g.length F (runsF (F.take (0 + 1))),[],none⟩:=by
    rw [hnx]
    refine Weak.reK [0,1,2,3,4,5,6,7,11] six_id ⟨rfl,rfl,rfl,rfl,rfl,trivial⟩ ?_ (by decide) rfl (hb9 _ _ _ _ rfl rfl)
    show (S6 p g x ++ [Blk.row g.length 2 (rdP F),.row 1 1 [[.own 11 0 0 1]],.row 0 1 [[I y.1]]]).map some = (S6 p g x ++ [Blk.row g.length 2 (rdP F),.row 1 1 (grV [] ++ [[.own 8 0 0 1]]),.row 0 1 (rdI [y.1])]).map fun b=>some (b.rn (rnI [0,1,2,3,4,5,6,7,11] 12))
    exact re_eq p g x g.length F (rnI [0,1,2,3,4,5,6,7,11] 12) hxr rfl rfl rfl (X:=.row 1 1 [[.own 11 0 0 1]]) (E:=[.row 0 1 [[I y.1]]]) (X':=.row 1 1 (grV [] ++ [[.own 8 0 0 1]])) (E':=[.row 0 1 (rdI [y.1])]) rfl rfl
   rw [show runsF (F.take 0) = none from rfl]
   repeat' ((conv=>whnf); first|refine zw8 (zw19 hlt) ?_|refine zw8 rfl ?_|refine IdxN.intro 0 rfl hi' ?_|refine zw5 _ a1 ?_|refine hap 0 (by decide) ?_|simp only [Nat.beq_refl,Bool.and_self]|refine zw0 ?_|refine zw1 ?_|refine zw2 (fun h=>?_) (fun h=>?_)|refine zw3 ?_|refine zw4 (fun h=>?_) (fun h=>?_)|refine zw5 _ rfl ?_|refine zw6 rfl ?_|refine zw7 mixed rfl ?_)
   conv=>whnf
   refine DrawP.por mixed [] [[(0,0),(1,0),(2,1),(3,0),(4,0),(5,0),(6,3),(7,0),(8,3),(9,3),(10,0),(11,0),(12,0),(13,0),(14,0),(15,0)]] (by kernel_rfl) ?_
   repeat' ((conv=>whnf); first|exact And.intro rfl rfl|refine IdxN.intro 0 rfl (Nat.le_of_ble_eq_true rfl) ?_|refine GetE.intro _ rfl ?_|refine hap 0 (by decide) ?_|apply QCallW.intro|simp only [Nat.beq_refl,Bool.and_self]|refine Br.tt ?_|refine Br.ff ?_|refine Br.dec (fun h=>?_) (fun h=>?_)|refine Br.not ?_|refine Br.intro (fun h=>?_) (fun h=>?_)|refine GetE.intro _ rfl ?_|refine Need.intro rfl ?_|refine DrawP.go mixed rfl ?_)
   conv=>whnf
   exact ⟨1,hi',by omega,Weak.trans (σ':=⟨[(4,.own 7 1 0 1),(5,.own 6 g.length 0 g.length),(27,.own 6 g.length 0 g.length),(28,I g.length),(29,I ((0 + 1 : Nat) : Int))],Tryz.f82.ntmps,S6 p g x ++ [.row g.length 2 (rdP F),.row 1 1 [[.own 11 0 0 1]],.cells [I y.1,I y.2],.row 0 1 [[.nil]],.row 0 1 [[I y.1]],.row 0 1 [[I y.1]]],[],none⟩) (Weak.by ⟨rfl,rfl,rfl,rfl,congrArg I hw,trivial⟩) hfin0⟩
  | m + 1,hi',hlt,hw,hiF,a1,hnx =>
   obtain ⟨r,h1,h2,h3,h4,h5⟩:=runs_last (F:=F) (i:=m) (by omega)
   have a2 : (rdP F)[0 + m]? = some [I F[m].1,I F[m].2]:=rdP_at (List.getElem?_eq_getElem (by omega))
   rw [h1,rstep] at hnx
   rw [h1]
   generalize F[m + 1] = y at *
   generalize F[m] = z at *
   obtain ⟨d,c,u⟩:=r
   simp only at h2 h3 h4 h5 hnx
   have hz : ¬ ((m + 1 : Nat) : Int) = 0:=by omega
   have hwm : IntKind.i64.wrap (((m + 1 : Nat) : Int) - 1) = (m : Int):=by rw [wrap_in (by omega)]; omega
   have im : m < g.length:=by omega
   have hc1 : 1 ≤ c.length:=List.length_pos_iff.2 h3
   have hwd : IntKind.i64.wrap (((d.length + 1 : Nat) : Int) - 1) = ((d.length : Nat) : Int):=by rw [wrap_in (by omega)]; omega
   have hwd2 : IntKind.i64.wrap (((d.length + 1 + 1 : Nat) : Int) - 1) = ((d.length + 1 : Nat) : Int):=by rw [wrap_in (by omega)]; omega
   by_cases e : y.2 = u
   ·rw [if_pos e] at hnx
    have e' : y.2 = z.2:=by rw [e,h2]
    repeat' ((conv=>whnf); first|refine zw8 (zw19 hlt) ?_|refine zw9 (zw20 hz) ?_|refine IdxN.intro (m + 1) rfl hi' ?_|refine IdxN.intro m hwm im ?_|refine zw5 _ a1 ?_|refine zw5 _ a2 ?_|exact absurd e' (by assumption)|simp only [Nat.beq_refl,Bool.and_self]|refine zw0 ?_|refine zw1 ?_|refine zw2 (fun h=>?_) (fun h=>?_)|refine zw3 ?_|refine zw4 (fun h=>?_) (fun h=>?_)|refine zw5 _ rfl ?_|refine zw6 rfl ?_|refine zw7 mixed rfl ?_)
    conv=>whnf
    refine DrawP.por mixed [] [[(0,0),(1,0),(2,1),(3,0),(4,0),(5,0),(6,3),(7,0),(8,3),(9,3),(10,0),(11,0),(12,0),(13,0),(14,0),(15,0)]] (by kernel_rfl) ?_
    repeat' ((conv=>whnf); first|exact And.intro rfl rfl|refine IdxN.intro d.length hwd (Nat.lt_succ_self _) ?_|refine GetE.intro _ (gr_last _ _) ?_|refine hap c.length (by omega) ?_|apply QCallW.intro|simp only [Nat.beq_refl,Bool.and_self]|refine Br.tt ?_|refine Br.ff ?_|refine Br.dec (fun h=>?_) (fun h=>?_)|refine Br.not ?_|refine Br.intro (fun h=>?_) (fun h=>?_)|refine GetE.intro _ rfl ?_|refine Need.intro rfl ?_|refine DrawP.go mixed rfl ?_)
    conv=>whnf
    refine ⟨m + 1 + 1,by omega,by omega,?_⟩
    have hC : S6 p g x ++ [Blk.row g.length 2 (rdP F),.row (d.length + 1) 1 ((grV d ++ [[V.own 8 (c.length - 1) 0 c.length]]).set (0 + d.length) [.own 8 (c.length - 1 + 1) 0 (c.length + 1)]),.row (c.length - 1 + 1) 1 ((rdI c).take c.length ++ [[I y.1]])] = clsL (S6 p g x) g.length F (runsF (F.take (m + 1 + 1))):=by
     have e3 : (c ++ [y.1]).length = c.length + 1:=by simp
     have e4 : rdI (c ++ [y.1]) = (rdI c).take c.length ++ [[I y.1]]:=by
      unfold rdI; rw [List.take_of_length_le (by simp),List.map_append]; rfl
     rw [hnx,gr_set,clsL,e4]
     simp only [e3,show c.length - 1 + 1 = c.length from by omega,Nat.add_sub_cancel]
    rw [hnx] at hC ⊢
    refine Weak.to 9 (Eq.trans rfl hC) (zw18 rfl) (zw18 rfl) ?_ (hB:=?_)
    ·exact ⟨rfl,rfl,rfl,rfl,congrArg I hw,trivial⟩
    ·exact hb9 _ _ _ _ (belR_app (gr_bel 9 d) rfl) (rdI_bel 9 _)
   ·rw [if_neg e] at hnx
    have e' : ¬ y.2 = z.2:=by rw [← h2]; exact e
    repeat' ((conv=>whnf); first|refine zw8 (zw19 hlt) ?_|refine zw9 (zw20 hz) ?_|refine IdxN.intro (m + 1) rfl hi' ?_|refine IdxN.intro m hwm im ?_|refine zw5 _ a1 ?_|refine zw5 _ a2 ?_|exact absurd (by assumption) e'|refine hap (d.length + 1) (by omega) ?_|simp only [Nat.beq_refl,Bool.and_self]|refine zw0 ?_|refine zw1 ?_|refine zw2 (fun h=>?_) (fun h=>?_)|refine zw3 ?_|refine zw4 (fun h=>?_) (fun h=>?_)|refine zw5 _ rfl ?_|refine zw6 rfl ?_|refine zw7 mixed rfl ?_)
    conv=>whnf
    refine DrawP.por mixed [] [[(0,0),(1,0),(2,1),(3,0),(4,0),(5,0),(6,3),(7,0),(8,3),(9,3),(10,0),(11,0),(12,0),(13,0),(14,0),(15,0)]] (by kernel_rfl) ?_
    repeat' ((conv=>whnf); first|exact And.intro rfl rfl|refine IdxN.intro (d.length + 1) hwd2 (Nat.lt_succ_self _) ?_|refine GetE.intro _ (gr_last2 _ _ _) ?_|refine hap 0 (by decide) ?_|apply QCallW.intro|simp only [Nat.beq_refl,Bool.and_self]|refine Br.tt ?_|refine Br.ff ?_|refine Br.dec (fun h=>?_) (fun h=>?_)|refine Br.not ?_|refine Br.intro (fun h=>?_) (fun h=>?_)|refine GetE.intro _ rfl ?_|refine Need.intro rfl ?_|refine DrawP.go mixed rfl ?_)
    conv=>whnf
    refine ⟨m + 1 + 1,by omega,by omega,?_⟩
    have hC : S6 p g x ++ [Blk.row g.length 2 (rdP F),.row (d.length + 1 + 1) 1 (((grV d ++ [[V.own 8 (c.length - 1) 0 c.length]]).take (d.length + 1) ++ [[V.nil]]).set (0 + (d.length + 1)) [.own 12 0 0 1]),.row (c.length - 1) 1 (rdI c),.row 0 1 [[I y.1]]] = S6 p g x ++ [Blk.row g.length 2 (rdP F),.row (d.length + 1 + 1) 1 (grV d ++ [[V.own 8 (c.length - 1) 0 c.length],[.own 12 0 0 1]]),.row (c.length - 1) 1 (rdI c),.row 0 1 [[I y.1]]]:=by rw [gr_set2]
    refine Weak.trans (σ':=⟨[(4,.own 7 (d.length + 1 + 1) 0 (d.length + 1 + 1)),(5,.own 6 g.length 0 g.length),(27,.own 6 g.length 0 g.length),(28,I g.length),(29,I ((m + 1 + 1 : Nat) : Int))],Tryz.f82.ntmps,S6 p g x ++ [.row g.length 2 (rdP F),.row (d.length + 1 + 1) 1 (grV d ++ [[.own 9 (c.length - 1) 0 c.length],[.own 8 0 0 1]]),.row 0 1 (rdI [y.1]),.row (c.length - 1) 1 (rdI c)],[],none⟩) (Weak.reK [0,1,2,3,4,5,6,7,12,8] six_id2 ⟨rfl,rfl,rfl,rfl,congrArg I hw,trivial⟩ ?_ (by decide) rfl ?_) ?_
    ·refine Eq.trans (b:=(S6 p g x ++ [Blk.row g.length 2 (rdP F),.row (d.length + 1 + 1) 1 (grV d ++ [[.own 8 (c.length - 1) 0 c.length],[.own 12 0 0 1]]),.row 0 1 [[I y.1]],.row (c.length - 1) 1 (rdI c)]).map some) ?_ ?_
     ·rw [← gr_set2]; rfl
     ·refine re_eq p g x g.length F (rnI [0,1,2,3,4,5,6,7,12,8] 13) hxr rfl rfl rfl (X:=.row (d.length + 1 + 1) 1 (grV d ++ [[.own 8 (c.length - 1) 0 c.length],[.own 12 0 0 1]])) (E:=[.row 0 1 [[I y.1]],.row (c.length - 1) 1 (rdI c)]) (X':=.row (d.length + 1 + 1) 1 (grV d ++ [[.own 9 (c.length - 1) 0 c.length],[.own 8 0 0 1]])) (E':=[.row 0 1 (rdI [y.1]),.row (c.length - 1) 1 (rdI c)]) ?_ ?_
      ·show _ = Blk.row (d.length + 1 + 1) 1 (rnR _ _)
       rw [rnR_appO,grV_rn]; rfl
      ·show _ = [some (Blk.row 0 1 (rnR _ _)),some (Blk.row (c.length - 1) 1 (rnR _ _))]
       rw [rdI_rnO,rdI_rnO]; rfl
    ·exact belB_app' (S6_bel' 10 (by decide) p g x (hx 10)) (by show (belR 10 _ && (belR 10 _ && (belR 10 _ && (belR 10 _ && true)))) = true; rw [rdP_bel,belR_app (gr_bel 10 d) rfl,rdI_bel,rdI_bel]; rfl)
    ·rw [hnx]
     refine Weak.thaw 9 (zw18 rfl) (zw18 rfl) rfl ⟨.inl ⟨by simp [clsT]; rfl,rfl⟩,.inl ⟨rfl,rfl⟩,.inl ⟨rfl,rfl⟩,.inl ⟨rfl,rfl⟩,.inl ⟨rfl,rfl⟩,trivial⟩ fun b x' y' hx' hy'=>?_
     have hS9:=S6_bel' 9 (by decide) p g x (hx 9)
     match b,hx',hy' with
     | 0,hx',hy'=>cases hx'; cases hy'; exact .inl ⟨rfl,belB_get hS9 (i:=0) rfl⟩
     | 1,hx',hy'=>cases hx'; cases hy'; exact .inl ⟨rfl,belB_get hS9 (i:=1) rfl⟩
     | 2,hx',hy'=>cases hx'; cases hy'; exact .inl ⟨rfl,belB_get hS9 (i:=2) rfl⟩
     | 3,hx',hy'=>cases hx'; cases hy'; exact .inl ⟨rfl,belB_get hS9 (i:=3) rfl⟩
     | 4,hx',hy'=>cases hx'; cases hy'; exact .inl ⟨rfl,belB_get hS9 (i:=4) rfl⟩
     | 5,hx',hy'=>cases hx'; cases hy'; exact .inl ⟨rfl,belB_get hS9 (i:=5) rfl⟩
     | 6,hx',hy'=>cases hx'; cases hy'; exact .inl ⟨rfl,rdP_bel 9 _⟩
     | 7,hx',hy' =>
      have hk:=rdI_cvO (S:=fun b=>9 ≤ b) (L:=S6 p g x ++ [.row g.length 2 (rdP F),.row (d.length + 1 + 1) 1 (grV d ++ [[.own 9 (c.length - 1) 0 c.length],[.own 8 0 0 1]]),.row 0 1 (rdI [y.1]),.row (c.length - 1) 1 (rdI c)]) (b:=9) (gen:=c.length - 1) c rfl (zw21 9) rfl
      have e5 : (d ++ [c]).length = d.length + 1:=by simp
      cases hx'
      have hy2 : y' = .row ((d ++ [c]).length + 1) 1 (grV (d ++ [c]) ++ [[.own 8 0 0 1]]):=by cases hy'; rfl
      subst hy2
      rw [e5,gr_snoc]
      refine .inr (.inl ⟨_,_,_,_,rfl,rfl,by simp,fun e he=>?_,fun a b e e' u v h1 h2 h3 h4=>?_⟩)
      ·rcases List.mem_append.1 he with he | he
       ·rcases List.mem_append.1 he with he | he
        ·obtain ⟨n,_,rfl⟩:=List.mem_map.1 he; rfl
        ·rw [List.mem_singleton.1 he]; rfl
       ·rw [List.mem_singleton.1 he]; rfl
      ·exact gr_vc d (.d hk) rfl _ _ h1 h2 h3 h4
     | 8,hx',hy'=>cases hx'; cases hy'; exact .inl ⟨rfl,rfl⟩
     | b + 9,hx',hy'=>cases hy'
 have hlt : ¬ (i : Int) < (g.length : Int):=by omega
 obtain rfl : i = g.length:=by omega
 rw [List.take_of_length_le (by omega : F.length ≤ g.length)]
 obtain ⟨r,e1,e2⟩:=hrc (fun h=>by rw [h] at hF; subst hF; simp [flatC] at hFl; omega)
 rw [e1]
 repeat' ((conv=>whnf); first|refine zw9 (zw20 hlt) ?_|simp only [Nat.beq_refl,Bool.and_self]|refine zw0 ?_|refine zw1 ?_|refine zw2 (fun h=>?_) (fun h=>?_)|refine zw3 ?_|refine zw4 (fun h=>?_) (fun h=>?_)|refine zw5 _ rfl ?_|refine zw6 rfl ?_|refine zw7 mixed rfl ?_)
 conv=>whnf
 refine zw16 (L':=S6 p g x) (Y:=.d (.sl ((splitF v g).map fun es=>[ins es]))) (.d ?_) rfl hS ⟨rfl,rfl⟩
 unfold splitF
 rw [← e2]
 refine Cv.rowL (b:=7) (gen:=r.d.length + 1) (sz:=1) (els:=grV r.d ++ [[.own 8 (r.c.length - 1) 0 r.c.length]]) (zw18 rfl) rfl ?_ (by simp) (fun e he=>by obtain ⟨n,_,rfl⟩:=List.mem_map.1 he; rfl)
 rw [List.drop_zero,List.take_of_length_le (by rw [List.length_append,grV_len]; exact Nat.le_refl _),List.map_append]
 exact gr_cv (rdI_cvO r.c rfl (zw18 rfl) rfl) r.d
end Go.Proofs.YtihibgcojdfndaaGreatDoor
namespace Go.Proofs.YtihibgcojdfndaaGreatDoor
open Go.Tidy
open Sts (Res Row Worth Game rowsF addF rowC valueF inG known worthOk resOk fieldOk gameV resV ress rowV)
variable {L : List Blk} {k : V → List Blk → Prop}
theorem fnO_rn (ρ : Nat → Nat) (j : Nat) : (fnO j).rn ρ = fnO j:=by
 unfold fnO
 cases Nat.beq j 1 with
 | true=>rfl
 | false =>
  cases Nat.beq j 12 with
  | true=>rfl
  | false=>rfl
def insL (gs : List (List Int)) : D:=.sl (gs.map fun es=>[ins es])
theorem split_c (p : Cp) (hL : LCp p) (g : List Int) (hg : 0 < g.length) (hl : g.length ≤ 19) (b : Nat) (hb : 1 ≤ b ∧ b ≤ 12) : CallP C 42 [.ptr 0 0,.d (ins g),I b] (cM p) fun X L'=>X = .d (insL (splitF (valC p g b) g)) ∧ L' = cM p:=by
 have hv:=split1_c p hL g (by omega) b hb
 have hc:=classes_c p g (fnO b) (fun n=>fnO_bel n b) (fun ρ=>fnO_rn ρ b) _ hg hl hv
 clear hv
 have hvs : ∀ {L : List Blk} {k : V → List Blk → Prop},k (.agg ((List.range 13).map fnO)) L → CallP C 81 [] L k:=fun h=>values_c h
 generalize splitF (valC p g b) g = out at hc ⊢
 match b,hb,hc with
 | 1,_,hc =>
   refine callP_of C_ok Tryz.func42 rfl rfl (n:=_) rfl (zw18 rfl) (rs:=_) rfl ?_
   repeat' ((conv=>whnf); first|refine hvs ?_|refine IdxN.intro 1 rfl (show 1 < 13 by omega) ?_|refine CallP.cnvO (L':=S6 p g (fnO 1)) rfl rfl (hc.mono ?_)|simp only [Nat.beq_refl,Bool.and_self]|refine zw0 ?_|refine zw1 ?_|refine zw2 (fun h=>?_) (fun h=>?_)|refine zw3 ?_|refine zw4 (fun h=>?_) (fun h=>?_)|refine zw5 _ rfl ?_|refine zw6 rfl ?_)
   rintro X L' ⟨rfl,rfl⟩
   repeat' ((conv=>whnf); first|refine zw0 ?_|refine zw1 ?_|refine zw2 (fun h=>?_) (fun h=>?_)|refine zw3 ?_|refine zw4 (fun h=>?_) (fun h=>?_)|refine zw5 _ rfl ?_|refine zw6 rfl ?_)
   conv=>whnf
   exact FinP.drop (n:=3) rfl (zw18 rfl) rfl (cM_bel p) ⟨rfl,rfl⟩
 | 2,_,hc =>
   refine callP_of C_ok Tryz.func42 rfl rfl (n:=_) rfl (zw18 rfl) (rs:=_) rfl ?_
   repeat' ((conv=>whnf); first|refine hvs ?_|refine IdxN.intro 2 rfl (show 2 < 13 by omega) ?_|refine CallP.cnvO (L':=S6 p g (fnO 2)) rfl rfl (hc.mono ?_)|simp only [Nat.beq_refl,Bool.and_self]|refine zw0 ?_|refine zw1 ?_|refine zw2 (fun h=>?_) (fun h=>?_)|refine zw3 ?_|refine zw4 (fun h=>?_) (fun h=>?_)|refine zw5 _ rfl ?_|refine zw6 rfl ?_)
   rintro X L' ⟨rfl,rfl⟩
   repeat' ((conv=>whnf); first|refine zw0 ?_|refine zw1 ?_|refine zw2 (fun h=>?_) (fun h=>?_)|refine zw3 ?_|refine zw4 (fun h=>?_) (fun h=>?_)|refine zw5 _ rfl ?_|refine zw6 rfl ?_)
   conv=>whnf
   exact FinP.drop (n:=3) rfl (zw18 rfl) rfl (cM_bel p) ⟨rfl,rfl⟩
 | 3,_,hc =>
   refine callP_of C_ok Tryz.func42 rfl rfl (n:=_) rfl (zw18 rfl) (rs:=_) rfl ?_
   repeat' ((conv=>whnf); first|refine hvs ?_|refine IdxN.intro 3 rfl (show 3 < 13 by omega) ?_|refine CallP.cnvO (L':=S6 p g (fnO 3)) rfl rfl (hc.mono ?_)|simp only [Nat.beq_refl,Bool.and_self]|refine zw0 ?_|refine zw1 ?_|refine zw2 (fun h=>?_) (fun h=>?_)|refine zw3 ?_|refine zw4 (fun h=>?_) (fun h=>?_)|refine zw5 _ rfl ?_|refine zw6 rfl ?_)
   rintro X L' ⟨rfl,rfl⟩
   repeat' ((conv=>whnf); first|refine zw0 ?_|refine zw1 ?_|refine zw2 (fun h=>?_) (fun h=>?_)|refine zw3 ?_|refine zw4 (fun h=>?_) (fun h=>?_)|refine zw5 _ rfl ?_|refine zw6 rfl ?_)
   conv=>whnf
   exact FinP.drop (n:=3) rfl (zw18 rfl) rfl (cM_bel p) ⟨rfl,rfl⟩
 | 4,_,hc =>
   refine callP_of C_ok Tryz.func42 rfl rfl (n:=_) rfl (zw18 rfl) (rs:=_) rfl ?_
   repeat' ((conv=>whnf); first|refine hvs ?_|refine IdxN.intro 4 rfl (show 4 < 13 by omega) ?_|refine CallP.cnvO (L':=S6 p g (fnO 4)) rfl rfl (hc.mono ?_)|simp only [Nat.beq_refl,Bool.and_self]|refine zw0 ?_|refine zw1 ?_|refine zw2 (fun h=>?_) (fun h=>?_)|refine zw3 ?_|refine zw4 (fun h=>?_) (fun h=>?_)|refine zw5 _ rfl ?_|refine zw6 rfl ?_)
   rintro X L' ⟨rfl,rfl⟩
   repeat' ((conv=>whnf); first|refine zw0 ?_|refine zw1 ?_|refine zw2 (fun h=>?_) (fun h=>?_)|refine zw3 ?_|refine zw4 (fun h=>?_) (fun h=>?_)|refine zw5 _ rfl ?_|refine zw6 rfl ?_)
   conv=>whnf
   exact FinP.drop (n:=3) rfl (zw18 rfl) rfl (cM_bel p) ⟨rfl,rfl⟩
 | 5,_,hc =>
   refine callP_of C_ok Tryz.func42 rfl rfl (n:=_) rfl (zw18 rfl) (rs:=_) rfl ?_
   repeat' ((conv=>whnf); first|refine hvs ?_|refine IdxN.intro 5 rfl (show 5 < 13 by omega) ?_|refine CallP.cnvO (L':=S6 p g (fnO 5)) rfl rfl (hc.mono ?_)|simp only [Nat.beq_refl,Bool.and_self]|refine zw0 ?_|refine zw1 ?_|refine zw2 (fun h=>?_) (fun h=>?_)|refine zw3 ?_|refine zw4 (fun h=>?_) (fun h=>?_)|refine zw5 _ rfl ?_|refine zw6 rfl ?_)
   rintro X L' ⟨rfl,rfl⟩
   repeat' ((conv=>whnf); first|refine zw0 ?_|refine zw1 ?_|refine zw2 (fun h=>?_) (fun h=>?_)|refine zw3 ?_|refine zw4 (fun h=>?_) (fun h=>?_)|refine zw5 _ rfl ?_|refine zw6 rfl ?_)
   conv=>whnf
   exact FinP.drop (n:=3) rfl (zw18 rfl) rfl (cM_bel p) ⟨rfl,rfl⟩
 | 6,_,hc =>
   refine callP_of C_ok Tryz.func42 rfl rfl (n:=_) rfl (zw18 rfl) (rs:=_) rfl ?_
   repeat' ((conv=>whnf); first|refine hvs ?_|refine IdxN.intro 6 rfl (show 6 < 13 by omega) ?_|refine CallP.cnvO (L':=S6 p g (fnO 6)) rfl rfl (hc.mono ?_)|simp only [Nat.beq_refl,Bool.and_self]|refine zw0 ?_|refine zw1 ?_|refine zw2 (fun h=>?_) (fun h=>?_)|refine zw3 ?_|refine zw4 (fun h=>?_) (fun h=>?_)|refine zw5 _ rfl ?_|refine zw6 rfl ?_)
   rintro X L' ⟨rfl,rfl⟩
   repeat' ((conv=>whnf); first|refine zw0 ?_|refine zw1 ?_|refine zw2 (fun h=>?_) (fun h=>?_)|refine zw3 ?_|refine zw4 (fun h=>?_) (fun h=>?_)|refine zw5 _ rfl ?_|refine zw6 rfl ?_)
   conv=>whnf
   exact FinP.drop (n:=3) rfl (zw18 rfl) rfl (cM_bel p) ⟨rfl,rfl⟩
 | 7,_,hc =>
   refine callP_of C_ok Tryz.func42 rfl rfl (n:=_) rfl (zw18 rfl) (rs:=_) rfl ?_
   repeat' ((conv=>whnf); first|refine hvs ?_|refine IdxN.intro 7 rfl (show 7 < 13 by omega) ?_|refine CallP.cnvO (L':=S6 p g (fnO 7)) rfl rfl (hc.mono ?_)|simp only [Nat.beq_refl,Bool.and_self]|refine zw0 ?_|refine zw1 ?_|refine zw2 (fun h=>?_) (fun h=>?_)|refine zw3 ?_|refine zw4 (fun h=>?_) (fun h=>?_)|refine zw5 _ rfl ?_|refine zw6 rfl ?_)
   rintro X L' ⟨rfl,rfl⟩
   repeat' ((conv=>whnf); first|refine zw0 ?_|refine zw1 ?_|refine zw2 (fun h=>?_) (fun h=>?_)|refine zw3 ?_|refine zw4 (fun h=>?_) (fun h=>?_)|refine zw5 _ rfl ?_|refine zw6 rfl ?_)
   conv=>whnf
   exact FinP.drop (n:=3) rfl (zw18 rfl) rfl (cM_bel p) ⟨rfl,rfl⟩
 | 8,_,hc =>
   refine callP_of C_ok Tryz.func42 rfl rfl (n:=_) rfl (zw18 rfl) (rs:=_) rfl ?_
   repeat' ((conv=>whnf); first|refine hvs ?_|refine IdxN.intro 8 rfl (show 8 < 13 by omega) ?_|refine CallP.cnvO (L':=S6 p g (fnO 8)) rfl rfl (hc.mono ?_)|simp only [Nat.beq_refl,Bool.and_self]|refine zw0 ?_|refine zw1 ?_|refine zw2 (fun h=>?_) (fun h=>?_)|refine zw3 ?_|refine zw4 (fun h=>?_) (fun h=>?_)|refine zw5 _ rfl ?_|refine zw6 rfl ?_)
   rintro X L' ⟨rfl,rfl⟩
   repeat' ((conv=>whnf); first|refine zw0 ?_|refine zw1 ?_|refine zw2 (fun h=>?_) (fun h=>?_)|refine zw3 ?_|refine zw4 (fun h=>?_) (fun h=>?_)|refine zw5 _ rfl ?_|refine zw6 rfl ?_)
   conv=>whnf
   exact FinP.drop (n:=3) rfl (zw18 rfl) rfl (cM_bel p) ⟨rfl,rfl⟩
 | 9,_,hc =>
   refine callP_of C_ok Tryz.func42 rfl rfl (n:=_) rfl (zw18 rfl) (rs:=_) rfl ?_
   repeat' ((conv=>whnf); first|refine hvs ?_|refine IdxN.intro 9 rfl (show 9 < 13 by omega) ?_|refine CallP.cnvO (L':=S6 p g (fnO 9)) rfl rfl (hc.mono ?_)|simp only [Nat.beq_refl,Bool.and_self]|refine zw0 ?_|refine zw1 ?_|refine zw2 (fun h=>?_) (fun h=>?_)|refine zw3 ?_|refine zw4 (fun h=>?_) (fun h=>?_)|refine zw5 _ rfl ?_|refine zw6 rfl ?_)
   rintro X L' ⟨rfl,rfl⟩
   repeat' ((conv=>whnf); first|refine zw0 ?_|refine zw1 ?_|refine zw2 (fun h=>?_) (fun h=>?_)|refine zw3 ?_|refine zw4 (fun h=>?_) (fun h=>?_)|refine zw5 _ rfl ?_|refine zw6 rfl ?_)
   conv=>whnf
   exact FinP.drop (n:=3) rfl (zw18 rfl) rfl (cM_bel p) ⟨rfl,rfl⟩
 | 10,_,hc =>
   refine callP_of C_ok Tryz.func42 rfl rfl (n:=_) rfl (zw18 rfl) (rs:=_) rfl ?_
   repeat' ((conv=>whnf); first|refine hvs ?_|refine IdxN.intro 10 rfl (show 10 < 13 by omega) ?_|refine CallP.cnvO (L':=S6 p g (fnO 10)) rfl rfl (hc.mono ?_)|simp only [Nat.beq_refl,Bool.and_self]|refine zw0 ?_|refine zw1 ?_|refine zw2 (fun h=>?_) (fun h=>?_)|refine zw3 ?_|refine zw4 (fun h=>?_) (fun h=>?_)|refine zw5 _ rfl ?_|refine zw6 rfl ?_)
   rintro X L' ⟨rfl,rfl⟩
   repeat' ((conv=>whnf); first|refine zw0 ?_|refine zw1 ?_|refine zw2 (fun h=>?_) (fun h=>?_)|refine zw3 ?_|refine zw4 (fun h=>?_) (fun h=>?_)|refine zw5 _ rfl ?_|refine zw6 rfl ?_)
   conv=>whnf
   exact FinP.drop (n:=3) rfl (zw18 rfl) rfl (cM_bel p) ⟨rfl,rfl⟩
 | 11,_,hc =>
   refine callP_of C_ok Tryz.func42 rfl rfl (n:=_) rfl (zw18 rfl) (rs:=_) rfl ?_
   repeat' ((conv=>whnf); first|refine hvs ?_|refine IdxN.intro 11 rfl (show 11 < 13 by omega) ?_|refine CallP.cnvO (L':=S6 p g (fnO 11)) rfl rfl (hc.mono ?_)|simp only [Nat.beq_refl,Bool.and_self]|refine zw0 ?_|refine zw1 ?_|refine zw2 (fun h=>?_) (fun h=>?_)|refine zw3 ?_|refine zw4 (fun h=>?_) (fun h=>?_)|refine zw5 _ rfl ?_|refine zw6 rfl ?_)
   rintro X L' ⟨rfl,rfl⟩
   repeat' ((conv=>whnf); first|refine zw0 ?_|refine zw1 ?_|refine zw2 (fun h=>?_) (fun h=>?_)|refine zw3 ?_|refine zw4 (fun h=>?_) (fun h=>?_)|refine zw5 _ rfl ?_|refine zw6 rfl ?_)
   conv=>whnf
   exact FinP.drop (n:=3) rfl (zw18 rfl) rfl (cM_bel p) ⟨rfl,rfl⟩
 | 12,_,hc =>
   refine callP_of C_ok Tryz.func42 rfl rfl (n:=_) rfl (zw18 rfl) (rs:=_) rfl ?_
   repeat' ((conv=>whnf); first|refine hvs ?_|refine IdxN.intro 12 rfl (show 12 < 13 by omega) ?_|refine CallP.cnvO (L':=S6 p g (fnO 12)) rfl rfl (hc.mono ?_)|simp only [Nat.beq_refl,Bool.and_self]|refine zw0 ?_|refine zw1 ?_|refine zw2 (fun h=>?_) (fun h=>?_)|refine zw3 ?_|refine zw4 (fun h=>?_) (fun h=>?_)|refine zw5 _ rfl ?_|refine zw6 rfl ?_)
   rintro X L' ⟨rfl,rfl⟩
   repeat' ((conv=>whnf); first|refine zw0 ?_|refine zw1 ?_|refine zw2 (fun h=>?_) (fun h=>?_)|refine zw3 ?_|refine zw4 (fun h=>?_) (fun h=>?_)|refine zw5 _ rfl ?_|refine zw6 rfl ?_)
   conv=>whnf
   exact FinP.drop (n:=3) rfl (zw18 rfl) rfl (cM_bel p) ⟨rfl,rfl⟩
 | 0,h,_=>exact absurd h.1 (by decide)
 | b + 13,h,_=>exact absurd h.2 (by omega)
end Go.Proofs.YtihibgcojdfndaaGreatDoor
namespace Go.Proofs.YtihibgcojdfndaaGreatDoor
open Go.Tidy
open Sts (Res Row Worth Game rowsF addF rowC valueF inG known worthOk resOk fieldOk gameV resV ress rowV)
variable {L : List Blk} {k : V → List Blk → Prop}
theorem open_pos {p : Cp} {ok : Int → Bool} (h : openE p 1 ok = 0) : 0 < p.clubs.length:=by
 unfold openE at h
 by_cases hf : fieldOk p.clubs 1 = false
 ·rw [if_pos hf] at h; cases h
 ·simp only [Bool.not_eq_false,fieldOk,Bool.and_eq_true,decide_eq_true_eq] at hf
  omega
noncomputable def splitX (p : Cp) (b : Int) : V :=
 if openE p 1 (fun _=>true) ≠ 0 then .tup [.d (.sl []),I (openE p 1 fun _=>true)]
 else if b < 1 ∨ 12 < b then .tup [.d (.sl []),I 1]
 else .tup [.d (insL (splitF (valC p p.clubs b) p.clubs)),I 0]
theorem open_1 (p : Cp) (n : Nat) (hL : LCp p) (f : FuncId) (caps : List D) (ok : Int → Bool) (hp : ∀ n (L : List Blk) (k : V → List Blk → Prop),k (B (ok n)) L → CallP C f ([I n] ++ caps.map .d) L k) {k : V → List Blk → Prop}
  (h1 : openE p n ok = 0 → k (.tup [.ptr L.length 0,I 0]) (L ++ rnB (rnI [] L.length) (cM p))) (h2 : openE p n ok ≠ 0 → k (.tup [.d .nilptr,I (openE p n ok)]) L) :
  CallP C 35 [.d (ress p.res),.d (ins p.clubs),I n,.d (.fn f caps),.d (ins p.off),.agg (p.ru.cells.map .d),.d (ins p.lots)] L k:=by
 refine CallP.embed (L:=L) [] (open_c p n hL f caps ok hp) ⟨by simp,fun c hc=>by simp at hc,rfl,fun c d hc=>by simp at hc,rfl,rfl⟩ rfl ?_
 rintro X L1 (⟨h,rfl,rfl⟩ | ⟨h,rfl,rfl⟩)
 ·have e : (V.tup [.ptr 0 0,I 0]).rn (rnI [] L.length) = .tup [.ptr L.length 0,I 0]:=by
   show V.tup [.ptr (rnI [] L.length 0) 0,I 0] = _
   simp [rnI]
  rw [e]
  exact h1 h
 ·have:=h2 h
  show k (.tup [.d .nilptr,I (openE p n ok)]) (L ++ [])
  rw [List.append_nil]; exact this
def cM1 (p : Cp) : List Blk:=[.cells [.d (ress p.res),.d (ins p.clubs),.map 2,.d (.str p.ru.name),I p.ru.win,I p.ru.draw,I p.ru.loss,.d (sps p.ru.order),.d (zns p.ru.zones),.map 3],.map (esP (offTab p.clubs p.off p.clubs.length)),.map (esP (lotTab p.clubs p.lots p.lots.length))]
theorem cM_up (p : Cp) (ρ : Nat → Nat) (h1 : ρ 1 = 2) (h2 : ρ 2 = 3) : rnB ρ (cM p) = cM1 p:=by
 show [Blk.cells [.d (ress p.res),.d (ins p.clubs),.map (ρ 1),.d (.str p.ru.name),I p.ru.win,I p.ru.draw,I p.ru.loss,.d (sps p.ru.order),.d (zns p.ru.zones),.map (ρ 2)],.map (rnM ρ _),.map (rnM ρ _)] = _
 rw [h1,h2,rnM_esP,rnM_esP]; rfl
theorem split_1 (p : Cp) (hL : LCp p) (g : List Int) (hg : 0 < g.length) (hl : g.length ≤ 19) (b : Nat) (hb : 1 ≤ b ∧ b ≤ 12) {y : Blk} (h : k (.d (insL (splitF (valC p g b) g))) ([y] ++ cM1 p)) : CallP C 42 [.ptr 1 0,.d (ins g),I b] ([y] ++ cM1 p) k:=by
 refine CallP.embed (L:=[y] ++ cM1 p) [1,2,3] (split_c p hL g hg hl b hb) ⟨by decide,fun c hc=>?_,rfl,fun c d hc=>?_,cM_bel p,rfl⟩ rfl ?_
 ·simp only [List.mem_cons,List.not_mem_nil,or_false] at hc
  show c < 4; omega
 ·have e:=cM_up p (rnI [1,2,3] ([y] ++ cM1 p).length) rfl rfl
  have e2 : ∀ (i : Nat),(cM1 p)[i]? = ((cM p)[i]?).map (Blk.rn (rnI [1,2,3] ([y] ++ cM1 p).length)):=fun i=>by
   rw [← List.getElem?_map,← e]; rfl
  match c,hc with
  | 0,hc=>cases hc; exact e2 0
  | 1,hc=>cases hc; exact e2 1
  | 2,hc=>cases hc; exact e2 2
  | c + 3,hc=>simp at hc
 ·rintro X L1 ⟨rfl,rfl⟩
  rw [cM_up p _ rfl rfl]
  exact h
theorem Split_0 (p : Cp) (hL : LCp p) (h19 : p.clubs.length ≤ 19) (b : Int) : CallP C 17 [.d (ress p.res),.d (ins p.clubs),.d (ins p.off),I b,.agg (p.ru.cells.map .d),.d (ins p.lots)] [] fun X L'=>X = splitX p b ∧ L' = []:=by
 have ho:=fun {L : List Blk} {k : V → List Blk → Prop} h1 h2=>open_1 (L:=L) p 1 hL 41 [] (fun _=>true) (fun n L k h=>anyClub_c n h) (k:=k) h1 h2
 have ho' : ∀ {L : List Blk} {k : V → List Blk → Prop},(openE p 1 (fun _=>true) = 0 → k (.tup [.ptr L.length 0,I 0]) (L ++ rnB (rnI [] L.length) (cM p))) → (openE p 1 (fun _=>true) ≠ 0 → k (.tup [.d .nilptr,I (openE p 1 fun _=>true)]) L) →
   CallP C 35 [.d (ress p.res),.d (ins p.clubs),I ((1 : Nat) : Int),.fn 41 [],.d (ins p.off),.agg (p.ru.cells.map .d),.d (ins p.lots)] L k:=fun h1 h2 =>
  CallP.freeze (dargs:=[.d (ress p.res),.d (ins p.clubs),I ((1 : Nat) : Int),.d (.fn 41 []),.d (ins p.off),.agg (p.ru.cells.map .d),.d (ins p.lots)]) [] rfl rfl (.keep (.keep (.keep (.cv (.d (Cv.fnL .nil)) (.keep (.keep (.keep .nil))))))) (ho h1 h2)
 refine callP_of C_ok Tryz.func17 rfl rfl (n:=_) rfl (zw18 rfl) (rs:=_) rfl ?_
 repeat' ((conv=>whnf); first|refine ho' ?_ ?_|simp only [Nat.beq_refl,Bool.and_self]|refine zw0 ?_|refine zw1 ?_|refine zw2 (fun h=>?_) (fun h=>?_)|refine zw3 ?_|refine zw4 (fun h=>?_) (fun h=>?_)|refine zw5 _ rfl ?_|refine zw6 rfl ?_)
 ·intro h0
  rw [cM_up p _ rfl rfl]
  have hpos:=open_pos h0
  by_cases hb : b < 1 ∨ 12 < b
  ·have hX : splitX p b = .tup [.d (.sl []),I 1]:=by unfold splitX; rw [if_neg (fun h=>h h0),if_pos hb]
   rw [hX]
   repeat' ((conv=>whnf); first|refine zw9 rfl ?_|simp only [Nat.beq_refl,Bool.and_self]|refine zw0 ?_|refine zw1 ?_|refine zw2 (fun h=>?_) (fun h=>?_)|refine zw3 ?_|refine zw4 (fun h=>?_) (fun h=>?_)|refine zw5 _ rfl ?_|refine zw6 rfl ?_)
   all_goals first | exact FinP.data (L':=[]) (.pair (.d .nil) (.d (.d _))) rfl rfl ⟨rfl,rfl⟩ | exact FinP.data (L':=[]) (.pair (.d (.d _)) (.d (.d _))) rfl rfl ⟨rfl,rfl⟩ | (exfalso; omega) | exact (h0 (by assumption)).elim | exact FinP.drop (n:=0) rfl (zw21 0) rfl rfl ⟨rfl,rfl⟩
  ·have hX : splitX p b = .tup [.d (insL (splitF (valC p p.clubs b) p.clubs)),I 0]:=by unfold splitX; rw [if_neg (fun h=>h h0),if_neg hb]
   rw [hX]
   have hbn : (b.toNat : Int) = b:=by omega
   have hs:=fun {y : Blk} {k : V → List Blk → Prop} h=>split_1 (k:=k) (y:=y) p hL p.clubs hpos h19 b.toNat (by omega) h
   rw [hbn] at hs
   repeat' ((conv=>whnf); first|refine zw9 rfl ?_|refine hs ?_|simp only [Nat.beq_refl,Bool.and_self]|refine zw0 ?_|refine zw1 ?_|refine zw2 (fun h=>?_) (fun h=>?_)|refine zw3 ?_|refine zw4 (fun h=>?_) (fun h=>?_)|refine zw5 _ rfl ?_|refine zw6 rfl ?_)
   all_goals first | exact FinP.data (L':=[]) (.pair (.d .nil) (.d (.d _))) rfl rfl ⟨rfl,rfl⟩ | exact FinP.data (L':=[]) (.pair (.d (.d _)) (.d (.d _))) rfl rfl ⟨rfl,rfl⟩ | (exfalso; omega) | exact (h0 (by assumption)).elim | exact FinP.drop (n:=0) rfl (zw21 0) rfl rfl ⟨rfl,rfl⟩
 ·intro h0
  have hX : splitX p b = .tup [.d (.sl []),I (openE p 1 fun _=>true)]:=by unfold splitX; rw [if_pos h0]
  rw [hX]
  repeat' ((conv=>whnf); first|refine zw8 (zw19 h0) ?_|simp only [Nat.beq_refl,Bool.and_self]|refine zw0 ?_|refine zw1 ?_|refine zw2 (fun h=>?_) (fun h=>?_)|refine zw3 ?_|refine zw4 (fun h=>?_) (fun h=>?_)|refine zw5 _ rfl ?_|refine zw6 rfl ?_)
  all_goals first | exact FinP.data (L':=[]) (.pair (.d .nil) (.d (.d _))) rfl rfl ⟨rfl,rfl⟩ | exact FinP.data (L':=[]) (.pair (.d (.d _)) (.d (.d _))) rfl rfl ⟨rfl,rfl⟩ | (exfalso; omega) | exact (h0 (by assumption)).elim | exact FinP.drop (n:=0) rfl (zw21 0) rfl rfl ⟨rfl,rfl⟩
end Go.Proofs.YtihibgcojdfndaaGreatDoor
namespace Go.Proofs.YtihibgcojdfndaaGreatDoor
open Go.Tidy
open Sts (Res Row Worth Game rowsF addF rowC valueF inG known worthOk resOk fieldOk gameV resV ress rowV)
variable {L : List Blk} {k : V → List Blk → Prop}
def playStep (es : List (Int × Int)) (y : Res) : List (Int × Int) :=
 pIns (pIns es y.game.home (valP es y.game.home + 1)) y.game.away (valP (pIns es y.game.home (valP es y.game.home + 1)) y.game.away + 1)
def playT (l : List Res) : List (Int × Int):=l.foldl playStep []
theorem playT_next {l : List Res} {i : Nat} (h : i < l.length) : playT (l.take (i + 1)) = playStep (playT (l.take i)) l[i]:=by
 unfold playT
 rw [take_next h,List.foldl_append]; rfl
theorem playsN_next {l : List Res} {c : Int} {i : Nat} (h : i < l.length) : playsN (l.take (i + 1)) c = playsN (l.take i) c + (if hasC c l[i] then 1 else 0):=by
 unfold playsN
 rw [take_next h,List.filter_append,List.length_append]
 by_cases hh : hasC c l[i] = true
 ·rw [if_pos hh,List.filter_cons_of_pos hh]; simp
 ·rw [if_neg hh,List.filter_cons_of_neg hh]; simp
theorem playsN_le (l : List Res) (c : Int) : 0 ≤ playsN l c ∧ playsN l c ≤ l.length:=by
 unfold playsN
 have:=List.length_filter_le (hasC c) l
 omega
theorem playT_val {l : List Res} (h : ∀ y ∈ l,y.game.home ≠ y.game.away) (c : Int) : ∀ i,i ≤ l.length → valP (playT (l.take i)) c = playsN (l.take i) c
 | 0,_=>by simp [playT,playsN,valP,keysP]
 | i + 1,hi=>by
  have hi' : i < l.length:=by omega
  have hne:=h _ (List.getElem_mem hi')
  rw [playT_next hi',playsN_next hi',playStep,valP_ins,valP_ins,valP_ins]
  have ih:=playT_val h c i (by omega)
  have iha:=playT_val h l[i].game.away i (by omega)
  have ihh:=playT_val h l[i].game.home i (by omega)
  unfold hasC
  by_cases h1 : c = l[i].game.away
  ·subst h1
   rw [if_pos rfl,if_neg (Ne.symm hne),iha]; simp
  ·rw [if_neg h1]
   by_cases h2 : c = l[i].game.home
   ·subst h2
    rw [if_pos rfl,ihh]; simp
   ·rw [if_neg h2,ih,decide_eq_false (fun e=>h2 e.symm),decide_eq_false (fun e=>h1 e.symm)]; simp
end Go.Proofs.YtihibgcojdfndaaGreatDoor
namespace Go.Proofs.YtihibgcojdfndaaGreatDoor
open Go.Tidy
open Sts (Res Row Worth Game rowsF addF rowC valueF inG known worthOk resOk fieldOk gameV resV ress rowV)
variable {L : List Blk} {k : V → List Blk → Prop}
theorem MapF.cnv {t : TK} {A B : List (V × V)} {c : V} {q : Option (Nat × V) → Prop} (e : A = B) (h : MapF t B c q) : MapF t A c q:=by subst e; exact h
theorem tab_set {es : List (Int × Int)} {c n : Int} (h : c ∈ keysP es) (hn : IntKind.i64.wrap (valP es c + 1) = n) : (esP es).set ((keysP es).idxOf c) (I c,I (IntKind.i64.wrap (valP es c + 1))) = esP (pIns es c n):=by
 rw [hn,esP_set]; unfold pIns; rw [if_pos h]
theorem tab_new {es : List (Int × Int)} {c n : Int} (h : c ∉ keysP es) (hn : n = 1) : esP es ++ [(I c,I (IntKind.i64.wrap (0 + 1)))] = esP (pIns es c n):=by
 unfold pIns; rw [if_neg h,hn,← esP_snoc]; rfl
theorem valP_not {es : List (Int × Int)} {c : Int} (h : c ∉ keysP es) : valP es c = 0:=by unfold valP; rw [if_neg h]
theorem env19_0 (l : List Res) (clubs : List Int) (n : Int) (fin : Bool) (hl : l.length ≤ 1073741824) (hc : clubs.length ≤ 1073741824) (hne : ∀ y ∈ l,y.game.home ≠ y.game.away) : CallP C 54 [.d (ress l),.d (ins clubs),I n,B fin] [] fun X L'=>X = enV (envO l clubs n fin) ∧ L' = []:=by
 have hml : ((l.map Res.cells).length : Int) = (l.length : Int):=by rw [List.length_map]
 refine callP_of C_ok Tryz.func54 rfl rfl (n:=_) rfl (zw18 rfl) (rs:=_) rfl ?_
 repeat' ((conv=>whnf); first|refine zw0 ?_|refine zw1 ?_|refine zw2 (fun h=>?_) (fun h=>?_)|refine zw3 ?_|refine zw4 (fun h=>?_) (fun h=>?_)|refine zw5 _ rfl ?_|refine zw6 rfl ?_)
 conv=>whnf
 refine LoopP.inv (fun i : Nat=>i ≤ l.length) (fun i=>⟨[(1,.d (ins clubs)),(2,I n),(3,B fin),(8,.ptr 0 0),(9,.map 1),(16,.d (ress l)),(17,I l.length),(18,I i)],Tryz.f54.ntmps,[.cells [I 0,I 0,I 0,I 0],.map (esP (playT (l.take i)))],[],none⟩) (fun i=>l.length - i) 0 (zw22 _) ?_ ?_
 ·exact Weak.by ⟨rfl,rfl,rfl,rfl,rfl,rfl,congrArg I hml,rfl,trivial⟩
 intro i hi
 by_cases hi' : i < l.length
 ·have hlt : (i : Int) < (l.length : Int):=by omega
  have hw : IntKind.i64.wrap ((i : Int) + 1) = ((i + 1 : Nat) : Int):=by rw [wrap_in (by omega)]; omega
  have r1 : (l.map Res.cells)[i]? = some l[i].cells:=by rw [List.getElem?_map,List.getElem?_eq_getElem hi']; rfl
  have hnx:=playT_next hi'
  have hyn:=hne _ (List.getElem_mem hi')
  have hvb : ∀ c,0 ≤ valP (playT (l.take i)) c ∧ valP (playT (l.take i)) c ≤ l.length:=fun c=>by
   rw [playT_val hne c i hi]
   have:=playsN_le (l.take i) c
   rw [List.length_take] at this
   omega
  generalize playT (l.take i) = es at *
  generalize l[i] = y at *
  have w1 : IntKind.i64.wrap (valP es y.game.home + 1) = valP es y.game.home + 1:=wrap_in (by have:=hvb y.game.home; omega)
  have v2 : valP (pIns es y.game.home (valP es y.game.home + 1)) y.game.away = valP es y.game.away:=by rw [valP_ins,if_neg (Ne.symm hyn)]
  have w2 : IntKind.i64.wrap (valP (pIns es y.game.home (valP es y.game.home + 1)) y.game.away + 1) = valP (pIns es y.game.home (valP es y.game.home + 1)) y.game.away + 1:=by rw [v2]; exact wrap_in (by have:=hvb y.game.away; omega)
  have hfin : ∀ {A : List (V × V)},A = esP (playStep es y) → [Blk.cells [I 0,I 0,I 0,I 0],.map A] = [.cells [I 0,I 0,I 0,I 0],.map (esP (playT (l.take (i + 1))))]:=fun e=>by rw [hnx,e]
  unfold playStep at hfin
  by_cases d4 : y.game.home ∈ keysP es
  ·have m2 : ∀ {q : Option (Nat × V) → Prop},q (some ((keysP es).idxOf y.game.home,I (valP es y.game.home))) → MapF (.int .i64) (esP es) (I y.game.home) q:=fun h=>MapF.has d4 h
   have e1:=tab_set d4 w1
   generalize hes : pIns es y.game.home (valP es y.game.home + 1) = es1 at *
   by_cases d5 : y.game.away ∈ keysP es1
   ·have m3 : ∀ {q : Option (Nat × V) → Prop},q (some ((keysP es1).idxOf y.game.away,I (valP es1 y.game.away))) → MapF (.int .i64) (esP es1) (I y.game.away) q:=fun h=>MapF.has d5 h
    have e2:=tab_set d5 w2
    repeat' ((conv=>whnf); first|refine zw8 (zw19 hlt) ?_|refine zw10 i _ rfl r1 ?_|refine m2 ?_|refine MapF.cnv e1 (m3 ?_)|refine zw0 ?_|refine zw1 ?_|refine zw2 (fun h=>?_) (fun h=>?_)|refine zw3 ?_|refine zw4 (fun h=>?_) (fun h=>?_)|refine zw5 _ rfl ?_|refine zw6 rfl ?_|refine zw7 mixed rfl ?_)
    conv=>whnf
    exact ⟨i + 1,hi',by omega,Weak.to 2 (Eq.trans rfl (hfin (Eq.trans (congrArg (fun z=>z.set ((keysP es1).idxOf y.game.away) (I y.game.away,I (IntKind.i64.wrap (valP es1 y.game.away + 1)))) e1) e2))) (Nat.zero_le _) (Nat.le_of_ble_eq_true rfl) ⟨rfl,rfl,rfl,rfl,rfl,rfl,rfl,congrArg I hw,trivial⟩ (hB:=by show (true && (belM 2 _ && true)) = true; rw [esP_bel]; rfl)⟩
   ·have m3 : ∀ {q : Option (Nat × V) → Prop},q none → MapF (.int .i64) (esP es1) (I y.game.away) q:=fun h=>MapF.hasnt d5 h
    have e2:=tab_new d5 (show valP es1 y.game.away + 1 = 1 by rw [valP_not d5]; rfl)
    repeat' ((conv=>whnf); first|refine zw8 (zw19 hlt) ?_|refine zw10 i _ rfl r1 ?_|refine m2 ?_|refine MapF.cnv e1 (m3 ?_)|refine zw0 ?_|refine zw1 ?_|refine zw2 (fun h=>?_) (fun h=>?_)|refine zw3 ?_|refine zw4 (fun h=>?_) (fun h=>?_)|refine zw5 _ rfl ?_|refine zw6 rfl ?_|refine zw7 mixed rfl ?_)
    conv=>whnf
    exact ⟨i + 1,hi',by omega,Weak.to 2 (Eq.trans rfl (hfin (Eq.trans (congrArg (fun z=>z ++ [(I y.game.away,I (IntKind.i64.wrap (0 + 1)))]) e1) e2))) (Nat.zero_le _) (Nat.le_of_ble_eq_true rfl) ⟨rfl,rfl,rfl,rfl,rfl,rfl,rfl,congrArg I hw,trivial⟩ (hB:=by show (true && (belM 2 _ && true)) = true; rw [esP_bel]; rfl)⟩
  ·have m2 : ∀ {q : Option (Nat × V) → Prop},q none → MapF (.int .i64) (esP es) (I y.game.home) q:=fun h=>MapF.hasnt d4 h
   have e1:=tab_new d4 (show valP es y.game.home + 1 = 1 by rw [valP_not d4]; rfl)
   generalize hes : pIns es y.game.home (valP es y.game.home + 1) = es1 at *
   by_cases d5 : y.game.away ∈ keysP es1
   ·have m3 : ∀ {q : Option (Nat × V) → Prop},q (some ((keysP es1).idxOf y.game.away,I (valP es1 y.game.away))) → MapF (.int .i64) (esP es1) (I y.game.away) q:=fun h=>MapF.has d5 h
    have e2:=tab_set d5 w2
    repeat' ((conv=>whnf); first|refine zw8 (zw19 hlt) ?_|refine zw10 i _ rfl r1 ?_|refine m2 ?_|refine MapF.cnv e1 (m3 ?_)|refine zw0 ?_|refine zw1 ?_|refine zw2 (fun h=>?_) (fun h=>?_)|refine zw3 ?_|refine zw4 (fun h=>?_) (fun h=>?_)|refine zw5 _ rfl ?_|refine zw6 rfl ?_|refine zw7 mixed rfl ?_)
    conv=>whnf
    exact ⟨i + 1,hi',by omega,Weak.to 2 (Eq.trans rfl (hfin (Eq.trans (congrArg (fun z=>z.set ((keysP es1).idxOf y.game.away) (I y.game.away,I (IntKind.i64.wrap (valP es1 y.game.away + 1)))) e1) e2))) (Nat.zero_le _) (Nat.le_of_ble_eq_true rfl) ⟨rfl,rfl,rfl,rfl,rfl,rfl,rfl,congrArg I hw,trivial⟩ (hB:=by show (true && (belM 2 _ && true)) = true; rw [esP_bel]; rfl)⟩
   ·have m3 : ∀ {q : Option (Nat × V) → Prop},q none → MapF (.int .i64) (esP es1) (I y.game.away) q:=fun h=>MapF.hasnt d5 h
    have e2:=tab_new d5 (show valP es1 y.game.away + 1 = 1 by rw [valP_not d5]; rfl)
    repeat' ((conv=>whnf); first|refine zw8 (zw19 hlt) ?_|refine zw10 i _ rfl r1 ?_|refine m2 ?_|refine MapF.cnv e1 (m3 ?_)|refine zw0 ?_|refine zw1 ?_|refine zw2 (fun h=>?_) (fun h=>?_)|refine zw3 ?_|refine zw4 (fun h=>?_) (fun h=>?_)|refine zw5 _ rfl ?_|refine zw6 rfl ?_|refine zw7 mixed rfl ?_)
    conv=>whnf
    exact ⟨i + 1,hi',by omega,Weak.to 2 (Eq.trans rfl (hfin (Eq.trans (congrArg (fun z=>z ++ [(I y.game.away,I (IntKind.i64.wrap (0 + 1)))]) e1) e2))) (Nat.zero_le _) (Nat.le_of_ble_eq_true rfl) ⟨rfl,rfl,rfl,rfl,rfl,rfl,rfl,congrArg I hw,trivial⟩ (hB:=by show (true && (belM 2 _ && true)) = true; rw [esP_bel]; rfl)⟩
 have hlt : ¬ (i : Int) < (l.length : Int):=by omega
 obtain rfl : i = l.length:=by omega
 rw [List.take_length]
 have hmc : ((clubs.map fun n=>[DI n]).length : Int) = (clubs.length : Int):=by rw [List.length_map]
 have hv : ∀ c,valP (playT l) c = playsN l c:=fun c=>by
  have:=playT_val hne c l.length (zw21 _)
  rwa [List.take_length] at this
 generalize playT l = es at *
 repeat' ((conv=>whnf); first|refine zw9 (zw20 hlt) ?_|refine zw0 ?_|refine zw1 ?_|refine zw2 (fun h=>?_) (fun h=>?_)|refine zw3 ?_|refine zw4 (fun h=>?_) (fun h=>?_)|refine zw5 _ rfl ?_|refine zw6 rfl ?_|refine zw7 mixed rfl ?_)
 conv=>whnf
 refine LoopP.inv (fun i : Nat=>i ≤ clubs.length) (fun i=>⟨[(3,B fin),(8,.ptr 0 0),(9,.map 1),(12,.ptr 2 0),(39,.d (ins clubs)),(40,I clubs.length),(41,I i)],Tryz.f54.ntmps,[.cells [I 0,I 0,I 0,I 0],.map (esP es),.cells [I n,I (roundF l (clubs.take i)),I 0,I clubs.length]],[],none⟩) (fun i=>clubs.length - i) 0 (zw22 _) ?_ ?_
 ·exact Weak.by (hL:=by rw [← hmc]; rfl) ⟨rfl,rfl,rfl,rfl,rfl,congrArg I hmc,rfl,trivial⟩
 intro i hi
 by_cases hi' : i < clubs.length
 ·have hlt : (i : Int) < (clubs.length : Int):=by omega
  have hw : IntKind.i64.wrap ((i : Int) + 1) = ((i + 1 : Nat) : Int):=by rw [wrap_in (by omega)]; omega
  have r1:=ins_at hi'
  have hro : roundF l (clubs.take (i + 1)) = min (roundF l (clubs.take i)) (valP es clubs[i]):=by
   unfold roundF; rw [take_next hi',List.foldl_append,hv]; rfl
  generalize roundF l (clubs.take i) = r at *
  have hmin : ∀ a b : Int,min a b = if b < a then b else a:=fun a b=>by split <;> omega
  rw [hmin] at hro
  generalize clubs[i] = c at *
  by_cases d4 : c ∈ keysP es
  ·have m2 : ∀ {q : Option (Nat × V) → Prop},q (some ((keysP es).idxOf c,I (valP es c))) → MapF (.int .i64) (esP es) (I c) q:=fun h=>MapF.has d4 h
   repeat' ((conv=>whnf); first|refine zw8 (zw19 hlt) ?_|refine zw10 i _ rfl r1 ?_|refine m2 ?_|refine zw0 ?_|refine zw1 ?_|refine zw2 (fun h=>?_) (fun h=>?_)|refine zw3 ?_|refine zw4 (fun h=>?_) (fun h=>?_)|refine zw5 _ rfl ?_|refine zw6 rfl ?_|refine zw7 mixed rfl ?_)
   conv=>whnf
   exact ⟨i + 1,hi',by omega,Weak.to 3 (Eq.trans rfl (congrArg (fun z=>[Blk.cells [I 0,I 0,I 0,I 0],.map (esP es),.cells [I n,I z,I 0,I clubs.length]]) hro.symm)) (Nat.zero_le _) (Nat.le_of_ble_eq_true rfl) ⟨rfl,rfl,rfl,rfl,rfl,rfl,congrArg I hw,trivial⟩ (hB:=by show (true && (belM 3 _ && (true && true))) = true; rw [esP_bel]; rfl)⟩
  ·have m2 : ∀ {q : Option (Nat × V) → Prop},q none → MapF (.int .i64) (esP es) (I c) q:=fun h=>MapF.hasnt d4 h
   rw [valP_not d4] at hro
   repeat' ((conv=>whnf); first|refine zw8 (zw19 hlt) ?_|refine zw10 i _ rfl r1 ?_|refine m2 ?_|refine zw0 ?_|refine zw1 ?_|refine zw2 (fun h=>?_) (fun h=>?_)|refine zw3 ?_|refine zw4 (fun h=>?_) (fun h=>?_)|refine zw5 _ rfl ?_|refine zw6 rfl ?_|refine zw7 mixed rfl ?_)
   conv=>whnf
   exact ⟨i + 1,hi',by omega,Weak.to 3 (Eq.trans rfl (congrArg (fun z=>[Blk.cells [I 0,I 0,I 0,I 0],.map (esP es),.cells [I n,I z,I 0,I clubs.length]]) hro.symm)) (Nat.zero_le _) (Nat.le_of_ble_eq_true rfl) ⟨rfl,rfl,rfl,rfl,rfl,rfl,congrArg I hw,trivial⟩ (hB:=by show (true && (belM 3 _ && (true && true))) = true; rw [esP_bel]; rfl)⟩
 have hlt : ¬ (i : Int) < (clubs.length : Int):=by omega
 obtain rfl : i = clubs.length:=by omega
 rw [List.take_length]
 unfold envO
 cases fin
 all_goals
  repeat' ((conv=>whnf); first|refine zw9 (zw20 hlt) ?_|refine zw0 ?_|refine zw1 ?_|refine zw2 (fun h=>?_) (fun h=>?_)|refine zw3 ?_|refine zw4 (fun h=>?_) (fun h=>?_)|refine zw5 _ rfl ?_|refine zw6 rfl ?_|refine zw7 mixed rfl ?_)
 all_goals conv=>whnf
 all_goals exact FinP.drop (n:=0) rfl (zw21 0) rfl rfl ⟨rfl,rfl⟩
end Go.Proofs.YtihibgcojdfndaaGreatDoor
namespace Go.Proofs.YtihibgcojdfndaaGreatDoor
open Go.Tidy
open Sts (Res Row Worth Game rowsF addF rowC valueF inG known worthOk resOk fieldOk gameV resV ress rowV)
noncomputable def Cp.rk (p : Cp) (fin : Bool) : Rk:=⟨fun n=>directB p.ru.order (envO p.res p.clubs n fin),valC p⟩
theorem goT_take {rank : List Int → Int → List Ev} {c : Int} : ∀ {ps : List (List Int)} {b : Int} {i : Nat} (h : i < ps.length),goT rank c (ps.take (i + 1)) b = goT rank c (ps.take i) b ++ rank ps[i] (if i = 0 then b else c)
 | p :: ps,b,0,h=>by
  rw [List.take_succ_cons,List.take_zero,List.take_zero,goT,goT,goT]; simp
 | p :: ps,b,i + 1,h=>by
  have ih:=goT_take (rank:=rank) (c:=c) (ps:=ps) (b:=c) (i:=i) (by simpa using h)
  rw [List.take_succ_cons,goT,ih,List.take_succ_cons,goT,List.append_assoc]
  simp
def toldF (step : Int → Int → List (List Int) → Int) (s : Int) : List Ev → Int
 | []=>s
 | .sp c parts :: r=>toldF step (step s c parts) r
 | .gr _ _ :: r=>toldF step s r
theorem toldF_app (step : Int → Int → List (List Int) → Int) : ∀ (s : Int) (a b : List Ev),toldF step s (a ++ b) = toldF step (toldF step s a) b
 | s,[],b=>rfl
 | s,.sp c parts :: r,b=>by rw [List.cons_append,toldF,toldF,toldF_app step _ r b]
 | s,.gr g b' :: r,b=>by rw [List.cons_append,toldF,toldF,toldF_app step _ r b]
theorem told_bet (a b : Int) (evs : List Ev) : ∀ s : Int,toldF (fun s c parts=>if apartB parts a b then c else s) s evs = bet a b evs s:=by
 induction evs with
 | nil=>exact fun s=>rfl
 | cons e r ih=>intro s; cases e <;> exact ih _
theorem fst_drop {f : Int → Option (Int × List (List Int))} {cs : List Int} {i : Nat} (h : i < cs.length) : (cs.drop i).findSome? f = match f cs[i] with | none=>(cs.drop (i + 1)).findSome? f | some x=>some x:=by
 rw [List.drop_eq_getElem_cons h,List.findSome?_cons]
 cases f cs[i] <;> rfl
theorem open_of {p : Cp} {n : Nat} {ok : Int → Bool} (h : openE p n ok = 0) : fieldOk p.clubs n = true ∧ p.off.length = p.clubs.length ∧ offOk p.off = true ∧ rulesF p.ru = 0 ∧ ressV p.res ok = true ∧ lotsOk p.lots = true:=by
 unfold openE at h
 split at h
 ·cases h
 rename_i h1
 split at h
 ·cases h
 rename_i h2
 split at h
 ·rename_i h3; exact absurd h h3
 rename_i h3
 split at h
 ·cases h
 rename_i h4
 split at h
 ·cases h
 rename_i h5
 simp only [Bool.not_eq_false,Bool.and_eq_true,decide_eq_true_eq,ne_eq,Decidable.not_not] at h1 h2 h3 h4 h5
 exact ⟨h1,h2.1,h2.2,h3,h4,h5⟩
theorem open_iff {p : Cp} {n : Nat} {ok : Int → Bool} : openE p n ok = 0 ↔ fieldOk p.clubs n = true ∧ p.off.length = p.clubs.length ∧ offOk p.off = true ∧ rulesF p.ru = 0 ∧ ressV p.res ok = true ∧ lotsOk p.lots = true:=by
 refine ⟨open_of,fun ⟨h1,h2,h3,h4,h5,h6⟩=>?_⟩
 unfold openE
 rw [if_neg (by rw [h1]; decide),if_neg (by rw [h3,decide_eq_true h2]; decide),if_neg (fun h=>h h4),if_neg (by rw [h5]; decide),if_neg (by rw [h6]; decide)]
theorem field_of {l : List Int} {n : Nat} (h : fieldOk l n = true) : l.Nodup ∧ n ≤ l.length ∧ l.length ≤ 24:=by
 unfold fieldOk at h
 simp only [Bool.and_eq_true,decide_eq_true_eq] at h
 exact ⟨Sts.incr_nodup h.1.1,h.1.2,h.2⟩
theorem ress_of {l : List Res} {ok : Int → Bool} (h : ressV l ok = true) : ∀ y ∈ l,resOk y ∧ ok y.game.home = true ∧ ok y.game.away = true:=fun y hy=>by
 obtain ⟨i,hi,rfl⟩:=List.mem_iff_getElem.1 hy
 have:=ressV_iff.1 h i _ (List.getElem?_eq_getElem hi)
 exact ⟨this.1,this.2.2.1,this.2.2.2.1⟩
theorem ress_ne {l : List Res} {ok : Int → Bool} (h : ressV l ok = true) : ∀ y ∈ l,y.game.home ≠ y.game.away:=fun y hy=>by
 have h1:=(ress_of h y hy).1
 unfold resOk at h1
 exact h1.1.2.2.2.2
theorem rules_order {r : Ru} (h : rulesF r = 0) : orderF r.order = 0:=by
 unfold rulesF at h
 split at h
 ·cases h
 split at h
 ·assumption
 rename_i h2
 simpa using h2
theorem round_rng (l : List Res) : ∀ (clubs : List Int),0 ≤ roundF l clubs ∧ roundF l clubs ≤ 46:=by
 have key : ∀ (clubs : List Int) (n : Int),0 ≤ n ∧ n ≤ 46 → 0 ≤ clubs.foldl (fun n c=>min n (playsN l c)) n ∧ clubs.foldl (fun n c=>min n (playsN l c)) n ≤ 46:=by
  intro clubs
  induction clubs with
  | nil=>exact fun n h=>h
  | cons c r ih=>exact fun n h=>ih _ (by have:=(playsN_le l c).1; simp only; omega)
 exact fun clubs=>key clubs 46 (by decide)
theorem envO_ok (l : List Res) {clubs : List Int} {n : Nat} (fin : Bool) (h2 : 2 ≤ n) (h3 : n ≤ 24) (h4 : 2 ≤ clubs.length) (h5 : clubs.length ≤ 24) : envE (envO l clubs n fin) = 0:=by
 have:=round_rng l clubs
 unfold envE envO
 rw [if_pos]
 refine ⟨by simp only; omega,by simp only; omega,this.1,this.2,?_,?_,by simp only; omega,by simp only; omega⟩
 ·cases fin <;> simp
 ·cases fin <;> simp
theorem dir_ok {l : List Sp} (hl : LSs l) (x : En) : ByOk (directB l x):=by
 unfold directB
 split
 ·rename_i h
  exact dSs_ok hl h.1 x
 ·exact byok0
theorem rk_ok {p : Cp} (hL : LCp p) (fin : Bool) (n : Nat) : ByOk ((p.rk fin).cr n):=dir_ok hL.ru.order _
end Go.Proofs.YtihibgcojdfndaaGreatDoor
namespace Go.Proofs.YtihibgcojdfndaaGreatDoor
open Go.Tidy
open Sts (Res Row Worth Game rowsF addF rowC valueF inG known worthOk resOk fieldOk gameV resV ress rowV)
variable {L : List Blk} {k : V → List Blk → Prop}
theorem env1_c (l : List Int) (n : Int) (hl : l.length ≤ 4611686018427387904) (h : k (B (!l.contains n)) L) : CallP C 53 [I n,.d (.rptr [.fn 77 [.rptr [ins l]]])] L k:=by
 have h1 : ∀ {L : List Blk} {k : V → List Blk → Prop},k (B (l.contains n)) L → CallP C 77 [I n,.d (.rptr [ins l])] L k:=fun h=>among1_c l n hl h
 refine CallP.pure ?_ rfl (fun _=>rfl) h
 clear h
 refine callP_of C_ok Tryz.func53 rfl rfl (n:=_) rfl (zw18 rfl) (rs:=_) rfl ?_
 repeat' ((conv=>whnf); first|refine h1 ?_|refine zw3 ?_|refine zw0 ?_|refine zw1 ?_|refine zw2 (fun h=>?_) (fun h=>?_)|refine zw3 ?_|refine zw4 (fun h=>?_) (fun h=>?_)|refine zw5 _ rfl ?_|refine zw6 rfl ?_|refine zw7 mixed rfl ?_)
 conv=>whnf
 exact FinP.drop (n:=0) rfl (zw21 0) rfl rfl ⟨rfl,rfl⟩
noncomputable def envX (l : List Res) (clubs g : List Int) (fin : Bool) : V :=
 if fieldOk clubs 2 = true ∧ ressV l clubs.contains = true ∧ fieldOk g 2 = true ∧ (g.any fun c=>!clubs.contains c) = false then .tup [enV (envO l clubs g.length fin),I 0] else .tup [enV ⟨0,0,0,0⟩,I 190]
theorem Env_0 (l : List Res) (clubs g : List Int) (fin : Bool) (hl : l.length ≤ 1073741824) (hc : clubs.length ≤ 1073741824) (hg : g.length ≤ 1073741824) : CallP C 21 [.d (ress l),.d (ins clubs),.d (ins g),B fin] [] fun X L'=>X = envX l clubs g fin ∧ L' = []:=by
 have q1 : ∀ {L : List Blk} {k : V → List Blk → Prop},k (B (fieldOk clubs 2)) L → CallP C 50 [.d (ins clubs),I 2] L k:=fun h=>areClubs_c _ 2 (by omega) h
 have q3 : ∀ {L : List Blk} {k : V → List Blk → Prop},k (B (fieldOk g 2)) L → CallP C 50 [.d (ins g),I 2] L k:=fun h=>areClubs_c _ 2 (by omega) h
 have q2 : ∀ {L : List Blk} {k : V → List Blk → Prop},k (B (ressV l clubs.contains)) L → CallP C 51 [.d (ress l),.d (.fn 77 [.rptr [ins clubs]])] L k:=fun h =>
  areResults_c l hl 77 [.rptr [ins clubs]] clubs.contains (fun n L k h=>among1_c clubs n (by omega) h) h
 have q4 : CallP C 52 [.d (ins g),.d (.fn 53 [.rptr [.fn 77 [.rptr [ins clubs]]]])] [] fun X L'=>L' = [] ∧ X = B (g.any fun c=>!clubs.contains c) :=
  Sts.containsFunc_c g (by omega) 53 [.rptr [.fn 77 [.rptr [ins clubs]]]] (fun c=>!clubs.contains c) (fun n L k h=>env1_c clubs n (by omega) h) ⟨rfl,rfl⟩
 unfold envX
 cases c1 : fieldOk clubs 2 with
 | false =>
  rw [c1] at q1
  simp only [Bool.false_eq_true,false_and,if_false]
  refine callP_of C_ok Tryz.func21 rfl rfl (n:=_) rfl (zw18 rfl) (rs:=_) rfl ?_
  repeat' ((conv=>whnf); first|refine q1 ?_|refine among_c _ ?_|refine zw3 ?_|refine zw0 ?_|refine zw1 ?_|refine zw2 (fun h=>?_) (fun h=>?_)|refine zw3 ?_|refine zw4 (fun h=>?_) (fun h=>?_)|refine zw5 _ rfl ?_|refine zw6 rfl ?_)
  conv=>whnf
  exact FinP.drop (n:=0) rfl (zw21 0) rfl rfl ⟨rfl,rfl⟩
 | true =>
 rw [c1] at q1
 cases c2 : ressV l clubs.contains with
 | false =>
  rw [c2] at q2
  simp only [Bool.false_eq_true,false_and,and_false,if_false]
  refine callP_of C_ok Tryz.func21 rfl rfl (n:=_) rfl (zw18 rfl) (rs:=_) rfl ?_
  repeat' ((conv=>whnf); first|refine q1 ?_|refine q2 ?_|refine among_c _ ?_|refine zw3 ?_|refine zw0 ?_|refine zw1 ?_|refine zw2 (fun h=>?_) (fun h=>?_)|refine zw3 ?_|refine zw4 (fun h=>?_) (fun h=>?_)|refine zw5 _ rfl ?_|refine zw6 rfl ?_)
  conv=>whnf
  exact FinP.drop (n:=0) rfl (zw21 0) rfl rfl ⟨rfl,rfl⟩
 | true =>
 rw [c2] at q2
 cases c3 : fieldOk g 2 with
 | false =>
  rw [c3] at q3
  simp only [Bool.false_eq_true,false_and,and_false,if_false]
  refine callP_of C_ok Tryz.func21 rfl rfl (n:=_) rfl (zw18 rfl) (rs:=_) rfl ?_
  repeat' ((conv=>whnf); first|refine q1 ?_|refine q2 ?_|refine q3 ?_|refine among_c _ ?_|refine zw3 ?_|refine zw0 ?_|refine zw1 ?_|refine zw2 (fun h=>?_) (fun h=>?_)|refine zw3 ?_|refine zw4 (fun h=>?_) (fun h=>?_)|refine zw5 _ rfl ?_|refine zw6 rfl ?_)
  conv=>whnf
  exact FinP.drop (n:=0) rfl (zw21 0) rfl rfl ⟨rfl,rfl⟩
 | true =>
 rw [c3] at q3
 have he : ∀ y ∈ l,y.game.home ≠ y.game.away:=ress_ne c2
 have hev:=env19_0 l clubs g.length fin hl hc he
 have hml : ((g.map fun n=>[DI n]).length : Int) = (g.length : Int):=by rw [insl]
 generalize envO l clubs g.length fin = eo at *
 cases c4 : (g.any fun c=>!clubs.contains c) with
 | true =>
  rw [c4] at q4
  simp only [Bool.true_eq_false,and_false,if_false]
  refine callP_of C_ok Tryz.func21 rfl rfl (n:=_) rfl (zw18 rfl) (rs:=_) rfl ?_
  repeat' ((conv=>whnf); first|refine q1 ?_|refine q2 ?_|refine q3 ?_|refine among_c _ ?_|refine zw3 ?_|refine CallP.lent q4 (.keep (.cv (.d (.fnL (.cons (.ptrL trivial rfl (.data [.fn 77 [.rptr [ins clubs]]])) .nil))) .nil)) rfl rfl ?_|refine zw0 ?_|refine zw1 ?_|refine zw2 (fun h=>?_) (fun h=>?_)|refine zw3 ?_|refine zw4 (fun h=>?_) (fun h=>?_)|refine zw5 _ rfl ?_|refine zw6 rfl ?_)
  conv=>whnf
  exact FinP.drop (n:=0) rfl (zw21 0) rfl rfl ⟨rfl,rfl⟩
 | false =>
  rw [c4] at q4
  simp only [and_self,if_true]
  have hev2 : ∀ {L : List Blk} {k : V → List Blk → Prop},k (enV eo) L → CallP C 54 [.d (ress l),.d (ins clubs),I ((g.map fun n=>[DI n]).length : Nat),B fin] L k:=fun h=>by
   rw [hml]
   exact hev.frame rfl fun X L' ⟨h1,h2⟩=>by subst h1 h2; rw [show (enV eo).sh _ = enV eo from rfl]; simpa [shB] using h
  refine callP_of C_ok Tryz.func21 rfl rfl (n:=_) rfl (zw18 rfl) (rs:=_) rfl ?_
  repeat' ((conv=>whnf); first|refine q1 ?_|refine q2 ?_|refine q3 ?_|refine among_c _ ?_|refine hev2 ?_|refine zw3 ?_|refine CallP.lent q4 (.keep (.cv (.d (.fnL (.cons (.ptrL trivial rfl (.data [.fn 77 [.rptr [ins clubs]]])) .nil))) .nil)) rfl rfl ?_|refine zw0 ?_|refine zw1 ?_|refine zw2 (fun h=>?_) (fun h=>?_)|refine zw3 ?_|refine zw4 (fun h=>?_) (fun h=>?_)|refine zw5 _ rfl ?_|refine zw6 rfl ?_)
  conv=>whnf
  exact FinP.drop (n:=0) rfl (zw21 0) rfl rfl ⟨rfl,rfl⟩
theorem Env_c (l : List Res) (clubs g : List Int) (fin : Bool) (hl : l.length ≤ 1073741824) (hc : clubs.length ≤ 1073741824) (hg : g.length ≤ 1073741824) (h : k (envX l clubs g fin) L) : CallP C 21 [.d (ress l),.d (ins clubs),.d (ins g),B fin] L k :=
 (Env_0 l clubs g fin hl hc hg).frame rfl fun X L' ⟨h1,h2⟩=>by
  subst h1 h2
  have e : (envX l clubs g fin).sh L.length = envX l clubs g fin:=by unfold envX; split <;> rfl
  rw [e]; simpa [shB] using h
end Go.Proofs.YtihibgcojdfndaaGreatDoor
namespace Go.Proofs.YtihibgcojdfndaaGreatDoor
open Go.Tidy
open Sts (Res Row Worth Game rowsF addF rowC valueF inG known worthOk resOk fieldOk gameV resV ress rowV)
variable {L : List Blk} {k : V → List Blk → Prop}
theorem flat_ge : ∀ m : List (List Int),(∀ q ∈ m,q ≠ []) → m.length ≤ m.flatten.length
 | [],_=>zw21 _
 | q :: m,h=>by
  have h1:=List.length_pos_iff.2 (h q (by simp))
  have h2:=flat_ge m fun x hx=>h x (by simp [hx])
  rw [List.flatten_cons,List.length_append,List.length_cons]; omega
theorem grs_count (K : Rk) {f : Nat} {g : List Int} {b : Int} (h1 : g.length ≤ f) (h2 : 1 ≤ f) (hg : g ≠ []) : (grs (rankT K f g b)).length ≤ g.length:=by
 have e:=(rank_perm K f g b h1 h2).length_eq
 have h:=flat_ge ((grs (rankT K f g b)).map (·.1)) fun q hq=>by
  obtain ⟨x,hx,rfl⟩:=List.mem_map.1 hq
  exact rank_nonempty K f g b x hg hx
 rw [e,List.length_map] at h
 exact h
theorem go_count {rank : List Int → Int → List Ev} {c : Int} : ∀ (ps : List (List Int)) (b : Int),(∀ p ∈ ps,∀ b,(grs (rank p b)).length ≤ p.length) → (grs (goT rank c ps b)).length ≤ ps.flatten.length
 | [],b,h=>zw21 _
 | p :: ps,b,h=>by
  have h1:=h p (by simp) b
  have h2:=go_count (rank:=rank) (c:=c) ps c fun q hq=>h q (by simp [hq])
  rw [goT,grs_app,List.length_append,List.flatten_cons,List.length_append]; omega
theorem flat_take {ps : List (List Int)} {i : Nat} (h : i < ps.length) : (ps.take i).flatten.length + ps[i].length ≤ ps.flatten.length:=by
 have e : ps = ps.take i ++ ps[i] :: ps.drop (i + 1):=by rw [← List.drop_eq_getElem_cons h,List.take_append_drop]
 have h2 : ps.flatten.length = ((ps.take i ++ ps[i] :: ps.drop (i + 1)).flatten).length:=by rw [← e]
 rw [h2,List.flatten_append,List.flatten_cons,List.length_append,List.length_append]; omega
def rcaps : List V:=[.ptr 6 0,.ptr 7 0,.ptr 8 0,.ptr 10 0,.ptr 9 0]
def mR (p : Cp) (fin : Bool) (x : V) (gs : List (List Int × Int)) (t : List V) (c1 c2 : Blk) : List Blk :=
 cM p ++ [.cells t,c1,c2,.cells [.ptr 0 0],.cells [B fin],.cells [x],.cells [.own 11 gs.length 0 gs.length,.own 12 gs.length 0 gs.length],.cells [.fn 78 rcaps],.row gs.length 1 (grV (gs.map (·.1))),.row gs.length 1 (rdI (gs.map (·.2)))]
theorem mR_end (p : Cp) (fin : Bool) (x : V) (gs : List (List Int × Int)) (t : List V) (c1 c2 : Blk) (g : List Int) (b : Int) :
  cM p ++ [.cells t,c1,c2,.cells [.ptr 0 0],.cells [B fin],.cells [x],.cells [.own 11 (gs.length + 1) 0 (gs.length + 1),.own 12 (gs.length + 1) 0 (gs.length + 1)],.cells [.fn 78 rcaps],.row (gs.length + 1) 1 ((grV (gs.map (·.1))).take gs.length ++ [[.d (ins g)]]),.row (gs.length + 1) 1 ((rdI (gs.map (·.2))).take gs.length ++ [[I b]])] = mR p fin x (gs ++ [(g,b)]) t c1 c2:=by
 have h1 : (grV (gs.map (·.1))).take gs.length ++ [[V.d (ins g)]] = grV ((gs ++ [(g,b)]).map (·.1)):=by
  rw [List.take_of_length_le (by rw [grV_len,List.length_map]; exact Nat.le_refl _),List.map_append]
  exact (gr_snoc _ _).symm
 have h2 : (rdI (gs.map (·.2))).take gs.length ++ [[I b]] = rdI ((gs ++ [(g,b)]).map (·.2)):=by
  unfold rdI
  rw [List.take_of_length_le (by simp),List.map_append,List.map_append]; rfl
 have h3 : (gs ++ [(g,b)]).length = gs.length + 1:=by simp
 unfold mR
 rw [h1,h2,h3]
theorem mR_bel (n : Nat) (h : 13 ≤ n) (p : Cp) (fin : Bool) (x : V) (gs : List (List Int × Int)) (t : List V) (c1 c2 : Blk) (hx : x.bel n = true) (ht : V.belL n t = true) (h1 : c1.bel n = true) (h2 : c2.bel n = true) : belB n (mR p fin x gs t c1 c2) = true:=by
 refine belB_app' (cM_bel' n (by omega) p) ?_
 have h4 : ∀ i,i < 13 → decide (i < n) = true:=fun i hi=>zw19 (by omega)
 show (V.belL n t && (c1.bel n && (c2.bel n && (V.belL n [.ptr 0 0] && (true && (V.belL n [x] && (V.belL n [.own 11 gs.length 0 gs.length,.own 12 gs.length 0 gs.length] && (V.belL n [.fn 78 rcaps] && (belR n (grV (gs.map (·.1))) && (belR n (rdI (gs.map (·.2))) && true)))))))))) = true
 rw [gr_bel,rdI_bel,ht,h1,h2]
 simp only [V.belL,V.bel,hx,rcaps,h4 0 (by decide),h4 6 (by decide),h4 7 (by decide),h4 8 (by decide),h4 9 (by decide),h4 10 (by decide),h4 11 (by decide),h4 12 (by decide),Bool.and_true]
def PartsOk (parts : List (List Int)) : Prop:=parts.length ≤ 100 ∧ ∀ q ∈ parts,q.length ≤ 100
def RCall (p : Cp) (fin : Bool) (x : V) (tc : Int → List V) (c1 c2 : Blk) (step : Int → Int → List (List Int) → Int) (fu : Nat) (g : List Int) (b : Int) : Prop :=
 ∀ gs s,gs.length + g.length ≤ 1000 → ∀ (k : V → List Blk → Prop),k (.tup []) (mR p fin x (gs ++ grs (rankT (p.rk fin) fu g b)) (tc (toldF step s (rankT (p.rk fin) fu g b))) c1 c2) →
  CallP C 78 (.d (ins g) :: I b :: rcaps) (mR p fin x gs (tc s) c1 c2) k
theorem rank1_s (p : Cp) (hL : LCp p) (fin : Bool) (hne : ∀ y ∈ p.res,y.game.home ≠ y.game.away) (ho : orderF p.ru.order = 0) (f : FuncId) (tcaps : List V) (tc : Int → List V) (c1 c2 : Blk) (step : Int → Int → List (List Int) → Int)
  (htb : ∀ s,V.belL 13 (tc s) = true) (hcb : V.belL 13 tcaps = true) (hb1 : c1.bel 13 = true) (hb2 : c2.bel 13 = true)
  (htold : ∀ gs s c parts,PartsOk parts → ∀ (k : V → List Blk → Prop),k (.tup []) (mR p fin (.fn f tcaps) gs (tc (step s c parts)) c1 c2) → CallP C f (I c :: .d (insL parts) :: tcaps) (mR p fin (.fn f tcaps) gs (tc s) c1 c2) k) :
  ∀ (fu : Nat) (g : List Int) (b : Int),g.length ≤ fu → 1 ≤ fu → 0 < g.length → g.length ≤ 19 → RCall p fin (.fn f tcaps) tc c1 c2 step fu g b
 | 0,g,b,_,h,_,_=>absurd h (by decide)
 | fu + 1,g,b,hfu,_,hg,hg19=>by
  intro gs s hgs k hk
  have ih:=rank1_s p hL fin hne ho f tcaps tc c1 c2 step htb hcb hb1 hb2 htold fu
  have hml : ((g.map fun n=>[DI n]).length : Int) = (g.length : Int):=by rw [insl]
  have hsplit : ∀ (c : Int),1 ≤ c ∧ c ≤ 12 → ∀ (E : List Blk) (k : V → List Blk → Prop),k (.d (insL ((p.rk fin).sp g c))) (cM p ++ E) → CallP C 42 [.ptr 0 0,.d (ins g),I c] (cM p ++ E) k:=fun c hc E k h=>by
   have hcn : (c.toNat : Int) = c:=by omega
   have:=split_c p hL g hg hg19 c.toNat (by omega)
   rw [hcn] at this
   refine CallP.pre this (cM_bel p) rfl rfl fun X L1 hX=>?_
   obtain ⟨rfl,rfl⟩:=hX
   exact ⟨rfl,cM_bel p,rfl,h⟩
  have hdir : ∀ {L : List Blk} {k : V → List Blk → Prop},k (.tup [.d (ins (directB p.ru.order (envO p.res p.clubs g.length fin))),I (directE p.ru.order (envO p.res p.clubs g.length fin))]) L → CallP C 23 [.d (sps p.ru.order),enV (envO p.res p.clubs g.length fin)] L k :=
   fun h=>Direct_c _ _ hL.ru.order (fun h=>order_dsp hL.ru.order h) h
  have henv : ∀ {L : List Blk} {k : V → List Blk → Prop},k (enV (envO p.res p.clubs g.length fin)) L → CallP C 54 [.d (ress p.res),.d (ins p.clubs),I ((g.map fun n=>[DI n]).length : Nat),B fin] L k:=fun h=>by
   rw [hml]
   exact (env19_0 p.res p.clubs g.length fin hL.res hL.clubs hne).frame rfl fun X L' ⟨h1,h2⟩=>by subst h1 h2; rw [show (enV (envO p.res p.clubs g.length fin)).sh _ = enV (envO p.res p.clubs g.length fin) from rfl]; simpa [shB] using h
  have hby:=rk_ok hL fin g.length
  have hcr : (p.rk fin).cr g.length = directB p.ru.order (envO p.res p.clubs g.length fin):=rfl
  rw [← hcr] at hdir
  have happ : ∀ {X : Prop},X → Need (gs.length + 1 ≤ 4294967296) X:=fun h=>zw6 (by omega) h
  have hroot:=hk
  rw [rankT] at hroot
  by_cases h1 : (1 : Int) < ((g.map fun n=>[DI n]).length : Int)
  rotate_left
  ·have hf : (p.rk fin).fst g = none:=by unfold Rk.fst; rw [if_pos (by omega)]
   rw [hf] at hroot
   simp only at hroot
   refine callP_of C_ok Tryz.func78 rfl rfl (n:=_) rfl (zw18 rfl) (rs:=_) rfl ?_
   repeat' ((conv=>whnf); first|refine zw9 (zw20 h1) ?_|refine zw0 ?_|refine zw1 ?_|refine zw2 (fun h=>?_) (fun h=>?_)|refine zw3 ?_|refine zw4 (fun h=>?_) (fun h=>?_)|refine zw5 _ rfl ?_|refine zw6 rfl ?_)
   conv=>whnf
   refine LoopP.unroll ?_
   repeat' ((conv=>whnf); first|refine zw0 ?_|refine zw1 ?_|refine zw2 (fun h=>?_) (fun h=>?_)|refine zw3 ?_|refine zw4 (fun h=>?_) (fun h=>?_)|refine zw5 _ rfl ?_|refine zw6 rfl ?_)
   conv=>whnf
   refine DrawP.por mixed [] [[(0,0),(1,3),(2,0),(5,0),(6,4),(7,0),(3,0),(4,0),(8,0),(9,0),(10,0),(11,0),(12,0),(13,0)],[(0,0),(1,3),(2,0),(5,0),(6,4),(7,0),(3,0),(8,0),(4,0),(9,0),(10,0),(11,0),(12,0),(13,0)],[(0,0),(1,3),(2,0),(5,0),(6,4),(7,0),(8,0),(3,0),(4,0),(9,0),(10,0),(11,0),(12,0),(13,0)]] (by kernel_rfl) ?_
   conv=>whnf
   refine And.intro ?_ ?_
   rotate_left 1
   conv=>whnf
   refine And.intro ?_ ?_
   all_goals
    repeat' ((conv=>whnf); first|refine happ ?_|simp only [Nat.beq_refl,Bool.and_self]|refine zw0 ?_|refine zw1 ?_|refine zw2 (fun h=>?_) (fun h=>?_)|refine zw3 ?_|refine zw4 (fun h=>?_) (fun h=>?_)|refine zw5 _ rfl ?_|refine zw6 rfl ?_)
   all_goals conv=>whnf
   all_goals exact FinP.drop (n:=13) (Eq.trans rfl (mR_end p fin (.fn f tcaps) gs (tc s) c1 c2 g b)) (zw21 13) rfl (mR_bel 13 (zw21 13) _ _ _ _ _ _ _ hcb (htb s) hb1 hb2) hroot
  have h1' : ¬ g.length ≤ 1:=by omega
  have hfst : (p.rk fin).fst g = ((p.rk fin).cr g.length).findSome? ((p.rk fin).try1 g):=by unfold Rk.fst; rw [if_neg h1']
  generalize (p.rk fin).cr g.length = cs at *
  have hcl : ((cs.map fun n=>[DI n]).length : Int) = (cs.length : Int):=by rw [insl]
  refine callP_of C_ok Tryz.func78 rfl rfl (n:=_) rfl (zw18 rfl) (rs:=_) rfl ?_
  repeat' ((conv=>whnf); first|refine zw8 (zw19 h1) ?_|refine zw12 _ (henv ⟨rfl,rfl⟩) ?_|refine zw12 _ (hdir ⟨rfl,rfl⟩) ?_|refine zw0 ?_|refine zw1 ?_|refine zw2 (fun h=>?_) (fun h=>?_)|refine zw3 ?_|refine zw4 (fun h=>?_) (fun h=>?_)|refine zw5 _ rfl ?_|refine zw6 rfl ?_|refine zw7 mixed rfl ?_)
  conv=>whnf
  refine LoopP.inv (fun i : Nat=>i ≤ cs.length ∧ (p.rk fin).fst g = (cs.drop i).findSome? ((p.rk fin).try1 g)) (fun i=>⟨[(0,.d (ins g)),(1,I b),(2,.ptr 6 0),(3,.ptr 7 0),(4,.ptr 8 0),(5,.ptr 10 0),(6,.ptr 9 0),(39,.d (ins cs)),(40,I cs.length),(41,I i)],Tryz.f78.ntmps,mR p fin (.fn f tcaps) gs (tc s) c1 c2,[],none⟩) (fun i=>cs.length - i) 0 ⟨zw22 _,by rw [List.drop_zero]; exact hfst⟩ ?_ ?_
  ·exact Weak.by ⟨rfl,rfl,rfl,rfl,rfl,rfl,rfl,rfl,congrArg I hcl,rfl,trivial⟩
  rintro i ⟨hi,hd⟩
  by_cases hi' : i < cs.length
  ·have hlt : (i : Int) < (cs.length : Int):=by omega
   have hcl12:=hby.len
   have hw : IntKind.i64.wrap ((i : Int) + 1) = ((i + 1 : Nat) : Int):=by rw [wrap_in (by omega)]; omega
   have r1:=ins_at hi'
   rw [fst_drop hi'] at hd
   have hrg:=hby.rg _ (List.getElem_mem hi')
   generalize cs[i] = c at *
   have hsp:=hsplit c hrg
   have hms : ((((p.rk fin).sp g c).map fun es=>[ins es]).length : Int) = (((p.rk fin).sp g c).length : Int):=by rw [List.length_map]
   by_cases h2 : ((((p.rk fin).sp g c).map fun es=>[ins es]).length : Int) = 1
   ·have ht : (p.rk fin).try1 g c = none:=by unfold Rk.try1; rw [if_pos (by omega)]
    rw [ht] at hd
    repeat' ((conv=>whnf); first|refine zw8 (zw19 hlt) ?_|refine zw8 (zw19 h2) ?_|refine zw10 i _ rfl r1 ?_|refine CallP.cnvO rfl (L':=mR p fin (.fn f tcaps) gs (tc s) c1 c2) rfl (hsp _ _ ?_)|refine zw0 ?_|refine zw1 ?_|refine zw2 (fun h=>?_) (fun h=>?_)|refine zw3 ?_|refine zw4 (fun h=>?_) (fun h=>?_)|refine zw5 _ rfl ?_|refine zw6 rfl ?_)
    conv=>whnf
    exact ⟨i + 1,⟨hi',hd⟩,by omega,Weak.by ⟨rfl,rfl,rfl,rfl,rfl,rfl,rfl,rfl,rfl,congrArg I hw,trivial⟩⟩
   ·have ht : (p.rk fin).try1 g c = some (c,(p.rk fin).sp g c):=by unfold Rk.try1; rw [if_neg (by omega)]
    rw [ht] at hd
    rw [hd] at hroot
    simp only at hroot
    have hne':=sp_ne (p.rk fin) g c
    have hlt':=fun q hq=>sp_lt (K:=p.rk fin) (g:=g) (c:=c) (by omega) (p:=q) hq
    have hper:=(sp_perm (p.rk fin) g c).length_eq
    have hto:=htold gs s c ((p.rk fin).sp g c) ⟨by have:=flat_ge _ hne'; omega,fun q hq=>by have:=hlt' q hq; omega⟩
    generalize (p.rk fin).sp g c = ps at *
    obtain ⟨R,hR⟩ : ∃ R,R = rankT (p.rk fin) fu:=⟨_,rfl⟩
    rw [← hR] at hroot
    have hgoc : ∀ i,(grs (goT R c (ps.take i) b)).length ≤ (ps.take i).flatten.length:=fun i=>go_count _ _ fun q hq b=>by
     have hq:=List.mem_of_mem_take hq
     have:=hlt' q hq
     have:=List.length_pos_iff.2 (hne' q hq)
     rw [hR]
     exact grs_count _ (by omega) (by omega) (hne' q hq)
    repeat' ((conv=>whnf); first|refine zw8 (zw19 hlt) ?_|refine zw9 (zw20 h2) ?_|refine zw10 i _ rfl r1 ?_|refine CallP.cnvO rfl (L':=mR p fin (.fn f tcaps) gs (tc s) c1 c2) rfl (hsp _ _ ?_)|refine CallP.cnvO rfl (L':=mR p fin (.fn f tcaps) gs (tc s) c1 c2) rfl (hto _ ?_)|simp only [forceL_eq]|refine zw0 ?_|refine zw1 ?_|refine zw2 (fun h=>?_) (fun h=>?_)|refine zw3 ?_|refine zw4 (fun h=>?_) (fun h=>?_)|refine zw5 _ rfl ?_|refine zw6 rfl ?_)
    conv=>whnf
    obtain ⟨bv,hbv⟩ : ∃ bv : Nat → Int,bv = fun i=>if i ≤ 1 then b else c:=⟨_,rfl⟩
    have hbv0 : bv 0 = b:=by rw [hbv]; rfl
    have hbv1 : bv 1 = b:=by rw [hbv]; rfl
    have hbv2 : ∀ i,0 < i → bv (i + 1) = c:=fun i hi=>by rw [hbv]; simp only; rw [if_neg (by omega)]
    clear hbv
    refine LoopP.inv (fun i : Nat=>i ≤ ps.length) (fun i=>⟨[(1,I (bv i)),(5,.ptr 10 0),(11,I c),(56,.d (insL ps)),(57,I ps.length),(58,I i)],Tryz.f78.ntmps,mR p fin (.fn f tcaps) (gs ++ grs (goT R c (ps.take i) b)) (tc (toldF step (step s c ps) (goT R c (ps.take i) b))) c1 c2,[],none⟩) (fun i=>ps.length - i) 0 (zw22 _) ?_ ?_
    ·exact Weak.by (hL:=by rw [List.take_zero]; unfold goT; rw [grs,List.append_nil]; rfl) ⟨congrArg I hbv0.symm,rfl,rfl,rfl,congrArg I hms,rfl,trivial⟩
    intro j hj
    by_cases hj' : j < ps.length
    ·have hltj : (j : Int) < (ps.length : Int):=by omega
     have hp19 : ps.length ≤ 19:=by
      have:=flat_ge ps hne'
      omega
     have hwj : IntKind.i64.wrap ((j : Int) + 1) = ((j + 1 : Nat) : Int):=by rw [wrap_in (by omega)]; omega
     have r2 : (ps.map fun es=>[ins es])[j]? = some [ins ps[j]]:=by rw [List.getElem?_map,List.getElem?_eq_getElem hj']; rfl
     have hgt:=goT_take (rank:=R) (c:=c) (b:=b) hj'
     have hgj:=hgoc j
     have hft:=flat_take hj'
     have hqm : ps[j] ∈ ps:=List.getElem_mem hj'
     have l1:=hlt' _ hqm
     have l2:=List.length_pos_iff.2 (hne' _ hqm)
     have hvis : ∀ bb : Int,_:=fun bb=>ih ps[j] bb (by omega) (by omega) l2 (by omega) (gs ++ grs (goT R c (ps.take j) b)) (toldF step (step s c ps) (goT R c (ps.take j) b)) (by rw [List.length_append]; omega)
     rw [← hR] at hvis
     have hmem : ∀ bb,goT R c (ps.take (j + 1)) b = goT R c (ps.take j) b ++ R ps[j] bb → mR p fin (.fn f tcaps) (gs ++ grs (goT R c (ps.take j) b) ++ grs (R ps[j] bb)) (tc (toldF step (toldF step (step s c ps) (goT R c (ps.take j) b)) (R ps[j] bb))) c1 c2 = mR p fin (.fn f tcaps) (gs ++ grs (goT R c (ps.take (j + 1)) b)) (tc (toldF step (step s c ps) (goT R c (ps.take (j + 1)) b))) c1 c2:=fun bb e=>by
      rw [e,grs_app,toldF_app,List.append_assoc]
     generalize gs ++ grs (goT R c (ps.take j) b) = gsj at *
     generalize toldF step (step s c ps) (goT R c (ps.take j) b) = sj at *
     generalize ps[j] = q at *
     by_cases hj0 : (0 : Int) < (j : Int)
     ·have hv:=hvis c
      have hm:=hmem c (by rw [hgt,if_neg (by omega)])
      generalize gsj ++ grs (R q c) = gs2 at *
      generalize toldF step sj (R q c) = s2 at *
      repeat' ((conv=>whnf); first|refine zw8 (zw19 hltj) ?_|refine zw8 (zw19 hj0) ?_|refine zw10 j _ rfl r2 ?_|refine CallP.cnvO rfl (L':=mR p fin (.fn f tcaps) gsj (tc sj) c1 c2) rfl (hv _ ?_)|refine zw0 ?_|refine zw1 ?_|refine zw2 (fun h=>?_) (fun h=>?_)|refine zw3 ?_|refine zw4 (fun h=>?_) (fun h=>?_)|refine zw5 _ rfl ?_|refine zw6 rfl ?_)
      conv=>whnf
      exact ⟨j + 1,hj',by omega,Weak.by (hL:=Eq.trans rfl hm) ⟨congrArg I (hbv2 j (by omega)).symm,rfl,rfl,rfl,rfl,congrArg I hwj,trivial⟩⟩
     ·obtain rfl : j = 0:=by omega
      have hv:=hvis (bv 0)
      have hm:=hmem (bv 0) (by rw [hgt,if_pos rfl,hbv0])
      generalize gsj ++ grs (R q (bv 0)) = gs2 at *
      generalize toldF step sj (R q (bv 0)) = s2 at *
      repeat' ((conv=>whnf); first|refine zw8 (zw19 hltj) ?_|refine zw9 (zw20 hj0) ?_|refine zw10 0 _ rfl r2 ?_|refine CallP.cnvO rfl (L':=mR p fin (.fn f tcaps) gsj (tc sj) c1 c2) rfl (hv _ ?_)|refine zw0 ?_|refine zw1 ?_|refine zw2 (fun h=>?_) (fun h=>?_)|refine zw3 ?_|refine zw4 (fun h=>?_) (fun h=>?_)|refine zw5 _ rfl ?_|refine zw6 rfl ?_)
      conv=>whnf
      exact ⟨1,hj',by omega,Weak.by (hL:=Eq.trans rfl hm) ⟨congrArg I (hbv0.trans hbv1.symm),rfl,rfl,rfl,rfl,congrArg I hwj,trivial⟩⟩
    ·have hltj : ¬ (j : Int) < (ps.length : Int):=by omega
     obtain rfl : j = ps.length:=by omega
     rw [List.take_length]
     repeat' ((conv=>whnf); first|refine zw9 (zw20 hltj) ?_|refine zw0 ?_|refine zw1 ?_|refine zw2 (fun h=>?_) (fun h=>?_)|refine zw3 ?_|refine zw4 (fun h=>?_) (fun h=>?_)|refine zw5 _ rfl ?_|refine zw6 rfl ?_)
     conv=>whnf
     exact FinP.same hroot
  ·have hlt : ¬ (i : Int) < (cs.length : Int):=by omega
   rw [List.drop_eq_nil_of_le (by omega)] at hd
   rw [hd] at hroot
   simp only [List.findSome?_nil] at hroot
   repeat' ((conv=>whnf); first|refine zw9 (zw20 hlt) ?_|refine zw0 ?_|refine zw1 ?_|refine zw2 (fun h=>?_) (fun h=>?_)|refine zw3 ?_|refine zw4 (fun h=>?_) (fun h=>?_)|refine zw5 _ rfl ?_|refine zw6 rfl ?_)
   conv=>whnf
   refine DrawP.por mixed [] [[(0,0),(1,3),(2,0),(5,0),(6,4),(7,0),(3,0),(4,0),(8,0),(9,0),(10,0),(11,0),(12,0),(13,0)],[(0,0),(1,3),(2,0),(5,0),(6,4),(7,0),(3,0),(8,0),(4,0),(9,0),(10,0),(11,0),(12,0),(13,0)],[(0,0),(1,3),(2,0),(5,0),(6,4),(7,0),(8,0),(3,0),(4,0),(9,0),(10,0),(11,0),(12,0),(13,0)]] (by kernel_rfl) ?_
   conv=>whnf
   refine And.intro ?_ ?_
   rotate_left 1
   conv=>whnf
   refine And.intro ?_ ?_
   all_goals
    repeat' ((conv=>whnf); first|refine happ ?_|simp only [Nat.beq_refl,Bool.and_self]|refine zw0 ?_|refine zw1 ?_|refine zw2 (fun h=>?_) (fun h=>?_)|refine zw3 ?_|refine zw4 (fun h=>?_) (fun h=>?_)|refine zw5 _ rfl ?_|refine zw6 rfl ?_)
   all_goals conv=>whnf
   all_goals exact FinP.drop (n:=13) (Eq.trans rfl (mR_end p fin (.fn f tcaps) gs (tc s) c1 c2 g b)) (zw21 13) rfl (mR_bel 13 (zw21 13) _ _ _ _ _ _ _ hcb (htb s) hb1 hb2) hroot
end Go.Proofs.YtihibgcojdfndaaGreatDoor
namespace Go.Proofs.YtihibgcojdfndaaGreatDoor
open Go.Tidy
open Sts (Res Row Worth Game rowsF addF rowC valueF inG known worthOk resOk fieldOk gameV resV ress rowV)
variable {L : List Blk} {k : V → List Blk → Prop}
theorem rindexFunc_c (l : List (List Int)) (hl : l.length ≤ 4611686018427387904) (f : FuncId) (caps : List D) (p : List Int → Bool) (hp : ∀ n ∈ l,∀ (L : List Blk) (k : V → List Blk → Prop),k (B (p n)) L → CallP C f ([.d (ins n)] ++ caps.map .d) L k)
  (h : k (I (findI p l)) L) : CallP C 47 [.d (insL l),.d (.fn f caps)] L k:=by
 have hml : ((l.map fun es=>[ins es]).length : Int) = (l.length : Int):=by rw [List.length_map]
 refine CallP.pure ?_ rfl (fun _=>rfl) h
 clear h
 refine callP_of C_ok Tryz.func47 rfl rfl (n:=_) rfl (zw18 rfl) (rs:=_) rfl ?_
 refine LoopP.inv (fun i : Nat=>i ≤ l.length ∧ ∀ (j : Nat) (hj : j < l.length),j < i → p l[j] = false) (fun i=>⟨[(0,.d (insL l)),(1,.d (.fn f caps)),(7,I l.length),(8,I i)],Tryz.f47.ntmps,[],[],none⟩) (fun i=>l.length - i) 0 ⟨zw22 _,fun j _ h=>absurd h (Nat.not_lt_zero j)⟩ ?_ ?_
 ·exact Weak.by ⟨rfl,rfl,congrArg I hml,rfl,trivial⟩
 rintro i ⟨hi,h1⟩
 by_cases hi' : i < l.length
 ·have hlt : (i : Int) < (l.length : Int):=by omega
  have hw : IntKind.i64.wrap ((i : Int) + 1) = ((i + 1 : Nat) : Int):=by rw [wrap_in (by omega)]; omega
  have r1 : (l.map fun es=>[ins es])[i]? = some [ins l[i]]:=by rw [List.getElem?_map,List.getElem?_eq_getElem hi']; rfl
  have hpi:=fun {L : List Blk} {k : V → List Blk → Prop}=>hp l[i] (List.getElem_mem hi') L k
  cases hq : p l[i] with
  | true =>
   rw [hq] at hpi
   rw [findI_hit hi' hq h1]
   generalize l[i] = q at *
   repeat' ((conv=>whnf); first|refine zw8 (zw19 hlt) ?_|refine zw10 i _ rfl r1 ?_|refine hpi ?_|refine zw0 ?_|refine zw1 ?_|refine zw2 (fun h=>?_) (fun h=>?_)|refine zw3 ?_|refine zw4 (fun h=>?_) (fun h=>?_)|refine zw5 _ rfl ?_|refine zw6 rfl ?_|refine zw7 mixed rfl ?_)
   conv=>whnf
   exact FinP.drop (n:=0) rfl (zw21 0) rfl rfl ⟨rfl,rfl⟩
  | false =>
   rw [hq] at hpi
   have h1' : ∀ (j : Nat) (hj : j < l.length),j < i + 1 → p l[j] = false:=fun j hj hji=>by
    by_cases e : j = i
    ·subst e; exact hq
    ·exact h1 j hj (by omega)
   generalize l[i] = q at *
   repeat' ((conv=>whnf); first|refine zw8 (zw19 hlt) ?_|refine zw10 i _ rfl r1 ?_|refine hpi ?_|refine zw0 ?_|refine zw1 ?_|refine zw2 (fun h=>?_) (fun h=>?_)|refine zw3 ?_|refine zw4 (fun h=>?_) (fun h=>?_)|refine zw5 _ rfl ?_|refine zw6 rfl ?_|refine zw7 mixed rfl ?_)
   conv=>whnf
   exact ⟨i + 1,⟨hi',h1'⟩,by omega,Weak.by ⟨rfl,rfl,rfl,congrArg I hw,trivial⟩⟩
 ·have hlt : ¬ (i : Int) < (l.length : Int):=by omega
  rw [findI_miss fun j hj=>h1 j hj (by omega)]
  repeat' ((conv=>whnf); first|refine zw9 (zw20 hlt) ?_|refine zw0 ?_|refine zw1 ?_|refine zw2 (fun h=>?_) (fun h=>?_)|refine zw3 ?_|refine zw4 (fun h=>?_) (fun h=>?_)|refine zw5 _ rfl ?_|refine zw6 rfl ?_|refine zw7 mixed rfl ?_)
  conv=>whnf
  exact FinP.drop (n:=0) rfl (zw21 0) rfl rfl ⟨rfl,rfl⟩
theorem bet11_c (l : List Int) (a : Int) (hl : l.length ≤ 4611686018427387904) (h : k (B (l.contains a)) L) : CallP C 48 [.d (ins l),.d (.rptr [DI a])] L k:=by
 have h1 : ∀ {L : List Blk} {k : V → List Blk → Prop},k (B (l.contains a)) L → CallP C 45 [.d (ins l),I a] L k:=fun h=>Sts.contains_c l a hl h
 refine CallP.pure ?_ rfl (fun _=>rfl) h
 clear h
 refine callP_of C_ok Tryz.func48 rfl rfl (n:=_) rfl (zw18 rfl) (rs:=_) rfl ?_
 repeat' ((conv=>whnf); first|refine h1 ?_|refine zw0 ?_|refine zw1 ?_|refine zw2 (fun h=>?_) (fun h=>?_)|refine zw3 ?_|refine zw4 (fun h=>?_) (fun h=>?_)|refine zw5 _ rfl ?_|refine zw6 rfl ?_|refine zw7 mixed rfl ?_)
 conv=>whnf
 exact FinP.drop (n:=0) rfl (zw21 0) rfl rfl ⟨rfl,rfl⟩
theorem bet12_c (l : List Int) (a : Int) (hl : l.length ≤ 4611686018427387904) (h : k (B (l.contains a)) L) : CallP C 49 [.d (ins l),.d (.rptr [DI a])] L k:=by
 have h1 : ∀ {L : List Blk} {k : V → List Blk → Prop},k (B (l.contains a)) L → CallP C 45 [.d (ins l),I a] L k:=fun h=>Sts.contains_c l a hl h
 refine CallP.pure ?_ rfl (fun _=>rfl) h
 clear h
 refine callP_of C_ok Tryz.func49 rfl rfl (n:=_) rfl (zw18 rfl) (rs:=_) rfl ?_
 repeat' ((conv=>whnf); first|refine h1 ?_|refine zw0 ?_|refine zw1 ?_|refine zw2 (fun h=>?_) (fun h=>?_)|refine zw3 ?_|refine zw4 (fun h=>?_) (fun h=>?_)|refine zw5 _ rfl ?_|refine zw6 rfl ?_|refine zw7 mixed rfl ?_)
 conv=>whnf
 exact FinP.drop (n:=0) rfl (zw21 0) rfl rfl ⟨rfl,rfl⟩
def tM (n a b : Int) : List Blk:=[.cells [I n],.cells [I a],.cells [I b]]
theorem bet1_c (n a b c : Int) (parts : List (List Int)) (hp : parts.length ≤ 100) (hq : ∀ q ∈ parts,q.length ≤ 100) : CallP C 46 [I c,.d (insL parts),.ptr 1 0,.ptr 2 0,.ptr 0 0] (tM n a b) fun X L'=>X = .tup [] ∧ L' = tM (if apartB parts a b then c else n) a b:=by
 have q1 : CallP C 47 [.d (insL parts),.d (.fn 48 [.rptr [DI a]])] [] fun X L'=>L' = [] ∧ X = I (inP parts a) :=
  rindexFunc_c parts (by omega) 48 [.rptr [DI a]] (fun p=>p.contains a) (fun q hm L k h=>bet11_c q a (by have:=hq q hm; omega) h) ⟨rfl,rfl⟩
 have q2 : CallP C 47 [.d (insL parts),.d (.fn 49 [.rptr [DI b]])] [] fun X L'=>L' = [] ∧ X = I (inP parts b) :=
  rindexFunc_c parts (by omega) 49 [.rptr [DI b]] (fun p=>p.contains b) (fun q hm L k h=>bet12_c q b (by have:=hq q hm; omega) h) ⟨rfl,rfl⟩
 unfold apartB
 generalize inP parts a = i at *
 generalize inP parts b = j at *
 by_cases c1 : (0 : Int) ≤ i
 rotate_left
 ·rw [decide_eq_false (fun h=>c1 h.1)]
  refine callP_of C_ok Tryz.func46 rfl rfl (n:=_) rfl (zw18 rfl) (rs:=_) rfl ?_
  repeat' ((conv=>whnf); first|refine CallP.lent q1 (.keep (.cv (.d (.fnL (.cons (.ptrL trivial rfl (.data [DI a])) .nil))) .nil)) rfl rfl ?_|refine CallP.lent q2 (.keep (.cv (.d (.fnL (.cons (.ptrL trivial rfl (.data [DI b])) .nil))) .nil)) rfl rfl ?_|refine zw9 (zw20 c1) ?_|refine zw0 ?_|refine zw1 ?_|refine zw2 (fun h=>?_) (fun h=>?_)|refine zw3 ?_|refine zw4 (fun h=>?_) (fun h=>?_)|refine zw5 _ rfl ?_|refine zw6 rfl ?_)
  conv=>whnf
  exact FinP.drop (n:=3) rfl (zw21 3) rfl rfl ⟨rfl,rfl⟩
 by_cases c2 : (0 : Int) ≤ j
 rotate_left
 ·rw [decide_eq_false (fun h=>c2 h.2.1)]
  refine callP_of C_ok Tryz.func46 rfl rfl (n:=_) rfl (zw18 rfl) (rs:=_) rfl ?_
  repeat' ((conv=>whnf); first|refine CallP.lent q1 (.keep (.cv (.d (.fnL (.cons (.ptrL trivial rfl (.data [DI a])) .nil))) .nil)) rfl rfl ?_|refine CallP.lent q2 (.keep (.cv (.d (.fnL (.cons (.ptrL trivial rfl (.data [DI b])) .nil))) .nil)) rfl rfl ?_|refine zw8 (zw19 c1) ?_|refine zw9 (zw20 c2) ?_|refine zw0 ?_|refine zw1 ?_|refine zw2 (fun h=>?_) (fun h=>?_)|refine zw3 ?_|refine zw4 (fun h=>?_) (fun h=>?_)|refine zw5 _ rfl ?_|refine zw6 rfl ?_)
  conv=>whnf
  exact FinP.drop (n:=3) rfl (zw21 3) rfl rfl ⟨rfl,rfl⟩
 by_cases c3 : i = j
 ·rw [decide_eq_false (fun h=>h.2.2 c3)]
  refine callP_of C_ok Tryz.func46 rfl rfl (n:=_) rfl (zw18 rfl) (rs:=_) rfl ?_
  repeat' ((conv=>whnf); first|refine CallP.lent q1 (.keep (.cv (.d (.fnL (.cons (.ptrL trivial rfl (.data [DI a])) .nil))) .nil)) rfl rfl ?_|refine CallP.lent q2 (.keep (.cv (.d (.fnL (.cons (.ptrL trivial rfl (.data [DI b])) .nil))) .nil)) rfl rfl ?_|refine zw8 (zw19 c1) ?_|refine zw8 (zw19 c2) ?_|refine zw3 ?_|refine zw8 (zw19 c3) ?_|refine zw0 ?_|refine zw1 ?_|refine zw2 (fun h=>?_) (fun h=>?_)|refine zw3 ?_|refine zw4 (fun h=>?_) (fun h=>?_)|refine zw5 _ rfl ?_|refine zw6 rfl ?_)
  conv=>whnf
  exact FinP.drop (n:=3) rfl (zw21 3) rfl rfl ⟨rfl,rfl⟩
 ·rw [decide_eq_true ⟨c1,c2,c3⟩]
  refine callP_of C_ok Tryz.func46 rfl rfl (n:=_) rfl (zw18 rfl) (rs:=_) rfl ?_
  repeat' ((conv=>whnf); first|refine CallP.lent q1 (.keep (.cv (.d (.fnL (.cons (.ptrL trivial rfl (.data [DI a])) .nil))) .nil)) rfl rfl ?_|refine CallP.lent q2 (.keep (.cv (.d (.fnL (.cons (.ptrL trivial rfl (.data [DI b])) .nil))) .nil)) rfl rfl ?_|refine zw8 (zw19 c1) ?_|refine zw8 (zw19 c2) ?_|refine zw3 ?_|refine zw9 (zw20 c3) ?_|refine zw0 ?_|refine zw1 ?_|refine zw2 (fun h=>?_) (fun h=>?_)|refine zw3 ?_|refine zw4 (fun h=>?_) (fun h=>?_)|refine zw5 _ rfl ?_|refine zw6 rfl ?_)
  conv=>whnf
  exact FinP.drop (n:=3) rfl (zw21 3) rfl rfl ⟨rfl,rfl⟩
noncomputable def Cp.evs (p : Cp) (fin : Bool) : List Ev:=rankT (p.rk fin) p.clubs.length p.clubs 0
noncomputable def Cp.gs (p : Cp) (fin : Bool) : List (List Int × Int):=grs (p.evs fin)
theorem grV_data {S : Nat → Prop} {L : List Blk} : ∀ d : List (List Int),CvLL S L (grV d) (d.map fun es=>[ins es])
 | []=>.nil
 | e :: d=>.cons (.cons (.d _) .nil) (grV_data d)
theorem two_cw {L : List Blk} {gs : List (List Int × Int)} {x y : Nat} (h1 : L[x]? = some (.row gs.length 1 (grV (gs.map (·.1))))) (h2 : L[y]? = some (.row gs.length 1 (rdI (gs.map (·.2))))) {n : Nat} (hx : n ≤ x) (hy : n ≤ y) :
  Cw (n ≤ ·) L (.agg [.own x gs.length 0 gs.length,.own y gs.length 0 gs.length]) (.agg [.d (insL (gs.map (·.1))),.d (ins (gs.map (·.2)))]):=by
 refine .aggL (ys:=[insL (gs.map (·.1)),ins (gs.map (·.2))]) (.cons (.rowL (ds:=(gs.map (·.1)).map fun es=>[ins es]) hx h1 ?_ (show gs.length = ((gs.map (·.1)).map fun es=>[ins es]).length by simp) (fun e he=>?_)) (.cons (.rowL (ds:=(gs.map (·.2)).map fun n=>[DI n]) hy h2 ?_ (show gs.length = ((gs.map (·.2)).map fun n=>[DI n]).length by simp) (fun e he=>?_)) .nil))
 ·rw [List.drop_zero,List.take_of_length_le (by rw [grV_len,List.length_map]; exact Nat.le_refl _)]
  exact grV_data _
 ·obtain ⟨_,_,rfl⟩:=List.mem_map.1 he; rfl
 ·rw [List.drop_zero,List.take_of_length_le (by unfold rdI; simp)]
  exact rdI_rows _
 ·obtain ⟨_,_,rfl⟩:=List.mem_map.1 he; rfl
theorem rank_c (p : Cp) (hL : LCp p) (fin : Bool) (hne : ∀ y ∈ p.res,y.game.home ≠ y.game.away) (ho : orderF p.ru.order = 0) (hc0 : 0 < p.clubs.length) (hc19 : p.clubs.length ≤ 19) (f : FuncId) (tcaps : List V) (tc : Int → List V) (c1 c2 : Blk) (step : Int → Int → List (List Int) → Int)
  (htb : ∀ n s,6 ≤ n → V.belL n (tc s) = true) (hcb : ∀ n,6 ≤ n → V.belL n tcaps = true) (hb1 : ∀ n,6 ≤ n → c1.bel n = true) (hb2 : ∀ n,6 ≤ n → c2.bel n = true)
  (htold : ∀ gs s c parts,PartsOk parts → ∀ (k : V → List Blk → Prop),k (.tup []) (mR p fin (.fn f tcaps) gs (tc (step s c parts)) c1 c2) → CallP C f (I c :: .d (insL parts) :: tcaps) (mR p fin (.fn f tcaps) gs (tc s) c1 c2) k) (s : Int) :
  CallP C 37 [.ptr 0 0,B fin,.fn f tcaps] (cM p ++ [.cells (tc s),c1,c2]) fun X L'=>X = .agg [.d (insL ((p.gs fin).map (·.1))),.d (ins ((p.gs fin).map (·.2)))] ∧ L' = cM p ++ [.cells (tc (toldF step s (p.evs fin))),c1,c2]:=by
 have hr:=rank1_s p hL fin hne ho f tcaps tc c1 c2 step (fun s=>htb 13 s (by decide)) (hcb 13 (by decide)) (hb1 13 (by decide)) (hb2 13 (by decide)) htold p.clubs.length p.clubs 0 (Nat.le_refl _) hc0 hc0 hc19 [] s (by simp only [List.length_nil]; omega)
 rw [List.nil_append] at hr
 have e1 : rankT (p.rk fin) p.clubs.length p.clubs 0 = p.evs fin:=rfl
 have e2 : grs (p.evs fin) = p.gs fin:=rfl
 rw [e1,e2] at hr
 generalize p.gs fin = gs at *
 generalize toldF step s (p.evs fin) = s' at *
 have hB : ∀ s,belB 6 (cM p ++ [.cells (tc s),c1,c2]) = true:=fun s=>belB_app' (cM_bel' 6 (by decide) p) (by show (V.belL 6 (tc s) && (c1.bel 6 && (c2.bel 6 && true))) = true; rw [htb 6 s (by decide),hb1 6 (by decide),hb2 6 (by decide)]; rfl)
 refine callP_of C_ok Tryz.func37 rfl rfl (n:=_) rfl (zw18 rfl) (rs:=_) rfl ?_
 repeat' ((conv=>whnf); first|simp only [forceL_eq]|refine Br.tt ?_|refine Br.ff ?_|refine Br.dec (fun h=>?_) (fun h=>?_)|refine Br.not ?_|refine Br.intro (fun h=>?_) (fun h=>?_)|refine GetE.intro _ rfl ?_|refine Need.intro rfl ?_)
 conv=>whnf
 refine DrawP.por mixed [5] [[(0,0),(1,0),(2,0),(3,0),(4,0),(5,2)]] (by kernel_rfl) ?_
 repeat' ((conv=>whnf); first|simp only [forceL_eq]|refine QCallW.intro _ _ (CallP.nilCell 9 0 1 _ rfl rfl (by decide) (CallP.nilCell 9 1 1 _ rfl rfl (by decide) (CallP.cnvO (L':=mR p fin (.fn f tcaps) [] (tc s) c1 c2) rfl rfl (hr _ ⟨rfl,rfl⟩)))) ?_|refine Br.tt ?_|refine Br.ff ?_|refine Br.dec (fun h=>?_) (fun h=>?_)|refine Br.not ?_|refine Br.intro (fun h=>?_) (fun h=>?_)|refine GetE.intro _ rfl ?_|refine Need.intro rfl ?_)
 conv=>whnf
 exact FinP.data (two_cw (x:=11) (y:=12) rfl rfl (zw18 rfl) (zw18 rfl)) rfl (hB s') ⟨rfl,rfl⟩
end Go.Proofs.YtihibgcojdfndaaGreatDoor
namespace Go.Tidy
section
variable {C : Ctx} [Quiet C] {L : List Blk}
theorem CallP.phantom {f : FuncId} {args : List V} {k : V → List Blk → Prop} (h : CallP C f args (L ++ [Blk.row 0 1 []]) k) : CallP C f args L k:=by
 rw [CallP_q] at h ⊢
 refine ⟨h.1,fun g w vs hg hv=>?_⟩
 have hp:=add_prog hg (Ext.refl w) (.row 0 1 []) none (fun q h=>by cases h) 0
 have hg1:=add_good (k':=.row 0 1 []) hg (Ext.refl w) none (fun q h=>by cases h) 0 ⟨by decide,by simp,.inl ⟨by simp [Gh.add],rfl⟩⟩
 have hlen : L.length ≤ (L ++ [Blk.row 0 1 []]).length:=by simp
 refine (h.2 _ w vs hg1 ⟨hv.1,fun i x v hx hvi=>add_mono hg (Ext.refl w) _ none 0 (hv.2 i x v hx hvi)⟩).mono ?_
 rintro e w' ⟨v,X,L',g',he,hX,hr,hgood,hpr⟩
 exact ⟨v,X,L',g',he,hX,hr,hgood,hp.trans (hpr.le hlen (zw21 _))⟩
end
end Go.Tidy
namespace Go.Proofs.YtihibgcojdfndaaGreatDoor
open Go.Tidy
open Sts (Res Row Worth Game rowsF addF rowC valueF inG known worthOk resOk fieldOk gameV resV ress rowV)
variable {L : List Blk} {k : V → List Blk → Prop}
noncomputable def rankX (p : Cp) (fin : Bool) : V :=
 if openE p 2 p.clubs.contains ≠ 0 then .tup [.d (.sl []),.d (.sl []),I (openE p 2 p.clubs.contains)] else .tup [.d (insL ((p.gs fin).map (·.1))),.d (ins ((p.gs fin).map (·.2))),I 0]
noncomputable def betX (p : Cp) (fin : Bool) (a b : Int) : V :=
 if openE p 2 p.clubs.contains ≠ 0 then .tup [I 0,I (openE p 2 p.clubs.contains)] else if (p.clubs.contains a && p.clubs.contains b) = false then .tup [I 0,I 190] else .tup [I (bet a b (p.evs fin) 0),I 0]
theorem rtold_c (c : Int) (x : D) (h : k (.tup []) L) : CallP C 38 [I c,.d x] L k:=by
 refine CallP.pure ?_ rfl (fun _=>rfl) h
 clear h
 refine callP_of C_ok Tryz.func38 rfl rfl (n:=_) rfl (zw18 rfl) (rs:=_) rfl ?_
 repeat' ((conv=>whnf); first|refine zw0 ?_|refine zw1 ?_|refine zw2 (fun h=>?_) (fun h=>?_)|refine zw3 ?_|refine zw4 (fun h=>?_) (fun h=>?_)|refine zw5 _ rfl ?_|refine zw6 rfl ?_|refine zw7 mixed rfl ?_)
 conv=>whnf
 exact FinP.drop (n:=0) rfl (zw21 0) rfl rfl ⟨rfl,rfl⟩
def cMn (p : Cp) (n : Nat) : List Blk:=[.cells [.d (ress p.res),.d (ins p.clubs),.map (n + 1),.d (.str p.ru.name),I p.ru.win,I p.ru.draw,I p.ru.loss,.d (sps p.ru.order),.d (zns p.ru.zones),.map (n + 2)],.map (esP (offTab p.clubs p.off p.clubs.length)),.map (esP (lotTab p.clubs p.lots p.lots.length))]
theorem cMn_up (p : Cp) (n : Nat) (ρ : Nat → Nat) (h1 : ρ 1 = n + 1) (h2 : ρ 2 = n + 2) : rnB ρ (cM p) = cMn p n:=by
 show [Blk.cells [.d (ress p.res),.d (ins p.clubs),.map (ρ 1),.d (.str p.ru.name),I p.ru.win,I p.ru.draw,I p.ru.loss,.d (sps p.ru.order),.d (zns p.ru.zones),.map (ρ 2)],.map (rnM ρ _),.map (rnM ρ _)] = _
 rw [h1,h2,rnM_esP,rnM_esP]; rfl
def mB1 (p : Cp) : List Blk:=[.cells (p.ru.cells.map .d)] ++ cMn p 1 ++ [.row 0 1 []] ++ [.row 0 1 []]
def mB4 (p : Cp) (a b r : Int) : List Blk:=[.cells (p.ru.cells.map .d),.cells [I a],.cells [I b],.cells [I r]] ++ cMn p 4
theorem rank_r (p : Cp) (hL : LCp p) (fin : Bool) (hne : ∀ y ∈ p.res,y.game.home ≠ y.game.away) (ho : orderF p.ru.order = 0) (hc0 : 0 < p.clubs.length) (hc19 : p.clubs.length ≤ 19)
  (h : k (.agg [.d (insL ((p.gs fin).map (·.1))),.d (ins ((p.gs fin).map (·.2)))]) ([.cells (p.ru.cells.map .d)] ++ cMn p 1 ++ [.row 0 1 [],.row 0 1 []])) :
  CallP C 37 [.ptr 1 0,B fin,.fn 38 []] ([.cells (p.ru.cells.map .d)] ++ cMn p 1) k:=by
 refine CallP.phantom (CallP.phantom ?_)
 refine CallP.embed (L:=mB1 p) [1,2,3,0,4,5] (rank_c p hL fin hne ho hc0 hc19 38 [] (fun _=>p.ru.cells.map .d) (.row 0 1 []) (.row 0 1 []) (fun s _ _=>s) (fun n s _=>V.belL_d n _) (fun n _=>rfl) (fun n _=>rfl) (fun n _=>rfl) (fun gs s c parts _ k h=>rtold_c c _ h) 0) ⟨by decide,fun c hc=>?_,rfl,fun c d hc=>?_,?_,rfl⟩ rfl ?_
 ·simp only [List.mem_cons,List.not_mem_nil,or_false] at hc
  show c < 6; omega
 ·have e:=cMn_up p 1 (rnI [1,2,3,0,4,5] 6) rfl rfl
  have e2 : ∀ (i : Nat),(cMn p 1)[i]? = ((cM p)[i]?).map (Blk.rn (rnI [1,2,3,0,4,5] 6)):=fun i=>by
   rw [← List.getElem?_map,← e]; rfl
  match c,hc with
  | 0,hc=>cases hc; exact e2 0
  | 1,hc=>cases hc; exact e2 1
  | 2,hc=>cases hc; exact e2 2
  | 3,hc=>cases hc; rfl
  | 4,hc=>cases hc; rfl
  | 5,hc=>cases hc; rfl
  | c + 6,hc=>simp at hc
 ·exact belB_app' (cM_bel' 6 (by decide) p) rfl
 ·rintro X L1 ⟨rfl,rfl⟩
  have e : putB [1,2,3,0,4,5] (rnB (rnI [1,2,3,0,4,5] (mB1 p).length) (cM p ++ [.cells (p.ru.cells.map .d),.row 0 1 [],.row 0 1 []])) (mB1 p) = [.cells (p.ru.cells.map .d)] ++ cMn p 1 ++ [.row 0 1 [],.row 0 1 []]:=by
   have e0 : rnB (rnI [1,2,3,0,4,5] (mB1 p).length) (cM p ++ [.cells (p.ru.cells.map .d),.row 0 1 [],.row 0 1 []]) = cMn p 1 ++ [.cells (p.ru.cells.map .d),.row 0 1 [],.row 0 1 []]:=by
    rw [← cMn_up p 1 (rnI [1,2,3,0,4,5] (mB1 p).length) rfl rfl]; rfl
   rw [e0]; rfl
  rw [e]
  exact h
theorem Rank_0 (p : Cp) (hL : LCp p) (h19 : p.clubs.length ≤ 19) (fin : Bool) : CallP C 13 [.d (ress p.res),.d (ins p.clubs),.d (ins p.off),.agg (p.ru.cells.map .d),B fin,.d (ins p.lots)] [] fun X L'=>X = rankX p fin ∧ L' = []:=by
 have ho:=fun {L : List Blk} {k : V → List Blk → Prop} h1 h2=>open_1 (L:=L) p 2 hL 77 [.rptr [ins p.clubs]] p.clubs.contains (fun n L k h=>among1_c p.clubs n (by have:=hL.clubs; omega) h) (k:=k) h1 h2
 unfold rankX
 by_cases h0 : openE p 2 p.clubs.contains = 0
 ·rw [if_neg (fun h=>h h0)]
  obtain ⟨o1,o2,o3,o4,o5,o6⟩:=open_of h0
  have hf:=field_of o1
  have hop : ∀ {k : V → List Blk → Prop},k (.tup [.ptr 1 0,I 0]) ([.cells (p.ru.cells.map .d)] ++ cMn p 1) → CallP C 35 [.d (ress p.res),.d (ins p.clubs),I ((2 : Nat) : Int),.d (.fn 77 [.rptr [ins p.clubs]]),.d (ins p.off),.agg (p.ru.cells.map .d),.d (ins p.lots)] [.cells (p.ru.cells.map .d)] k:=fun h =>
   ho (fun _=>by rw [cMn_up p 1 (rnI [] [Blk.cells (p.ru.cells.map .d)].length) rfl rfl]; exact h) (fun h'=>absurd h0 h')
  have hrk:=fun {k : V → List Blk → Prop} h=>rank_r (k:=k) p hL fin (ress_ne o5) (rules_order o4) (by omega) h19 h
  refine callP_of C_ok Tryz.func13 rfl rfl (n:=_) rfl (zw18 rfl) (rs:=_) rfl ?_
  repeat' ((conv=>whnf); first|refine zw0 ?_|refine zw1 ?_|refine zw2 (fun h=>?_) (fun h=>?_)|refine zw3 ?_|refine zw4 (fun h=>?_) (fun h=>?_)|refine zw5 _ rfl ?_|refine zw6 rfl ?_)
  conv=>whnf
  refine DrawP.por mixed [7] [[(0,0),(1,0),(2,0),(3,0),(4,0),(5,0),(6,0),(7,2),(8,0),(9,0),(10,0),(11,0),(12,0)]] (by kernel_rfl) ?_
  repeat' ((conv=>whnf); first|refine zw12 _ (among_c _ ⟨rfl,rfl⟩) ?_|refine zw13 _ _ (hop ⟨rfl,rfl⟩) ?_|refine hrk ?_|refine zw0 ?_|refine zw1 ?_|refine zw2 (fun h=>?_) (fun h=>?_)|refine zw3 ?_|refine zw4 (fun h=>?_) (fun h=>?_)|refine zw5 _ rfl ?_|refine zw6 rfl ?_)
  conv=>whnf
  refine DrawP.por mixed [] [[(0,0),(1,0),(2,0),(3,0),(4,0),(5,0),(6,0)]] (by kernel_rfl) ?_
  repeat' ((conv=>whnf); first|refine zw0 ?_|refine zw1 ?_|refine zw2 (fun h=>?_) (fun h=>?_)|refine zw3 ?_|refine zw4 (fun h=>?_) (fun h=>?_)|refine zw5 _ rfl ?_|refine zw6 rfl ?_)
  conv=>whnf
  exact FinP.drop (n:=0) rfl (zw21 0) rfl rfl ⟨rfl,rfl⟩
 ·rw [if_pos h0]
  have hop : ∀ {L : List Blk} {k : V → List Blk → Prop},k (.tup [.d .nilptr,I (openE p 2 p.clubs.contains)]) L → CallP C 35 [.d (ress p.res),.d (ins p.clubs),I ((2 : Nat) : Int),.d (.fn 77 [.rptr [ins p.clubs]]),.d (ins p.off),.agg (p.ru.cells.map .d),.d (ins p.lots)] L k:=fun h =>
   ho (fun h'=>absurd h' h0) (fun _=>h)
  generalize openE p 2 p.clubs.contains = e at *
  refine callP_of C_ok Tryz.func13 rfl rfl (n:=_) rfl (zw18 rfl) (rs:=_) rfl ?_
  repeat' ((conv=>whnf); first|refine zw0 ?_|refine zw1 ?_|refine zw2 (fun h=>?_) (fun h=>?_)|refine zw3 ?_|refine zw4 (fun h=>?_) (fun h=>?_)|refine zw5 _ rfl ?_|refine zw6 rfl ?_)
  conv=>whnf
  refine DrawP.por mixed [7] [[(0,0),(1,0),(2,0),(3,0),(4,0),(5,0),(6,0),(7,2),(8,0),(9,0),(10,0),(11,0),(12,0)]] (by kernel_rfl) ?_
  repeat' ((conv=>whnf); first|refine zw12 _ (among_c _ ⟨rfl,rfl⟩) ?_|refine zw13 _ _ (hop ⟨rfl,rfl⟩) ?_|refine zw3 ?_|refine zw9 (zw20 h0) ?_|refine zw0 ?_|refine zw1 ?_|refine zw2 (fun h=>?_) (fun h=>?_)|refine zw3 ?_|refine zw4 (fun h=>?_) (fun h=>?_)|refine zw5 _ rfl ?_|refine zw6 rfl ?_)
  conv=>whnf
  exact FinP.data (L':=[]) (.triple (.d .nil) (.d .nil) (.d (.d _))) rfl rfl ⟨rfl,rfl⟩
theorem told_b (p : Cp) (fin : Bool) (a b : Int) (gs : List (List Int × Int)) (s c : Int) (parts : List (List Int)) (hp : PartsOk parts) {k : V → List Blk → Prop}
  (h : k (.tup []) (mR p fin (.fn 46 [.ptr 4 0,.ptr 5 0,.ptr 3 0]) gs [I (if apartB parts a b then c else s)] (.cells [I a]) (.cells [I b]))) :
  CallP C 46 (I c :: .d (insL parts) :: [.ptr 4 0,.ptr 5 0,.ptr 3 0]) (mR p fin (.fn 46 [.ptr 4 0,.ptr 5 0,.ptr 3 0]) gs [I s] (.cells [I a]) (.cells [I b])) k:=by
 refine CallP.embed (L:=mR p fin (.fn 46 [.ptr 4 0,.ptr 5 0,.ptr 3 0]) gs [I s] (.cells [I a]) (.cells [I b])) [3,4,5] (bet1_c s a b c parts hp.1 hp.2) ⟨by decide,fun d hd=>?_,rfl,fun c d hc=>?_,rfl,rfl⟩ rfl ?_
 ·simp only [List.mem_cons,List.not_mem_nil,or_false] at hd
  show d < 13; omega
 ·match c,hc with
  | 0,hc=>cases hc; rfl
  | 1,hc=>cases hc; rfl
  | 2,hc=>cases hc; rfl
  | c + 3,hc=>simp at hc
 ·rintro X L1 ⟨rfl,rfl⟩
  exact h
theorem rank_b0 (p : Cp) (hL : LCp p) (fin : Bool) (hne : ∀ y ∈ p.res,y.game.home ≠ y.game.away) (ho : orderF p.ru.order = 0) (hc0 : 0 < p.clubs.length) (hc19 : p.clubs.length ≤ 19) (a b : Int)
  (h : ∀ x y : D,k (.agg [.d x,.d y]) ([.cells (p.ru.cells.map .d),.cells [I a],.cells [I b],.cells [I (bet a b (p.evs fin) 0)]] ++ cMn p 4)) :
  CallP C 37 [.ptr 4 0,B fin,.fn 46 [.ptr 1 0,.ptr 2 0,.ptr 3 0]] ([.cells (p.ru.cells.map .d),.cells [I a],.cells [I b],.cells [I 0]] ++ cMn p 4) k:=by
 refine CallP.embed (L:=mB4 p a b 0) [4,5,6,3,1,2] (rank_c p hL fin hne ho hc0 hc19 46 [.ptr 4 0,.ptr 5 0,.ptr 3 0] (fun s=>[I s]) (.cells [I a]) (.cells [I b]) (fun s c parts=>if apartB parts a b then c else s) (fun n s _=>rfl) (fun n hn=>?_) (fun n _=>rfl) (fun n _=>rfl) (fun gs s c parts hp k h=>told_b p fin a b gs s c parts hp h) 0) ⟨by decide,fun c hc=>?_,rfl,fun c d hc=>?_,?_,rfl⟩ rfl ?_
 ·simp only [V.belL,V.bel,decide_eq_true (show 4 < n by omega),decide_eq_true (show 5 < n by omega),decide_eq_true (show 3 < n by omega)]; rfl
 ·simp only [List.mem_cons,List.not_mem_nil,or_false] at hc
  show c < 7; omega
 ·have e:=cMn_up p 4 (rnI [4,5,6,3,1,2] 7) rfl rfl
  have e2 : ∀ (i : Nat),(cMn p 4)[i]? = ((cM p)[i]?).map (Blk.rn (rnI [4,5,6,3,1,2] 7)):=fun i=>by
   rw [← List.getElem?_map,← e]; rfl
  match c,hc with
  | 0,hc=>cases hc; exact e2 0
  | 1,hc=>cases hc; exact e2 1
  | 2,hc=>cases hc; exact e2 2
  | 3,hc=>cases hc; rfl
  | 4,hc=>cases hc; rfl
  | 5,hc=>cases hc; rfl
  | c + 6,hc=>simp at hc
 ·exact belB_app' (cM_bel' 6 (by decide) p) rfl
 ·rintro X L1 ⟨rfl,rfl⟩
  rw [told_bet]
  generalize bet a b (p.evs fin) 0 = r at *
  have e : putB [4,5,6,3,1,2] (rnB (rnI [4,5,6,3,1,2] (mB4 p a b 0).length) (cM p ++ [.cells [I r],.cells [I a],.cells [I b]])) (mB4 p a b 0) = mB4 p a b r:=by
   have e0 : rnB (rnI [4,5,6,3,1,2] (mB4 p a b 0).length) (cM p ++ [.cells [I r],.cells [I a],.cells [I b]]) = cMn p 4 ++ [.cells [I r],.cells [I a],.cells [I b]]:=by
    rw [← cMn_up p 4 (rnI [4,5,6,3,1,2] (mB4 p a b 0).length) rfl rfl]; rfl
   rw [e0]; rfl
  rw [e]
  exact h _ _
theorem Between_0 (p : Cp) (hL : LCp p) (h19 : p.clubs.length ≤ 19) (fin : Bool) (a b : Int) : CallP C 19 [.d (ress p.res),.d (ins p.clubs),.d (ins p.off),.agg (p.ru.cells.map .d),B fin,.d (ins p.lots),I a,I b] [] fun X L'=>X = betX p fin a b ∧ L' = []:=by
 have ho:=fun {L : List Blk} {k : V → List Blk → Prop} h1 h2=>open_1 (L:=L) p 2 hL 77 [.rptr [ins p.clubs]] p.clubs.contains (fun n L k h=>among1_c p.clubs n (by have:=hL.clubs; omega) h) (k:=k) h1 h2
 have hca : ∀ (n : Int) {L : List Blk} {k : V → List Blk → Prop},k (B (p.clubs.contains n)) L → CallP C 45 [.d (ins p.clubs),I n] L k:=fun n _ _ h=>Sts.contains_c p.clubs n (by have:=hL.clubs; omega) h
 unfold betX
 by_cases h0 : openE p 2 p.clubs.contains = 0
 ·rw [if_neg (fun h=>h h0)]
  obtain ⟨o1,o2,o3,o4,o5,o6⟩:=open_of h0
  have hf:=field_of o1
  have hop : ∀ {k : V → List Blk → Prop},k (.tup [.ptr 4 0,I 0]) ([.cells (p.ru.cells.map .d),.cells [I a],.cells [I b],.cells [I 0]] ++ cMn p 4) → CallP C 35 [.d (ress p.res),.d (ins p.clubs),I ((2 : Nat) : Int),.d (.fn 77 [.rptr [ins p.clubs]]),.d (ins p.off),.agg (p.ru.cells.map .d),.d (ins p.lots)] [.cells (p.ru.cells.map .d),.cells [I a],.cells [I b],.cells [I 0]] k:=fun h =>
   ho (fun _=>by rw [cMn_up p 4 (rnI [] [Blk.cells (p.ru.cells.map .d),.cells [I a],.cells [I b],.cells [I 0]].length) rfl rfl]; exact h) (fun h'=>absurd h0 h')
  have hrk:=fun {k : V → List Blk → Prop} h=>rank_b0 (k:=k) p hL fin (ress_ne o5) (rules_order o4) (by omega) h19 a b h
  have hA:=fun {L : List Blk} {k : V → List Blk → Prop} h=>hca a (L:=L) (k:=k) h
  have hB:=fun {L : List Blk} {k : V → List Blk → Prop} h=>hca b (L:=L) (k:=k) h
  generalize bet a b (p.evs fin) 0 = r at *
  cases c1 : p.clubs.contains a with
  | false =>
   rw [c1] at hA
   rw [Bool.false_and,if_pos rfl]
   refine callP_of C_ok Tryz.func19 rfl rfl (n:=_) rfl (zw18 rfl) (rs:=_) rfl ?_
   repeat' ((conv=>whnf); first|refine zw0 ?_|refine zw1 ?_|refine zw2 (fun h=>?_) (fun h=>?_)|refine zw3 ?_|refine zw4 (fun h=>?_) (fun h=>?_)|refine zw5 _ rfl ?_|refine zw6 rfl ?_)
   conv=>whnf
   refine DrawP.por mixed [7] [[(0,0),(1,0),(2,0),(3,0),(4,0),(5,0),(6,0),(7,2),(8,0),(9,0),(10,0),(11,0),(12,0)]] (by kernel_rfl) ?_
   repeat' ((conv=>whnf); first|refine zw12 _ (among_c _ ⟨rfl,rfl⟩) ?_|refine zw13 _ _ (hop ⟨rfl,rfl⟩) ?_|refine hA ?_|refine zw3 ?_|refine zw0 ?_|refine zw1 ?_|refine zw2 (fun h=>?_) (fun h=>?_)|refine zw3 ?_|refine zw4 (fun h=>?_) (fun h=>?_)|refine zw5 _ rfl ?_|refine zw6 rfl ?_)
   conv=>whnf
   exact FinP.drop (n:=0) rfl (zw21 0) rfl rfl ⟨rfl,rfl⟩
  | true =>
  rw [c1] at hA
  cases c2 : p.clubs.contains b with
  | false =>
   rw [c2] at hB
   rw [Bool.true_and,if_pos rfl]
   refine callP_of C_ok Tryz.func19 rfl rfl (n:=_) rfl (zw18 rfl) (rs:=_) rfl ?_
   repeat' ((conv=>whnf); first|refine zw0 ?_|refine zw1 ?_|refine zw2 (fun h=>?_) (fun h=>?_)|refine zw3 ?_|refine zw4 (fun h=>?_) (fun h=>?_)|refine zw5 _ rfl ?_|refine zw6 rfl ?_)
   conv=>whnf
   refine DrawP.por mixed [7] [[(0,0),(1,0),(2,0),(3,0),(4,0),(5,0),(6,0),(7,2),(8,0),(9,0),(10,0),(11,0),(12,0)]] (by kernel_rfl) ?_
   repeat' ((conv=>whnf); first|refine zw12 _ (among_c _ ⟨rfl,rfl⟩) ?_|refine zw13 _ _ (hop ⟨rfl,rfl⟩) ?_|refine hA ?_|refine hB ?_|refine zw3 ?_|refine zw0 ?_|refine zw1 ?_|refine zw2 (fun h=>?_) (fun h=>?_)|refine zw3 ?_|refine zw4 (fun h=>?_) (fun h=>?_)|refine zw5 _ rfl ?_|refine zw6 rfl ?_)
   conv=>whnf
   exact FinP.drop (n:=0) rfl (zw21 0) rfl rfl ⟨rfl,rfl⟩
  | true =>
   rw [c2] at hB
   rw [Bool.true_and,if_neg (by decide)]
   refine callP_of C_ok Tryz.func19 rfl rfl (n:=_) rfl (zw18 rfl) (rs:=_) rfl ?_
   repeat' ((conv=>whnf); first|refine zw0 ?_|refine zw1 ?_|refine zw2 (fun h=>?_) (fun h=>?_)|refine zw3 ?_|refine zw4 (fun h=>?_) (fun h=>?_)|refine zw5 _ rfl ?_|refine zw6 rfl ?_)
   conv=>whnf
   refine DrawP.por mixed [7] [[(0,0),(1,0),(2,0),(3,0),(4,0),(5,0),(6,0),(7,2),(8,0),(9,0),(10,0),(11,0),(12,0)]] (by kernel_rfl) ?_
   repeat' ((conv=>whnf); first|refine zw12 _ (among_c _ ⟨rfl,rfl⟩) ?_|refine zw13 _ _ (hop ⟨rfl,rfl⟩) ?_|refine hA ?_|refine hB ?_|refine zw3 ?_|refine hrk (fun _ _=>?_)|refine zw0 ?_|refine zw1 ?_|refine zw2 (fun h=>?_) (fun h=>?_)|refine zw3 ?_|refine zw4 (fun h=>?_) (fun h=>?_)|refine zw5 _ rfl ?_|refine zw6 rfl ?_)
   conv=>whnf
   exact FinP.drop (n:=0) rfl (zw21 0) rfl rfl ⟨rfl,rfl⟩
 ·rw [if_pos h0]
  have hop : ∀ {L : List Blk} {k : V → List Blk → Prop},k (.tup [.d .nilptr,I (openE p 2 p.clubs.contains)]) L → CallP C 35 [.d (ress p.res),.d (ins p.clubs),I ((2 : Nat) : Int),.d (.fn 77 [.rptr [ins p.clubs]]),.d (ins p.off),.agg (p.ru.cells.map .d),.d (ins p.lots)] L k:=fun h =>
   ho (fun h'=>absurd h' h0) (fun _=>h)
  generalize openE p 2 p.clubs.contains = e at *
  refine callP_of C_ok Tryz.func19 rfl rfl (n:=_) rfl (zw18 rfl) (rs:=_) rfl ?_
  repeat' ((conv=>whnf); first|refine zw0 ?_|refine zw1 ?_|refine zw2 (fun h=>?_) (fun h=>?_)|refine zw3 ?_|refine zw4 (fun h=>?_) (fun h=>?_)|refine zw5 _ rfl ?_|refine zw6 rfl ?_)
  conv=>whnf
  refine DrawP.por mixed [7] [[(0,0),(1,0),(2,0),(3,0),(4,0),(5,0),(6,0),(7,2),(8,0),(9,0),(10,0),(11,0),(12,0)]] (by kernel_rfl) ?_
  repeat' ((conv=>whnf); first|refine zw12 _ (among_c _ ⟨rfl,rfl⟩) ?_|refine zw13 _ _ (hop ⟨rfl,rfl⟩) ?_|refine zw3 ?_|refine zw9 (zw20 h0) ?_|refine zw0 ?_|refine zw1 ?_|refine zw2 (fun h=>?_) (fun h=>?_)|refine zw3 ?_|refine zw4 (fun h=>?_) (fun h=>?_)|refine zw5 _ rfl ?_|refine zw6 rfl ?_)
  conv=>whnf
  exact FinP.data (L':=[]) (.pair (.d (.d _)) (.d (.d _))) rfl rfl ⟨rfl,rfl⟩
end Go.Proofs.YtihibgcojdfndaaGreatDoor
namespace Go.Proofs.YtihibgcojdfndaaGreatDoor
open Go.Tidy
open Sts (Res Row Worth Game rowsF addF rowC valueF inG known worthOk resOk fieldOk gameV resV ress rowV)
variable {L : List Blk} {k : V → List Blk → Prop}
theorem rin19_c (l : List Int) (n : Int) (hl : l.length ≤ 4611686018427387904) (h : k (B (l.contains n)) L) : CallP C 25 [.d (ins l),I n] L k:=by
 have hml : ((l.map fun n=>[DI n]).length : Int) = (l.length : Int):=by rw [insl]
 refine CallP.pure ?_ rfl (fun _=>rfl) h
 clear h
 refine callP_of C_ok Tryz.func25 rfl rfl (n:=_) rfl (zw18 rfl) (rs:=_) rfl ?_
 repeat' ((conv=>whnf); first|refine zw0 ?_|refine zw1 ?_|refine zw2 (fun h=>?_) (fun h=>?_)|refine zw3 ?_|refine zw4 (fun h=>?_) (fun h=>?_)|refine zw5 _ rfl ?_|refine zw6 rfl ?_)
 conv=>whnf
 refine LoopP.inv (fun i : Nat=>i ≤ l.length ∧ ∀ (j : Nat) (hj : j < l.length),j < i → l[j] ≠ n) (fun i=>⟨[(0,.d (ins l)),(1,I n),(5,I i)],Tryz.f25.ntmps,[],[],none⟩) (fun i=>l.length - i) 0 ⟨zw22 _,fun j _ h=>absurd h (Nat.not_lt_zero j)⟩ ?_ ?_
 ·exact Weak.by ⟨rfl,rfl,rfl,trivial⟩
 rintro i ⟨hi,h1⟩
 by_cases hi' : i < l.length
 ·have hlt : (i : Int) < ((l.map fun n=>[DI n]).length : Int):=by omega
  have hw : IntKind.i64.wrap ((i : Int) + 1) = ((i + 1 : Nat) : Int):=by rw [wrap_in (by omega)]; omega
  have r1:=ins_at hi'
  by_cases hq : l[i] = n
  ·have e : l.contains n = true:=List.contains_iff_mem.2 (hq ▸ List.getElem_mem hi')
   rw [e]
   repeat' ((conv=>whnf); first|refine zw8 (zw19 hlt) ?_|refine zw8 (zw19 hq) ?_|refine zw10 i _ rfl r1 ?_|refine zw0 ?_|refine zw1 ?_|refine zw2 (fun h=>?_) (fun h=>?_)|refine zw3 ?_|refine zw4 (fun h=>?_) (fun h=>?_)|refine zw5 _ rfl ?_|refine zw6 rfl ?_)
   conv=>whnf
   exact FinP.drop (n:=0) rfl (zw21 0) rfl rfl ⟨rfl,rfl⟩
  ·repeat' (conv => whnf
            first|refine zw8 (zw19 hlt) ?_|refine zw9 (zw20 hq) ?_|refine zw10 i _ rfl r1 ?_|refine zw0 ?_|refine zw1 ?_|refine zw2 (fun h=>?_) (fun h=>?_)|refine zw3 ?_|refine zw4 (fun h=>?_) (fun h=>?_)|refine zw5 _ rfl ?_|refine zw6 rfl ?_)
   conv=>whnf
   exact ⟨i + 1,⟨hi',fun j hj hji=>by
    by_cases e : j = i
    ·subst e; exact hq
    ·exact h1 j hj (by omega)⟩,by omega,Weak.by ⟨rfl,rfl,congrArg I hw,trivial⟩⟩
 ·have hlt : ¬ (i : Int) < ((l.map fun n=>[DI n]).length : Int):=by omega
  have e : l.contains n = false:=by
   cases hc : l.contains n with
   | false=>rfl
   | true =>
    obtain ⟨j,hj,hje⟩:=List.mem_iff_getElem.1 (List.contains_iff_mem.1 hc)
    exact absurd hje (h1 j hj (by omega))
  rw [e]
  repeat' ((conv=>whnf); first|refine zw9 (zw20 hlt) ?_|refine zw0 ?_|refine zw1 ?_|refine zw2 (fun h=>?_) (fun h=>?_)|refine zw3 ?_|refine zw4 (fun h=>?_) (fun h=>?_)|refine zw5 _ rfl ?_|refine zw6 rfl ?_)
  conv=>whnf
  exact FinP.drop (n:=0) rfl (zw21 0) rfl rfl ⟨rfl,rfl⟩
theorem rsameL19_c (a b : List Int) (ha : a.length ≤ 1073741824) (hb : b.length ≤ 1073741824) (h : k (B (decide (a = b))) L) : CallP C 16 [.d (ins a),.d (ins b)] L k:=by
 refine CallP.pure ?_ rfl (fun _=>rfl) h
 clear h
 refine callP_of C_ok Tryz.func16 rfl rfl (n:=_) rfl (zw18 rfl) (rs:=_) rfl ?_
 by_cases h1 : ((a.map fun n=>[DI n]).length : Int) = ((b.map fun n=>[DI n]).length : Int)
 rotate_left
 ·have hne : a ≠ b:=fun e=>h1 (by rw [e])
  repeat' ((conv=>whnf); first|refine zw3 ?_|refine zw9 (zw20 h1) ?_|refine zw0 ?_|refine zw1 ?_|refine zw2 (fun h=>?_) (fun h=>?_)|refine zw3 ?_|refine zw4 (fun h=>?_) (fun h=>?_)|refine zw5 _ rfl ?_|refine zw6 rfl ?_|refine zw7 mixed rfl ?_)
  conv=>whnf
  exact FinP.drop (n:=0) rfl (zw21 0) rfl rfl ⟨rfl,congrArg B (zw20 hne).symm⟩
 have hl : a.length = b.length:=by rw [List.length_map,List.length_map] at h1; omega
 repeat' ((conv=>whnf); first|refine zw3 ?_|refine zw8 (zw19 h1) ?_|refine zw0 ?_|refine zw1 ?_|refine zw2 (fun h=>?_) (fun h=>?_)|refine zw3 ?_|refine zw4 (fun h=>?_) (fun h=>?_)|refine zw5 _ rfl ?_|refine zw6 rfl ?_|refine zw7 mixed rfl ?_)
 conv=>whnf
 refine LoopP.inv (fun i=>i ≤ a.length ∧ ∀ (j : Nat) (h : j < a.length) (h' : j < b.length),j < i → a[j] = b[j]) (fun i=>⟨[(0,.d (ins a)),(1,.d (ins b)),(5,I i)],Tryz.f16.ntmps,[],[],none⟩) (fun i=>a.length - i) 0 ⟨zw22 _,fun j _ _ h=>absurd h (Nat.not_lt_zero j)⟩ ?_ ?_
 ·exact Weak.by ⟨rfl,rfl,rfl,trivial⟩
 rintro i ⟨hi,heq⟩
 by_cases hi' : i < a.length
 ·have hlt : (i : Int) < ((a.map fun n=>[DI n]).length : Int):=by rw [List.length_map]; omega
  have hib : i < b.length:=by omega
  have hw : IntKind.i64.wrap ((i : Int) + 1) = ((i + 1 : Nat) : Int):=by rw [wrap_in (by omega)]; omega
  have r1:=ins_at hi'
  have r2:=ins_at hib
  by_cases hq : a[i] = b[i]
  ·have heq' : ∀ (j : Nat) (h : j < a.length) (h' : j < b.length),j < i + 1 → a[j] = b[j]:=fun j hj hj' hji=>by
    by_cases e : j = i
    ·subst e; exact hq
    ·exact heq j hj hj' (by omega)
   generalize a[i] = x at *
   generalize b[i] = y at *
   repeat' ((conv=>whnf); first|refine zw3 ?_|refine zw8 (zw19 hlt) ?_|refine zw8 (zw19 hq) ?_|refine zw10 i _ rfl r1 ?_|refine zw10 i _ rfl r2 ?_|refine zw0 ?_|refine zw1 ?_|refine zw2 (fun h=>?_) (fun h=>?_)|refine zw3 ?_|refine zw4 (fun h=>?_) (fun h=>?_)|refine zw5 _ rfl ?_|refine zw6 rfl ?_|refine zw7 mixed rfl ?_)
   conv=>whnf
   exact ⟨i + 1,⟨hi',heq'⟩,by omega,Weak.by ⟨rfl,rfl,congrArg I hw,trivial⟩⟩
  ·have hne : a ≠ b:=fun e=>hq (by subst e; rfl)
   generalize a[i] = x at *
   generalize b[i] = y at *
   repeat' ((conv=>whnf); first|refine zw3 ?_|refine zw8 (zw19 hlt) ?_|refine zw9 (zw20 hq) ?_|refine zw10 i _ rfl r1 ?_|refine zw10 i _ rfl r2 ?_|refine zw0 ?_|refine zw1 ?_|refine zw2 (fun h=>?_) (fun h=>?_)|refine zw3 ?_|refine zw4 (fun h=>?_) (fun h=>?_)|refine zw5 _ rfl ?_|refine zw6 rfl ?_|refine zw7 mixed rfl ?_)
   conv=>whnf
   exact FinP.drop (n:=0) rfl (zw21 0) rfl rfl ⟨rfl,congrArg B (zw20 hne).symm⟩
 ·have hlt : ¬ (i : Int) < ((a.map fun n=>[DI n]).length : Int):=by rw [List.length_map]; omega
  have hab : a = b:=List.ext_getElem hl fun j h1 h2=>heq j h1 h2 (by omega)
  repeat' ((conv=>whnf); first|refine zw9 (zw20 hlt) ?_|refine zw0 ?_|refine zw1 ?_|refine zw2 (fun h=>?_) (fun h=>?_)|refine zw3 ?_|refine zw4 (fun h=>?_) (fun h=>?_)|refine zw5 _ rfl ?_|refine zw6 rfl ?_|refine zw7 mixed rfl ?_)
  conv=>whnf
  exact FinP.drop (n:=0) rfl (zw21 0) rfl rfl ⟨rfl,congrArg B (zw19 hab).symm⟩
theorem insL_at {l : List (List Int)} {i : Nat} (h : i < l.length) : (l.map fun es=>[ins es])[i]? = some [ins l[i]]:=by rw [List.getElem?_map,List.getElem?_eq_getElem h]; rfl
theorem rsame19_c (a b : List (List Int)) (ha : a.length ≤ 1073741824) (hb : b.length ≤ 1073741824) (hs : ∀ x ∈ a,x.length ≤ 1073741824) (ht : ∀ x ∈ b,x.length ≤ 1073741824) (h : k (B (decide (a = b))) L) : CallP C 15 [.d (insL a),.d (insL b)] L k:=by
 refine CallP.pure ?_ rfl (fun _=>rfl) h
 clear h
 refine callP_of C_ok Tryz.func15 rfl rfl (n:=_) rfl (zw18 rfl) (rs:=_) rfl ?_
 by_cases h1 : ((a.map fun es=>[ins es]).length : Int) = ((b.map fun es=>[ins es]).length : Int)
 rotate_left
 ·have hne : a ≠ b:=fun e=>h1 (by rw [e])
  repeat' ((conv=>whnf); first|refine zw3 ?_|refine zw9 (zw20 h1) ?_|refine zw0 ?_|refine zw1 ?_|refine zw2 (fun h=>?_) (fun h=>?_)|refine zw3 ?_|refine zw4 (fun h=>?_) (fun h=>?_)|refine zw5 _ rfl ?_|refine zw6 rfl ?_|refine zw7 mixed rfl ?_)
  conv=>whnf
  exact FinP.drop (n:=0) rfl (zw21 0) rfl rfl ⟨rfl,congrArg B (zw20 hne).symm⟩
 have hl : a.length = b.length:=by rw [List.length_map,List.length_map] at h1; omega
 repeat' ((conv=>whnf); first|refine zw3 ?_|refine zw8 (zw19 h1) ?_|refine zw0 ?_|refine zw1 ?_|refine zw2 (fun h=>?_) (fun h=>?_)|refine zw3 ?_|refine zw4 (fun h=>?_) (fun h=>?_)|refine zw5 _ rfl ?_|refine zw6 rfl ?_|refine zw7 mixed rfl ?_)
 conv=>whnf
 refine LoopP.inv (fun i=>i ≤ a.length ∧ ∀ (j : Nat) (h : j < a.length) (h' : j < b.length),j < i → a[j] = b[j]) (fun i=>⟨[(0,.d (insL a)),(1,.d (insL b)),(5,I i)],Tryz.f15.ntmps,[],[],none⟩) (fun i=>a.length - i) 0 ⟨zw22 _,fun j _ _ h=>absurd h (Nat.not_lt_zero j)⟩ ?_ ?_
 ·exact Weak.by ⟨rfl,rfl,rfl,trivial⟩
 rintro i ⟨hi,heq⟩
 by_cases hi' : i < a.length
 ·have hlt : (i : Int) < ((a.map fun es=>[ins es]).length : Int):=by rw [List.length_map]; omega
  have hib : i < b.length:=by omega
  have hw : IntKind.i64.wrap ((i : Int) + 1) = ((i + 1 : Nat) : Int):=by rw [wrap_in (by omega)]; omega
  have r1:=insL_at hi'
  have r2:=insL_at hib
  have hsn:=fun {L : List Blk} {k : V → List Blk → Prop} (h : k (B (decide (a[i] = b[i]))) L)=>rsameL19_c (L:=L) (k:=k) a[i] b[i] (hs _ (List.getElem_mem hi')) (ht _ (List.getElem_mem hib)) h
  by_cases hq : a[i] = b[i]
  ·have heq' : ∀ (j : Nat) (h : j < a.length) (h' : j < b.length),j < i + 1 → a[j] = b[j]:=fun j hj hj' hji=>by
    by_cases e : j = i
    ·subst e; exact hq
    ·exact heq j hj hj' (by omega)
   generalize a[i] = x at *
   generalize b[i] = y at *
   repeat' ((conv=>whnf); first|refine zw3 ?_|refine zw8 (zw19 hlt) ?_|refine zw8 (zw19 hq) ?_|refine zw10 i _ rfl r1 ?_|refine zw10 i _ rfl r2 ?_|refine zw12 _ (hsn ⟨rfl,rfl⟩) ?_|refine zw0 ?_|refine zw1 ?_|refine zw2 (fun h=>?_) (fun h=>?_)|refine zw3 ?_|refine zw4 (fun h=>?_) (fun h=>?_)|refine zw5 _ rfl ?_|refine zw6 rfl ?_|refine zw7 mixed rfl ?_)
   conv=>whnf
   exact ⟨i + 1,⟨hi',heq'⟩,by omega,Weak.by ⟨rfl,rfl,congrArg I hw,trivial⟩⟩
  ·have hne : a ≠ b:=fun e=>hq (by subst e; rfl)
   generalize a[i] = x at *
   generalize b[i] = y at *
   repeat' ((conv=>whnf); first|refine zw3 ?_|refine zw8 (zw19 hlt) ?_|refine zw9 (zw20 hq) ?_|refine zw10 i _ rfl r1 ?_|refine zw10 i _ rfl r2 ?_|refine zw12 _ (hsn ⟨rfl,rfl⟩) ?_|refine zw0 ?_|refine zw1 ?_|refine zw2 (fun h=>?_) (fun h=>?_)|refine zw3 ?_|refine zw4 (fun h=>?_) (fun h=>?_)|refine zw5 _ rfl ?_|refine zw6 rfl ?_|refine zw7 mixed rfl ?_)
   conv=>whnf
   exact FinP.drop (n:=0) rfl (zw21 0) rfl rfl ⟨rfl,congrArg B (zw20 hne).symm⟩
 ·have hlt : ¬ (i : Int) < ((a.map fun es=>[ins es]).length : Int):=by rw [List.length_map]; omega
  have hab : a = b:=List.ext_getElem hl fun j h1 h2=>heq j h1 h2 (by omega)
  repeat' ((conv=>whnf); first|refine zw9 (zw20 hlt) ?_|refine zw0 ?_|refine zw1 ?_|refine zw2 (fun h=>?_) (fun h=>?_)|refine zw3 ?_|refine zw4 (fun h=>?_) (fun h=>?_)|refine zw5 _ rfl ?_|refine zw6 rfl ?_|refine zw7 mixed rfl ?_)
  conv=>whnf
  exact FinP.drop (n:=0) rfl (zw21 0) rfl rfl ⟨rfl,congrArg B (zw19 hab).symm⟩
def fpL (f : Co → Int) : List Co → Int → Int
 | [],n=>n
 | p :: ps,n=>if n < 1000 then fpL f ps (IntKind.i64.wrap (n + f p)) else n
def fpF : Nat → Co → Int
 | 0,_=>1000
 | d + 1,c=>fpL (fpF d) c.parts c.parts.length
theorem fpL_big {f : Co → Int} : ∀ {l : List Co} {n : Int},¬ n < 1000 → fpL f l n = n
 | [],n,_=>rfl
 | p :: ps,n,h=>by rw [fpL,if_neg h]
theorem fpL_drop {f : Co → Int} {l : List Co} {i : Nat} {n : Int} (h : i < l.length) (hn : n < 1000) : fpL f (l.drop i) n = fpL f (l.drop (i + 1)) (IntKind.i64.wrap (n + f l[i])):=by
 rw [List.drop_eq_getElem_cons h,fpL,if_pos hn]
theorem fewParts_c : ∀ (d : Nat) (c : Co),d ≤ 100 → LCo c → ∀ (L : List Blk) (k : V → List Blk → Prop),k (I (fpF d c)) L → CallP C 74 [.agg (c.cells.map .d),I d] L k
 | 0,c,hd,hc=>by
  intro L k h
  rw [Co.cells_eq]
  refine CallP.pure ?_ rfl (fun _=>rfl) h
  clear h
  refine callP_of C_ok Tryz.func74 rfl rfl (n:=_) rfl (zw18 rfl) (rs:=_) rfl ?_
  repeat' ((conv=>whnf); first|refine zw8 (zw19 (show ((0 : Nat) : Int) = 0 by decide)) ?_|refine zw0 ?_|refine zw1 ?_|refine zw2 (fun h=>?_) (fun h=>?_)|refine zw3 ?_|refine zw4 (fun h=>?_) (fun h=>?_)|refine zw5 _ rfl ?_|refine zw6 rfl ?_|refine zw7 mixed rfl ?_)
  conv=>whnf
  exact FinP.drop (n:=0) rfl (zw21 0) rfl rfl ⟨rfl,rfl⟩
 | d + 1,c,hd,hc=>by
  intro L k h
  have ih:=fewParts_c d
  have hlen:=hc.len
  rw [Co.cells_eq]
  refine CallP.pure ?_ rfl (fun _=>rfl) h
  clear h
  refine callP_of C_ok Tryz.func74 rfl rfl (n:=_) rfl (zw18 rfl) (rs:=_) rfl ?_
  have h1 : ¬ ((d + 1 : Nat) : Int) = 0:=by omega
  have hml : ((c.parts.map Co.cells).length : Int) = (c.parts.length : Int):=by rw [List.length_map]
  repeat' ((conv=>whnf); first|refine zw9 (zw20 h1) ?_|refine zw0 ?_|refine zw1 ?_|refine zw2 (fun h=>?_) (fun h=>?_)|refine zw3 ?_|refine zw4 (fun h=>?_) (fun h=>?_)|refine zw5 _ rfl ?_|refine zw6 rfl ?_|refine zw7 mixed rfl ?_)
  conv=>whnf
  refine LoopP.inv (α:=Nat × Int) (fun s=>s.1 ≤ c.parts.length ∧ fpL (fpF d) (c.parts.drop s.1) s.2 = fpF (d + 1) c) (fun s=>⟨[(1,I ((d + 1 : Nat) : Int)),(2,.ptr 0 0),(5,I s.2),(6,I s.1)],Tryz.f74.ntmps,[.cells [I c.kind,I c.var,I c.n,.d (cos c.parts)]],[],none⟩) (fun s=>c.parts.length - s.1) (0,(c.parts.length : Int)) ⟨zw22 _,rfl⟩ ?_ ?_
  ·exact Weak.by ⟨rfl,rfl,congrArg I hml,rfl,trivial⟩
  rintro ⟨i,n⟩ ⟨hi,ht⟩
  simp only at hi ht
  by_cases h2 : (i : Int) < ((c.parts.map Co.cells).length : Int)
  rotate_left
  ·have h2' : c.parts.length ≤ i:=by rw [List.length_map] at h2; omega
   rw [List.drop_eq_nil_of_le h2',fpL] at ht
   repeat' ((conv=>whnf); first|refine zw9 (zw20 h2) ?_|refine zw0 ?_|refine zw1 ?_|refine zw2 (fun h=>?_) (fun h=>?_)|refine zw3 ?_|refine zw4 (fun h=>?_) (fun h=>?_)|refine zw5 _ rfl ?_|refine zw6 rfl ?_|refine zw7 mixed rfl ?_)
   conv=>whnf
   exact FinP.drop (n:=0) rfl (zw21 0) rfl rfl ⟨rfl,congrArg I ht⟩
  have hi' : i < c.parts.length:=by rw [List.length_map] at h2; omega
  by_cases h3 : n < 1000
  rotate_left
  ·rw [fpL_big h3] at ht
   repeat' ((conv=>whnf); first|refine zw8 (zw19 h2) ?_|refine zw9 (zw20 h3) ?_|refine zw0 ?_|refine zw1 ?_|refine zw2 (fun h=>?_) (fun h=>?_)|refine zw3 ?_|refine zw4 (fun h=>?_) (fun h=>?_)|refine zw5 _ rfl ?_|refine zw6 rfl ?_|refine zw7 mixed rfl ?_)
   conv=>whnf
   exact FinP.drop (n:=0) rfl (zw21 0) rfl rfl ⟨rfl,congrArg I ht⟩
  rw [fpL_drop hi' h3] at ht
  have hpm : c.parts[i] ∈ c.parts:=List.getElem_mem hi'
  obtain ⟨p,hp⟩ : ∃ p,p = c.parts[i]:=⟨_,rfl⟩
  have r1 : (c.parts.map Co.cells)[i]? = some [DI p.kind,DI p.var,DI p.n,cos p.parts]:=by rw [List.getElem?_map,List.getElem?_eq_getElem hi',← hp,← Co.cells_eq]; rfl
  have hcall:=ih p (by omega) (by rw [hp]; exact hc.sub _ hpm)
  rw [← hp] at ht
  have hw1 : IntKind.i64.wrap (((d + 1 : Nat) : Int) - 1) = (d : Int):=by rw [wrap_in (by omega)]; omega
  have hw2 : IntKind.i64.wrap ((i : Int) + 1) = ((i + 1 : Nat) : Int):=by rw [wrap_in (by omega)]; omega
  rw [Co.cells_eq,← hw1] at hcall
  repeat' ((conv=>whnf); first|refine zw8 (zw19 h2) ?_|refine zw8 (zw19 h3) ?_|refine zw10 i _ rfl r1 ?_|refine hcall _ _ ?_|refine zw0 ?_|refine zw1 ?_|refine zw2 (fun h=>?_) (fun h=>?_)|refine zw3 ?_|refine zw4 (fun h=>?_) (fun h=>?_)|refine zw5 _ rfl ?_|refine zw6 rfl ?_|refine zw7 mixed rfl ?_)
  conv=>whnf
  exact ⟨(i + 1,IntKind.i64.wrap (n + fpF d p)),⟨hi',ht⟩,by show c.parts.length - (i + 1) < c.parts.length - i; omega,Weak.to 1 rfl (zw22 _) (zw18 rfl) ⟨rfl,rfl,rfl,congrArg I hw2,trivial⟩⟩
def fsL (g : Sp → Int → Int) : List Sp → Int → Int
 | [],n=>n
 | s :: r,n=>if n < 1000 then fsL g r (g s n) else n
def fsF : Nat → List Sp → Int
 | 0,_=>1000
 | d + 1,l=>fsL (fun s n=>IntKind.i64.wrap (IntKind.i64.wrap (IntKind.i64.wrap (IntKind.i64.wrap (n + 1) + fpF 20 s.cond) + fsF d s.thn) + fsF d s.els)) l 0
theorem fsL_big {f : Sp → Int → Int} : ∀ {l : List Sp} {n : Int},¬ n < 1000 → fsL f l n = n
 | [],n,_=>rfl
 | p :: ps,n,h=>by rw [fsL,if_neg h]
theorem fsL_drop {f : Sp → Int → Int} {l : List Sp} {i : Nat} {n : Int} (h : i < l.length) (hn : n < 1000) : fsL f (l.drop i) n = fsL f (l.drop (i + 1)) (f l[i] n):=by
 rw [List.drop_eq_getElem_cons h,fsL,if_pos hn]
theorem fewSteps_c : ∀ (d : Nat) (l : List Sp),d ≤ 100 → LSs l → ∀ (L : List Blk) (k : V → List Blk → Prop),k (I (fsF d l)) L → CallP C 34 [.d (sps l),I d] L k
 | 0,l,hd,hl=>by
  intro L k h
  refine CallP.pure ?_ rfl (fun _=>rfl) h
  clear h
  refine callP_of C_ok Tryz.func34 rfl rfl (n:=_) rfl (zw18 rfl) (rs:=_) rfl ?_
  repeat' ((conv=>whnf); first|refine zw8 (zw19 (show ((0 : Nat) : Int) = 0 by decide)) ?_|refine zw0 ?_|refine zw1 ?_|refine zw2 (fun h=>?_) (fun h=>?_)|refine zw3 ?_|refine zw4 (fun h=>?_) (fun h=>?_)|refine zw5 _ rfl ?_|refine zw6 rfl ?_|refine zw7 mixed rfl ?_)
  conv=>whnf
  exact FinP.drop (n:=0) rfl (zw21 0) rfl rfl ⟨rfl,rfl⟩
 | d + 1,l,hd,hl=>by
  intro L k h
  have ih:=fewSteps_c d
  have hlen:=hl.len
  refine CallP.pure ?_ rfl (fun _=>rfl) h
  clear h
  refine callP_of C_ok Tryz.func34 rfl rfl (n:=_) rfl (zw18 rfl) (rs:=_) rfl ?_
  have h1 : ¬ ((d + 1 : Nat) : Int) = 0:=by omega
  have hml : ((l.map Sp.cells).length : Int) = (l.length : Int):=by rw [List.length_map]
  repeat' ((conv=>whnf); first|refine zw9 (zw20 h1) ?_|refine zw0 ?_|refine zw1 ?_|refine zw2 (fun h=>?_) (fun h=>?_)|refine zw3 ?_|refine zw4 (fun h=>?_) (fun h=>?_)|refine zw5 _ rfl ?_|refine zw6 rfl ?_|refine zw7 mixed rfl ?_)
  conv=>whnf
  refine LoopP.inv (α:=Nat × Int) (fun s=>s.1 ≤ l.length ∧ fsL (fun s n=>IntKind.i64.wrap (IntKind.i64.wrap (IntKind.i64.wrap (IntKind.i64.wrap (n + 1) + fpF 20 s.cond) + fsF d s.thn) + fsF d s.els)) (l.drop s.1) s.2 = fsF (d + 1) l) (fun s=>⟨[(0,.d (sps l)),(1,I ((d + 1 : Nat) : Int)),(5,I s.2),(6,I s.1)],Tryz.f34.ntmps,[],[],none⟩) (fun s=>l.length - s.1) (0,0) ⟨zw22 _,rfl⟩ ?_ ?_
  ·exact Weak.by ⟨rfl,rfl,rfl,rfl,trivial⟩
  rintro ⟨i,n⟩ ⟨hi,ht⟩
  simp only at hi ht
  by_cases h2 : (i : Int) < ((l.map Sp.cells).length : Int)
  rotate_left
  ·have h2' : l.length ≤ i:=by rw [List.length_map] at h2; omega
   rw [List.drop_eq_nil_of_le h2',fsL] at ht
   repeat' ((conv=>whnf); first|refine zw9 (zw20 h2) ?_|refine zw0 ?_|refine zw1 ?_|refine zw2 (fun h=>?_) (fun h=>?_)|refine zw3 ?_|refine zw4 (fun h=>?_) (fun h=>?_)|refine zw5 _ rfl ?_|refine zw6 rfl ?_|refine zw7 mixed rfl ?_)
   conv=>whnf
   exact FinP.drop (n:=0) rfl (zw21 0) rfl rfl ⟨rfl,congrArg I ht⟩
  have hi' : i < l.length:=by rw [List.length_map] at h2; omega
  by_cases h3 : n < 1000
  rotate_left
  ·rw [fsL_big h3] at ht
   repeat' ((conv=>whnf); first|refine zw8 (zw19 h2) ?_|refine zw9 (zw20 h3) ?_|refine zw0 ?_|refine zw1 ?_|refine zw2 (fun h=>?_) (fun h=>?_)|refine zw3 ?_|refine zw4 (fun h=>?_) (fun h=>?_)|refine zw5 _ rfl ?_|refine zw6 rfl ?_|refine zw7 mixed rfl ?_)
   conv=>whnf
   exact FinP.drop (n:=0) rfl (zw21 0) rfl rfl ⟨rfl,congrArg I ht⟩
  rw [fsL_drop hi' h3] at ht
  have hsm : l[i] ∈ l:=List.getElem_mem hi'
  have hsp:=hl.all _ hsm
  obtain ⟨s,hs⟩ : ∃ s,s = l[i]:=⟨_,rfl⟩
  rw [← hs] at ht hsp
  have r1 : (l.map Sp.cells)[i]? = some [DI s.kind,DI s.by_,DI s.cond.kind,DI s.cond.var,DI s.cond.n,cos s.cond.parts,sps s.thn,sps s.els]:=by rw [List.getElem?_map,List.getElem?_eq_getElem hi',← hs,← Sp.cells_eq]; rfl
  have hw1 : IntKind.i64.wrap (((d + 1 : Nat) : Int) - 1) = (d : Int):=by rw [wrap_in (by omega)]; omega
  have hw2 : IntKind.i64.wrap ((i : Int) + 1) = ((i + 1 : Nat) : Int):=by rw [wrap_in (by omega)]; omega
  have hp:=fewParts_c 20 s.cond (by decide) hsp.cond
  rw [Co.cells_eq] at hp
  have hT:=ih s.thn (by omega) (by cases hsp with | mk h1 h2 hc ht he=>exact ⟨h1,ht⟩)
  have hE:=ih s.els (by omega) (by cases hsp with | mk h1 h2 hc ht he=>exact ⟨h2,he⟩)
  rw [← hw1] at hT hE
  generalize fpF 20 s.cond = a at *
  generalize fsF d s.thn = b at *
  generalize fsF d s.els = c at *
  repeat' ((conv=>whnf); first|refine zw8 (zw19 h2) ?_|refine zw8 (zw19 h3) ?_|refine zw10 i _ rfl r1 ?_|refine zw12 _ (hp _ _ ⟨rfl,rfl⟩) ?_|refine zw12 _ (hT _ _ ⟨rfl,rfl⟩) ?_|refine zw12 _ (hE _ _ ⟨rfl,rfl⟩) ?_|refine zw0 ?_|refine zw1 ?_|refine zw2 (fun h=>?_) (fun h=>?_)|refine zw3 ?_|refine zw4 (fun h=>?_) (fun h=>?_)|refine zw5 _ rfl ?_|refine zw6 rfl ?_|refine zw7 mixed rfl ?_)
  conv=>whnf
  exact ⟨(i + 1,IntKind.i64.wrap (IntKind.i64.wrap (IntKind.i64.wrap (IntKind.i64.wrap (n + 1) + a) + b) + c)),⟨hi',ht⟩,by show l.length - (i + 1) < l.length - i; omega,Weak.by ⟨rfl,rfl,rfl,congrArg I hw2,trivial⟩⟩
def few19 (p : Cp) : Bool:=decide (p.res.length ≤ 40 ∧ p.clubs.length ≤ 8 ∧ p.off.length ≤ 30 ∧ p.lots.length ≤ 30 ∧ p.ru.name.size ≤ 100 ∧ p.ru.zones.length ≤ 20) && decide (fsF 20 p.ru.order ≤ 40)
theorem few19_c (p : Cp) (hr : LRu p.ru) (h : k (B (few19 p)) L) : CallP C 12 [.d (ress p.res),.d (ins p.clubs),.d (ins p.off),.d (ins p.lots),.agg (p.ru.cells.map .d)] L k:=by
 have hs:=fewSteps_c 20 p.ru.order (by decide) hr.order
 have hl1 : ((p.res.map Res.cells).length : Int) = (p.res.length : Int):=by rw [List.length_map]
 have hl2 : ((p.clubs.map fun n=>[DI n]).length : Int) = (p.clubs.length : Int):=by rw [List.length_map]
 have hl3 : ((p.off.map fun n=>[DI n]).length : Int) = (p.off.length : Int):=by rw [List.length_map]
 have hl4 : ((p.lots.map fun n=>[DI n]).length : Int) = (p.lots.length : Int):=by rw [List.length_map]
 have hl5 : ((p.ru.zones.map Zn.cells).length : Int) = (p.ru.zones.length : Int):=by rw [List.length_map]
 refine CallP.pure ?_ rfl (fun _=>rfl) h
 clear h
 refine callP_of C_ok Tryz.func12 rfl rfl (n:=_) rfl (zw18 rfl) (rs:=_) rfl ?_
 unfold few19
 generalize fsF 20 p.ru.order = n at *
 repeat' ((conv=>whnf); first|refine zw0 ?_|refine zw1 ?_|refine zw2 (fun h=>?_) (fun h=>?_)|refine zw3 ?_|refine zw4 (fun h=>?_) (fun h=>?_)|refine zw5 _ rfl ?_|refine zw6 rfl ?_|refine zw7 mixed rfl ?_|refine hs _ _ ?_)
 all_goals conv=>whnf
 all_goals refine zw15 (n:=0) rfl (zw21 0) rfl rfl ⟨rfl,congrArg B ?_⟩
 all_goals first
  | (rw [decide_eq_false (p:=_ ∧ _) (by omega)]; rfl)
  | (rw [decide_eq_true (p:=_ ∧ _) (by omega)]; rfl)
end Go.Proofs.YtihibgcojdfndaaGreatDoor
namespace Go.Proofs.YtihibgcojdfndaaGreatDoor
open Go.Tidy
open Sts (Res Row Worth Game rowsF addF rowC valueF inG known worthOk resOk fieldOk gameV resV ress rowV)
variable {L : List Blk} {k : V → List Blk → Prop}
theorem ressV_alt {l : List Res} {ok : Int → Bool} : ressV l ok = true ↔ (∀ y ∈ l,resOk y ∧ ok y.game.home = true ∧ ok y.game.away = true) ∧ (∀ y ∈ l,∀ z ∈ l,y.game.season = z.game.season ∧ y.game.comp = z.game.comp) ∧ (l.map (·.game)).Nodup:=by
 rw [ressV_iff]
 constructor
 ·intro h
  have h0 : ∀ y ∈ l,∀ s,l[0]? = some s → y.game.season = s.game.season ∧ y.game.comp = s.game.comp:=fun y hy s hs=>by
   obtain ⟨i,hi,rfl⟩:=List.mem_iff_getElem.1 hy
   exact (h i _ (List.getElem?_eq_getElem hi)).2.1 s hs
  refine ⟨ress_of (ressV_iff.2 h),fun y hy z hz=>?_,?_⟩
  ·have hl : 0 < l.length:=List.length_pos_of_mem hy
   have e1:=h0 y hy _ (List.getElem?_eq_getElem hl)
   have e2:=h0 z hz _ (List.getElem?_eq_getElem hl)
   exact ⟨e1.1.trans e2.1.symm,e1.2.trans e2.2.symm⟩
  ·rw [List.Nodup,List.pairwise_iff_getElem]
   intro i j hi hj hij
   rw [List.length_map] at hi hj
   rw [List.getElem_map,List.getElem_map]
   exact (h j _ (List.getElem?_eq_getElem hj)).2.2.2.2 i hij _ (List.getElem?_eq_getElem hi)
 ·rintro ⟨h1,h2,h3⟩ j r hr
  have hj:=lt_of_get hr
  have hm:=List.mem_of_getElem? hr
  refine ⟨(h1 r hm).1,fun s hs=>h2 r hm s (List.mem_of_getElem? hs),(h1 r hm).2.1,(h1 r hm).2.2,fun i hij s hs e=>?_⟩
  rw [List.Nodup,List.pairwise_iff_getElem] at h3
  have hi:=lt_of_get hs
  have:=h3 i j (by rw [List.length_map]; exact hi) (by rw [List.length_map]; exact hj) hij
  rw [List.getElem_map,List.getElem_map] at this
  rw [List.getElem?_eq_getElem hi] at hs
  rw [List.getElem?_eq_getElem hj] at hr
  cases hs; cases hr
  exact this e
theorem Rank_c (p : Cp) (hL : LCp p) (h19 : p.clubs.length ≤ 19) (fin : Bool) (h : k (rankX p fin) L) : CallP C 13 [.d (ress p.res),.d (ins p.clubs),.d (ins p.off),.agg (p.ru.cells.map .d),B fin,.d (ins p.lots)] L k :=
 (Rank_0 p hL h19 fin).frame rfl fun X L' ⟨h1,h2⟩=>by
  subst h1 h2
  have e : (rankX p fin).sh L.length = rankX p fin:=by unfold rankX; split <;> rfl
  rw [e]; simpa [shB] using h
theorem Between_c (p : Cp) (hL : LCp p) (h19 : p.clubs.length ≤ 19) (fin : Bool) (a b : Int) (h : k (betX p fin a b) L) : CallP C 19 [.d (ress p.res),.d (ins p.clubs),.d (ins p.off),.agg (p.ru.cells.map .d),B fin,.d (ins p.lots),I a,I b] L k :=
 (Between_0 p hL h19 fin a b).frame rfl fun X L' ⟨h1,h2⟩=>by
  subst h1 h2
  have e : (betX p fin a b).sh L.length = betX p fin a b:=by
   unfold betX; split
   ·rfl
   ·split <;> rfl
  rw [e]; simpa [shB] using h
theorem Split_c (p : Cp) (hL : LCp p) (h19 : p.clubs.length ≤ 19) (b : Int) (h : k (splitX p b) L) : CallP C 17 [.d (ress p.res),.d (ins p.clubs),.d (ins p.off),I b,.agg (p.ru.cells.map .d),.d (ins p.lots)] L k :=
 (Split_0 p hL h19 b).frame rfl fun X L' ⟨h1,h2⟩=>by
  subst h1 h2
  have e : (splitX p b).sh L.length = splitX p b:=by
   unfold splitX; split
   ·rfl
   ·split <;> rfl
  rw [e]; simpa [shB] using h
def wonF (a b g : Int) : Res:=⟨⟨0,0,a,b⟩,g,0,0,0,0,0,0,false,false⟩
def nameR : ByteArray:=⟨#[114]⟩
def usualR (l : List Int) : Ru:=⟨nameR,3,1,0,l.map bySp,[]⟩
def pL (l : List Res) : Cp:=⟨l,[0,1,2,3],[0,0,0,0],usualR [1,8,9,12],[]⟩
def p3 : Cp:=⟨[wonF 0 1 1,wonF 1 0 1,wonF 0 2 1,wonF 1 2 1],[0,1,2],[0,0,0],usualR [1,8],[]⟩
def p2 : Cp:=⟨[wonF 0 1 1],[0,1],[0,0],usualR [1,8],[]⟩
def pS : Cp:=⟨[],[1,2,3],[0,0,0],usualR [1,8],[3,1,2]⟩
def p1 : Cp:=⟨[],[1],[0],usualR [1,8],[]⟩
theorem lbys : ∀ l : List Int,l.length ≤ 20 → LSs (l.map bySp):=fun l hl=>⟨by rw [List.length_map]; omega,fun s hs=>by
 obtain ⟨n,_,rfl⟩:=List.mem_map.1 hs
 exact lsp0 n⟩
theorem lusual (l : List Int) (hl : l.length ≤ 20) : LRu (usualR l):=⟨by show nameR.size ≤ _; decide,lbys l hl,by show ([] : List Zn).length ≤ _; decide,fun z hz=>by cases hz⟩
theorem rules0 {l : List Int} (h : orderF (l.map bySp) = 0) : rulesF (usualR l) = 0:=by
 unfold rulesF
 rw [if_neg,if_neg (by rw [show (usualR l).order = l.map bySp from rfl,h]; decide),if_neg (by show ¬ 16 < 0; decide),if_neg (by rintro ⟨z,hz,_⟩; cases hz)]
 rintro (h | h | h | h | h)
 ·exact absurd h (by show ¬ nameF nameR = false; decide)
 ·exact absurd h (by show ¬ (99 : Int) < 3; decide)
 ·exact absurd h (by show ¬ (3 : Int) < 1; decide)
 ·exact absurd h (by show ¬ (1 : Int) < 0; decide)
 ·exact absurd h (by show ¬ (0 : Int) < -99; decide)
def resB (l : List Res) (ok : Int → Bool) : Bool:=l.all (fun y=>decide (resOk y) && ok y.game.home && ok y.game.away && l.all fun z=>decide (y.game.season = z.game.season) && decide (y.game.comp = z.game.comp)) && decide (l.map (·.game)).Nodup
theorem resB_ok {l : List Res} {ok : Int → Bool} (h : resB l ok = true) : ressV l ok = true:=by
 unfold resB at h
 simp only [Bool.and_eq_true,List.all_eq_true,decide_eq_true_eq] at h
 exact ressV_alt.2 ⟨fun y hy=>⟨(h.1 y hy).1.1.1,(h.1 y hy).1.1.2,(h.1 y hy).1.2⟩,fun y hy z hz=>(h.1 y hy).2 z hz,h.2⟩
def openB (p : Cp) (n : Nat) (ok : Int → Bool) : Bool:=fieldOk p.clubs n && decide (p.off.length = p.clubs.length) && offOk p.off && resB p.res ok && lotsOk p.lots
theorem openB_ok {p : Cp} {n : Nat} {ok : Int → Bool} (h : openB p n ok = true) (hr : rulesF p.ru = 0) : openE p n ok = 0:=by
 unfold openB at h
 simp only [Bool.and_eq_true,decide_eq_true_eq] at h
 exact open_iff.2 ⟨h.1.1.1.1,h.1.1.1.2,h.1.1.2,hr,resB_ok h.1.2,h.2⟩
theorem r4 : rulesF (usualR [1,8,9,12]) = 0:=rules0 (by decide)
theorem r2 : rulesF (usualR [1,8]) = 0:=rules0 (by decide)
def l1 : List Res:=[wonF 0 1 1,wonF 2 3 1]
def l2 : List Res:=[wonF 0 1 1,wonF 1 2 1,wonF 2 0 1]
def l3 : List Res:=[wonF 0 1 2,wonF 1 2 1,wonF 2 0 1]
theorem vo : openB (pL []) 2 [0,1,2,3].contains = true ∧ openB (pL l1) 2 [0,1,2,3].contains = true ∧ openB (pL l2) 2 [0,1,2,3].contains = true ∧ openB (pL l3) 2 [0,1,2,3].contains = true ∧ openB p3 2 [0,1,2].contains = true ∧ openB p2 2 [0,1].contains = true ∧ openB pS 1 (fun _=>true) = true:=by decide +kernel
theorem vg : ((pL []).gs false).map (·.1) = [[0,1,2,3]] ∧ ((pL l1).gs false).map (·.1) = [[0,2],[1,3]] ∧ ((pL l2).gs false).map (·.1) = [[0,1,2],[3]] ∧ ((pL l3).gs false).map (·.1) = [[0],[2],[1],[3]]:=by decide +kernel
theorem vh : p3.gs false = [([0,1],0),([2],1)] ∧ bet 1 0 (p2.evs false) 0 = 1 ∧ splitF (valC pS pS.clubs 12) pS.clubs = [[3],[1],[2]] ∧ envO [] [0,1,2] 2 true = ⟨2,0,1,3⟩:=by decide +kernel
end Go.Proofs.YtihibgcojdfndaaGreatDoor
namespace Go.Proofs.YtihibgcojdfndaaGreatDoor
open Go.Tidy
open Sts (Res Row Worth Game rowsF addF rowC valueF inG known worthOk resOk fieldOk gameV resV ress rowV)
variable {L : List Blk} {k : V → List Blk → Prop}
theorem won19_c (a b g : Int) (h : k (resV (wonF a b g)) L) : CallP C 31 [I a,I b,I g] L k:=by
 refine CallP.pure ?_ rfl (fun _=>rfl) h
 clear h
 refine callP_of C_ok Tryz.func31 rfl rfl (n:=_) rfl (zw18 rfl) (rs:=_) rfl ?_
 repeat' ((conv=>whnf); first|refine zw0 ?_|refine zw1 ?_|refine zw2 (fun h=>?_) (fun h=>?_)|refine zw3 ?_|refine zw4 (fun h=>?_) (fun h=>?_)|refine zw5 _ rfl ?_|refine zw6 rfl ?_|refine zw7 mixed rfl ?_)
 conv=>whnf
 exact FinP.drop (n:=0) rfl (zw21 0) rfl rfl ⟨rfl,rfl⟩
def rdB (l : List Int) : List (List V):=l.map fun n=>[I 1,I n,I 0,I 0,I 0,.nil,.nil,.nil]
theorem rdB_bel (n : Nat) : ∀ l : List Int,belR n (rdB l) = true
 | []=>rfl
 | e :: l=>by
  have:=rdB_bel n l
  unfold rdB at this ⊢
  simp only [List.map_cons,belR,this]
  rfl
theorem rdB_cv {S : Nat → Prop} {L : List Blk} : ∀ l : List Int,CvLL S L (rdB l) ((l.map bySp).map Sp.cells)
 | []=>.nil
 | e :: l=>.cons (.cons (.d _) (.cons (.d _) (.cons (.d _) (.cons (.d _) (.cons (.d _) (.cons .nil (.cons .nil (.cons .nil .nil)))))))) (rdB_cv l)
theorem steps19_c (l : List Int) (hl : l.length ≤ 20) (h : k (.d (sps (l.map bySp))) L) : CallP C 33 [.d (ins l)] L k:=by
 have hml : ((l.map fun n=>[DI n]).length : Int) = (l.length : Int):=by rw [insl]
 refine CallP.pure ?_ rfl (fun _=>rfl) h
 clear h
 refine callP_of C_ok Tryz.func33 rfl rfl (n:=_) rfl (zw18 rfl) (rs:=_) rfl ?_
 repeat' ((conv=>whnf); first|refine zw0 ?_|refine zw1 ?_|refine zw2 (fun h=>?_) (fun h=>?_)|refine zw3 ?_|refine zw4 (fun h=>?_) (fun h=>?_)|refine zw5 _ rfl ?_|refine zw6 rfl ?_)
 conv=>whnf
 refine LoopP.inv (fun i : Nat=>i ≤ l.length) (fun i=>⟨[(0,.d (ins l)),(3,.own 0 i 0 i),(4,I i)],Tryz.f33.ntmps,[.row i 8 (rdB (l.take i))],[],none⟩) (fun i=>l.length - i) 0 (zw22 _) ?_ ?_
 ·exact (Weak.nilOwn 3 8 rfl (by decide)).trans (Weak.by ⟨rfl,rfl,rfl,trivial⟩)
 intro i hi
 by_cases hi' : i < l.length
 ·have hlt : (i : Int) < ((l.map fun n=>[DI n]).length : Int):=by omega
  have hw : IntKind.i64.wrap ((i : Int) + 1) = ((i + 1 : Nat) : Int):=by rw [wrap_in (by omega)]; omega
  have r1:=ins_at hi'
  have e : (rdB (l.take i)).take i ++ [[I 1,I l[i],I 0,I 0,I 0,.nil,.nil,.nil]] = rdB (l.take (i + 1)):=by
   rw [take_next hi']
   unfold rdB
   rw [List.take_of_length_le (by simp; omega),List.map_append]; rfl
  have hap : ∀ {X : Prop} {m : Nat},100 ≤ m → X → Need (i + 1 ≤ m) X:=fun hm h=>zw6 (by omega) h
  repeat' ((conv=>whnf); first|refine zw8 (zw19 hlt) ?_|refine zw10 i _ rfl r1 ?_|simp only [Nat.beq_refl,Bool.and_self]|refine hap (zw18 rfl) ?_|refine zw0 ?_|refine zw1 ?_|refine zw2 (fun h=>?_) (fun h=>?_)|refine zw3 ?_|refine zw4 (fun h=>?_) (fun h=>?_)|refine zw5 _ rfl ?_|refine zw6 rfl ?_)
  conv=>whnf
  exact ⟨i + 1,hi',by omega,Weak.to 1 (Eq.trans rfl (congrArg (fun z=>[Blk.row (i + 1) 8 z]) e)) (Nat.zero_le _) (Nat.le_of_ble_eq_true rfl) ⟨rfl,rfl,congrArg I hw,trivial⟩ (hB:=by show (belR 1 _ && true) = true; rw [rdB_bel]; rfl)⟩
 have hlt : ¬ (i : Int) < ((l.map fun n=>[DI n]).length : Int):=by omega
 obtain rfl : i = l.length:=by omega
 repeat' ((conv=>whnf); first|refine zw9 (zw20 hlt) ?_|refine zw0 ?_|refine zw1 ?_|refine zw2 (fun h=>?_) (fun h=>?_)|refine zw3 ?_|refine zw4 (fun h=>?_) (fun h=>?_)|refine zw5 _ rfl ?_|refine zw6 rfl ?_)
 conv=>whnf
 rw [List.take_length]
 refine zw16 (L':=[]) (.d (.rowL (ds:=(l.map bySp).map Sp.cells) (zw22 _) rfl ?_ (show l.length = ((l.map bySp).map Sp.cells).length by simp) fun e he=>?_)) rfl rfl ⟨rfl,rfl⟩
 ·rw [List.drop_zero,List.take_of_length_le (by unfold rdB; simp)]
  exact rdB_cv l
 ·obtain ⟨s,_,rfl⟩:=List.mem_map.1 he
  rw [Sp.cells_eq]; rfl
theorem usual19_c (l : List Int) (h : k (.agg ((usualR l).cells.map .d)) L) : CallP C 32 [.d (sps (l.map bySp))] L k:=by
 refine CallP.pure ?_ rfl (fun _=>rfl) h
 clear h
 refine callP_of C_ok Tryz.func32 rfl rfl (n:=_) rfl (zw18 rfl) (rs:=_) rfl ?_
 repeat' ((conv=>whnf); first|refine zw0 ?_|refine zw1 ?_|refine zw2 (fun h=>?_) (fun h=>?_)|refine zw3 ?_|refine zw4 (fun h=>?_) (fun h=>?_)|refine zw5 _ rfl ?_|refine zw6 rfl ?_|refine zw7 mixed rfl ?_)
 conv=>whnf
 exact FinP.data (L':=[]) (Cw.aggL (.cons (.d _) (.cons (.d _) (.cons (.d _) (.cons (.d _) (.cons (.d _) (.cons .nil .nil))))))) rfl rfl ⟨rfl,rfl⟩
theorem lcp (p : Cp) (h1 : p.res.length ≤ 100) (h2 : p.clubs.length ≤ 100) (h3 : p.off.length ≤ 100) (h4 : p.lots.length ≤ 100) (h5 : LRu p.ru) : LCp p:=⟨by omega,by omega,by omega,by omega,h5⟩
theorem lpL (l : List Res) (h : l.length ≤ 100) : LCp (pL l):=lcp _ h (by show [(0 : Int),1,2,3].length ≤ _; decide) (by show [(0 : Int),0,0,0].length ≤ _; decide) (by show ([] : List Int).length ≤ _; decide) (lusual _ (by decide))
theorem cvI {S : Nat → Prop} {L : List Blk} {b gen n : Nat} {l : List Int} (hb : S b) (hL : L[b]? = some (.row gen 1 (rdI l))) (hn : n = l.length) : Cw S L (.own b gen 0 n) (.d (ins l)):=by
 subst hn
 refine .d (.rowL (ds:=l.map fun n=>[DI n]) hb hL ?_ (by simp) fun e he=>?_)
 ·rw [List.drop_zero,List.take_of_length_le (by unfold rdI; simp)]; exact rdI_rows _
 ·obtain ⟨_,_,rfl⟩:=List.mem_map.1 he; rfl
theorem kill19 {i g sz : Nat} {els : List (List V)} (h : L[i]? = some (.row g sz els)) : CellEq L (killB [i] L):=CellEq.set h
def spine : List Blk → (List Blk → Prop) → Prop
 | [],K=>K []
 | x :: r,K=>spine r fun r=>K (x :: r)
theorem spine_eq : ∀ (l : List Blk) (K : List Blk → Prop),spine l K = K l
 | [],K=>rfl
 | x :: r,K=>by simp only [spine,spine_eq r]
theorem QCallK.introF {f : (V → List Blk → Prop) → Prop} {L : List Blk} {k : V → List Blk → Prop} (v : V) (M : List Blk) (h : f fun x N=>x = v ∧ N = M) (hc : CellEq L M) (hk : spine M fun M=>k v M) : QCallK f L k:=by
 rw [spine_eq] at hk
 exact QCallK.intro v M h hc hk
theorem QCallW.introF {f : (V → List Blk → Prop) → Prop} {k : V → List Blk → Prop} (v : V) (M : List Blk) (h : f fun x N=>x = v ∧ N = M) (hk : spine M fun M=>k v M) : QCallW f k:=by
 rw [spine_eq] at hk
 exact QCallW.intro v M h hk
theorem stepsK {i gen n : Nat} (l : List Int) (hl : l.length ≤ 20) (hL : L[i]? = some (.row gen 1 (rdI l))) (hn : n = l.length) : CallP C 33 [.own i gen 0 n] L fun x N=>x = .d (sps (l.map bySp)) ∧ N = killB [i] L :=
 CallP.freeze [i] rfl (by show ([i].all _) = true; simp only [List.all_cons,List.all_nil,Bool.and_true]; rw [hL]) (.cv (cvI (List.mem_singleton.2 rfl) hL hn) .nil) (steps19_c l hl ⟨rfl,rfl⟩)
theorem rankK (p : Cp) (hp : LCp p) (h19 : p.clubs.length ≤ 19) (fin : Bool) {i j gi gj ni nj : Nat} (hi : L[i]? = some (.row gi 1 (rdI p.clubs))) (hj : L[j]? = some (.row gj 1 (rdI p.off))) (hni : ni = p.clubs.length) (hnj : nj = p.off.length) (hlo : p.lots = []) {X : V} (hX : rankX p fin = X) :
  CallP C 13 [.d (ress p.res),.own i gi 0 ni,.own j gj 0 nj,.agg (p.ru.cells.map .d),B fin,.nil] L fun x N=>x = X ∧ N = killB [i,j] L :=
 CallP.freeze [i,j] rfl (by show ([i,j].all _) = true; simp only [List.all_cons,List.all_nil,Bool.and_true]; rw [hi,hj]; rfl) (.keep (.cv (cvI (by simp) hi hni) (.cv (cvI (by simp) hj hnj) (.keep (.keep (.cv (y:=.d (ins p.lots)) (.d (by rw [hlo]; exact .nil)) .nil)))))) (Rank_c p hp h19 fin ⟨hX,rfl⟩)
theorem leads_c (l : List Res) (want : List (List Int)) (h100 : l.length ≤ 100) (hw : want.length ≤ 100) (hw2 : ∀ x ∈ want,x.length ≤ 100) (ho : openE (pL l) 2 (pL l).clubs.contains = 0) (hv : ((pL l).gs false).map (·.1) = want) (h : k (B true) L) : CallP C 30 [.d (ress l),.d (insL want)] L k:=by
 have hX : rankX (pL l) false = .tup [.d (insL want),.d (ins (((pL l).gs false).map (·.2))),I 0]:=by unfold rankX; rw [if_neg (fun h=>h ho),hv]
 have hrank:=fun {L : List Blk} {i j gi gj ni nj : Nat} (hi : L[i]? = some (.row gi 1 (rdI [0,1,2,3]))) (hj : L[j]? = some (.row gj 1 (rdI [0,0,0,0]))) (hni : ni = 4) (hnj : nj = 4)=>rankK (L:=L) (pL l) (lpL l h100) (by show [(0 : Int),1,2,3].length ≤ 19; decide) false hi hj hni hnj rfl hX
 have hlen : (((((pL l).gs false).map (·.2)).map fun n=>[DI n]).length : Int) = ((want.map fun es=>[ins es]).length : Int):=by rw [← hv]; simp
 have hs : ∀ {L : List Blk} {k : V → List Blk → Prop},k (B true) L → CallP C 15 [.d (insL want),.d (insL want)] L k:=fun h=>rsame19_c want want (by omega) (by omega) (fun x hx=>by have:=hw2 x hx; omega) (fun x hx=>by have:=hw2 x hx; omega) (by rw [decide_eq_true rfl]; exact h)
 clear hX ho hv
 generalize ((pL l).gs false).map (·.2) = bys at *
 refine CallP.pure ?_ rfl (fun _=>rfl) h
 clear h
 refine callP_of C_ok Tryz.func30 rfl rfl (n:=_) rfl (zw18 rfl) (rs:=_) rfl ?_
 repeat' ((conv=>whnf); first|refine zw0 ?_|refine zw1 ?_|refine zw2 (fun h=>?_) (fun h=>?_)|refine zw3 ?_|refine zw4 (fun h=>?_) (fun h=>?_)|refine zw5 _ rfl ?_|refine zw6 rfl ?_)
 conv=>whnf
 refine DrawP.por mixed [1004,6] [[(0,0),(1,0),(2,0),(3,0),(4,5),(5,0),(6,2),(7,0),(8,0),(9,0),(10,0),(11,0),(12,0),(13,0)],[(0,0),(1,0),(3,0),(2,0),(4,5),(5,0),(6,2),(7,0),(8,0),(9,0),(10,0),(11,0),(12,0),(13,0)],[(0,0),(1,0),(3,0),(4,5),(5,1),(2,0),(6,2),(7,0),(8,0),(9,0),(10,0),(11,0),(12,0),(13,0)],[(0,0),(2,0),(1,0),(3,0),(4,5),(5,0),(6,2),(7,0),(8,0),(9,0),(10,0),(11,0),(12,0),(13,0)],[(0,0),(2,0),(3,0),(1,0),(4,5),(5,0),(6,2),(7,0),(8,0),(9,0),(10,0),(11,0),(12,0),(13,0)],[(0,0),(2,0),(3,0),(4,5),(5,1),(1,0),(6,2),(7,0),(8,0),(9,0),(10,0),(11,0),(12,0),(13,0)],[(0,0),(3,0),(1,0),(2,0),(4,5),(5,0),(6,2),(7,0),(8,0),(9,0),(10,0),(11,0),(12,0),(13,0)],[(0,0),(3,0),(1,0),(4,5),(5,1),(2,0),(6,2),(7,0),(8,0),(9,0),(10,0),(11,0),(12,0),(13,0)],[(0,0),(3,0),(2,0),(1,0),(4,5),(5,0),(6,2),(7,0),(8,0),(9,0),(10,0),(11,0),(12,0),(13,0)],[(0,0),(3,0),(2,0),(4,5),(5,1),(1,0),(6,2),(7,0),(8,0),(9,0),(10,0),(11,0),(12,0),(13,0)],[(0,0),(3,0),(4,5),(5,1),(1,0),(2,0),(6,2),(7,0),(8,0),(9,0),(10,0),(11,0),(12,0),(13,0)],[(0,0),(3,0),(4,5),(5,1),(2,0),(1,0),(6,2),(7,0),(8,0),(9,0),(10,0),(11,0),(12,0),(13,0)]] (by kernel_rfl) ?_
 conv=>whnf
 refine And.intro ?_ ?_
 rotate_left 1
 conv=>whnf
 refine And.intro ?_ ?_
 rotate_left 1
 conv=>whnf
 refine And.intro ?_ ?_
 rotate_left 1
 conv=>whnf
 refine And.intro ?_ ?_
 rotate_left 1
 conv=>whnf
 refine And.intro ?_ ?_
 rotate_left 1
 conv=>whnf
 refine And.intro ?_ ?_
 rotate_left 1
 conv=>whnf
 refine And.intro ?_ ?_
 rotate_left 1
 conv=>whnf
 refine And.intro ?_ ?_
 rotate_left 1
 conv=>whnf
 refine And.intro ?_ ?_
 rotate_left 1
 conv=>whnf
 refine And.intro ?_ ?_
 rotate_left 1
 conv=>whnf
 refine And.intro ?_ ?_
 all_goals
  repeat' ((conv=>whnf); first|refine QCallK.introF _ _ (stepsK [1,8,9,12] (zw18 rfl) rfl rfl) (kill19 rfl) ?_|refine zw12 _ (usual19_c [1,8,9,12] ⟨rfl,rfl⟩) ?_|refine QCallW.introF _ _ (hrank rfl rfl rfl rfl) ?_|refine hs ?_|refine zw8 (zw19 hlen) ?_|refine MakeP.intro 4 4 rfl rfl (zw21 4) (zw18 rfl) ?_|refine zw0 ?_|refine zw1 ?_|refine zw2 (fun h=>?_) (fun h=>?_)|refine zw3 ?_|refine zw4 (fun h=>?_) (fun h=>?_)|refine zw5 _ rfl ?_|refine zw6 rfl ?_)
 all_goals conv=>whnf
 all_goals exact FinP.drop (n:=0) rfl (zw21 0) rfl rfl ⟨rfl,rfl⟩
end Go.Proofs.YtihibgcojdfndaaGreatDoor
namespace Go.Proofs.YtihibgcojdfndaaGreatDoor
open Go.Tidy
open Sts (Res Row Worth Game rowsF addF rowC valueF inG known worthOk resOk fieldOk gameV resV ress rowV)
variable {L : List Blk} {k : V → List Blk → Prop}
theorem cvJ {S : Nat → Prop} {L : List Blk} {b gen n : Nat} (l : List Int) (hb : S b) (hL : L[b]? = some (.row gen 1 (rdI l))) (hn : n = l.length) : Cv S L (.own b gen 0 n) (ins l):=by
 subst hn
 refine .rowL (ds:=l.map fun n=>[DI n]) hb hL ?_ (by simp) fun e he=>?_
 ·rw [List.drop_zero,List.take_of_length_le (by unfold rdI; simp)]; exact rdI_rows _
 ·obtain ⟨_,_,rfl⟩:=List.mem_map.1 he; rfl
theorem cvR {S : Nat → Prop} {L : List Blk} {b gen n : Nat} (l : List Res) (hb : S b) (hL : L[b]? = some (.row gen 13 (l.map fun y=>y.cells.map .d))) (hn : n = l.length) : Cw S L (.own b gen 0 n) (.d (ress l)):=by
 subst hn
 refine .d (.rowL (ds:=l.map Res.cells) hb hL ?_ (by simp) fun e he=>?_)
 ·rw [List.drop_zero,List.take_of_length_le (by simp)]
  clear hL
  induction l with
  | nil=>exact .nil
  | cons y l ih=>exact .cons (CvL.data _) ih
 ·obtain ⟨y,_,rfl⟩:=List.mem_map.1 he; rfl
theorem insE (l : List (List Int)) : ∀ e ∈ l.map fun es=>[ins es],e.length = 1:=fun e he=>by
 obtain ⟨_,_,rfl⟩:=List.mem_map.1 he; rfl
theorem leadsK {bs : List Nat} {a b : V} {L' : List Blk} (l : List Res) (want : List (List Int)) (ha : Cw (· ∈ bs) L a (.d (ress l))) (hb : Cw (· ∈ bs) L b (.d (insL want))) (hbs : plainBlk L bs = true) (hL : killB bs L = L') (h100 : l.length ≤ 100) (hw : want.length ≤ 100) (hw2 : ∀ x ∈ want,x.length ≤ 100) (ho : openE (pL l) 2 (pL l).clubs.contains = 0) (hv : ((pL l).gs false).map (·.1) = want)
  (h : k (B true) L') : CallP C 30 [a,b] L k:=CallP.freeze bs hL hbs (.cv ha (.cv hb .nil)) (leads_c l want h100 hw hw2 ho hv h)
theorem rankG (p : Cp) (hp : LCp p) (h19 : p.clubs.length ≤ 19) (fin : Bool) {bs : List Nat} {a b c d : V} {X : V} (hX : rankX p fin = X) (ha : Cw (· ∈ bs) L a (.d (ress p.res))) (hb : Cw (· ∈ bs) L b (.d (ins p.clubs))) (hc : Cw (· ∈ bs) L c (.d (ins p.off))) (hd : Cw (· ∈ bs) L d (.d (ins p.lots))) (hbs : plainBlk L bs = true) :
  CallP C 13 [a,b,c,.agg (p.ru.cells.map .d),B fin,d] L fun x N=>x = X ∧ N = killB bs L :=
 CallP.freeze bs rfl hbs (.cv ha (.cv hb (.cv hc (.keep (.keep (.cv hd .nil)))))) (Rank_c p hp h19 fin ⟨hX,rfl⟩)
theorem betG (p : Cp) (hp : LCp p) (h19 : p.clubs.length ≤ 19) (fin : Bool) (x y : Int) {bs : List Nat} {a b c d : V} {X : V} (hX : betX p fin x y = X) (ha : Cw (· ∈ bs) L a (.d (ress p.res))) (hb : Cw (· ∈ bs) L b (.d (ins p.clubs))) (hc : Cw (· ∈ bs) L c (.d (ins p.off))) (hd : Cw (· ∈ bs) L d (.d (ins p.lots))) (hbs : plainBlk L bs = true) :
  CallP C 19 [a,b,c,.agg (p.ru.cells.map .d),B fin,d,I x,I y] L fun x N=>x = X ∧ N = killB bs L :=
 CallP.freeze bs rfl hbs (.cv ha (.cv hb (.cv hc (.keep (.keep (.cv hd (.keep (.keep .nil)))))))) (Between_c p hp h19 fin x y ⟨hX,rfl⟩)
theorem splitG (p : Cp) (hp : LCp p) (h19 : p.clubs.length ≤ 19) (x : Int) {bs : List Nat} {a b c d : V} {X : V} (hX : splitX p x = X) (ha : Cw (· ∈ bs) L a (.d (ress p.res))) (hb : Cw (· ∈ bs) L b (.d (ins p.clubs))) (hc : Cw (· ∈ bs) L c (.d (ins p.off))) (hd : Cw (· ∈ bs) L d (.d (ins p.lots))) (hbs : plainBlk L bs = true) :
  CallP C 17 [a,b,c,I x,.agg (p.ru.cells.map .d),d] L fun x N=>x = X ∧ N = killB bs L :=
 CallP.freeze bs rfl hbs (.cv ha (.cv hb (.cv hc (.keep (.keep (.cv hd .nil)))))) (Split_c p hp h19 x ⟨hX,rfl⟩)
theorem envG (l : List Res) (cs g : List Int) (fin : Bool) (hl : l.length ≤ 1073741824) (hc : cs.length ≤ 1073741824) (hg : g.length ≤ 1073741824) {bs : List Nat} {L' : List Blk} {a b c : V} {X : V} (hX : envX l cs g fin = X) (ha : Cw (· ∈ bs) L a (.d (ress l))) (hb : Cw (· ∈ bs) L b (.d (ins cs))) (hcc : Cw (· ∈ bs) L c (.d (ins g))) (hbs : plainBlk L bs = true) (hL : killB bs L = L') (h : k X L') :
  CallP C 21 [a,b,c,B fin] L k :=
 CallP.freeze bs hL hbs (.cv ha (.cv hb (.cv hcc (.keep .nil)))) (Env_c l cs g fin hl hc hg (by rw [hX]; exact h))
theorem x3 : rankX p3 false = .tup [.d (insL [[0,1],[2]]),.d (ins [0,1]),I 0]:=by
 unfold rankX
 rw [if_neg (fun h=>h (openB_ok vo.2.2.2.2.1 r2)),vh.1]; rfl
theorem xb : betX p2 false 1 0 = .tup [I 1,I 0]:=by
 unfold betX
 rw [if_neg (fun h=>h (openB_ok vo.2.2.2.2.2.1 r2)),if_neg (by decide),vh.2.1]
theorem xs : splitX pS 12 = .tup [.d (insL [[3],[1],[2]]),I 0]:=by
 unfold splitX
 rw [if_neg (fun h=>h (openB_ok vo.2.2.2.2.2.2 r2)),if_neg (by decide),vh.2.2.1]
theorem x1 : rankX p1 false = .tup [.d (.sl []),.d (.sl []),I 190]:=by
 have e : openE p1 2 p1.clubs.contains = 190:=by unfold openE; rw [if_pos (by decide)]
 unfold rankX
 rw [e,if_pos (by decide)]
theorem xe : envX [] [0,1,2] [0,2] true = .tup [enV ⟨2,0,1,3⟩,I 0]:=by
 unfold envX
 rw [if_pos ⟨by decide,resB_ok (by decide),by decide,by decide⟩]
 exact congrArg (fun e=>V.tup [enV e,I 0]) vh.2.2.2
theorem small4 {l : List (List Int)} (h : (l.all fun x=>decide (x.length ≤ 100)) = true) : ∀ x ∈ l,x.length ≤ 100:=fun x hx=>of_decide_eq_true (List.all_eq_true.1 h x hx)
theorem mem_of {l : List Nat} {b : Nat} (h : l.elem b = true) : b ∈ l:=List.mem_of_elem_eq_true h
abbrev ruM : Blk:=.cells ((usualR [1,8]).cells.map .d)
theorem lp3 : LCp p3:=lcp _ (by decide) (by decide) (by decide) (by decide) (lusual _ (by decide))
theorem lp2 : LCp p2:=lcp _ (by decide) (by decide) (by decide) (by decide) (lusual _ (by decide))
theorem lpS : LCp pS:=lcp _ (by decide) (by decide) (by decide) (by decide) (lusual _ (by decide))
theorem lp1 : LCp p1:=lcp _ (by decide) (by decide) (by decide) (by decide) (lusual _ (by decide))
theorem c19 : p3.clubs.length ≤ 19 ∧ p2.clubs.length ≤ 19 ∧ pS.clubs.length ≤ 19 ∧ p1.clubs.length ≤ 19:=by decide
theorem lead0 {L' : List Blk} (hL : killB [0,1] L = L') {a : V} (ha : Cw (· ∈ [0,1]) L a (.d (insL [[0,1,2,3]]))) (hbs : plainBlk L [0,1] = true) (h : k (B true) L') : CallP C 30 [.nil,a] L k :=
 leadsK [] [[0,1,2,3]] (.d .nil) ha hbs hL (by decide) (by decide) (small4 rfl) (openB_ok vo.1 r4) vg.1 h
theorem lead1 {L' : List Blk} (hL : killB [2,3,4,5] L = L') {a b : V} (ha : Cw (· ∈ [2,3,4,5]) L a (.d (ress l1))) (hb : Cw (· ∈ [2,3,4,5]) L b (.d (insL [[0,2],[1,3]]))) (hbs : plainBlk L [2,3,4,5] = true) (h : k (B true) L') : CallP C 30 [a,b] L k :=
 leadsK l1 _ ha hb hbs hL (by decide) (by decide) (small4 rfl) (openB_ok vo.2.1 r4) vg.2.1 h
theorem lead2 {L' : List Blk} (hL : killB [6,7,8,9] L = L') {a b : V} (ha : Cw (· ∈ [6,7,8,9]) L a (.d (ress l2))) (hb : Cw (· ∈ [6,7,8,9]) L b (.d (insL [[0,1,2],[3]]))) (hbs : plainBlk L [6,7,8,9] = true) (h : k (B true) L') : CallP C 30 [a,b] L k :=
 leadsK l2 _ ha hb hbs hL (by decide) (by decide) (small4 rfl) (openB_ok vo.2.2.1 r4) vg.2.2.1 h
theorem lead3 {L' : List Blk} (hL : killB [10,11,12,13,14,15] L = L') {a b : V} (ha : Cw (· ∈ [10,11,12,13,14,15]) L a (.d (ress l3))) (hb : Cw (· ∈ [10,11,12,13,14,15]) L b (.d (insL [[0],[2],[1],[3]]))) (hbs : plainBlk L [10,11,12,13,14,15] = true) (h : k (B true) L') : CallP C 30 [a,b] L k :=
 leadsK l3 _ ha hb hbs hL (by decide) (by decide) (small4 rfl) (openB_ok vo.2.2.2.1 r4) vg.2.2.2 h
abbrev D2 : List Blk:=[.dead,.dead]
abbrev D4 : List Blk:=[.dead,.dead,.dead,.dead]
theorem sane19_c (h : k (B true) L) : CallP C 11 [] L k:=by
 refine CallP.pure ?_ rfl (fun _=>rfl) h
 clear h
 refine callP_cut (fun c=>match c with | .region 1 _ _=>true | .region 3 _ _=>true | .region 4 _ _=>true | .region 5 _ _=>true | .region 6 _ _=>true | .region 7 _ _=>true | .region 8 _ _=>true | _=>false) C_ok Tryz.func11 rfl rfl (n:=_) rfl (zw18 rfl) (rs:=_) rfl ?_
 conv=>whnf
 refine CutP.intro (ι:=Unit) (fun _=>⟨[(51,B false),(0,B false)],Tryz.f11.ntmps,[],[],none⟩) ?_ (fun _=>?_)
 ·repeat' (conv => whnf
           first|refine won19_c _ _ _ ?_|refine lead0 (L':=D2) rfl (.d (.rowL (ds:=[[ins [0,1,2,3]]]) (mem_of rfl) rfl (.cons (.cons (cvJ [0,1,2,3] (mem_of rfl) rfl rfl) .nil) .nil) rfl (insE [[0,1,2,3]]))) rfl ?_|refine lead1 (L':=D2 ++ D4) rfl (cvR l1 (mem_of rfl) rfl rfl) (.d (.rowL (ds:=[[ins [0,2]],[ins [1,3]]]) (mem_of rfl) rfl (.cons (.cons (cvJ [0,2] (mem_of rfl) rfl rfl) .nil) (.cons (.cons (cvJ [1,3] (mem_of rfl) rfl rfl) .nil) .nil)) rfl (insE [[0,2],[1,3]]))) rfl ?_|refine lead2 (L':=D2 ++ D4 ++ D4) rfl (cvR l2 (mem_of rfl) rfl rfl) (.d (.rowL (ds:=[[ins [0,1,2]],[ins [3]]]) (mem_of rfl) rfl (.cons (.cons (cvJ [0,1,2] (mem_of rfl) rfl rfl) .nil) (.cons (.cons (cvJ [3] (mem_of rfl) rfl rfl) .nil) .nil)) rfl (insE [[0,1,2],[3]]))) rfl ?_|refine lead3 (L':=D2 ++ D4 ++ D4 ++ D4 ++ D2) rfl (cvR l3 (mem_of rfl) rfl rfl) (.d (.rowL (ds:=[[ins [0]],[ins [2]],[ins [1]],[ins [3]]]) (mem_of rfl) rfl (.cons (.cons (cvJ [0] (mem_of rfl) rfl rfl) .nil) (.cons (.cons (cvJ [2] (mem_of rfl) rfl rfl) .nil) (.cons (.cons (cvJ [1] (mem_of rfl) rfl rfl) .nil) (.cons (.cons (cvJ [3] (mem_of rfl) rfl rfl) .nil) .nil)))) rfl (insE [[0],[2],[1],[3]]))) rfl ?_|refine zw0 ?_|refine zw1 ?_|refine zw2 (fun h=>?_) (fun h=>?_)|refine zw3 ?_|refine zw4 (fun h=>?_) (fun h=>?_)|refine zw5 _ rfl ?_|refine zw6 rfl ?_)
  conv=>whnf
  exact ⟨(),Weak.to 0 rfl (zw21 0) (zw22 _) ⟨rfl,rfl,trivial⟩⟩
 repeat' ((conv=>whnf); first|refine zw0 ?_|refine zw1 ?_|refine zw2 (fun h=>?_) (fun h=>?_)|refine zw3 ?_|refine zw4 (fun h=>?_) (fun h=>?_)|refine zw5 _ rfl ?_|refine zw6 rfl ?_)
 conv=>whnf
 refine CutP.intro (ι:=Unit) (fun _=>⟨[(0,B false),(1,.ptr 0 0)],Tryz.f11.ntmps,[ruM],[],none⟩) ?_ (fun _=>?_)
 ·repeat' (conv => whnf
           first|refine CallP.freeze (L':=[.dead]) [0] rfl rfl (.cv (.d (cvJ [1,8] (mem_of rfl) rfl rfl)) .nil) (steps19_c [1,8] (zw18 rfl) ?_)|refine usual19_c [1,8] ?_|refine zw0 ?_|refine zw1 ?_|refine zw2 (fun h=>?_) (fun h=>?_)|refine zw3 ?_|refine zw4 (fun h=>?_) (fun h=>?_)|refine zw5 _ rfl ?_|refine zw6 rfl ?_)
  conv=>whnf
  exact ⟨(),Weak.re [1] ⟨rfl,rfl,trivial⟩ rfl (by decide) rfl⟩
 conv=>whnf
 refine CutP.intro (ι:=Unit) (fun _=>⟨[(0,B false),(1,.ptr 0 0),(2,.d (insL [[0,1],[2]])),(3,.d (ins [0,1])),(4,I 0)],Tryz.f11.ntmps,[ruM],[],none⟩) ?_ (fun _=>?_)
 ·repeat' (conv => whnf
           first|refine zw0 ?_|refine zw1 ?_|refine zw2 (fun h=>?_) (fun h=>?_)|refine zw3 ?_|refine zw4 (fun h=>?_) (fun h=>?_)|refine zw5 _ rfl ?_|refine zw6 rfl ?_)
  conv=>whnf
  refine DrawP.por mixed [8] [[(0,1),(1,1),(2,1),(3,1),(7,3),(4,0),(5,0),(6,0),(8,2),(9,0),(10,0),(11,0),(12,0),(13,0),(14,0),(15,0)],[(0,1),(1,1),(2,1),(3,1),(7,3),(4,0),(6,0),(5,0),(8,2),(9,0),(10,0),(11,0),(12,0),(13,0),(14,0),(15,0)],[(0,1),(1,1),(2,1),(3,1),(7,3),(5,0),(4,0),(6,0),(8,2),(9,0),(10,0),(11,0),(12,0),(13,0),(14,0),(15,0)],[(0,1),(1,1),(2,1),(3,1),(7,3),(5,0),(6,0),(4,0),(8,2),(9,0),(10,0),(11,0),(12,0),(13,0),(14,0),(15,0)],[(0,1),(1,1),(2,1),(3,1),(7,3),(6,0),(4,0),(5,0),(8,2),(9,0),(10,0),(11,0),(12,0),(13,0),(14,0),(15,0)],[(0,1),(1,1),(2,1),(3,1),(7,3),(6,0),(5,0),(4,0),(8,2),(9,0),(10,0),(11,0),(12,0),(13,0),(14,0),(15,0)]] (by kernel_rfl) ?_
  conv=>whnf
  refine And.intro ?_ ?_
  rotate_left 1
  conv=>whnf
  refine And.intro ?_ ?_
  rotate_left 1
  conv=>whnf
  refine And.intro ?_ ?_
  rotate_left 1
  conv=>whnf
  refine And.intro ?_ ?_
  rotate_left 1
  conv=>whnf
  refine And.intro ?_ ?_
  all_goals
   repeat' ((conv=>whnf); first|refine zw12 _ (won19_c 0 1 1 ⟨rfl,rfl⟩) ?_|refine zw12 _ (won19_c 1 0 1 ⟨rfl,rfl⟩) ?_|refine zw12 _ (won19_c 0 2 1 ⟨rfl,rfl⟩) ?_|refine zw12 _ (won19_c 1 2 1 ⟨rfl,rfl⟩) ?_|refine MakeP.intro 3 3 rfl rfl (zw21 3) (zw18 rfl) ?_|refine QCallW.introF _ _ (rankG (bs:=[1,2,3]) p3 lp3 c19.1 false x3 (cvR p3.res (mem_of rfl) rfl rfl) (.d (cvJ p3.clubs (mem_of rfl) rfl rfl)) (.d (cvJ p3.off (mem_of rfl) rfl rfl)) (.d .nil) rfl) ?_|refine zw0 ?_|refine zw1 ?_|refine zw2 (fun h=>?_) (fun h=>?_)|refine zw3 ?_|refine zw4 (fun h=>?_) (fun h=>?_)|refine zw5 _ rfl ?_|refine zw6 rfl ?_)
  all_goals conv=>whnf
  all_goals exact ⟨(),Weak.to 1 rfl (zw22 _) (zw18 rfl) ⟨rfl,rfl,rfl,rfl,rfl,trivial⟩⟩
 conv=>whnf
 refine CutP.intro (ι:=Unit) (fun _=>⟨[(0,B false),(1,.ptr 0 0),(2,.d (insL [[0,1],[2]])),(3,.d (ins [0,1])),(4,I 0),(5,I 1),(6,I 0)],Tryz.f11.ntmps,[ruM],[],none⟩) ?_ (fun _=>?_)
 ·repeat' (conv => whnf
           first|refine zw0 ?_|refine zw1 ?_|refine zw2 (fun h=>?_) (fun h=>?_)|refine zw3 ?_|refine zw4 (fun h=>?_) (fun h=>?_)|refine zw5 _ rfl ?_|refine zw6 rfl ?_)
  conv=>whnf
  refine DrawP.por mixed [5] [[(0,1),(4,3),(1,0),(2,0),(3,0),(5,2),(6,0),(7,0),(8,0),(9,0),(10,0)],[(0,1),(4,3),(1,0),(3,0),(2,0),(5,2),(6,0),(7,0),(8,0),(9,0),(10,0)],[(0,1),(4,3),(2,0),(1,0),(3,0),(5,2),(6,0),(7,0),(8,0),(9,0),(10,0)],[(0,1),(4,3),(2,0),(3,0),(1,0),(5,2),(6,0),(7,0),(8,0),(9,0),(10,0)],[(0,1),(4,3),(3,0),(1,0),(2,0),(5,2),(6,0),(7,0),(8,0),(9,0),(10,0)],[(0,1),(4,3),(3,0),(2,0),(1,0),(5,2),(6,0),(7,0),(8,0),(9,0),(10,0)]] (by kernel_rfl) ?_
  conv=>whnf
  refine And.intro ?_ ?_
  rotate_left 1
  conv=>whnf
  refine And.intro ?_ ?_
  rotate_left 1
  conv=>whnf
  refine And.intro ?_ ?_
  rotate_left 1
  conv=>whnf
  refine And.intro ?_ ?_
  rotate_left 1
  conv=>whnf
  refine And.intro ?_ ?_
  all_goals
   repeat' ((conv=>whnf); first|refine zw12 _ (won19_c 0 1 1 ⟨rfl,rfl⟩) ?_|refine MakeP.intro 2 2 rfl rfl (zw21 2) (zw18 rfl) ?_|refine QCallW.introF _ _ (betG (bs:=[1,2,3]) p2 lp2 c19.2.1 false 1 0 xb (cvR p2.res (mem_of rfl) rfl rfl) (.d (cvJ p2.clubs (mem_of rfl) rfl rfl)) (.d (cvJ p2.off (mem_of rfl) rfl rfl)) (.d .nil) rfl) ?_|refine zw0 ?_|refine zw1 ?_|refine zw2 (fun h=>?_) (fun h=>?_)|refine zw3 ?_|refine zw4 (fun h=>?_) (fun h=>?_)|refine zw5 _ rfl ?_|refine zw6 rfl ?_)
  all_goals conv=>whnf
  all_goals exact ⟨(),Weak.to 1 rfl (zw22 _) (zw18 rfl) ⟨rfl,rfl,rfl,rfl,rfl,rfl,rfl,trivial⟩⟩
 conv=>whnf
 refine CutP.intro (ι:=Unit) (fun _=>⟨[(0,B false),(1,.ptr 0 0),(2,.d (insL [[0,1],[2]])),(3,.d (ins [0,1])),(4,I 0),(5,I 1),(6,I 0),(7,.d (insL [[3],[1],[2]])),(8,I 0)],Tryz.f11.ntmps,[ruM],[],none⟩) ?_ (fun _=>?_)
 ·repeat' (conv => whnf
           first|refine zw0 ?_|refine zw1 ?_|refine zw2 (fun h=>?_) (fun h=>?_)|refine zw3 ?_|refine zw4 (fun h=>?_) (fun h=>?_)|refine zw5 _ rfl ?_|refine zw6 rfl ?_)
  conv=>whnf
  refine DrawP.por mixed [4] [[(2,3),(0,0),(1,0),(3,0),(4,2),(5,0),(6,0),(7,0),(8,0),(9,0)],[(2,3),(0,0),(3,0),(1,0),(4,2),(5,0),(6,0),(7,0),(8,0),(9,0)],[(2,3),(1,0),(0,0),(3,0),(4,2),(5,0),(6,0),(7,0),(8,0),(9,0)],[(2,3),(1,0),(3,0),(0,0),(4,2),(5,0),(6,0),(7,0),(8,0),(9,0)],[(2,3),(3,0),(0,0),(1,0),(4,2),(5,0),(6,0),(7,0),(8,0),(9,0)],[(2,3),(3,0),(1,0),(0,0),(4,2),(5,0),(6,0),(7,0),(8,0),(9,0)]] (by kernel_rfl) ?_
  conv=>whnf
  refine And.intro ?_ ?_
  rotate_left 1
  conv=>whnf
  refine And.intro ?_ ?_
  rotate_left 1
  conv=>whnf
  refine And.intro ?_ ?_
  rotate_left 1
  conv=>whnf
  refine And.intro ?_ ?_
  rotate_left 1
  conv=>whnf
  refine And.intro ?_ ?_
  all_goals
   repeat' ((conv=>whnf); first|refine MakeP.intro 3 3 rfl rfl (zw21 3) (zw18 rfl) ?_|refine QCallW.introF _ _ (splitG (bs:=[1,2,3]) pS lpS c19.2.2.1 12 xs (.d .nil) (.d (cvJ pS.clubs (mem_of rfl) rfl rfl)) (.d (cvJ pS.off (mem_of rfl) rfl rfl)) (.d (cvJ pS.lots (mem_of rfl) rfl rfl)) rfl) ?_|refine zw0 ?_|refine zw1 ?_|refine zw2 (fun h=>?_) (fun h=>?_)|refine zw3 ?_|refine zw4 (fun h=>?_) (fun h=>?_)|refine zw5 _ rfl ?_|refine zw6 rfl ?_)
  all_goals conv=>whnf
  all_goals exact ⟨(),Weak.to 1 rfl (zw22 _) (zw18 rfl) ⟨rfl,rfl,rfl,rfl,rfl,rfl,rfl,rfl,rfl,trivial⟩⟩
 conv=>whnf
 refine CutP.intro (ι:=Unit) (fun _=>⟨[(0,B false),(1,.ptr 0 0),(2,.d (insL [[0,1],[2]])),(3,.d (ins [0,1])),(4,I 0),(5,I 1),(6,I 0),(7,.d (insL [[3],[1],[2]])),(8,I 0),(9,.ptr 1 0),(10,I 0)],Tryz.f11.ntmps,[ruM,.cells [I 2,I 0,I 1,I 3]],[],none⟩) ?_ (fun _=>?_)
 ·repeat' (conv => whnf
           first|refine envG [] [0,1,2] [0,2] true (zw18 rfl) (zw18 rfl) (zw18 rfl) (bs:=[1,2]) (L':=[ruM,.dead,.dead]) xe (.d .nil) (.d (cvJ [0,1,2] (mem_of rfl) rfl rfl)) (.d (cvJ [0,2] (mem_of rfl) rfl rfl)) rfl rfl ?_|refine zw0 ?_|refine zw1 ?_|refine zw2 (fun h=>?_) (fun h=>?_)|refine zw3 ?_|refine zw4 (fun h=>?_) (fun h=>?_)|refine zw5 _ rfl ?_|refine zw6 rfl ?_)
  conv=>whnf
  exact ⟨(),Weak.re [0,3] ⟨rfl,rfl,rfl,rfl,rfl,rfl,rfl,rfl,rfl,rfl,rfl,trivial⟩ rfl (by decide) rfl⟩
 conv=>whnf
 refine CutP.intro (ι:=Unit) (fun _=>⟨[(0,B false),(2,.d (insL [[0,1],[2]])),(3,.d (ins [0,1])),(4,I 0),(5,I 1),(6,I 0),(7,.d (insL [[3],[1],[2]])),(8,I 0),(9,.ptr 1 0),(10,I 0),(13,I 190)],Tryz.f11.ntmps,[ruM,.cells [I 2,I 0,I 1,I 3]],[],none⟩) ?_ (fun _=>?_)
 ·repeat' (conv => whnf
           first|refine (rankG (bs:=[2,3]) p1 lp1 c19.2.2.2 false x1 (.d .nil) (.d (cvJ p1.clubs (mem_of rfl) rfl rfl)) (.d (cvJ p1.off (mem_of rfl) rfl rfl)) (.d .nil) rfl).mono ?_|refine zw0 ?_|refine zw1 ?_|refine zw2 (fun h=>?_) (fun h=>?_)|refine zw3 ?_|refine zw4 (fun h=>?_) (fun h=>?_)|refine zw5 _ rfl ?_|refine zw6 rfl ?_)
  rintro X L' ⟨rfl,rfl⟩
  repeat' ((conv=>whnf); first|refine zw0 ?_|refine zw1 ?_|refine zw2 (fun h=>?_) (fun h=>?_)|refine zw3 ?_|refine zw4 (fun h=>?_) (fun h=>?_)|refine zw5 _ rfl ?_|refine zw6 rfl ?_)
  conv=>whnf
  exact ⟨(),Weak.to 2 rfl (zw22 _) (zw18 rfl) ⟨rfl,rfl,rfl,rfl,rfl,rfl,rfl,rfl,rfl,rfl,rfl,trivial⟩⟩
 have s1 : CallP C 15 [.d (insL [[0,1],[2]]),.d (insL [[0,1],[2]])] [] fun X L'=>L' = [] ∧ X = B true:=rsame19_c [[0,1],[2]] [[0,1],[2]] (by decide) (by decide) (fun x hx=>by have:=small4 (l:=[[0,1],[2]]) rfl x hx; omega) (fun x hx=>by have:=small4 (l:=[[0,1],[2]]) rfl x hx; omega) ⟨rfl,rfl⟩
 have s2 : CallP C 15 [.d (insL [[3],[1],[2]]),.d (insL [[3],[1],[2]])] [] fun X L'=>L' = [] ∧ X = B true:=rsame19_c [[3],[1],[2]] [[3],[1],[2]] (by decide) (by decide) (fun x hx=>by have:=small4 (l:=[[3],[1],[2]]) rfl x hx; omega) (fun x hx=>by have:=small4 (l:=[[3],[1],[2]]) rfl x hx; omega) ⟨rfl,rfl⟩
 have s3 : CallP C 16 [.d (ins [0,1]),.d (ins [0,1])] [] fun X L'=>L' = [] ∧ X = B true:=rsameL19_c [0,1] [0,1] (by decide) (by decide) ⟨rfl,rfl⟩
 repeat' ((conv=>whnf); first|refine CallP.lent s1 (.keep (.cv (.d (.rowL (ds:=[[ins [0,1]],[ins [2]]]) trivial rfl (.cons (.cons (cvJ [0,1] trivial rfl rfl) .nil) (.cons (.cons (cvJ [2] trivial rfl rfl) .nil) .nil)) rfl (insE [[0,1],[2]]))) .nil)) rfl rfl ?_|refine CallP.lent s3 (.keep (.cv (.d (cvJ [0,1] trivial rfl rfl)) .nil)) rfl rfl ?_|refine CallP.lent s2 (.keep (.cv (.d (.rowL (ds:=[[ins [3]],[ins [1]],[ins [2]]]) trivial rfl (.cons (.cons (cvJ [3] trivial rfl rfl) .nil) (.cons (.cons (cvJ [1] trivial rfl rfl) .nil) (.cons (.cons (cvJ [2] trivial rfl rfl) .nil) .nil))) rfl (insE [[3],[1],[2]]))) .nil)) rfl rfl ?_|refine zw0 ?_|refine zw1 ?_|refine zw2 (fun h=>?_) (fun h=>?_)|refine zw3 ?_|refine zw4 (fun h=>?_) (fun h=>?_)|refine zw5 _ rfl ?_|refine zw6 rfl ?_)
 conv=>whnf
 exact FinP.drop (n:=0) rfl (zw21 0) rfl rfl ⟨rfl,rfl⟩
end Go.Proofs.YtihibgcojdfndaaGreatDoor
namespace Go.Proofs.YtihibgcojdfndaaGreatDoor
open Go.Tidy Go.ChangeShapes Go.WideShapes Go.ChangeAt Go.RowKit
open Sts (Res Row Worth Game rowsF addF rowC valueF inG known worthOk resOk fieldOk gameV resV ress rowV)
variable {L : List Blk} {k : V → List Blk → Prop}
def plainTys19 : List TypeId:=[3,4,9,5,60,185,25,27,23,62,64,22,42,52,50,54,24]
theorem plainOk19 : plainB Tryz.prog plainTys19 = true:=by kernel_rfl
theorem bytesOk19 : bytesB Tryz.prog plainTys19 = true:=by kernel_rfl
theorem plainLt19 : ∀ t ∈ plainTys19,t < Tryz.prog.types.size:=by
 have : plainTys19.all (fun t=>decide (t < Tryz.prog.types.size)) = true:=by kernel_rfl
 intro t ht
 simpa using List.all_eq_true.1 this t ht
theorem ints19 {xs : List D} (h : TyI C.P 23 xs) (hs : ∀ y ∈ xs,Dsm reachBytes y) : ∃ l : List Int,xs = [ins l] ∧ True:=by
 obtain ⟨els,rfl,h1,h2⟩:=h.slI Tryz.underlying23
 obtain ⟨l,rfl,_⟩:=map_of2 (f:=fun n=>[DI n]) (p:=fun _=>True) (l:=els) fun y hy=>by
  obtain ⟨n,e,_⟩:=(h2 y hy).intI Tryz.underlying3
  exact ⟨n,e,trivial⟩
 exact ⟨l,rfl,trivial⟩
theorem bool19 {xs : List D} (h : TyI C.P 4 xs) (_ : ∀ y ∈ xs,Dsm reachBytes y) : ∃ b : Bool,xs = [.bool b] ∧ True:=by
 obtain ⟨b,h⟩:=h.boolI Tryz.underlying4
 exact ⟨b,h,trivial⟩
theorem uint19 {xs : List D} (h : TyI C.P 60 xs) (_ : ∀ y ∈ xs,Dsm reachBytes y) : ∃ n : Int,xs = [.int .u64 n] ∧ 0 ≤ n:=by
 obtain ⟨n,h,hw⟩:=h.intI Tryz.underlying60
 refine ⟨n,h,?_⟩
 simp only [Lit.wf,Bool.and_eq_true,decide_eq_true_eq] at hw
 exact hw.1
theorem cells_bool : C.P.cellsOf 4 = 1:=by kernel_rfl
theorem cells_game : C.P.cellsOf 62 = 4:=by kernel_rfl
theorem cells_res : C.P.cellsOf 64 = 13:=by kernel_rfl
theorem at_bool {xs : List D} {i : Nat} (h : TyI C.P 4 ((xs.drop i).take (C.P.cellsOf 4))) : ∃ b : Bool,xs[i]? = some (.bool b):=by
 obtain ⟨b,hn⟩:=h.boolI Tryz.underlying4
 rw [cells_bool] at hn
 exact ⟨b,at_one hn⟩
theorem res19T {xs : List D} (h : TyI C.P 64 xs) : ∃ r : Res,xs = r.cells:=by
 obtain ⟨h1,h2⟩:=h.structI Tryz.underlying64
 rw [cells_res] at h1
 simp only [List.mem_cons,List.not_mem_nil,or_false,forall_eq_or_imp,forall_eq] at h2
 obtain ⟨g,a4,a5,a6,a7,a8,a9,a10,a11,a12⟩:=h2
 obtain ⟨_,h3⟩:=g.structI Tryz.underlying62
 simp only [List.mem_cons,List.not_mem_nil,or_false,forall_eq_or_imp,forall_eq] at h3
 obtain ⟨a0,a1,a2,a3⟩:=h3
 rw [cells_game] at a0 a1 a2 a3
 obtain ⟨n0,b0⟩:=at_int a0
 have b0 : xs[0]? = some (DI n0):=by simpa [List.getElem?_take] using b0
 obtain ⟨n1,b1⟩:=at_int a1
 have b1 : xs[1]? = some (DI n1):=by simpa [List.getElem?_take] using b1
 obtain ⟨n2,b2⟩:=at_int a2
 have b2 : xs[2]? = some (DI n2):=by simpa [List.getElem?_take] using b2
 obtain ⟨n3,b3⟩:=at_int a3
 have b3 : xs[3]? = some (DI n3):=by simpa [List.getElem?_take] using b3
 obtain ⟨n4,b4⟩:=at_int a4
 obtain ⟨n5,b5⟩:=at_int a5
 obtain ⟨n6,b6⟩:=at_int a6
 obtain ⟨n7,b7⟩:=at_int a7
 obtain ⟨n8,b8⟩:=at_int a8
 obtain ⟨n9,b9⟩:=at_int a9
 obtain ⟨n10,b10⟩:=at_int a10
 obtain ⟨n11,b11⟩:=at_bool a11
 obtain ⟨n12,b12⟩:=at_bool a12
 refine ⟨⟨⟨n0,n1,n2,n3⟩,n4,n5,n6,n7,n8,n9,n10,n11,n12⟩,?_⟩
 apply List.ext_getElem?
 intro i
 match i with
 | 0=>exact b0
 | 1=>exact b1
 | 2=>exact b2
 | 3=>exact b3
 | 4=>exact b4
 | 5=>exact b5
 | 6=>exact b6
 | 7=>exact b7
 | 8=>exact b8
 | 9=>exact b9
 | 10=>exact b10
 | 11=>exact b11
 | 12=>exact b12
 | i + 13=>rw [List.getElem?_eq_none (by omega)]; rfl
theorem ress19 {xs : List D} (h : TyI C.P 22 xs) (_ : ∀ y ∈ xs,Dsm reachBytes y) : ∃ l : List Res,xs = [ress l] ∧ True:=by
 obtain ⟨els,rfl,h1,h2⟩:=h.slI Tryz.underlying22
 obtain ⟨l,rfl,_⟩:=map_of2 (f:=Res.cells) (p:=fun _=>True) (l:=els) fun y hy=>by
  obtain ⟨r,e⟩:=res19T (h2 y hy)
  exact ⟨r,e,trivial⟩
 exact ⟨l,rfl,trivial⟩
theorem few_p {p : Cp} (h : few19 p = true) (hr : LRu p.ru) : p.res.length ≤ 40 ∧ p.clubs.length ≤ 8 ∧ p.off.length ≤ 30 ∧ p.lots.length ≤ 30 ∧ LCp p:=by
 unfold few19 at h
 rw [Bool.and_eq_true,decide_eq_true_eq] at h
 exact ⟨h.1.1,h.1.2.1,h.1.2.2.1,h.1.2.2.2.1,lcp p (by omega) (by omega) (by omega) (by omega) hr⟩
theorem gs_perm (p : Cp) (fin : Bool) (h : 1 ≤ p.clubs.length) : ((p.gs fin).map (·.1)).flatten.Perm p.clubs:=rank_perm (p.rk fin) p.clubs.length p.clubs 0 (zw21 _) h
theorem gs_nodup (p : Cp) (fin : Bool) (h : 1 ≤ p.clubs.length) (hn : p.clubs.Nodup) : ((p.gs fin).map (·.1)).flatten.Nodup:=(gs_perm p fin h).nodup_iff.2 hn
theorem gs_mem {p : Cp} {fin : Bool} {x : List Int × Int} (h : x ∈ p.gs fin) : x.1.Sublist p.clubs ∧ (p.rk fin).fst x.1 = none:=rank_mem _ _ _ _ _ h
theorem gs_count (p : Cp) (fin : Bool) (h : 1 ≤ p.clubs.length) : (p.gs fin).length ≤ p.clubs.length:=grs_count (p.rk fin) (Nat.le_refl _) h (fun e=>by rw [e] at h; exact absurd h (by decide))
theorem gs_small {p : Cp} {fin : Bool} {x : List Int} (h : x ∈ (p.gs fin).map (·.1)) : x.length ≤ p.clubs.length:=by
 obtain ⟨y,hy,rfl⟩:=List.mem_map.1 h
 exact (gs_mem hy).1.length_le
theorem bet_diff19 {p : Cp} (hL : LCp p) {fin : Bool} (h : 1 ≤ p.clubs.length) (hn : p.clubs.Nodup) {a b : Int} (ha : a ∈ p.clubs) (hb : b ∈ p.clubs) (e : inP ((p.gs fin).map (·.1)) a ≠ inP ((p.gs fin).map (·.1)) b) : 1 ≤ bet a b (p.evs fin) 0 ∧ bet a b (p.evs fin) 0 ≤ 12:=by
 have hnd:=gs_nodup p fin h hn
 obtain ⟨c,n,hc,hbc⟩:=bet_diff (p.rk fin) p.clubs.length p.clubs 0 hn (zw21 _) ha hb fun x hx ⟨h1,h2⟩=>by
  obtain ⟨i,hi,rfl⟩:=List.mem_iff_getElem.1 (show x ∈ (p.gs fin).map (·.1) from hx)
  exact e ((inP_at hnd hi h1).trans (inP_at hnd hi h2).symm)
 have:=(rk_ok hL fin n).rg c hc
 rw [show bet a b (p.evs fin) 0 = c from hbc 0]
 exact this
end Go.Proofs.YtihibgcojdfndaaGreatDoor
namespace Go.Proofs.YtihibgcojdfndaaGreatDoor
open Go.Tidy
open Sts (Res Row Worth Game rowsF addF rowC valueF inG known worthOk resOk fieldOk gameV resV ress rowV)
theorem idx_take {l : List Int} (hn : l.Nodup) {i : Nat} (h : i < l.length) : l.idxOf l[i] = i:=by
 have h1:=List.idxOf_lt_length_of_mem (List.getElem_mem h)
 have h2 : l[l.idxOf l[i]] = l[i]:=List.getElem_idxOf h1
 exact (List.getElem_inj hn).1 h2
theorem offTab_val {clubs off : List Int} (hn : clubs.Nodup) (hl : off.length = clubs.length) (c : Int) : ∀ i,i ≤ clubs.length → valP (offTab clubs off i) c = if c ∈ clubs.take i then off.getD (clubs.idxOf c) 0 else 0
 | 0,_=>by simp [offTab,valP,keysP]
 | i + 1,h=>by
  have hi : i < clubs.length:=by omega
  rw [offTab,valP_ins,offTab_val hn hl c i (by omega),getDI hi,take_next hi]
  by_cases e : c = clubs[i]
  ·subst e
   rw [if_pos rfl,if_pos (List.mem_append.2 (.inr (List.mem_singleton.2 rfl))),idx_take hn hi]
  ·rw [if_neg e]
   simp only [List.mem_append,List.mem_singleton,e,or_false]
theorem off_val {clubs off : List Int} (hn : clubs.Nodup) (hl : off.length = clubs.length) (c : Int) : valP (offTab clubs off clubs.length) c = offF clubs off c:=by
 rw [offTab_val hn hl c clubs.length (Nat.le_refl _),List.take_length]; rfl
theorem lot0_val {clubs : List Int} (n : Int) (c : Int) : ∀ i,i ≤ clubs.length → valP (lot0 clubs n i) c = if c ∈ clubs.take i then n else 0
 | 0,_=>by simp [lot0,valP,keysP]
 | i + 1,h=>by
  have hi : i < clubs.length:=by omega
  rw [lot0,valP_ins,lot0_val n c i (by omega),getDI hi,take_next hi]
  by_cases e : c = clubs[i]
  ·rw [if_pos e,if_pos (List.mem_append.2 (.inr (List.mem_singleton.2 e)))]
  ·rw [if_neg e]
   simp only [List.mem_append,List.mem_singleton,e,or_false]
theorem lotTab_val {clubs lots : List Int} (hn : lots.Nodup) (c : Int) : ∀ i,i ≤ lots.length → valP (lotTab clubs lots i) c = if c ∈ lots.take i then (lots.idxOf c : Int) else if c ∈ clubs then (lots.length : Int) else 0
 | 0,_=>by rw [lotTab,lot0_val _ _ _ (Nat.le_refl _),List.take_length]; simp
 | i + 1,h=>by
  have hi : i < lots.length:=by omega
  rw [lotTab,valP_ins,lotTab_val hn c i (by omega),getDI hi,take_next hi]
  by_cases e : c = lots[i]
  ·subst e
   rw [if_pos rfl,if_pos (List.mem_append.2 (.inr (List.mem_singleton.2 rfl))),idx_take hn hi]
  ·rw [if_neg e]
   simp only [List.mem_append,List.mem_singleton,e,or_false]
theorem lot_val {clubs lots : List Int} (hn : lots.Nodup) {c : Int} (hc : c ∈ clubs) : valP (lotTab clubs lots lots.length) c = lotF lots c:=by
 rw [lotTab_val hn c lots.length (Nat.le_refl _),List.take_length]
 unfold lotF
 by_cases h : c ∈ lots
 ·rw [if_pos h,if_pos h]
 ·rw [if_neg h,if_neg h,if_pos hc]
theorem lots_nodup {l : List Int} (h : lotsOk l = true) : l.Nodup:=by
 unfold lotsOk at h
 rw [Bool.and_eq_true,decide_eq_true_eq] at h
 exact h.1
theorem split_one {v : Int → Int} {g : List Int} (h : splitF v g = [g]) {a b : Int} (ha : a ∈ g) (hb : b ∈ g) : v a = v b:=by
 unfold splitF at h
 cases hc : clsF v g with
 | nil=>rw [hc] at h; cases h
 | cons p r =>
  rw [hc] at h
  simp only [List.map_cons,List.cons.injEq,List.map_eq_nil_iff] at h
  obtain ⟨h1,h2⟩:=h
  subst h2
  have hm:=fun (x : Int) (hx : x ∈ g)=>(cls_mem (v:=v) (g:=g) (u:=v x) (x:=x)).2 ⟨hx,rfl⟩
  obtain ⟨es,he,_⟩:=hm a ha
  obtain ⟨es',he',_⟩:=hm b hb
  rw [hc,List.mem_singleton] at he he'
  exact (congrArg Prod.fst he).trans (congrArg Prod.fst he').symm
theorem idx_inj {l : List Int} {a b : Int} (ha : a ∈ l) (h : l.idxOf a = l.idxOf b) : a = b:=by
 have h1:=List.idxOf_lt_length_of_mem ha
 have h2 : l[l.idxOf a] = a:=List.getElem_idxOf h1
 have h3 : l[l.idxOf b]'(h ▸ h1) = b:=List.getElem_idxOf (h ▸ h1)
 rw [← h2,← h3]
 congr 1
theorem lots_one {p : Cp} {fin : Bool} (hcl : p.clubs.length ≤ 24) (hlt : p.lots.length ≤ 100) (hlo : p.lots.Nodup) (hcr : ∀ n,2 ≤ n → n ≤ p.clubs.length → (12 : Int) ∈ (p.rk fin).cr n) (hall : ∀ c ∈ p.clubs,c ∈ p.lots) (hn : p.clubs.Nodup) {x : List Int × Int} (hx : x ∈ p.gs fin) : x.1.length ≤ 1:=by
 obtain ⟨hs,hf⟩:=gs_mem hx
 rcases fst_none hf with h | h
 ·exact h
 by_cases h2 : x.1.length ≤ 1
 ·exact h2
 have hle:=hs.length_le
 have hsp:=h 12 (hcr _ (by omega) hle)
 have hnd : x.1.Nodup:=hs.nodup hn
 have h0 : 0 < x.1.length:=by omega
 have h1 : 1 < x.1.length:=by omega
 have e:=split_one (v:=(p.rk fin).val x.1 12) hsp (List.getElem_mem h0) (List.getElem_mem h1)
 have hv : ∀ c ∈ x.1,(p.rk fin).val x.1 12 c = 0 - (p.lots.idxOf c : Int):=fun c hc=>by
  have hcc:=hs.subset hc
  show valC p x.1 12 c = _
  unfold valC
  rw [if_pos rfl,lot_val hlo hcc]
  unfold lotF
  rw [if_pos (hall c hcc)]
  have:=List.idxOf_lt_length_of_mem (hall c hcc)
  exact wrap_in (by omega)
 rw [hv _ (List.getElem_mem h0),hv _ (List.getElem_mem h1)] at e
 have e2:=idx_inj (hall _ (hs.subset (List.getElem_mem h0))) (b:=x.1[1]) (by omega)
 rw [List.Nodup,List.pairwise_iff_getElem] at hnd
 exact absurd e2 (hnd 0 1 h0 h1 (by decide))
theorem ones_count : ∀ m : List (List Int),(∀ q ∈ m,q.length = 1) → m.flatten.length = m.length
 | [],_=>rfl
 | q :: m,h=>by
  rw [List.flatten_cons,List.length_append,List.length_cons,ones_count m fun x hx=>h x (by simp [hx]),h q (by simp)]; omega
theorem gs_ne {p : Cp} {fin : Bool} (h : 1 ≤ p.clubs.length) {x : List Int × Int} (hx : x ∈ p.gs fin) : x.1 ≠ []:=rank_nonempty _ _ _ _ _ (fun e=>by rw [e] at h; exact absurd h (by decide)) hx
theorem envX_ok {p : Cp} {fin : Bool} {g : List Int} (h0 : openE p 2 p.clubs.contains = 0) (hg : g.Sublist p.clubs) (h2 : 2 ≤ g.length) : envX p.res p.clubs g fin = .tup [enV (envO p.res p.clubs g.length fin),I 0]:=by
 obtain ⟨o1,o2,o3,o4,o5,o6⟩:=open_of h0
 have h3 : fieldOk g 2 = true:=by
  unfold fieldOk at o1 ⊢
  simp only [Bool.and_eq_true,decide_eq_true_eq] at o1 ⊢
  refine ⟨⟨?_,h2⟩,Nat.le_trans hg.length_le o1.2⟩
  have hlt:=Sts.incr_lt o1.1.1
  rw [Sts.incr_iff]
  intro j c hj
  have hjl:=lt_of_get hj
  have hr : ∀ d ∈ p.clubs,0 ≤ d ∧ d < 192:=fun d hd=>by
   obtain ⟨i,hi,rfl⟩:=List.mem_iff_getElem.1 hd
   exact ((Sts.incr_iff _).1 o1.1.1 i _ (List.getElem?_eq_getElem hi)).1
  refine ⟨hr c (hg.subset (List.mem_of_getElem? hj)),fun d h0 hd=>?_⟩
  have hp : g.Pairwise (· < ·):=List.Pairwise.sublist hg (hlt.imp fun h=>by omega)
  have hdl:=lt_of_get hd
  rw [List.pairwise_iff_getElem] at hp
  have:=hp (j - 1) j hdl hjl (by omega)
  rw [List.getElem?_eq_getElem hjl] at hj
  rw [List.getElem?_eq_getElem hdl] at hd
  cases hj; cases hd
  exact this
 have h4 : (g.any fun c=>!p.clubs.contains c) = false:=by
  rw [List.any_eq_false]
  intro c hc
  have:=hg.subset hc
  simp [this]
 unfold envX
 rw [if_pos ⟨o1,o5,h3,h4⟩]
end Go.Proofs.YtihibgcojdfndaaGreatDoor
