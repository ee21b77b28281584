import Derived.Test.YtclmjkhdmhlijaaGreatDoorJCE
set_option maxRecDepth 100000
set_option maxHeartbeats 0
set_option linter.unusedSimpArgs false
set_option linter.unusedVariables false
namespace Go.Proofs.YtclmjkhdmhlijaaGreatDoor
open Go.Tidy
variable {L : List Blk} {k : V → List Blk → Prop}
def czF (c : Co) : Nat:=if isZ c = true then 0 else cnF 0 c
mutual
def szS (d : Nat) : Sp → Nat × Nat
 | .mk _ _ c t e=>(1 + (if t ≠ [] ∧ 16 < d + 1 then (1000,1000) else szL (d + 1) t (0,0)).1 + (if e ≠ [] ∧ 16 < d + 1 then (1000,1000) else szL (d + 1) e (0,0)).1,
   (if t ≠ [] ∧ 16 < d + 1 then (1000,1000) else szL (d + 1) t (0,0)).2 + (if e ≠ [] ∧ 16 < d + 1 then (1000,1000) else szL (d + 1) e (0,0)).2 + czF c)
def szL (d : Nat) : List Sp → Nat × Nat → Nat × Nat
 | [],a=>a
 | s :: ss,a=>if a.1 ≤ 64 ∧ a.2 ≤ 256 then szL d ss (a.1 + (szS d s).1,a.2 + (szS d s).2) else a
end
def szT (d : Nat) (l : List Sp) : Nat × Nat:=if l ≠ [] ∧ 16 < d then (1000,1000) else szL d l (0,0)
theorem szS_eq (d : Nat) (s : Sp) : szS d s = (1 + (szT (d + 1) s.thn).1 + (szT (d + 1) s.els).1,(szT (d + 1) s.thn).2 + (szT (d + 1) s.els).2 + czF s.cond):=by
 cases s; rw [szS]; rfl
theorem szL_big (d : Nat) : ∀ {l : List Sp} {a : Nat × Nat},¬ (a.1 ≤ 64 ∧ a.2 ≤ 256) → szL d l a = a
 | [],a,_=>by rw [szL]
 | s :: ss,a,h=>by rw [szL,if_neg h]
theorem szL_le (d B : Nat) (hF : ∀ s,(szS d s).1 ≤ B ∧ (szS d s).2 ≤ B) : ∀ (l : List Sp) (a : Nat × Nat),a.1 ≤ 256 + B → a.2 ≤ 256 + B → (szL d l a).1 ≤ 256 + B ∧ (szL d l a).2 ≤ 256 + B
 | [],a,h1,h2=>by rw [szL]; exact ⟨h1,h2⟩
 | s :: ss,a,h1,h2=>by
  rw [szL]
  split
  ·rename_i h
   have:=hF s
   exact szL_le d B hF ss _ (by simp only; omega) (by simp only; omega)
  ·exact ⟨h1,h2⟩
theorem czF_le (c : Co) : czF c ≤ 6000:=by
 unfold czF; split
 ·omega
 ·exact cnF_top 0 c
theorem szT_le : ∀ (m d : Nat),17 ≤ d + m → ∀ l,(szT d l).1 ≤ 7000 * 2 ^ m + 7000 * (2 ^ m - 1) ∧ (szT d l).2 ≤ 7000 * 2 ^ m + 7000 * (2 ^ m - 1)
 | 0,d,h,l=>by
  unfold szT
  by_cases hl : l = []
  ·subst hl; rw [if_neg (by simp),szL]; simp
  ·rw [if_pos ⟨hl,by omega⟩]; simp
 | m + 1,d,h,l=>by
  have ih:=szT_le m (d + 1) (by omega)
  have hp : 1 ≤ 2 ^ m:=Nat.one_le_two_pow
  have e : 2 ^ (m + 1) = 2 * 2 ^ m:=by rw [Nat.pow_succ]; omega
  rw [e]
  generalize 2 ^ m = p at *
  unfold szT
  split
  ·simp only; omega
  ·have hS : ∀ s,(szS d s).1 ≤ 2 * (7000 * p + 7000 * (p - 1)) + 6001 ∧ (szS d s).2 ≤ 2 * (7000 * p + 7000 * (p - 1)) + 6001:=fun s=>by
    rw [szS_eq]
    have h1:=ih s.thn
    have h2:=ih s.els
    have h3:=czF_le s.cond
    simp only; omega
   have:=szL_le d _ hS l (0,0) (by simp only; omega) (by simp only; omega)
   omega
theorem szT_top (d : Nat) (l : List Sp) : (szT d l).1 ≤ 2000000000 ∧ (szT d l).2 ≤ 2000000000:=by
 have:=szT_le 17 d (by omega) l
 have e : 2 ^ 17 = 131072:=by decide
 rw [e] at this
 omega
theorem szL_drop {d : Nat} {l : List Sp} {i : Nat} (h : i < l.length) {a : Nat × Nat} (ha : a.1 ≤ 64 ∧ a.2 ≤ 256) : szL d (l.drop i) a = szL d (l.drop (i + 1)) (a.1 + (szS d l[i]).1,a.2 + (szS d l[i]).2):=by
 rw [List.drop_eq_getElem_cons h,szL,if_pos ha]
theorem size_s : ∀ (m : Nat) (l : List Sp),SizeOf.sizeOf l ≤ m → LSs l → ∀ (d : Nat),d ≤ 17 → ∀ (L : List Blk) (k : V → List Blk → Prop),k (.tup [I (szT d l).1,I (szT d l).2]) L → CallP C 44 [.d (sps l),I d] L k
 | 0,l,h,_=>absurd h (by cases l <;> simp)
 | m + 1,l,hsz,hl=>by
  intro d hd L k h
  have ih:=size_s m
  have hlen:=hl.len
  by_cases h0 : l ≠ [] ∧ 16 < d
  ·have hp : (0 : Int) < ((l.map Sp.cells).length : Int):=by rw [List.length_map]; have:=List.length_pos_iff.2 h0.1; omega
   have hd16 : (16 : Int) < (d : Int):=by omega
   have e : szT d l = (1000,1000):=by unfold szT; rw [if_pos h0]
   rw [e] at h
   refine CallP.pure ?_ rfl (fun _=>rfl) h
   clear h
   refine callP_of C_ok Tryz.func44 rfl rfl (n:=_) rfl (zw18 rfl) (rs:=_) rfl ?_
   repeat' ((conv=>whnf); first|refine zw8 (zw19 hp) ?_|refine zw8 (zw19 hd16) ?_|refine zw0 ?_|refine zw1 ?_|refine zw2 (fun h=>?_) (fun h=>?_)|refine zw3 ?_|refine zw4 (fun h=>?_) (fun h=>?_)|refine zw5 _ rfl ?_|refine zw6 rfl ?_|refine zw7 mixed rfl ?_)
   conv=>whnf
   exact FinP.drop (n:=0) rfl (zw21 0) rfl rfl ⟨rfl,rfl⟩
  have e : szT d l = szL d l (0,0):=by unfold szT; rw [if_neg h0]
  refine CallP.pure ?_ rfl (fun _=>rfl) h
  clear h
  refine callP_of C_ok Tryz.func44 rfl rfl (n:=_) rfl (zw18 rfl) (rs:=_) rfl ?_
  obtain ⟨t,ht0⟩ : ∃ t,t = szT d l:=⟨_,rfl⟩
  rw [← ht0]
  by_cases hl0 : l = []
  ·subst hl0
   rw [e,szL] at ht0
   subst ht0
   repeat' ((conv=>whnf); first|refine zw0 ?_|refine zw1 ?_|refine zw2 (fun h=>?_) (fun h=>?_)|refine zw3 ?_|refine zw4 (fun h=>?_) (fun h=>?_)|refine zw5 _ rfl ?_|refine zw6 rfl ?_|refine zw7 mixed rfl ?_)
   conv=>whnf
   refine LoopP.inv (fun _ : Unit=>True) (fun _=>⟨[(0,.d (sps [])),(1,I d),(6,I 0),(7,I 0),(8,I 0)],Tryz.f44.ntmps,[],[],none⟩) (fun _=>0) () trivial ?_ ?_
   ·exact Weak.by ⟨rfl,rfl,rfl,rfl,rfl,trivial⟩
   rintro - -
   repeat' ((conv=>whnf); first|refine zw0 ?_|refine zw1 ?_|refine zw2 (fun h=>?_) (fun h=>?_)|refine zw3 ?_|refine zw4 (fun h=>?_) (fun h=>?_)|refine zw5 _ rfl ?_|refine zw6 rfl ?_|refine zw7 mixed rfl ?_)
   conv=>whnf
   exact FinP.drop (n:=0) rfl (zw21 0) rfl rfl ⟨rfl,rfl⟩
  have hd16 : ¬ (16 : Int) < (d : Int):=by
   have : ¬ 16 < d:=fun h=>h0 ⟨hl0,h⟩
   omega
  have hp : (0 : Int) < ((l.map Sp.cells).length : Int):=by rw [List.length_map]; have:=List.length_pos_iff.2 hl0; omega
  repeat' ((conv=>whnf); first|refine zw8 (zw19 hp) ?_|refine zw9 (zw20 hd16) ?_|refine zw0 ?_|refine zw1 ?_|refine zw2 (fun h=>?_) (fun h=>?_)|refine zw3 ?_|refine zw4 (fun h=>?_) (fun h=>?_)|refine zw5 _ rfl ?_|refine zw6 rfl ?_|refine zw7 mixed rfl ?_)
  conv=>whnf
  refine LoopP.inv (α:=Nat × Nat × Nat) (fun s=>s.1 ≤ l.length ∧ s.2.1 ≤ 8000000000 ∧ s.2.2 ≤ 8000000000 ∧ szL d (l.drop s.1) s.2 = t) (fun s=>⟨[(0,.d (sps l)),(1,I d),(6,I s.2.1),(7,I s.2.2),(8,I s.1)],Tryz.f44.ntmps,[],[],none⟩) (fun s=>l.length - s.1) (0,0,0) ⟨zw22 _,by simp,by simp,by rw [List.drop_zero,ht0,e]⟩ ?_ ?_
  ·exact Weak.by ⟨rfl,rfl,rfl,rfl,rfl,trivial⟩
  rintro ⟨i,a,b⟩ ⟨hi,ha,hb,heq⟩
  simp only at hi ha hb heq ⊢
  by_cases h2 : (i : Int) < ((l.map Sp.cells).length : Int)
  rotate_left
  ·have h2' : l.length ≤ i:=by rw [List.length_map] at h2; omega
   rw [List.drop_eq_nil_of_le h2',szL] at heq
   subst heq
   repeat' ((conv=>whnf); first|refine zw9 (zw20 h2) ?_|refine zw0 ?_|refine zw1 ?_|refine zw2 (fun h=>?_) (fun h=>?_)|refine zw3 ?_|refine zw4 (fun h=>?_) (fun h=>?_)|refine zw5 _ rfl ?_|refine zw6 rfl ?_|refine zw7 mixed rfl ?_)
   conv=>whnf
   exact FinP.drop (n:=0) rfl (zw21 0) rfl rfl ⟨rfl,rfl⟩
  have hi' : i < l.length:=by rw [List.length_map] at h2; omega
  by_cases h3 : (a : Int) ≤ 64
  rotate_left
  ·rw [szL_big _ (by simp only; omega)] at heq
   subst heq
   repeat' ((conv=>whnf); first|refine zw8 (zw19 h2) ?_|refine zw9 (zw20 h3) ?_|refine zw0 ?_|refine zw1 ?_|refine zw2 (fun h=>?_) (fun h=>?_)|refine zw3 ?_|refine zw4 (fun h=>?_) (fun h=>?_)|refine zw5 _ rfl ?_|refine zw6 rfl ?_|refine zw7 mixed rfl ?_)
   conv=>whnf
   exact FinP.drop (n:=0) rfl (zw21 0) rfl rfl ⟨rfl,rfl⟩
  by_cases h4 : (b : Int) ≤ 256
  rotate_left
  ·rw [szL_big _ (by simp only; omega)] at heq
   subst heq
   repeat' ((conv=>whnf); first|refine zw8 (zw19 h2) ?_|refine zw8 (zw19 h3) ?_|refine zw9 (zw20 h4) ?_|refine zw0 ?_|refine zw1 ?_|refine zw2 (fun h=>?_) (fun h=>?_)|refine zw3 ?_|refine zw4 (fun h=>?_) (fun h=>?_)|refine zw5 _ rfl ?_|refine zw6 rfl ?_|refine zw7 mixed rfl ?_)
   conv=>whnf
   exact FinP.drop (n:=0) rfl (zw21 0) rfl rfl ⟨rfl,rfl⟩
  rw [szL_drop hi' ⟨by simp only; omega,by simp only; omega⟩] at heq
  have hm : l[i] ∈ l:=List.getElem_mem hi'
  have hs:=hl.all _ hm
  have hz : SizeOf.sizeOf l[i] < SizeOf.sizeOf l:=List.sizeOf_lt_of_mem hm
  obtain ⟨s,hs0⟩ : ∃ s,s = l[i]:=⟨_,rfl⟩
  rw [← hs0] at hs hz heq
  have r1 : (l.map Sp.cells)[i]? = some [DI s.kind,DI s.by_,DI s.cond.kind,DI s.cond.var,DI s.cond.n,cos s.cond.parts,sps s.thn,sps s.els]:=by rw [List.getElem?_map,List.getElem?_eq_getElem hi',← hs0,← Sp.cells_eq]; rfl
  have z1 : SizeOf.sizeOf s.thn < SizeOf.sizeOf s:=by cases s; simp only [Sp.mk.sizeOf_spec,Sp.thn]; omega
  have z2 : SizeOf.sizeOf s.els < SizeOf.sizeOf s:=by cases s; simp only [Sp.mk.sizeOf_spec,Sp.els]; omega
  have i1:=ih s.thn (by omega) ⟨hs.len1,hs.thn⟩ (d + 1) (by omega)
  have i2:=ih s.els (by omega) ⟨hs.len2,hs.els⟩ (d + 1) (by omega)
  have hwd : IntKind.i64.wrap ((d : Int) + 1) = ((d + 1 : Nat) : Int):=by rw [wrap_in (by omega)]; omega
  have hw2 : IntKind.i64.wrap ((i : Int) + 1) = ((i + 1 : Nat) : Int):=by rw [wrap_in (by omega)]; omega
  have b1:=szT_top (d + 1) s.thn
  have b2:=szT_top (d + 1) s.els
  have b3:=czF_le s.cond
  rw [← hwd] at i1 i2
  rw [szS_eq] at heq
  generalize szT (d + 1) s.thn = u at i1 heq b1
  generalize szT (d + 1) s.els = v at i2 heq b2
  have hzr : ∀ {L : List Blk} {k : V → List Blk → Prop},k (B (isZ s.cond)) L → CallP C 67 [.agg [I s.cond.kind,I s.cond.var,I s.cond.n,.d (cos s.cond.parts)]] L k:=fun h=>by
   have:=zero_c s.cond h
   rw [Co.cells_eq] at this; exact this
  have hcn : ∀ {L : List Blk} {k : V → List Blk → Prop},k (I (cnF 0 s.cond)) L → CallP C 68 [.agg [I s.cond.kind,I s.cond.var,I s.cond.n,.d (cos s.cond.parts)],I 0] L k:=fun h=>by
   have:=conditions_c s.cond hs.cond h
   rw [Co.cells_eq] at this; exact this
  have e1 : IntKind.i64.wrap (IntKind.i64.wrap (IntKind.i64.wrap ((a : Int) + 1) + (u.1 : Int)) + (v.1 : Int)) = ((a + (1 + u.1 + v.1) : Nat) : Int):=by
   rw [wrap_in (n:=(a : Int) + 1) (by omega),wrap_in (n:=(a : Int) + 1 + (u.1 : Int)) (by omega),wrap_in (by omega)]; omega
  have e2 : IntKind.i64.wrap (IntKind.i64.wrap ((b : Int) + (u.2 : Int)) + (v.2 : Int)) = ((b + (u.2 + v.2) : Nat) : Int):=by
   rw [wrap_in (n:=(b : Int) + (u.2 : Int)) (by omega),wrap_in (by omega)]; omega
  by_cases hzc : isZ s.cond = true
  ·have hc0 : czF s.cond = 0:=by unfold czF; rw [if_pos hzc]
   repeat' ((conv=>whnf); first|refine zw8 (zw19 h2) ?_|refine zw8 (zw19 h3) ?_|refine zw8 (zw19 h4) ?_|refine zw8 hzc ?_|refine zw0 ?_|refine zw1 ?_|refine zw2 (fun h=>?_) (fun h=>?_)|refine zw3 ?_|refine zw4 (fun h=>?_) (fun h=>?_)|refine zw5 _ rfl ?_|refine zw6 rfl ?_|refine zw7 mixed rfl ?_|refine zw10 i _ rfl r1 ?_|refine i1 _ _ ?_|refine i2 _ _ ?_|refine hzr ?_)
   conv=>whnf
   exact ⟨(i + 1,a + (1 + u.1 + v.1),b + (u.2 + v.2 + czF s.cond)),⟨hi',by simp only; omega,by simp only; omega,heq⟩,by simp only; omega,Weak.by ⟨rfl,rfl,congrArg I e1,Eq.trans (congrArg I e2) (by rw [hc0]; rfl),congrArg I hw2,trivial⟩⟩
  ·have hc0 : czF s.cond = cnF 0 s.cond:=by unfold czF; rw [if_neg hzc]
   have hzc' : isZ s.cond = false:=by simpa using hzc
   rw [hc0] at b3 heq
   generalize cnF 0 s.cond = cn at *
   have e3 : IntKind.i64.wrap (IntKind.i64.wrap (IntKind.i64.wrap ((b : Int) + (u.2 : Int)) + (v.2 : Int)) + (cn : Int)) = ((b + (u.2 + v.2 + cn) : Nat) : Int):=by
    rw [e2,wrap_in (by omega)]; omega
   repeat' ((conv=>whnf); first|refine zw8 (zw19 h2) ?_|refine zw8 (zw19 h3) ?_|refine zw8 (zw19 h4) ?_|refine zw9 hzc' ?_|refine zw0 ?_|refine zw1 ?_|refine zw2 (fun h=>?_) (fun h=>?_)|refine zw3 ?_|refine zw4 (fun h=>?_) (fun h=>?_)|refine zw5 _ rfl ?_|refine zw6 rfl ?_|refine zw7 mixed rfl ?_|refine zw10 i _ rfl r1 ?_|refine i1 _ _ ?_|refine i2 _ _ ?_|refine hzr ?_|refine hcn ?_)
   conv=>whnf
   exact ⟨(i + 1,a + (1 + u.1 + v.1),b + (u.2 + v.2 + cn)),⟨hi',by simp only; omega,by simp only; omega,heq⟩,by simp only; omega,Weak.by ⟨rfl,rfl,congrArg I e1,congrArg I e3,congrArg I hw2,trivial⟩⟩
theorem rsize_c (l : List Sp) (hl : LSs l) (h : k (.tup [I (szT 0 l).1,I (szT 0 l).2]) L) : CallP C 44 [.d (sps l),I 0] L k:=size_s _ l (zw21 _) hl 0 (by decide) L k h
def fewB (l : List Sp) : Bool:=decide (l.length ≤ 20 ∧ (szT 0 l).1 ≤ 80 ∧ (szT 0 l).2 ≤ 300)
theorem few_c (l : List Sp) (hl : LSs l) (h : k (B (fewB l)) L) : CallP C 16 [.d (sps l)] L k:=by
 have hs : ∀ {L : List Blk} {k : V → List Blk → Prop},k (.tup [I (szT 0 l).1,I (szT 0 l).2]) L → CallP C 44 [.d (sps l),I 0] L k:=fun h=>rsize_c l hl h
 unfold fewB at h
 generalize szT 0 l = t at *
 refine CallP.pure ?_ rfl (fun _=>rfl) h
 clear h
 refine callP_of C_ok Tryz.func16 rfl rfl (n:=_) rfl (zw18 rfl) (rs:=_) rfl ?_
 by_cases h1 : ((l.map Sp.cells).length : Int) ≤ 20
 rotate_left
 ·repeat' (conv => whnf
           first|refine zw9 (zw20 h1) ?_|refine zw0 ?_|refine zw1 ?_|refine zw2 (fun h=>?_) (fun h=>?_)|refine zw3 ?_|refine zw4 (fun h=>?_) (fun h=>?_)|refine zw5 _ rfl ?_|refine zw6 rfl ?_|refine zw7 mixed rfl ?_|refine hs ?_)
  conv=>whnf
  exact FinP.drop (n:=0) rfl (Nat.le_refl 0) rfl rfl ⟨rfl,congrArg B (decide_eq_false (by rw [List.length_map] at h1; omega)).symm⟩
 by_cases h2 : (t.1 : Int) ≤ 80
 rotate_left
 ·repeat' (conv => whnf
           first|refine zw8 (zw19 h1) ?_|refine zw9 (zw20 h2) ?_|refine zw0 ?_|refine zw1 ?_|refine zw2 (fun h=>?_) (fun h=>?_)|refine zw3 ?_|refine zw4 (fun h=>?_) (fun h=>?_)|refine zw5 _ rfl ?_|refine zw6 rfl ?_|refine zw7 mixed rfl ?_|refine hs ?_)
  conv=>whnf
  exact FinP.drop (n:=0) rfl (zw21 0) rfl rfl ⟨rfl,congrArg B (zw20 (by omega)).symm⟩
 by_cases h3 : (t.2 : Int) ≤ 300
 rotate_left
 ·repeat' (conv => whnf
           first|refine zw8 (zw19 h1) ?_|refine zw8 (zw19 h2) ?_|refine zw9 (zw20 h3) ?_|refine zw0 ?_|refine zw1 ?_|refine zw2 (fun h=>?_) (fun h=>?_)|refine zw3 ?_|refine zw4 (fun h=>?_) (fun h=>?_)|refine zw5 _ rfl ?_|refine zw6 rfl ?_|refine zw7 mixed rfl ?_|refine hs ?_)
  conv=>whnf
  exact FinP.drop (n:=0) rfl (zw21 0) rfl rfl ⟨rfl,(congrArg B (zw20 h3)).trans (congrArg B (zw20 (by omega)).symm)⟩
 ·repeat' (conv => whnf
           first|refine zw8 (zw19 h1) ?_|refine zw8 (zw19 h2) ?_|refine zw8 (zw19 h3) ?_|refine zw0 ?_|refine zw1 ?_|refine zw2 (fun h=>?_) (fun h=>?_)|refine zw3 ?_|refine zw4 (fun h=>?_) (fun h=>?_)|refine zw5 _ rfl ?_|refine zw6 rfl ?_|refine zw7 mixed rfl ?_|refine hs ?_)
  conv=>whnf
  exact FinP.drop (n:=0) rfl (Nat.le_refl 0) rfl rfl ⟨rfl,(congrArg B (decide_eq_true h3)).trans (congrArg B (decide_eq_true (by rw [List.length_map] at h1; omega)).symm)⟩
end Go.Proofs.YtclmjkhdmhlijaaGreatDoor
namespace Go.Proofs.YtclmjkhdmhlijaaGreatDoor
open Go.Tidy
variable {L : List Blk} {k : V → List Blk → Prop}
mutual
def rSp : Sp → Bool
 | .mk k b c t e=>if k = 1 then decide (1 ≤ b) && decide (b ≤ 12) && isZ c && decide ((t.length : Int) = 0) && decide ((e.length : Int) = 0)
  else if k = 2 then decide (b = 0) && decide (rcondF c = 0) && !decide ((t.length : Int) = 0) && rSps t && rSps e
  else false
def rSps : List Sp → Bool
 | []=>true
 | c :: cs=>rSp c && rSps cs
end
theorem rSps_all : ∀ l : List Sp,rSps l = l.all rSp
 | []=>rfl
 | c :: cs=>by rw [rSps,rSps_all cs]; rfl
theorem rSp_eq (s : Sp) : rSp s = if s.kind = 1 then decide (1 ≤ s.by_) && decide (s.by_ ≤ 12) && isZ s.cond && decide ((s.thn.length : Int) = 0) && decide ((s.els.length : Int) = 0)
  else if s.kind = 2 then decide (s.by_ = 0) && decide (rcondF s.cond = 0) && !decide ((s.thn.length : Int) = 0) && rSps s.thn && rSps s.els
  else false:=by cases s; rw [rSp]; rfl
theorem rsteps_s : ∀ (m : Nat) (l : List Sp),SizeOf.sizeOf l ≤ m → LSs l → ∀ (L : List Blk) (k : V → List Blk → Prop),k (B (rSps l)) L → CallP C 56 [.d (sps l)] L k
 | 0,l,h,_=>absurd h (by cases l <;> simp)
 | m + 1,l,hsz,hl=>by
  intro L k h
  have ih:=rsteps_s m
  have hlen:=hl.len
  refine CallP.pure ?_ rfl (fun _=>rfl) h
  clear h
  refine callP_of C_ok Tryz.func56 rfl rfl (n:=_) rfl (zw18 rfl) (rs:=_) rfl ?_
  conv=>whnf
  refine LoopP.inv (fun i : Nat=>i ≤ l.length ∧ ∀ (j : Nat) (hj : j < l.length),j < i → rSp l[j] = true) (fun i=>⟨[(0,.d (sps l)),(3,I i)],Tryz.f56.ntmps,[],[],none⟩) (fun i=>l.length - i) 0 ⟨zw22 _,fun j _ h=>absurd h (Nat.not_lt_zero j)⟩ ?_ ?_
  ·exact Weak.by ⟨rfl,rfl,trivial⟩
  rintro i ⟨hi,hok⟩
  by_cases h2 : (i : Int) < ((l.map Sp.cells).length : Int)
  rotate_left
  ·have hall : rSps l = true:=by
    rw [rSps_all]
    refine List.all_eq_true.2 fun p hp=>?_
    obtain ⟨j,hj,rfl⟩:=List.getElem_of_mem hp
    exact hok j hj (by rw [List.length_map] at h2; omega)
   repeat' ((conv=>whnf); first|refine zw9 (zw20 h2) ?_|refine zw0 ?_|refine zw1 ?_|refine zw2 (fun h=>?_) (fun h=>?_)|refine zw3 ?_|refine zw4 (fun h=>?_) (fun h=>?_)|refine zw5 _ rfl ?_|refine zw6 rfl ?_|refine zw7 mixed rfl ?_)
   conv=>whnf
   exact FinP.drop (n:=0) rfl (zw21 0) rfl rfl ⟨rfl,congrArg B hall.symm⟩
  have hi' : i < l.length:=by rw [List.length_map] at h2; omega
  have hm : l[i] ∈ l:=List.getElem_mem hi'
  have hs:=hl.all _ hm
  have hz : SizeOf.sizeOf l[i] < SizeOf.sizeOf l:=List.sizeOf_lt_of_mem hm
  have hw2 : IntKind.i64.wrap ((i : Int) + 1) = ((i + 1 : Nat) : Int):=by rw [wrap_in (by omega)]; omega
  have hno : rSp l[i] = false → B false = B (rSps l):=fun hf=>by
   rw [rSps_all]
   exact congrArg B (Bool.eq_false_iff.2 fun ht=>by rw [List.all_eq_true.1 ht _ hm] at hf; cases hf).symm
  have hnx : rSp l[i] = true → i + 1 ≤ l.length ∧ ∀ (j : Nat) (hj : j < l.length),j < i + 1 → rSp l[j] = true:=fun ht=>⟨hi',fun j hj hji=>by
   by_cases e : j = i
   ·subst e; exact ht
   ·exact hok j hj (by omega)⟩
  obtain ⟨s,hs0⟩ : ∃ s,s = l[i]:=⟨_,rfl⟩
  rw [← hs0] at hs hz hno hnx
  have r1 : (l.map Sp.cells)[i]? = some [DI s.kind,DI s.by_,DI s.cond.kind,DI s.cond.var,DI s.cond.n,cos s.cond.parts,sps s.thn,sps s.els]:=by rw [List.getElem?_map,List.getElem?_eq_getElem hi',← hs0,← Sp.cells_eq]; rfl
  have z1 : SizeOf.sizeOf s.thn < SizeOf.sizeOf s:=by cases s; simp only [Sp.mk.sizeOf_spec,Sp.thn]; omega
  have z2 : SizeOf.sizeOf s.els < SizeOf.sizeOf s:=by cases s; simp only [Sp.mk.sizeOf_spec,Sp.els]; omega
  have i1:=ih s.thn (by omega) ⟨hs.len1,hs.thn⟩
  have i2:=ih s.els (by omega) ⟨hs.len2,hs.els⟩
  have hzr : ∀ {L : List Blk} {k : V → List Blk → Prop},k (B (isZ s.cond)) L → CallP C 67 [.agg [I s.cond.kind,I s.cond.var,I s.cond.n,.d (cos s.cond.parts)]] L k:=fun h=>by
   have:=zero_c s.cond h
   rw [Co.cells_eq] at this; exact this
  have hcd : ∀ {L : List Blk} {k : V → List Blk → Prop},k (I (rcondF s.cond)) L → CallP C 87 [.agg [I s.cond.kind,I s.cond.var,I s.cond.n,.d (cos s.cond.parts)]] L k:=fun h=>by
   have:=rcond_c s.cond hs.cond h
   rw [Co.cells_eq] at this; exact this
  have eT : ((s.thn.map Sp.cells).length : Int) = (s.thn.length : Int):=by rw [List.length_map]
  have eE : ((s.els.map Sp.cells).length : Int) = (s.els.length : Int):=by rw [List.length_map]
  rw [rSp_eq,← eT,← eE] at hno hnx
  clear hs0 eT eE
  by_cases k1 : s.kind = 1
  ·rw [if_pos k1] at hno hnx
   by_cases c1 : s.by_ < 1
   ·repeat' (conv => whnf
             first|refine zw8 (zw19 h2) ?_|refine zw8 (zw19 k1) ?_|refine zw8 (zw19 c1) ?_|refine zw0 ?_|refine zw1 ?_|refine zw2 (fun h=>?_) (fun h=>?_)|refine zw3 ?_|refine zw4 (fun h=>?_) (fun h=>?_)|refine zw5 _ rfl ?_|refine zw6 rfl ?_|refine zw7 mixed rfl ?_|refine zw10 i _ rfl r1 ?_)
    conv=>whnf
    exact FinP.drop (n:=0) rfl (Nat.le_refl 0) rfl rfl ⟨rfl,hno (by rw [decide_eq_false (show ¬ 1 ≤ s.by_ by omega)]; simp only [Bool.false_and])⟩
   by_cases c2 : 12 < s.by_
   ·repeat' (conv => whnf
             first|refine zw8 (zw19 h2) ?_|refine zw8 (zw19 k1) ?_|refine zw9 (zw20 c1) ?_|refine zw8 (zw19 c2) ?_|refine zw0 ?_|refine zw1 ?_|refine zw2 (fun h=>?_) (fun h=>?_)|refine zw3 ?_|refine zw4 (fun h=>?_) (fun h=>?_)|refine zw5 _ rfl ?_|refine zw6 rfl ?_|refine zw7 mixed rfl ?_|refine zw10 i _ rfl r1 ?_)
    conv=>whnf
    exact FinP.drop (n:=0) rfl (Nat.le_refl 0) rfl rfl ⟨rfl,hno (by rw [decide_eq_false (show ¬ s.by_ ≤ 12 by omega)]; simp only [Bool.false_and,Bool.and_false])⟩
   cases c3 : isZ s.cond with
   | false =>
    rw [c3] at hzr
    repeat' ((conv=>whnf); first|refine zw8 (zw19 h2) ?_|refine zw8 (zw19 k1) ?_|refine zw9 (zw20 c1) ?_|refine zw9 (zw20 c2) ?_|refine zw0 ?_|refine zw1 ?_|refine zw2 (fun h=>?_) (fun h=>?_)|refine zw3 ?_|refine zw4 (fun h=>?_) (fun h=>?_)|refine zw5 _ rfl ?_|refine zw6 rfl ?_|refine zw7 mixed rfl ?_|refine zw10 i _ rfl r1 ?_|refine hzr ?_)
    conv=>whnf
    exact FinP.drop (n:=0) rfl (Nat.le_refl 0) rfl rfl ⟨rfl,hno (by rw [c3]; simp only [Bool.false_and,Bool.and_false])⟩
   | true =>
   rw [c3] at hzr
   by_cases c4 : ((s.thn.map Sp.cells).length : Int) = 0
   rotate_left
   ·repeat' (conv => whnf
             first|refine zw8 (zw19 h2) ?_|refine zw8 (zw19 k1) ?_|refine zw9 (zw20 c1) ?_|refine zw9 (zw20 c2) ?_|refine zw9 (zw20 c4) ?_|refine zw0 ?_|refine zw1 ?_|refine zw2 (fun h=>?_) (fun h=>?_)|refine zw3 ?_|refine zw4 (fun h=>?_) (fun h=>?_)|refine zw5 _ rfl ?_|refine zw6 rfl ?_|refine zw7 mixed rfl ?_|refine zw10 i _ rfl r1 ?_|refine hzr ?_)
    conv=>whnf
    exact FinP.drop (n:=0) rfl (Nat.le_refl 0) rfl rfl ⟨rfl,hno (by rw [decide_eq_false c4]; simp only [Bool.false_and,Bool.and_false])⟩
   by_cases c5 : ((s.els.map Sp.cells).length : Int) = 0
   rotate_left
   ·repeat' (conv => whnf
             first|refine zw8 (zw19 h2) ?_|refine zw8 (zw19 k1) ?_|refine zw9 (zw20 c1) ?_|refine zw9 (zw20 c2) ?_|refine zw8 (zw19 c4) ?_|refine zw9 (zw20 c5) ?_|refine zw0 ?_|refine zw1 ?_|refine zw2 (fun h=>?_) (fun h=>?_)|refine zw3 ?_|refine zw4 (fun h=>?_) (fun h=>?_)|refine zw5 _ rfl ?_|refine zw6 rfl ?_|refine zw7 mixed rfl ?_|refine zw10 i _ rfl r1 ?_|refine hzr ?_)
    conv=>whnf
    exact FinP.drop (n:=0) rfl (Nat.le_refl 0) rfl rfl ⟨rfl,hno (by rw [decide_eq_false c5]; simp only [Bool.false_and,Bool.and_false])⟩
   repeat' ((conv=>whnf); first|refine zw8 (zw19 h2) ?_|refine zw8 (zw19 k1) ?_|refine zw9 (zw20 c1) ?_|refine zw9 (zw20 c2) ?_|refine zw8 (zw19 c4) ?_|refine zw8 (zw19 c5) ?_|refine zw0 ?_|refine zw1 ?_|refine zw2 (fun h=>?_) (fun h=>?_)|refine zw3 ?_|refine zw4 (fun h=>?_) (fun h=>?_)|refine zw5 _ rfl ?_|refine zw6 rfl ?_|refine zw7 mixed rfl ?_|refine zw10 i _ rfl r1 ?_|refine hzr ?_)
   conv=>whnf
   exact ⟨i + 1,hnx (by rw [decide_eq_true (show 1 ≤ s.by_ by omega),decide_eq_true (show s.by_ ≤ 12 by omega),c3,decide_eq_true c4,decide_eq_true c5]; rfl),by omega,Weak.to 0 rfl (Nat.zero_le _) (Nat.zero_le _) ⟨rfl,congrArg I hw2,trivial⟩⟩
  rw [if_neg k1] at hno hnx
  by_cases k2 : s.kind = 2
  ·rw [if_pos k2] at hno hnx
   by_cases c1 : s.by_ = 0
   rotate_left
   ·repeat' (conv => whnf
             first|refine zw8 (zw19 h2) ?_|refine zw9 (zw20 k1) ?_|refine zw8 (zw19 k2) ?_|refine zw9 (zw20 c1) ?_|refine zw0 ?_|refine zw1 ?_|refine zw2 (fun h=>?_) (fun h=>?_)|refine zw3 ?_|refine zw4 (fun h=>?_) (fun h=>?_)|refine zw5 _ rfl ?_|refine zw6 rfl ?_|refine zw7 mixed rfl ?_|refine zw10 i _ rfl r1 ?_)
    conv=>whnf
    exact FinP.drop (n:=0) rfl (Nat.le_refl 0) rfl rfl ⟨rfl,hno (by rw [decide_eq_false c1]; simp only [Bool.false_and])⟩
   by_cases c2 : rcondF s.cond = 0
   rotate_left
   ·repeat' (conv => whnf
             first|refine zw8 (zw19 h2) ?_|refine zw9 (zw20 k1) ?_|refine zw8 (zw19 k2) ?_|refine zw8 (zw19 c1) ?_|refine zw9 (zw20 c2) ?_|refine zw0 ?_|refine zw1 ?_|refine zw2 (fun h=>?_) (fun h=>?_)|refine zw3 ?_|refine zw4 (fun h=>?_) (fun h=>?_)|refine zw5 _ rfl ?_|refine zw6 rfl ?_|refine zw7 mixed rfl ?_|refine zw10 i _ rfl r1 ?_|refine hcd ?_)
    conv=>whnf
    exact FinP.drop (n:=0) rfl (Nat.le_refl 0) rfl rfl ⟨rfl,hno (by rw [decide_eq_false c2]; simp only [Bool.false_and,Bool.and_false])⟩
   by_cases c3 : ((s.thn.map Sp.cells).length : Int) = 0
   ·repeat' (conv => whnf
             first|refine zw8 (zw19 h2) ?_|refine zw9 (zw20 k1) ?_|refine zw8 (zw19 k2) ?_|refine zw8 (zw19 c1) ?_|refine zw8 (zw19 c2) ?_|refine zw8 (zw19 c3) ?_|refine zw0 ?_|refine zw1 ?_|refine zw2 (fun h=>?_) (fun h=>?_)|refine zw3 ?_|refine zw4 (fun h=>?_) (fun h=>?_)|refine zw5 _ rfl ?_|refine zw6 rfl ?_|refine zw7 mixed rfl ?_|refine zw10 i _ rfl r1 ?_|refine hcd ?_)
    conv=>whnf
    exact FinP.drop (n:=0) rfl (Nat.le_refl 0) rfl rfl ⟨rfl,hno (by rw [decide_eq_true c3]; simp only [Bool.not_true,Bool.false_and,Bool.and_false])⟩
   cases c4 : rSps s.thn with
   | false =>
    rw [c4] at i1
    repeat' ((conv=>whnf); first|refine zw8 (zw19 h2) ?_|refine zw9 (zw20 k1) ?_|refine zw8 (zw19 k2) ?_|refine zw8 (zw19 c1) ?_|refine zw8 (zw19 c2) ?_|refine zw9 (zw20 c3) ?_|refine zw0 ?_|refine zw1 ?_|refine zw2 (fun h=>?_) (fun h=>?_)|refine zw3 ?_|refine zw4 (fun h=>?_) (fun h=>?_)|refine zw5 _ rfl ?_|refine zw6 rfl ?_|refine zw7 mixed rfl ?_|refine zw10 i _ rfl r1 ?_|refine hcd ?_|refine i1 _ _ ?_)
    conv=>whnf
    exact FinP.drop (n:=0) rfl (Nat.le_refl 0) rfl rfl ⟨rfl,hno (by rw [c4]; simp only [Bool.false_and,Bool.and_false])⟩
   | true =>
   rw [c4] at i1
   cases c5 : rSps s.els with
   | false =>
    rw [c5] at i2
    repeat' ((conv=>whnf); first|refine zw8 (zw19 h2) ?_|refine zw9 (zw20 k1) ?_|refine zw8 (zw19 k2) ?_|refine zw8 (zw19 c1) ?_|refine zw8 (zw19 c2) ?_|refine zw9 (zw20 c3) ?_|refine zw0 ?_|refine zw1 ?_|refine zw2 (fun h=>?_) (fun h=>?_)|refine zw3 ?_|refine zw4 (fun h=>?_) (fun h=>?_)|refine zw5 _ rfl ?_|refine zw6 rfl ?_|refine zw7 mixed rfl ?_|refine zw10 i _ rfl r1 ?_|refine hcd ?_|refine i1 _ _ ?_|refine i2 _ _ ?_)
    conv=>whnf
    exact FinP.drop (n:=0) rfl (Nat.le_refl 0) rfl rfl ⟨rfl,hno (by rw [c5]; simp only [Bool.and_false])⟩
   | true =>
   rw [c5] at i2
   repeat' ((conv=>whnf); first|refine zw8 (zw19 h2) ?_|refine zw9 (zw20 k1) ?_|refine zw8 (zw19 k2) ?_|refine zw8 (zw19 c1) ?_|refine zw8 (zw19 c2) ?_|refine zw9 (zw20 c3) ?_|refine zw0 ?_|refine zw1 ?_|refine zw2 (fun h=>?_) (fun h=>?_)|refine zw3 ?_|refine zw4 (fun h=>?_) (fun h=>?_)|refine zw5 _ rfl ?_|refine zw6 rfl ?_|refine zw7 mixed rfl ?_|refine zw10 i _ rfl r1 ?_|refine hcd ?_|refine i1 _ _ ?_|refine i2 _ _ ?_)
   conv=>whnf
   exact ⟨i + 1,hnx (by rw [decide_eq_true c1,decide_eq_true c2,decide_eq_false c3,c4,c5]; rfl),by omega,Weak.to 0 rfl (Nat.zero_le _) (Nat.zero_le _) ⟨rfl,congrArg I hw2,trivial⟩⟩
  rw [if_neg k2] at hno
  repeat' ((conv=>whnf); first|refine zw8 (zw19 h2) ?_|refine zw9 (zw20 k1) ?_|refine zw9 (zw20 k2) ?_|refine zw0 ?_|refine zw1 ?_|refine zw2 (fun h=>?_) (fun h=>?_)|refine zw3 ?_|refine zw4 (fun h=>?_) (fun h=>?_)|refine zw5 _ rfl ?_|refine zw6 rfl ?_|refine zw7 mixed rfl ?_|refine zw10 i _ rfl r1 ?_)
  conv=>whnf
  exact FinP.drop (n:=0) rfl (zw21 0) rfl rfl ⟨rfl,hno rfl⟩
theorem rsteps_c (l : List Sp) (hl : LSs l) (h : k (B (rSps l)) L) : CallP C 56 [.d (sps l)] L k:=rsteps_s _ l (zw21 _) hl L k h
def szBig (l : List Sp) : Prop:=64 < (szT 0 l).1 ∨ 256 < (szT 0 l).2
open Classical in
noncomputable def rorderF (l : List Sp) : Int:=if szBig l then 2 else if (l.length : Int) = 0 then 140 else if rSps l = true then 0 else 140
theorem rorder_c (l : List Sp) (hl : LSs l) (h : k (I (rorderF l)) L) : CallP C 28 [.d (sps l)] L k:=by
 have hs : ∀ {L : List Blk} {k : V → List Blk → Prop},k (.tup [I (szT 0 l).1,I (szT 0 l).2]) L → CallP C 44 [.d (sps l),I 0] L k:=fun h=>rsize_c l hl h
 have hst : ∀ {L : List Blk} {k : V → List Blk → Prop},k (B (rSps l)) L → CallP C 56 [.d (sps l)] L k:=fun h=>rsteps_c l hl h
 have eL : ((l.map Sp.cells).length : Int) = (l.length : Int):=by rw [List.length_map]
 unfold rorderF szBig at h
 rw [← eL] at h
 clear eL
 generalize szT 0 l = t at *
 generalize rSps l = r at *
 refine CallP.pure ?_ rfl (fun _=>rfl) h
 clear h
 refine callP_of C_ok Tryz.func28 rfl rfl (n:=_) rfl (zw18 rfl) (rs:=_) rfl ?_
 by_cases h1 : (64 : Int) < (t.1 : Int)
 ·repeat' (conv => whnf
           first|refine zw8 (zw19 h1) ?_|refine zw0 ?_|refine zw1 ?_|refine zw2 (fun h=>?_) (fun h=>?_)|refine zw3 ?_|refine zw4 (fun h=>?_) (fun h=>?_)|refine zw5 _ rfl ?_|refine zw6 rfl ?_|refine zw7 mixed rfl ?_|refine hs ?_)
  conv=>whnf
  exact FinP.drop (n:=0) rfl (zw21 0) rfl rfl ⟨rfl,congrArg I (if_pos (.inl (by omega))).symm⟩
 by_cases h2 : (256 : Int) < (t.2 : Int)
 ·repeat' (conv => whnf
           first|refine zw9 (zw20 h1) ?_|refine zw8 (zw19 h2) ?_|refine zw0 ?_|refine zw1 ?_|refine zw2 (fun h=>?_) (fun h=>?_)|refine zw3 ?_|refine zw4 (fun h=>?_) (fun h=>?_)|refine zw5 _ rfl ?_|refine zw6 rfl ?_|refine zw7 mixed rfl ?_|refine hs ?_)
  conv=>whnf
  exact FinP.drop (n:=0) rfl (zw21 0) rfl rfl ⟨rfl,congrArg I (if_pos (.inr (by omega))).symm⟩
 have hnb : ¬ (64 < t.1 ∨ 256 < t.2):=by omega
 by_cases h3 : ((l.map Sp.cells).length : Int) = 0
 ·repeat' (conv => whnf
           first|refine zw9 (zw20 h1) ?_|refine zw9 (zw20 h2) ?_|refine zw8 (zw19 h3) ?_|refine zw0 ?_|refine zw1 ?_|refine zw2 (fun h=>?_) (fun h=>?_)|refine zw3 ?_|refine zw4 (fun h=>?_) (fun h=>?_)|refine zw5 _ rfl ?_|refine zw6 rfl ?_|refine zw7 mixed rfl ?_|refine hs ?_)
  conv=>whnf
  exact FinP.drop (n:=0) rfl (Nat.le_refl 0) rfl rfl ⟨rfl,congrArg I (by rw [if_neg hnb,if_pos h3])⟩
 cases r with
 | false =>
  repeat' ((conv=>whnf); first|refine zw9 (zw20 h1) ?_|refine zw9 (zw20 h2) ?_|refine zw9 (zw20 h3) ?_|refine zw0 ?_|refine zw1 ?_|refine zw2 (fun h=>?_) (fun h=>?_)|refine zw3 ?_|refine zw4 (fun h=>?_) (fun h=>?_)|refine zw5 _ rfl ?_|refine zw6 rfl ?_|refine zw7 mixed rfl ?_|refine hs ?_|refine hst ?_)
  conv=>whnf
  exact FinP.drop (n:=0) rfl (Nat.le_refl 0) rfl rfl ⟨rfl,congrArg I (by rw [if_neg hnb,if_neg h3,if_neg (by decide)])⟩
 | true =>
  repeat' ((conv=>whnf); first|refine zw9 (zw20 h1) ?_|refine zw9 (zw20 h2) ?_|refine zw9 (zw20 h3) ?_|refine zw0 ?_|refine zw1 ?_|refine zw2 (fun h=>?_) (fun h=>?_)|refine zw3 ?_|refine zw4 (fun h=>?_) (fun h=>?_)|refine zw5 _ rfl ?_|refine zw6 rfl ?_|refine zw7 mixed rfl ?_|refine hs ?_|refine hst ?_)
  conv=>whnf
  exact FinP.drop (n:=0) rfl (Nat.le_refl 0) rfl rfl ⟨rfl,congrArg I (by rw [if_neg hnb,if_neg h3,if_pos rfl])⟩
end Go.Proofs.YtclmjkhdmhlijaaGreatDoor
namespace Go.Proofs.YtclmjkhdmhlijaaGreatDoor
open Go.Tidy
variable {L : List Blk} {k : V → List Blk → Prop}
inductive RSp : Sp → Prop
 | mk {s : Sp} (hk : s.kind = 1 ∨ s.kind = 2) (hb : s.kind = 1 → 1 ≤ s.by_ ∧ s.by_ ≤ 12) (hv : s.kind = 2 → vCo s.cond = true) (hc : LCo s.cond) (l1 : s.thn.length ≤ 4398046511104) (l2 : s.els.length ≤ 4398046511104) (ht : ∀ p ∈ s.thn,RSp p) (he : ∀ p ∈ s.els,RSp p) : RSp s
theorem rsp_of : ∀ (n : Nat) (s : Sp),SizeOf.sizeOf s ≤ n → vSp s = true → LSp s → RSp s
 | 0,s,h,_,_=>absurd h (by cases s; simp)
 | n + 1,s,hsz,hv,hl=>by
  obtain ⟨h1,h2,hc,ht,he⟩:=hl
  cases s with | mk kd b c t e =>
  simp only [Sp.mk.sizeOf_spec] at hsz
  simp only [Sp.thn,Sp.els,Sp.cond] at h1 h2 hc ht he
  rw [vSp] at hv
  have hz : ∀ {l : List Sp} {p : Sp},p ∈ l → SizeOf.sizeOf p < SizeOf.sizeOf l:=fun h=>List.sizeOf_lt_of_mem h
  split at hv
  ·rename_i k1
   simp only [Bool.and_eq_true,decide_eq_true_eq] at hv
   have t0 : t.length = 0:=by omega
   have e0 : e.length = 0:=by omega
   refine .mk (.inl k1) (fun _=>hv.1.1) (fun h=>by simp only [Sp.kind] at h; omega) hc h1 h2 (fun p hp=>?_) (fun p hp=>?_)
   ·simp only [Sp.thn] at hp; rw [List.length_eq_zero_iff.1 t0] at hp; cases hp
   ·simp only [Sp.els] at hp; rw [List.length_eq_zero_iff.1 e0] at hp; cases hp
  ·split at hv
   ·rename_i k2
    simp only [Bool.and_eq_true,decide_eq_true_eq] at hv
    refine .mk (.inr k2) (fun h=>by simp only [Sp.kind] at h; omega) (fun _=>hv.1.1.1.2) hc h1 h2 (fun p hp=>?_) (fun p hp=>?_)
    ·simp only [Sp.thn] at hp; exact rsp_of n p (by have:=hz hp; omega) (vSps_mem hv.1.2 p hp) (ht p hp)
    ·simp only [Sp.els] at hp; exact rsp_of n p (by have:=hz hp; omega) (vSps_mem hv.2 p hp) (he p hp)
   ·cases hv
def ACall (x : En) (l : List Sp) : Prop:=∀ b,ByOk b → ByOk (dSs x b l) ∧ ∀ (L : List Blk) (k : V → List Blk → Prop),k (.d (ins (dSs x b l))) L → CallP C 88 [.d (sps l),enV x,.d (ins b)] L k
theorem any_swap (b : List Int) (n : Int) : (b.any fun v=>decide (v = n)) = b.any fun v=>decide (n = v):=by
 congr 1; funext v; exact decide_eq_decide.2 ⟨Eq.symm,Eq.symm⟩
theorem ap_len (b : List Int) : (((b.map fun v=>[DI v]).map fun x=>x.map V.d)).length = b.length:=by simp
theorem ap_cv {S : Nat → Prop} {L : List Blk} (b : List Int) (v : Int) : CvLL S L (((((([] : List (List V)).take 0) ++ ((b.map fun v=>[DI v]).map fun x=>x.map V.d)).take (0 + ((b.map fun v=>[DI v]).map fun x=>x.map V.d).length) ++ [[I v]]).drop 0).take (0 + ((b.map fun v=>[DI v]).map fun x=>x.map V.d).length + 1)) ((b ++ [v]).map fun v=>[DI v]):=by
 have e : ((((([] : List (List V)).take 0) ++ ((b.map fun v=>[DI v]).map fun x=>x.map V.d)).take (0 + ((b.map fun v=>[DI v]).map fun x=>x.map V.d).length) ++ [[I v]]).drop 0).take (0 + ((b.map fun v=>[DI v]).map fun x=>x.map V.d).length + 1) = rdI (b ++ [v]):=by
  have hb : ((b.map fun v=>[DI v]).map fun x=>x.map V.d) = rdI b:=by unfold rdI; rw [List.map_map]; rfl
  have hs : rdI (b ++ [v]) = rdI b ++ [[I v]]:=by unfold rdI; rw [List.map_append]; rfl
  rw [hb,hs]
  generalize rdI b = r
  simp only [List.take_nil,List.nil_append,Nat.zero_add,List.take_length,List.drop_zero]
  exact List.take_of_length_le (by simp)
 rw [e]; exact rdI_rows _
theorem ap_ds (b : List Int) (v : Int) : 0 + ((b.map fun v=>[DI v]).map fun x=>x.map V.d).length + 1 = ((b ++ [v]).map fun v=>[DI v]).length:=by simp
theorem applied_s (x : En) : ∀ (n : Nat) (l : List Sp),SizeOf.sizeOf l ≤ n → l.length ≤ 4398046511104 → (∀ s ∈ l,RSp s) → ACall x l
 | 0,l,h,_,_=>absurd h (by cases l <;> simp)
 | n + 1,l,hsz,hlen,hl=>by
  have ih:=applied_s x n
  intro b0 hb0
  have hby : ∀ i,i ≤ l.length → ByOk (dSs x b0 (l.take i)):=by
   intro i
   induction i with
   | zero=>intro _; simpa [dSs] using hb0
   | succ i hi =>
    intro hlt
    have hb:=hi (by omega)
    rw [dSs_take x b0 l (by omega)]
    have hm : l[i] ∈ l:=List.getElem_mem (by omega)
    have hs:=hl _ hm
    have hz : SizeOf.sizeOf l[i] < SizeOf.sizeOf l:=List.sizeOf_lt_of_mem hm
    generalize l[i] = s at hs hz
    generalize dSs x b0 (l.take i) = b at hb
    obtain ⟨hk,hbn,hv,hc,l1,l2,ht,he⟩:=hs
    cases s with | mk kd bb c t e =>
    simp only [Sp.mk.sizeOf_spec] at hz
    simp only [Sp.kind,Sp.by_,Sp.cond,Sp.thn,Sp.els] at hk hbn hv l1 l2 ht he
    rw [dS]
    split
    ·split
     ·exact (ih t (by omega) l1 ht b hb).1
     ·exact (ih e (by omega) l2 he b hb).1
    ·rename_i h2
     split
     ·exact hb
     ·rename_i h3; exact hb.snoc (hbn (hk.resolve_right h2)) h3
  refine ⟨by simpa using hby l.length (zw21 _),?_⟩
  intro L k h
  refine CallP.pure ?_ rfl (fun _=>rfl) h
  clear h
  refine callP_of C_ok Tryz.func88 rfl rfl (n:=_) rfl (zw18 rfl) (rs:=_) rfl ?_
  conv=>whnf
  refine LoopP.inv (fun i=>i ≤ l.length) (fun i=>⟨[(0,.d (sps l)),(2,.d (ins (dSs x b0 (l.take i)))),(4,.ptr 0 0),(7,I i)],Tryz.f88.ntmps,[.cells (x.cells.map .d)],[],none⟩) (fun i=>l.length - i) 0 (zw22 _) ?_ ?_
  ·exact Weak.by ⟨rfl,rfl,rfl,rfl,trivial⟩
  intro i hi
  by_cases hlt : (i : Int) < ((l.map Sp.cells).length : Int)
  rotate_left
  ·repeat' (conv => whnf
            first|refine zw9 (zw20 hlt) ?_|refine zw0 ?_|refine zw1 ?_|refine zw2 (fun h=>?_) (fun h=>?_)|refine zw3 ?_|refine zw4 (fun h=>?_) (fun h=>?_)|refine zw5 _ rfl ?_|refine zw6 rfl ?_|refine zw7 mixed rfl ?_)
   conv=>whnf
   exact FinP.drop (n:=0) rfl (Nat.zero_le _) rfl rfl ⟨rfl,Eq.trans (b:=V.d (ins (dSs x b0 (l.take i)))) rfl (by rw [List.take_of_length_le (by rw [List.length_map] at hlt; omega)])⟩
  have hi' : i < l.length:=by rw [List.length_map] at hlt; omega
  have hw : IntKind.i64.wrap ((i : Int) + 1) = ((i + 1 : Nat) : Int):=by rw [wrap_in (by omega)]; omega
  have hb:=hby i hi
  have hbx:=dSs_take x b0 l hi'
  have hm : l[i] ∈ l:=List.getElem_mem hi'
  have hs:=hl _ hm
  have hz : SizeOf.sizeOf l[i] < SizeOf.sizeOf l:=List.sizeOf_lt_of_mem hm
  obtain ⟨s,hs0⟩ : ∃ s,s = l[i]:=⟨_,rfl⟩
  rw [← hs0] at hs hz hbx
  have r1 : (l.map Sp.cells)[i]? = some [DI s.kind,DI s.by_,DI s.cond.kind,DI s.cond.var,DI s.cond.n,cos s.cond.parts,sps s.thn,sps s.els]:=by rw [List.getElem?_map,List.getElem?_eq_getElem hi',← hs0,← Sp.cells_eq]; rfl
  obtain ⟨hk,hbn,hv,hc,l1,l2,ht,he⟩:=hs
  have hdS : ∀ b,dS x b s = if s.kind = 2 then (if hoF x s.cond = true then dSs x b s.thn else dSs x b s.els) else if (b.any fun v=>decide (s.by_ = v)) = true then b else b ++ [s.by_]:=fun b=>by cases s; rw [dS]; rfl
  have z1 : SizeOf.sizeOf s.thn < SizeOf.sizeOf s:=by cases s; simp only [Sp.mk.sizeOf_spec,Sp.thn]; omega
  have z2 : SizeOf.sizeOf s.els < SizeOf.sizeOf s:=by cases s; simp only [Sp.mk.sizeOf_spec,Sp.els]; omega
  have i1:=ih s.thn (by omega) l1 ht
  have i2:=ih s.els (by omega) l2 he
  rw [hdS] at hbx
  generalize dSs x b0 (l.take i) = b at hb hbx ⊢
  have hbl:=hb.len
  by_cases c1 : s.kind = 1
  ·have hin : ∀ {L : List Blk} {k : V → List Blk → Prop},k (B (b.any fun v=>decide (v = s.by_))) L → CallP C 60 [.d (ins b),I s.by_] L k:=fun h=>in_c b (by omega) s.by_ h
   rw [any_swap] at hin
   rw [if_neg (by omega)] at hbx
   cases c3 : b.any fun v=>decide (s.by_ = v) with
   | true =>
    rw [if_pos c3] at hbx
    rw [c3] at hin
    repeat' ((conv=>whnf); first|refine zw8 (zw19 hlt) ?_|refine zw8 (zw19 c1) ?_|refine zw0 ?_|refine zw1 ?_|refine zw2 (fun h=>?_) (fun h=>?_)|refine zw3 ?_|refine zw4 (fun h=>?_) (fun h=>?_)|refine zw5 _ rfl ?_|refine zw6 rfl ?_|refine zw7 mixed rfl ?_|refine zw10 i _ rfl r1 ?_|refine hin ?_)
    conv=>whnf
    exact ⟨i + 1,hi',by omega,Weak.to 1 rfl (zw22 _) (zw18 rfl) ⟨rfl,congrArg (fun b=>V.d (ins b)) hbx.symm,rfl,congrArg I hw,trivial⟩⟩
   | false =>
    rw [if_neg (by rw [c3]; decide)] at hbx
    rw [c3] at hin
    repeat' ((conv=>whnf); first|refine zw8 (zw19 hlt) ?_|refine zw8 (zw19 c1) ?_|refine zw0 ?_|refine zw1 ?_|refine zw2 (fun h=>?_) (fun h=>?_)|refine zw3 ?_|refine zw4 (fun h=>?_) (fun h=>?_)|refine zw5 _ rfl ?_|refine zw6 rfl ?_|refine zw7 mixed rfl ?_|refine zw10 i _ rfl r1 ?_|refine hin ?_)
    conv=>whnf
    have n1 : 0 + (((b.map fun v=>[DI v]).map fun x=>x.map V.d)).length ≤ 4294967296:=by rw [ap_len]; omega
    have n2 : 0 + (((b.map fun v=>[DI v]).map fun x=>x.map V.d)).length + 1 ≤ 4294967296:=by rw [ap_len]; omega
    refine DrawP.por mixed [] [[(1,0),(3,0),(4,4),(0,0),(2,0),(5,0),(6,0),(7,0)],[(1,0),(3,0),(4,4),(0,0),(5,0),(2,0),(6,0),(7,0)],[(1,0),(3,0),(4,4),(5,0),(0,0),(2,0),(6,0),(7,0)]] (by kernel_rfl) ?_
    conv=>whnf
    refine And.intro ?_ ?_
    rotate_left 1
    conv=>whnf
    refine And.intro ?_ ?_
    all_goals
     repeat' ((conv=>whnf); first|refine zw0 ?_|refine zw1 ?_|refine zw2 (fun h=>?_) (fun h=>?_)|refine zw3 ?_|refine zw4 (fun h=>?_) (fun h=>?_)|refine zw5 _ rfl ?_|refine zw6 rfl ?_|refine zw7 mixed rfl ?_|refine zw6 (rdI_e b) ?_|refine zw6 n1 ?_|refine zw6 n2 ?_)
     conv=>whnf
     refine ⟨i + 1,hi',by omega,Weak.thaw 1 (zw22 _) (zw18 rfl) rfl ⟨.inl ⟨rfl,rfl⟩,.inr ?_,.inl ⟨rfl,rfl⟩,.inl ⟨congrArg I hw,rfl⟩,trivial⟩ ?_⟩
     ·rw [hbx]
      exact .d (.rowL (ds:=(b ++ [s.by_]).map fun v=>[DI v]) (zw18 rfl) rfl (ap_cv b s.by_) (ap_ds b s.by_) (rdI_e _))
     ·intro b x y hx hy
      match b,hx,hy with
      | 0,hx,hy=>cases hx; cases hy; exact .inl ⟨rfl,rfl⟩
  have c2 : s.kind = 2:=hk.resolve_left c1
  have hh : ∀ {L : List Blk} {k : V → List Blk → Prop},k (B (hoF x s.cond)) L → CallP C 101 [.agg [I s.cond.kind,I s.cond.var,I s.cond.n,.d (cos s.cond.parts)],enV x] L k:=fun h=>by
   have:=rholds_c x s.cond (hv c2) hc h
   rw [Co.cells_eq] at this; exact this
  rw [if_pos c2] at hbx
  cases c3 : hoF x s.cond with
  | true =>
   rw [if_pos c3] at hbx
   rw [c3] at hh
   have i1':=(i1 b hb).2
   repeat' ((conv=>whnf); first|refine zw8 (zw19 hlt) ?_|refine zw9 (zw20 c1) ?_|refine zw0 ?_|refine zw1 ?_|refine zw2 (fun h=>?_) (fun h=>?_)|refine zw3 ?_|refine zw4 (fun h=>?_) (fun h=>?_)|refine zw5 _ rfl ?_|refine zw6 rfl ?_|refine zw7 mixed rfl ?_|refine zw10 i _ rfl r1 ?_|refine hh ?_|refine i1' _ _ ?_)
   conv=>whnf
   exact ⟨i + 1,hi',by omega,Weak.to 1 rfl (zw22 _) (zw18 rfl) ⟨rfl,congrArg (fun b=>V.d (ins b)) hbx.symm,rfl,congrArg I hw,trivial⟩⟩
  | false =>
   rw [if_neg (by rw [c3]; decide)] at hbx
   rw [c3] at hh
   have i2':=(i2 b hb).2
   repeat' ((conv=>whnf); first|refine zw8 (zw19 hlt) ?_|refine zw9 (zw20 c1) ?_|refine zw0 ?_|refine zw1 ?_|refine zw2 (fun h=>?_) (fun h=>?_)|refine zw3 ?_|refine zw4 (fun h=>?_) (fun h=>?_)|refine zw5 _ rfl ?_|refine zw6 rfl ?_|refine zw7 mixed rfl ?_|refine zw10 i _ rfl r1 ?_|refine hh ?_|refine i2' _ _ ?_)
   conv=>whnf
   exact ⟨i + 1,hi',by omega,Weak.to 1 rfl (zw22 _) (zw18 rfl) ⟨rfl,congrArg (fun b=>V.d (ins b)) hbx.symm,rfl,congrArg I hw,trivial⟩⟩
theorem noE : ∀ e ∈ ([] : List (List D)),e.length = 1:=fun e h=>by cases h
theorem byok0 : ByOk []:=⟨List.nodup_nil,fun b h=>by cases h⟩
theorem applied_c (x : En) (l : List Sp) (hlen : l.length ≤ 4398046511104) (hl : ∀ s ∈ l,RSp s) (h : k (.d (ins (dSs x [] l))) L) : CallP C 58 [.d (sps l),enV x] L k:=by
 have ha : ∀ {L : List Blk} {k : V → List Blk → Prop},k (.d (ins (dSs x [] l))) L → CallP C 88 [.d (sps l),enV x,.d (ins [])] L k:=fun h=>(applied_s x _ l (zw21 _) hlen hl [] byok0).2 _ _ h
 refine CallP.pure ?_ rfl (fun _=>rfl) h
 clear h
 refine callP_of C_ok Tryz.func58 rfl rfl (n:=_) rfl (zw18 rfl) (rs:=_) rfl ?_
 repeat' ((conv=>whnf); first|refine zw0 ?_|refine zw1 ?_|refine zw2 (fun h=>?_) (fun h=>?_)|refine zw3 ?_|refine zw4 (fun h=>?_) (fun h=>?_)|refine zw5 _ rfl ?_|refine zw6 rfl ?_|refine zw7 mixed rfl ?_|refine CallP.freeze [1] rfl rfl (.keep (.keep (.cv (y:=.d (ins [])) (.d (.rowL (ds:=[]) (List.mem_singleton.2 rfl) rfl .nil rfl noE)) .nil))) (ha ?_))
 conv=>whnf
 exact FinP.drop (n:=0) rfl (zw21 0) rfl rfl ⟨rfl,rfl⟩
end Go.Proofs.YtclmjkhdmhlijaaGreatDoor
namespace Go.Proofs.YtclmjkhdmhlijaaGreatDoor
open Go.Tidy
variable {L : List Blk} {k : V → List Blk → Prop}
end Go.Proofs.YtclmjkhdmhlijaaGreatDoor
namespace Go.Proofs.YtclmjkhdmhlijaaGreatDoor
open Go.Tidy
mutual
def cN (d : Nat) : Co → Nat
 | .mk _ _ _ ps=>if 16 < d then 1000 else 1 + cNs (d + 1) ps
def cNs (d : Nat) : List Co → Nat
 | []=>0
 | c :: cs=>cN d c + cNs d cs
end
def cz (c : Co) : Nat:=if isZ c = true then 0 else cN 0 c
mutual
def sN (d : Nat) : Sp → Nat × Nat
 | .mk _ _ c t e=>if 16 < d then (1000,1000) else (1 + (sNs (d + 1) t).1 + (sNs (d + 1) e).1,(sNs (d + 1) t).2 + (sNs (d + 1) e).2 + cz c)
def sNs (d : Nat) : List Sp → Nat × Nat
 | []=>(0,0)
 | s :: ss=>((sN d s).1 + (sNs d ss).1,(sN d s).2 + (sNs d ss).2)
end
def fits (a : Nat × Nat) : Prop:=a.1 ≤ 64 ∧ a.2 ≤ 256
instance (a : Nat × Nat) : Decidable (fits a):=inferInstanceAs (Decidable (_ ∧ _))
theorem cn_s : ∀ (m : Nat) (c : Co),SizeOf.sizeOf c ≤ m → ∀ d,(cN d c ≤ 256 → cnF d c = cN d c) ∧ (256 < cN d c → 256 < cnF d c)
 | 0,c,h=>absurd h (by cases c; simp)
 | m + 1,.mk kd v n ps,hsz=>by
  intro d
  simp only [Co.mk.sizeOf_spec] at hsz
  rw [cN,cnF]
  by_cases hd : 16 < d
  ·rw [if_pos hd,if_pos hd]; exact ⟨fun h=>by omega,fun _=>by omega⟩
  rw [if_neg hd,if_neg hd]
  have key : ∀ l : List Co,(∀ c ∈ l,SizeOf.sizeOf c ≤ m) → ∀ n,(n + cNs (d + 1) l ≤ 256 → cnL (d + 1) l n = n + cNs (d + 1) l) ∧ (256 < n + cNs (d + 1) l → 256 < cnL (d + 1) l n):=by
   intro l
   induction l with
   | nil=>intro _ n; rw [cnL,cNs]; exact ⟨fun _=>rfl,fun h=>h⟩
   | cons c cs ih =>
    intro hl n
    have hc:=cn_s m c (hl c (by simp)) (d + 1)
    rw [cnL,cNs]
    by_cases h : n ≤ 256
    ·rw [if_pos h]
     have h2:=ih (fun c h=>hl c (by simp [h])) (n + cnF (d + 1) c)
     by_cases h3 : cN (d + 1) c ≤ 256
     ·rw [hc.1 h3] at h2 ⊢
      exact ⟨fun h=>by rw [h2.1 (by omega)]; omega,fun h=>h2.2 (by omega)⟩
     ·have h4:=hc.2 (by omega)
      rw [cnL_big _ (by omega)]
      exact ⟨fun h=>by omega,fun _=>by omega⟩
    ·rw [if_neg h]; exact ⟨fun h=>by omega,fun _=>by omega⟩
  have:=key ps (fun c h=>by have:=List.sizeOf_lt_of_mem h; omega) 1
  exact this
theorem cn_of (c : Co) (d : Nat) : (cN d c ≤ 256 → cnF d c = cN d c) ∧ (256 < cN d c → 256 < cnF d c):=cn_s _ c (zw21 _) d
theorem cz_of (c : Co) : (cz c ≤ 256 → czF c = cz c) ∧ (256 < cz c → 256 < czF c):=by
 unfold cz czF
 split
 ·exact ⟨fun _=>rfl,fun h=>by omega⟩
 ·exact cn_of c 0
theorem sz_s : ∀ (m : Nat) (s : Sp),SizeOf.sizeOf s ≤ m → ∀ d,d ≤ 16 → (fits (sN d s) → szS d s = sN d s) ∧ (¬ fits (sN d s) → ¬ fits (szS d s))
 | 0,s,h=>absurd h (by cases s; simp)
 | m + 1,.mk kd b c t e,hsz=>by
  intro d hd
  simp only [Sp.mk.sizeOf_spec] at hsz
  have key : ∀ d,d ≤ 16 → ∀ l : List Sp,(∀ c ∈ l,SizeOf.sizeOf c ≤ m) → ∀ a : Nat × Nat,(fits (a.1 + (sNs d l).1,a.2 + (sNs d l).2) → szL d l a = (a.1 + (sNs d l).1,a.2 + (sNs d l).2)) ∧ (¬ fits (a.1 + (sNs d l).1,a.2 + (sNs d l).2) → ¬ fits (szL d l a)):=by
   intro d hd l
   induction l with
   | nil=>intro _ a; rw [szL,sNs]; exact ⟨fun _=>rfl,fun h=>h⟩
   | cons s ss ih =>
    intro hl a
    have hc:=sz_s m s (hl s (by simp)) d hd
    rw [szL,sNs]
    by_cases h : a.1 ≤ 64 ∧ a.2 ≤ 256
    ·rw [if_pos h]
     have h2:=ih (fun c h=>hl c (by simp [h])) (a.1 + (szS d s).1,a.2 + (szS d s).2)
     by_cases h3 : fits (sN d s)
     ·rw [hc.1 h3] at h2 ⊢
      simp only [Nat.add_assoc] at h2 ⊢
      exact h2
     ·have h4:=hc.2 h3
      rw [szL_big _ (by unfold fits at h4; simp only; omega)]
      refine ⟨fun h=>absurd (show fits (sN d s) from ?_) h3,fun _ h=>h4 ?_⟩
      ·unfold fits at h ⊢; simp only at h; omega
      ·unfold fits at h ⊢; simp only at h; omega
    ·rw [if_neg h]
     refine ⟨fun h'=>absurd ?_ h,fun _ h'=>h h'⟩
     unfold fits at h'; simp only at h'; omega
  have keyT : ∀ l : List Sp,(∀ c ∈ l,SizeOf.sizeOf c ≤ m) → (fits (sNs (d + 1) l) → szT (d + 1) l = sNs (d + 1) l) ∧ (¬ fits (sNs (d + 1) l) → ¬ fits (szT (d + 1) l)):=by
   intro l hl
   unfold szT
   by_cases h : l ≠ [] ∧ 16 < d + 1
   ·rw [if_pos h]
    obtain ⟨h1,h2⟩:=h
    cases l with
    | nil=>exact absurd rfl h1
    | cons s ss =>
     have : sN (d + 1) s = (1000,1000):=by cases s; rw [sN,if_pos h2]
     rw [sNs,this]
     exact ⟨fun h=>by unfold fits at h; simp only at h; omega,fun _ h=>by unfold fits at h; simp only at h; omega⟩
   ·rw [if_neg h]
    by_cases hl0 : l = []
    ·subst hl0; rw [szL,sNs]; exact ⟨fun _=>rfl,fun h=>h⟩
    ·have:=key (d + 1) (by have : ¬ 16 < d + 1:=fun h2=>h ⟨hl0,h2⟩; omega) l hl (0,0)
     simpa using this
  rw [szS_eq,sN,if_neg (by omega)]
  simp only [Sp.thn,Sp.els,Sp.cond]
  have ht:=keyT t (fun c h=>by have:=List.sizeOf_lt_of_mem h; omega)
  have he:=keyT e (fun c h=>by have:=List.sizeOf_lt_of_mem h; omega)
  have hc:=cz_of c
  generalize sNs (d + 1) t = u at *
  generalize sNs (d + 1) e = v at *
  generalize szT (d + 1) t = u' at *
  generalize szT (d + 1) e = v' at *
  constructor
  ·intro h
   unfold fits at h; simp only at h
   rw [ht.1 (by unfold fits; omega),he.1 (by unfold fits; omega),hc.1 (by omega)]
  ·intro h h'
   unfold fits at h'; simp only at h'
   apply h
   by_cases f1 : fits u
   ·by_cases f2 : fits v
    ·by_cases f3 : cz c ≤ 256
     ·rw [ht.1 f1,he.1 f2,hc.1 f3] at h'; exact h'
     ·have:=hc.2 (by omega); omega
    ·have:=he.2 f2; unfold fits at this; omega
   ·have:=ht.2 f1; unfold fits at this; omega
theorem szT_of (l : List Sp) : (fits (sNs 0 l) → szT 0 l = sNs 0 l) ∧ (¬ fits (sNs 0 l) → ¬ fits (szT 0 l)):=by
 have h:=sz_s _ (.mk 0 0 (.mk 0 0 0 []) l []) (zw21 _) 0 (by decide)
 unfold szT
 rw [if_neg (by simp)]
 have key : ∀ l : List Sp,∀ a : Nat × Nat,(fits (a.1 + (sNs 0 l).1,a.2 + (sNs 0 l).2) → szL 0 l a = (a.1 + (sNs 0 l).1,a.2 + (sNs 0 l).2)) ∧ (¬ fits (a.1 + (sNs 0 l).1,a.2 + (sNs 0 l).2) → ¬ fits (szL 0 l a)):=by
  intro l
  induction l with
  | nil=>intro a; rw [szL,sNs]; exact ⟨fun _=>rfl,fun h=>h⟩
  | cons s ss ih =>
   intro a
   have hc:=sz_s _ s (zw21 _) 0 (by decide)
   rw [szL,sNs]
   by_cases h : a.1 ≤ 64 ∧ a.2 ≤ 256
   ·rw [if_pos h]
    have h2:=ih (a.1 + (szS 0 s).1,a.2 + (szS 0 s).2)
    by_cases h3 : fits (sN 0 s)
    ·rw [hc.1 h3] at h2 ⊢
     simp only [Nat.add_assoc] at h2 ⊢
     exact h2
    ·have h4:=hc.2 h3
     rw [szL_big _ (by unfold fits at h4; simp only; omega)]
     refine ⟨fun h=>absurd (show fits (sN 0 s) from ?_) h3,fun _ h=>h4 ?_⟩
     ·unfold fits at h ⊢; simp only at h; omega
     ·unfold fits at h ⊢; simp only at h; omega
   ·rw [if_neg h]
    refine ⟨fun h'=>absurd ?_ h,fun _ h'=>h h'⟩
    unfold fits at h'; simp only at h'; omega
 simpa using key l (0,0)
def fN (d : Nat) : Fm → Nat × Nat
 | .c x=>(0,cN d x)
 | .s x=>sN d x
def fNs (d : Nat) : List Fm → Nat × Nat
 | []=>(0,0)
 | f :: fs=>((fN d f).1 + (fNs d fs).1,(fN d f).2 + (fNs d fs).2)
theorem fNs_c (d : Nat) : ∀ l : List Co,fNs d (l.map .c) = (0,cNs d l)
 | []=>by rw [cNs]; rfl
 | c :: cs=>by rw [List.map_cons,fNs,fNs_c d cs,cNs]; simp [fN]
theorem fNs_s (d : Nat) : ∀ l : List Sp,fNs d (l.map .s) = sNs d l
 | []=>by rw [sNs]; rfl
 | c :: cs=>by rw [List.map_cons,fNs,fNs_s d cs,sNs]; rfl
theorem sNs_app (d : Nat) : ∀ l m : List Sp,sNs d (l ++ m) = ((sNs d l).1 + (sNs d m).1,(sNs d l).2 + (sNs d m).2)
 | [],m=>by rw [sNs]; simp
 | c :: cs,m=>by rw [List.cons_append,sNs,sNs_app d cs m,sNs]; simp only [Nat.add_assoc]
def ci (a : Nat × Nat) : Int × Int:=((a.1 : Int),(a.2 : Int))
theorem over_ci (a : Nat × Nat) : over (ci a) = !decide (fits a):=by
 by_cases h : fits a
 ·rw [decide_eq_true h]
  unfold fits at h; unfold over ci
  simp only [Bool.not_true,Bool.or_eq_false_iff,decide_eq_false_iff_not]; omega
 ·rw [decide_eq_false h]
  unfold fits at h; unfold over ci
  simp only [Bool.not_false,Bool.or_eq_true,decide_eq_true_eq]; omega
def pl2 (a b : Nat × Nat) : Nat × Nat:=(a.1 + b.1,a.2 + b.2)
def WOk (w : List Fm → Nat → Int × Int → W) (l : List Fm) (d : Nat) : Prop:=∀ a : Nat × Nat,(l = [] ∨ fits (pl2 a (fNs d l)) → w l d (ci a) = (true,ci (pl2 a (fNs d l)))) ∧ (¬ (l = [] ∨ fits (pl2 a (fNs d l))) → (w l d (ci a)).1 = false)
theorem wTail_of {w : List Fm → Nat → Int × Int → W} {f : Fm} {d : Nat} (h : WOk w f.parts (d + 1)) (a : Nat × Nat) : (fits (pl2 a (fNs (d + 1) f.parts)) → wTail w f d (ci a) = (true,ci (pl2 a (fNs (d + 1) f.parts)))) ∧ (¬ fits (pl2 a (fNs (d + 1) f.parts)) → (wTail w f d (ci a)).1 = false):=by
 unfold wTail
 rw [over_ci]
 by_cases hf : fits a
 ·rw [decide_eq_true hf,if_neg (by decide)]
  refine ⟨fun h2=>(h a).1 (.inr h2),fun h2=>(h a).2 ?_⟩
  rintro (h3 | h3)
  ·rw [h3,fNs] at h2; exact h2 hf
  ·exact h2 h3
 ·rw [decide_eq_false hf,if_pos (by decide)]
  refine ⟨fun h2=>absurd ?_ hf,fun _=>rfl⟩
  unfold fits pl2 at *; simp only at h2; omega
theorem wStep_of {w : List Fm → Nat → Int × Int → W} {f : Fm} {d : Nat} (hd : d ≤ 16) (h : WOk w f.parts (d + 1)) (hc : ∀ s,f = .s s → WOk w [.c s.cond] 0) (a : Nat × Nat) : (fits (pl2 a (fN d f)) → wStep w f d (ci a) = (true,ci (pl2 a (fN d f)))) ∧ (¬ fits (pl2 a (fN d f)) → (wStep w f d (ci a)).1 = false):=by
 cases f with
 | c x =>
  have ht:=wTail_of h (a.1,a.2 + 1)
  have e : pl2 (a.1,a.2 + 1) (fNs (d + 1) (Fm.c x).parts) = pl2 a (fN d (.c x)):=by
   show pl2 _ (fNs (d + 1) (x.parts.map .c)) = _
   rw [fNs_c]
   cases x with | mk kd v n ps =>
   have e5 : cN d (.mk kd v n ps) = 1 + cNs (d + 1) ps:=by rw [cN,if_neg (show ¬ 16 < d by omega)]
   show _ = pl2 a (0,cN d (.mk kd v n ps))
   rw [e5]
   exact Prod.ext rfl (by show a.2 + 1 + cNs (d + 1) ps = a.2 + (1 + cNs (d + 1) ps); omega)
  rw [e] at ht
  exact ht
 | s x =>
  have e : ∀ b : Nat × Nat,pl2 b (fNs (d + 1) (Fm.s x).parts) = (b.1 + ((sNs (d + 1) x.thn).1 + (sNs (d + 1) x.els).1),b.2 + ((sNs (d + 1) x.thn).2 + (sNs (d + 1) x.els).2)):=fun b=>by
   show pl2 _ (fNs (d + 1) ((x.thn ++ x.els).map .s)) = _
   rw [fNs_s,sNs_app]; rfl
  have e2 : fN d (.s x) = (1 + (sNs (d + 1) x.thn).1 + (sNs (d + 1) x.els).1,(sNs (d + 1) x.thn).2 + (sNs (d + 1) x.els).2 + cz x.cond):=by
   cases x; show sN d _ = _; rw [sN,if_neg (by omega)]; rfl
  rw [e2]
  have ht:=fun b=>wTail_of h b
  simp only [e] at ht
  generalize sNs (d + 1) x.thn = u at *
  generalize sNs (d + 1) x.els = v at *
  unfold wStep
  simp only
  by_cases hz : isZ x.cond = true
  ·rw [if_pos hz]
   have hcz : cz x.cond = 0:=by unfold cz; rw [if_pos hz]
   have:=ht (a.1 + 1,a.2)
   have e3 : ((a.1 + 1,a.2).1 + (u.1 + v.1),(a.1 + 1,a.2).2 + (u.2 + v.2)) = pl2 a (1 + u.1 + v.1,u.2 + v.2 + cz x.cond):=by
    rw [hcz]; simp only [pl2,Prod.mk.injEq]; omega
   rw [e3] at this
   exact this
  ·rw [if_neg hz]
   have hcz : cz x.cond = cN 0 x.cond:=by unfold cz; rw [if_neg hz]
   rw [hcz]
   have hw:=hc x rfl (a.1 + 1,a.2)
   have e4 : fNs 0 [.c x.cond] = (0,cN 0 x.cond):=by rw [fNs,fNs]; simp [fN]
   rw [e4] at hw
   have ea : ci (a.1 + 1,a.2) = ((ci a).1 + 1,(ci a).2):=rfl
   rw [← ea]
   have e3 : ∀ q,((pl2 (a.1 + 1,a.2) (0,q)).1 + (u.1 + v.1),(pl2 (a.1 + 1,a.2) (0,q)).2 + (u.2 + v.2)) = pl2 a (1 + u.1 + v.1,u.2 + v.2 + q):=fun q=>by
    simp only [pl2,Prod.mk.injEq]; omega
   by_cases hf : fits (pl2 (a.1 + 1,a.2) (0,cN 0 x.cond))
   ·have h1:=hw.1 (.inr hf)
    rw [h1,if_pos rfl]
    have:=ht (pl2 (a.1 + 1,a.2) (0,cN 0 x.cond))
    rw [e3] at this
    exact this
   ·have h1:=hw.2 (fun h=>h.elim (fun h=>by cases h) hf)
    rw [if_neg (by rw [h1]; decide)]
    refine ⟨fun h2=>absurd ?_ hf,fun _=>h1⟩
    unfold fits pl2 at *; simp only at *; omega
theorem wF_of : ∀ n l d,Enough n l d → WOk (wF n) l d
 | 0,l,d,he=>absurd he.pos (by omega)
 | n + 1,l,d,he=>by
  intro a
  have ih:=wF_of n
  have hdep:=he.dep
  rw [wF]
  by_cases h0 : l ≠ [] ∧ 16 < d
  ·rw [if_pos h0]
   refine ⟨fun h=>?_,fun _=>rfl⟩
   rcases h with h | h
   ·exact absurd h h0.1
   ·cases l with
    | nil=>exact absurd rfl h0.1
    | cons f fs =>
     have : 1000 ≤ (fN d f).2:=by
      cases f with
      | c x=>cases x; show 1000 ≤ cN d _; rw [cN,if_pos h0.2]; exact Nat.le_refl _
      | s x=>cases x; show 1000 ≤ (sN d _).2; rw [sN,if_pos h0.2]; exact Nat.le_refl _
     rw [fNs] at h
     unfold fits pl2 at h; simp only at h; omega
  rw [if_neg h0]
  by_cases hl0 : l = []
  ·subst hl0
   refine ⟨fun _=>?_,fun h=>absurd (.inl rfl) h⟩
   rw [wLoop,fNs]; rfl
  have hd : d ≤ 16:=by have : ¬ 16 < d:=fun h=>h0 ⟨hl0,h⟩; omega
  have key : ∀ m : List Fm,(∀ f ∈ m,f ∈ l) → ∀ a : Nat × Nat,fits a ∨ m ≠ [] → (fits (pl2 a (fNs d m)) → wLoop (wF n) m d (ci a) = (true,ci (pl2 a (fNs d m)))) ∧ (¬ fits (pl2 a (fNs d m)) → (wLoop (wF n) m d (ci a)).1 = false):=by
   intro m
   induction m with
   | nil =>
    intro _ a hfa
    rw [wLoop,fNs]
    exact ⟨fun _=>rfl,fun h=>absurd (hfa.resolve_right (fun h=>h rfl)) h⟩
   | cons f fs ihm =>
    intro hm a _
    have hf:=hm f (by simp)
    have hst:=wStep_of (a:=a) hd (ih f.parts (d + 1) (he.parts hd hf)) (fun s hs=>ih _ 0 (he.cond hd (hs ▸ hf)))
    rw [wLoop,fNs]
    have ep : pl2 (pl2 a (fN d f)) (fNs d fs) = pl2 a ((fN d f).1 + (fNs d fs).1,(fN d f).2 + (fNs d fs).2):=by
     simp only [pl2,Nat.add_assoc]
    by_cases h1 : fits (pl2 a (fN d f))
    ·have h2:=hst.1 h1
     rw [h2,if_pos rfl,← ep]
     exact ihm (fun f h=>hm f (by simp [h])) _ (.inl h1)
    ·have h2:=hst.2 h1
     rw [if_neg (by rw [h2]; decide)]
     refine ⟨fun h=>absurd ?_ h1,fun _=>h2⟩
     unfold fits pl2 at *; simp only at *; omega
  have:=key l (fun _ h=>h) a (.inr hl0)
  exact ⟨fun h=>this.1 (h.resolve_left hl0),fun h=>this.2 fun h'=>h (.inr h')⟩
theorem isZ_kind {c : Co} (h : isZ c = true) : vCo c = false:=by
 cases c with | mk kd v n ps =>
 unfold isZ at h
 simp only [Bool.and_eq_true,Co.kind] at h
 have h0:=of_decide_eq_true h.1.1.1
 subst h0
 rw [vCo]; rfl
theorem rcond_v {c : Co} (h : cz c ≤ 256) : decide (rcondF c = 0) = vCo c:=by
 unfold rcondF
 by_cases hz : isZ c = true
 ·rw [isZ_kind hz]
  apply decide_eq_false
  split
  ·decide
  ·simp
 ·have : cz c = cN 0 c:=by unfold cz; rw [if_neg hz]
  rw [this] at h
  rw [(cn_of c 0).1 h,if_neg (by omega)]
  cases vCo c <;> rfl
theorem v_s : ∀ (m : Nat) (s : Sp),SizeOf.sizeOf s ≤ m → ∀ d,fits (sN d s) → rSp s = vSp s
 | 0,s,h=>absurd h (by cases s; simp)
 | m + 1,.mk kd b c t e,hsz=>by
  intro d hf
  simp only [Sp.mk.sizeOf_spec] at hsz
  have key : ∀ l : List Sp,(∀ s ∈ l,SizeOf.sizeOf s ≤ m) → ∀ d,fits (sNs d l) → rSps l = vSps l:=by
   intro l
   induction l with
   | nil=>intro _ d _; rw [rSps,vSps]
   | cons s ss ih =>
    intro hl d hf
    rw [sNs] at hf
    rw [rSps,vSps,v_s m s (hl s (by simp)) d (by unfold fits at *; simp only at hf; omega),ih (fun s h=>hl s (by simp [h])) d (by unfold fits at *; simp only at hf; omega)]
  rw [sN] at hf
  split at hf
  ·unfold fits at hf; simp only at hf; omega
  unfold fits at hf; simp only at hf
  rw [rSp,vSp,key t (fun c h=>by have:=List.sizeOf_lt_of_mem h; omega) (d + 1) (by unfold fits; omega),key e (fun c h=>by have:=List.sizeOf_lt_of_mem h; omega) (d + 1) (by unfold fits; omega),rcond_v (by omega)]
  split
  ·by_cases h1 : (t.length : Int) = 0
   ·by_cases h2 : (e.length : Int) = 0
    ·rw [decide_eq_true h1,decide_eq_true h2,decide_eq_true (show (t.length : Int) + e.length = 0 by omega)]; simp
    ·rw [decide_eq_false h2,decide_eq_false (show ¬ (t.length : Int) + e.length = 0 by omega)]; simp
   ·rw [decide_eq_false h1,decide_eq_false (show ¬ (t.length : Int) + e.length = 0 by omega)]; simp
  ·split
   ·by_cases h1 : (t.length : Int) = 0
    ·rw [decide_eq_true h1,decide_eq_false (show ¬ 0 < (t.length : Int) by omega)]; rfl
    ·rw [decide_eq_false h1,decide_eq_true (show 0 < (t.length : Int) by omega)]; rfl
   ·rfl
theorem vs_of : ∀ l : List Sp,fits (sNs 0 l) → rSps l = vSps l
 | [],_=>by rw [rSps,vSps]
 | s :: ss,hf=>by
  rw [sNs] at hf
  rw [rSps,vSps,v_s _ s (Nat.le_refl _) 0 (by unfold fits at *; simp only at hf; omega),vs_of ss (by unfold fits at *; simp only at hf; omega)]
theorem any_vs : ∀ l : List Sp,((l.map Fm.s).any fun f=>!vFm f) = !vSps l
 | []=>by rw [vSps]; rfl
 | s :: ss=>by rw [List.map_cons,List.any_cons,any_vs ss,vSps]; simp [vFm,Bool.not_and]
theorem order_eq (l : List Sp) : orderF l = rorderF l:=by
 have hw:=wF_of 40 (l.map .s) 0 ⟨by decide,by decide,by decide,fun f hf=>by
  obtain ⟨s,_,rfl⟩:=List.mem_map.1 hf
  simp [need]⟩ (0,0)
 have e4 : pl2 (0,0) (fNs 0 (l.map .s)) = sNs 0 l:=by rw [fNs_s]; simp [pl2]
 rw [e4] at hw
 have ez : ci (0,0) = (0,0):=rfl
 rw [ez] at hw
 have hz:=szT_of l
 unfold orderF checkF rorderF szBig
 by_cases h : fits (sNs 0 l)
 ·rw [hw.1 (.inr h),if_pos rfl,hz.1 h,if_neg (show ¬ (64 < (sNs 0 l).1 ∨ 256 < (sNs 0 l).2) by unfold fits at h; omega),any_vs,vs_of l h,List.length_map]
  by_cases h0 : l.length = 0
  ·rw [if_pos h0,if_pos (by omega)]
  ·rw [if_neg h0,if_neg (show ¬ (l.length : Int) = 0 by omega)]
   cases vSps l <;> rfl
 ·have hl : l ≠ []:=by
   rintro rfl
   exact h (by rw [sNs]; unfold fits; simp)
  have hb:=hz.2 h
  rw [hw.2 (fun hh=>hh.elim (fun h=>hl (by simpa using h)) h),if_neg (by decide),if_pos (show 64 < (szT 0 l).1 ∨ 256 < (szT 0 l).2 by unfold fits at hb; omega)]
end Go.Proofs.YtclmjkhdmhlijaaGreatDoor
namespace Go.Proofs.YtclmjkhdmhlijaaGreatDoor
open Go.Tidy Go.ChangeShapes Go.WideShapes Go.ChangeAt Go.RowKit
theorem map_of2 {α β : Type} {f : α → β} {p : α → Prop} : ∀ {l : List β},(∀ y ∈ l,∃ x,y = f x ∧ p x) → ∃ l' : List α,l = l'.map f ∧ ∀ x ∈ l',p x
 | [],_=>⟨[],rfl,fun x h=>by cases h⟩
 | y :: l,h=>by
  obtain ⟨x,hx,hp⟩:=h y (by simp)
  obtain ⟨l',hl,hp'⟩:=map_of2 (l:=l) fun y hy=>h y (by simp [hy])
  exact ⟨x :: l',by rw [hx,hl]; rfl,fun z hz=>by
   rcases List.mem_cons.1 hz with rfl | hz
   ·exact hp
   ·exact hp' z hz⟩
theorem cells_cond : C.P.cellsOf 35 = 4:=by kernel_rfl
theorem cells_conds : C.P.cellsOf 33 = 1:=by kernel_rfl
theorem cells_step : C.P.cellsOf 79 = 8:=by kernel_rfl
theorem cells_steps : C.P.cellsOf 22 = 1:=by kernel_rfl
theorem len_b {α : Type} {f : α → List D} {l : List α} (h : ∀ e ∈ l.map f,(l.map f).length * slW e.length ≤ reachBytes) (hf : ∀ x,3 ≤ (f x).length) : l.length ≤ 4398046511104:=by
 cases l with
 | nil=>exact Nat.zero_le _
 | cons x r =>
  have h1:=h (f x) (by simp)
  unfold slW at h1
  rw [if_pos (hf x),List.length_map] at h1
  have h2 : (x :: r).length * 32 ≤ 140737488351232:=h1
  omega
theorem co_len (c : Co) : 3 ≤ c.cells.length:=by rw [Co.cells_eq]; exact Nat.le_of_ble_eq_true rfl
theorem sp_len3 (c : Sp) : 3 ≤ c.cells.length:=by rw [Sp.cells_eq]; exact Nat.le_of_ble_eq_true rfl
theorem mem_at {xs : List D} {i : Nat} {y : D} (h : xs[i]? = some y) : y ∈ xs:=List.mem_of_getElem? h
theorem size_at {xs : List D} {els : List (List D)} (h : (.sl els : D) ∈ xs) {y : List D} (hy : y ∈ els) : SizeOf.sizeOf y < SizeOf.sizeOf xs:=by
 have h1:=List.sizeOf_lt_of_mem h
 have h2:=List.sizeOf_lt_of_mem hy
 simp only [D.sl.sizeOf_spec] at h1
 omega
theorem condT_s : ∀ (n : Nat) (xs : List D),SizeOf.sizeOf xs ≤ n → TyI C.P 35 xs → (∀ y ∈ xs,Dsm reachBytes y) → ∃ c : Co,xs = c.cells ∧ LCo c
 | 0,xs,hz,_,_=>absurd hz (by cases xs <;> simp)
 | n + 1,xs,hz,h,hs=>by
  obtain ⟨h1,h2⟩:=h.structI Tryz.underlying35
  rw [cells_cond] at h1
  simp only [List.mem_cons,List.not_mem_nil,or_false,forall_eq_or_imp,forall_eq] at h2
  obtain ⟨a0,a1,a2,a3⟩:=h2
  obtain ⟨n0,b0⟩:=at_int a0
  obtain ⟨n1,b1⟩:=at_int a1
  obtain ⟨n2,b2⟩:=at_int a2
  obtain ⟨els,e3,_,h5⟩:=a3.slI Tryz.underlying33
  rw [cells_conds] at e3
  have b3:=at_one e3
  have hd:=hs _ (mem_at b3)
  obtain ⟨l,rfl,hl⟩:=map_of2 (f:=Co.cells) (p:=LCo) (l:=els) fun y hy =>
   condT_s n y (by have:=size_at (mem_at b3) hy; omega) (h5 y hy) (hd.slI.2 y hy)
  refine ⟨.mk n0 n1 n2 l,?_,.mk (len_b hd.slL co_len) hl⟩
  rw [Co.cells_eq]
  apply List.ext_getElem?
  intro i
  match i with
  | 0=>exact b0
  | 1=>exact b1
  | 2=>exact b2
  | 3=>exact b3
  | i + 4=>rw [List.getElem?_eq_none (by omega)]; rfl
theorem condT {xs : List D} (h : TyI C.P 35 xs) (hs : ∀ y ∈ xs,Dsm reachBytes y) : ∃ c : Co,xs = c.cells ∧ LCo c:=condT_s _ xs (zw21 _) h hs
theorem get_mid {xs ys : List D} {i n : Nat} (h : (xs.drop i).take n = ys) {j : Nat} (hj : j < n) : xs[i + j]? = ys[j]?:=by
 rw [← h,List.getElem?_take,if_pos hj,List.getElem?_drop]
theorem stepT_s : ∀ (n : Nat) (xs : List D),SizeOf.sizeOf xs ≤ n → TyI C.P 79 xs → (∀ y ∈ xs,Dsm reachBytes y) → ∃ c : Sp,xs = c.cells ∧ LSp c
 | 0,xs,hz,_,_=>absurd hz (by cases xs <;> simp)
 | n + 1,xs,hz,h,hs=>by
  obtain ⟨h1,h2⟩:=h.structI Tryz.underlying79
  rw [cells_step] at h1
  simp only [List.mem_cons,List.not_mem_nil,or_false,forall_eq_or_imp,forall_eq] at h2
  obtain ⟨a0,a1,a2,a3,a4⟩:=h2
  obtain ⟨n0,b0⟩:=at_int a0
  obtain ⟨n1,b1⟩:=at_int a1
  obtain ⟨c,hc,hlc⟩:=condT a2 fun y hy=>hs y (List.mem_of_mem_drop (List.mem_of_mem_take hy))
  rw [cells_cond,Co.cells_eq] at hc
  obtain ⟨els,e3,_,h5⟩:=a3.slI Tryz.underlying22
  obtain ⟨els2,e4,_,h6⟩:=a4.slI Tryz.underlying22
  rw [cells_steps] at e3 e4
  have b3:=at_one e3
  have b4:=at_one e4
  have hd:=hs _ (mem_at b3)
  have hd2:=hs _ (mem_at b4)
  obtain ⟨t,rfl,ht⟩:=map_of2 (f:=Sp.cells) (p:=LSp) (l:=els) fun y hy =>
   stepT_s n y (by have:=size_at (mem_at b3) hy; omega) (h5 y hy) (hd.slI.2 y hy)
  obtain ⟨e,rfl,he⟩:=map_of2 (f:=Sp.cells) (p:=LSp) (l:=els2) fun y hy =>
   stepT_s n y (by have:=size_at (mem_at b4) hy; omega) (h6 y hy) (hd2.slI.2 y hy)
  refine ⟨.mk n0 n1 c t e,?_,.mk (len_b hd.slL sp_len3) (len_b hd2.slL sp_len3) hlc ht he⟩
  rw [Sp.cells_eq]
  apply List.ext_getElem?
  intro i
  match i with
  | 0=>exact b0
  | 1=>exact b1
  | 2=>exact get_mid hc (j:=0) (by decide)
  | 3=>exact get_mid hc (j:=1) (by decide)
  | 4=>exact get_mid hc (j:=2) (by decide)
  | 5=>exact get_mid hc (j:=3) (by decide)
  | 6=>exact b3
  | 7=>exact b4
  | i + 8=>rw [List.getElem?_eq_none (by omega)]; rfl
theorem stepsT {xs : List D} (h : TyI C.P 22 xs) (hs : ∀ y ∈ xs,Dsm reachBytes y) : ∃ l : List Sp,xs = [sps l] ∧ LSs l:=by
 obtain ⟨els,rfl,h1,h2⟩:=h.slI Tryz.underlying22
 have hd:=hs (.sl els) (List.mem_singleton.2 rfl)
 obtain ⟨l,rfl,hl⟩:=map_of2 (f:=Sp.cells) (p:=LSp) (l:=els) fun y hy=>stepT_s _ y (zw21 _) (h2 y hy) (hd.slI.2 y hy)
 exact ⟨l,rfl,len_b hd.slL sp_len3,hl⟩
end Go.Proofs.YtclmjkhdmhlijaaGreatDoor
namespace Go.Proofs.YtclmjkhdmhlijaaGreatDoor
open Go.Tidy
theorem big_iff (l : List Sp) : szBig l ↔ ¬ fits (sNs 0 l):=by
 have h:=szT_of l
 unfold szBig
 by_cases hf : fits (sNs 0 l)
 ·rw [h.1 hf]
  exact ⟨fun h=>absurd hf (by unfold fits; omega),fun h=>absurd hf h⟩
 ·have:=h.2 hf
  exact ⟨fun _=>hf,fun _=>by unfold fits at this; omega⟩
theorem order_ok {l : List Sp} : orderF l = 0 ↔ l ≠ [] ∧ fits (sNs 0 l) ∧ vSps l = true:=by
 rw [order_eq]
 unfold rorderF
 by_cases hf : fits (sNs 0 l)
 ·rw [if_neg (fun h=>(big_iff l).1 h hf),vs_of l hf]
  by_cases h0 : (l.length : Int) = 0
  ·rw [if_pos h0]
   have : l = []:=List.eq_nil_of_length_eq_zero (by omega)
   simp [this]
  ·rw [if_neg h0]
   have : l ≠ []:=by rintro rfl; simp at h0
   cases h : vSps l <;> simp [this,hf]
 ·rw [if_pos ((big_iff l).2 hf)]
  simp [hf]
end Go.Proofs.YtclmjkhdmhlijaaGreatDoor
namespace Go.Proofs.YtclmjkhdmhlijaaGreatDoor
open Go.Tidy
variable {L : List Blk} {k : V → List Blk → Prop}
mutual
def tcC : Co → List (Int × Int)
 | .mk k v n ps=>(if k = 1 ∧ lo v < n ∧ n ≤ hi v then [(v,n)] else []) ++ tcL ps
def tcL : List Co → List (Int × Int)
 | []=>[]
 | c :: cs=>tcC c ++ tcL cs
end
mutual
def tsS : Sp → List (Int × Int)
 | .mk _ _ c t e=>tcC c ++ tsL t ++ tsL e
def tsL : List Sp → List (Int × Int)
 | []=>[]
 | s :: ss=>tsS s ++ tsL ss
end
theorem tcL_map : ∀ l : List Co,tcL l = (l.map tcC).flatten
 | []=>rfl
 | c :: cs=>by rw [tcL,tcL_map cs]; rfl
theorem tsL_map : ∀ l : List Sp,tsL l = (l.map tsS).flatten
 | []=>rfl
 | c :: cs=>by rw [tsL,tsL_map cs]; rfl
theorem tcL_take {l : List Co} {i : Nat} (h : i < l.length) : tcL (l.take (i + 1)) = tcL (l.take i) ++ tcC l[i]:=by
 rw [tcL_map,tcL_map,take_next h,List.map_append,List.flatten_append]; simp
theorem tsL_take {l : List Sp} {i : Nat} (h : i < l.length) : tsL (l.take (i + 1)) = tsL (l.take i) ++ tsS l[i]:=by
 rw [tsL_map,tsL_map,take_next h,List.map_append,List.flatten_append]; simp
theorem tcC_eq (c : Co) : tcC c = (if c.kind = 1 ∧ lo c.var < c.n ∧ c.n ≤ hi c.var then [(c.var,c.n)] else []) ++ tcL c.parts:=by cases c; rw [tcC]; rfl
theorem tsS_eq (s : Sp) : tsS s = tcC s.cond ++ tsL s.thn ++ tsL s.els:=by cases s; rw [tsS]; rfl
structure Q4 where
 (a b c d : List Int)
 deriving Inhabited
def Q4.add (q : Q4) (p : Int × Int) : Q4:=if p.1 = 1 then { q with a:=q.a ++ [p.2] } else if p.1 = 2 then { q with b:=q.b ++ [p.2] } else if p.1 = 3 then { q with c:=q.c ++ [p.2] } else if p.1 = 4 then { q with d:=q.d ++ [p.2] } else q
def Q4.adds (q : Q4) (l : List (Int × Int)) : Q4:=l.foldl Q4.add q
theorem Q4.adds_app (q : Q4) (l m : List (Int × Int)) : q.adds (l ++ m) = (q.adds l).adds m:=List.foldl_append
def Q4.le (q : Q4) (n : Nat) : Prop:=q.a.length ≤ n ∧ q.b.length ≤ n ∧ q.c.length ≤ n ∧ q.d.length ≤ n
theorem Q4.le_add {q : Q4} {n : Nat} (h : q.le n) (p : Int × Int) : (q.add p).le (n + 1):=by
 obtain ⟨h1,h2,h3,h4⟩:=h
 unfold Q4.add Q4.le
 split
 ·simp; omega
 split
 ·simp; omega
 split
 ·simp; omega
 split
 ·simp; omega
 ·omega
theorem Q4.le_adds : ∀ {l : List (Int × Int)} {q : Q4} {n : Nat},q.le n → (q.adds l).le (n + l.length)
 | [],q,n,h=>h
 | p :: l,q,n,h=>by
  have:=Q4.le_adds (l:=l) (q.le_add h p |> fun h=>h)
  rw [List.length_cons,show n + (l.length + 1) = n + 1 + l.length by omega]
  exact this
def tA (q : Q4) : List Blk:=[.cells [.nil,.own 1 q.a.length 0 q.a.length,.own 2 q.b.length 0 q.b.length,.own 3 q.c.length 0 q.c.length,.own 4 q.d.length 0 q.d.length],.row q.a.length 1 (rdI q.a),.row q.b.length 1 (rdI q.b),.row q.c.length 1 (rdI q.c),.row q.d.length 1 (rdI q.d)]
def tB (q : Q4) : List Blk:=tA q ++ [.cells [.ptr 0 0],.cells [.fn 49 [.ptr 5 0,.ptr 6 0]]]
theorem tA_bel' (n : Nat) (q : Q4) (h : 5 ≤ n) : belB n (tA q) = true:=by
 have h1 : ∀ k,k < 5 → decide (k < n) = true:=fun k hk=>zw19 (by omega)
 unfold tA
 simp only [belB,Blk.bel,V.belL,V.bel,rdI_bel,h1 1 (by decide),h1 2 (by decide),h1 3 (by decide),h1 4 (by decide),Bool.and_true,Bool.true_and]
theorem tA_bel (q : Q4) : belB 5 (tA q) = true:=tA_bel' 5 q (zw21 5)
theorem tB_bel (q : Q4) : belB 7 (tB q) = true:=by
 have:=tA_bel' 7 q (by decide)
 unfold tA at this
 unfold tB tA
 simp only [belB,Blk.bel,V.belL,V.bel,List.cons_append,List.nil_append,rdI_bel,Bool.and_true,Bool.true_and] at this ⊢
 rfl
def TcCall (c : Co) : Prop:=∀ (q : Q4) (n : Nat),q.le n → n + (tcC c).length ≤ 1000000 → CallP C 49 [.agg (c.cells.map .d),.ptr 5 0,.ptr 6 0] (tB q) fun X L'=>X = .tup [] ∧ L' = tB (q.adds (tcC c))
theorem TcCall.sub {c : Co} (h : TcCall c) {q : Q4} {n : Nat} (hq : q.le n) (hn : n + (tcC c).length ≤ 1000000) {E : List Blk} {k : V → List Blk → Prop} (hk : k (.tup []) (tB (q.adds (tcC c)) ++ E)) :
  CallP C 49 [.agg (c.cells.map .d),.ptr 5 0,.ptr 6 0] (tB q ++ E) k :=
 CallP.pre (h q n hq hn) (tB_bel q) rfl (by rw [Co.cells_eq]; rfl) fun X L1 hX=>by
  obtain ⟨rfl,rfl⟩:=hX
  exact ⟨rfl,tB_bel _,rfl,hk⟩
theorem row_push (a : List Int) (n : Int) : (rdI a).take a.length ++ [[I n]] = rdI (a ++ [n]):=by
 unfold rdI; rw [List.take_of_length_le (by simp)]; simp
theorem tB_add1 (q : Q4) (n : Int) : [Blk.cells [V.nil,V.own 1 (q.a.length + 1) 0 (q.a.length + 1),V.own 2 q.b.length 0 q.b.length,V.own 3 q.c.length 0 q.c.length,V.own 4 q.d.length 0 q.d.length],.row (q.a.length + 1) 1 ((rdI q.a).take q.a.length ++ [[I n]]),.row q.b.length 1 (rdI q.b),.row q.c.length 1 (rdI q.c),.row q.d.length 1 (rdI q.d),.cells [.ptr 0 0],.cells [.fn 49 [.ptr 5 0,.ptr 6 0]]] = tB (q.add (1,n)):=by
 have e : q.add (1,n) = ⟨q.a ++ [n],q.b,q.c,q.d⟩:=rfl
 rw [row_push,e]
 unfold tB tA
 simp only [List.length_append,List.length_singleton]
 rfl
theorem tB_add2 (q : Q4) (n : Int) : [Blk.cells [V.nil,V.own 1 q.a.length 0 q.a.length,V.own 2 (q.b.length + 1) 0 (q.b.length + 1),V.own 3 q.c.length 0 q.c.length,V.own 4 q.d.length 0 q.d.length],.row q.a.length 1 (rdI q.a),.row (q.b.length + 1) 1 ((rdI q.b).take q.b.length ++ [[I n]]),.row q.c.length 1 (rdI q.c),.row q.d.length 1 (rdI q.d),.cells [.ptr 0 0],.cells [.fn 49 [.ptr 5 0,.ptr 6 0]]] = tB (q.add (2,n)):=by
 have e : q.add (2,n) = ⟨q.a,q.b ++ [n],q.c,q.d⟩:=rfl
 rw [row_push,e]
 unfold tB tA
 simp only [List.length_append,List.length_singleton]
 rfl
theorem tB_add3 (q : Q4) (n : Int) : [Blk.cells [V.nil,V.own 1 q.a.length 0 q.a.length,V.own 2 q.b.length 0 q.b.length,V.own 3 (q.c.length + 1) 0 (q.c.length + 1),V.own 4 q.d.length 0 q.d.length],.row q.a.length 1 (rdI q.a),.row q.b.length 1 (rdI q.b),.row (q.c.length + 1) 1 ((rdI q.c).take q.c.length ++ [[I n]]),.row q.d.length 1 (rdI q.d),.cells [.ptr 0 0],.cells [.fn 49 [.ptr 5 0,.ptr 6 0]]] = tB (q.add (3,n)):=by
 have e : q.add (3,n) = ⟨q.a,q.b,q.c ++ [n],q.d⟩:=rfl
 rw [row_push,e]
 unfold tB tA
 simp only [List.length_append,List.length_singleton]
 rfl
theorem tB_add4 (q : Q4) (n : Int) : [Blk.cells [V.nil,V.own 1 q.a.length 0 q.a.length,V.own 2 q.b.length 0 q.b.length,V.own 3 q.c.length 0 q.c.length,V.own 4 (q.d.length + 1) 0 (q.d.length + 1)],.row q.a.length 1 (rdI q.a),.row q.b.length 1 (rdI q.b),.row q.c.length 1 (rdI q.c),.row (q.d.length + 1) 1 ((rdI q.d).take q.d.length ++ [[I n]]),.cells [.ptr 0 0],.cells [.fn 49 [.ptr 5 0,.ptr 6 0]]] = tB (q.add (4,n)):=by
 have e : q.add (4,n) = ⟨q.a,q.b,q.c,q.d ++ [n]⟩:=rfl
 rw [row_push,e]
 unfold tB tA
 simp only [List.length_append,List.length_singleton]
 rfl
end Go.Proofs.YtclmjkhdmhlijaaGreatDoor
namespace Go.Proofs.YtclmjkhdmhlijaaGreatDoor
open Go.Tidy
variable {L : List Blk} {k : V → List Blk → Prop}
theorem tB_bel8 (q : Q4) (ds : List D) (n : Nat) (h : 7 ≤ n) : belB n (tB q ++ [.cells (ds.map .d)]) = true:=by
 have:=tA_bel' n q (by omega)
 have hd : V.belL n (ds.map .d) = true:=by
  induction ds with
  | nil=>rfl
  | cons d ds ih=>simp only [List.map_cons,V.belL,V.bel,ih,Bool.and_self]
 have h1 : ∀ k,k < 7 → decide (k < n) = true:=fun k hk=>zw19 (by omega)
 unfold tA at this
 unfold tB tA
 simp only [belB,Blk.bel,V.belL,V.bel,List.cons_append,List.nil_append,rdI_bel,Bool.and_true,Bool.true_and,hd,h1 0 (by decide),h1 5 (by decide),h1 6 (by decide)] at this ⊢
 exact this
theorem Q4.le.le_adds' {q : Q4} {n : Nat} (h : q.le n) (l : List (Int × Int)) : (q.adds l).le (n + l.length):=Q4.le_adds h
theorem tc_s : ∀ (m : Nat) (c : Co),SizeOf.sizeOf c ≤ m → vCo c = true ∨ isZ c = true → LCo c → TcCall c
 | 0,c,hz,_,_=>absurd hz (by cases c; simp)
 | m + 1,.mk kd v nn ps,hz,hvc,hlc=>by
  intro q n hq hn
  have hpl : ps.length ≤ 4398046511104:=hlc.len
  rw [Co.cells_eq]
  simp only [Co.kind,Co.var,Co.n,Co.parts]
  by_cases k1 : kd = 1
  ·subst k1
   have hvc : vCo (.mk 1 v nn ps) = true:=hvc.resolve_right fun h=>by
    unfold isZ at h
    rw [Bool.and_eq_true,Bool.and_eq_true,Bool.and_eq_true,decide_eq_true_eq] at h
    have h1 : (1 : Int) = 0:=h.1.1.1
    omega
   rw [vCo,if_pos rfl] at hvc
   simp only [Bool.and_eq_true,decide_eq_true_eq] at hvc
   have hps : ps = []:=by
    cases ps with
    | nil=>rfl
    | cons a r=>simp at hvc; omega
   subst hps
   have hlt : ¬ (0 : Int) < ((0 : Nat) : Int):=by omega
   by_cases h1 : lo v < nn
   ·by_cases h2 : nn ≤ hi v
    ·have he : tcC (.mk 1 v nn []) = [(v,nn)]:=by rw [tcC,if_pos ⟨rfl,h1,h2⟩,tcL]; rfl
     rw [he] at hn ⊢
     have hv4 : v = 1 ∨ v = 2 ∨ v = 3 ∨ v = 4:=by omega
     obtain ⟨q1,q2,q3,q4⟩:=hq
     simp only [List.length_singleton] at hn
     rcases hv4 with rfl | rfl | rfl | rfl
     ·have hap : ∀ {X : Prop},X → Need (q.a.length + 1 ≤ 4294967296) X:=fun h=>zw6 (by omega) h
      refine callP_of C_ok Tryz.func49 rfl rfl (n:=_) rfl (zw18 rfl) (rs:=_) rfl ?_
      repeat' ((conv=>whnf); first|refine zw8 (zw19 (show (1 : Int) = 1 from rfl)) ?_|refine zw8 (zw19 h1) ?_|refine zw8 (zw19 h2) ?_|refine bounds_c _ ?_|refine zw0 ?_|refine zw1 ?_|refine zw2 (fun h=>?_) (fun h=>?_)|refine zw3 ?_|refine zw4 (fun h=>?_) (fun h=>?_)|refine zw5 _ rfl ?_|refine zw6 rfl ?_)
      conv=>whnf
      refine DrawP.por mixed [] [[(0,4),(1,0),(2,4),(3,3),(4,0),(5,3),(6,0),(7,3),(8,3),(9,0),(10,0),(11,0),(12,0),(13,0),(14,0),(15,0)]] (by kernel_rfl) ?_
      repeat' ((conv=>whnf); first|refine IdxN.intro 1 rfl (by decide) ?_|simp only [Nat.beq_refl,Bool.and_self]|refine hap ?_|refine LoopP.unroll ?_|refine zw9 (zw20 hlt) ?_|refine zw0 ?_|refine zw1 ?_|refine zw2 (fun h=>?_) (fun h=>?_)|refine zw3 ?_|refine zw4 (fun h=>?_) (fun h=>?_)|refine zw5 _ rfl ?_|refine zw6 rfl ?_|refine zw7 mixed rfl ?_)
      conv=>whnf
      exact FinP.drop (n:=7) (Eq.trans rfl (tB_add1 q nn)) (zw21 7) rfl (tB_bel _) ⟨rfl,rfl⟩
     ·have hap : ∀ {X : Prop},X → Need (q.b.length + 1 ≤ 4294967296) X:=fun h=>zw6 (by omega) h
      refine callP_of C_ok Tryz.func49 rfl rfl (n:=_) rfl (zw18 rfl) (rs:=_) rfl ?_
      repeat' ((conv=>whnf); first|refine zw8 (zw19 (show (1 : Int) = 1 from rfl)) ?_|refine zw8 (zw19 h1) ?_|refine zw8 (zw19 h2) ?_|refine bounds_c _ ?_|refine zw0 ?_|refine zw1 ?_|refine zw2 (fun h=>?_) (fun h=>?_)|refine zw3 ?_|refine zw4 (fun h=>?_) (fun h=>?_)|refine zw5 _ rfl ?_|refine zw6 rfl ?_)
      conv=>whnf
      refine DrawP.por mixed [] [[(0,4),(1,0),(2,4),(3,3),(4,0),(5,3),(6,0),(7,3),(8,3),(9,0),(10,0),(11,0),(12,0),(13,0),(14,0),(15,0)]] (by kernel_rfl) ?_
      repeat' ((conv=>whnf); first|refine IdxN.intro 2 rfl (by decide) ?_|simp only [Nat.beq_refl,Bool.and_self]|refine hap ?_|refine LoopP.unroll ?_|refine zw9 (zw20 hlt) ?_|refine zw0 ?_|refine zw1 ?_|refine zw2 (fun h=>?_) (fun h=>?_)|refine zw3 ?_|refine zw4 (fun h=>?_) (fun h=>?_)|refine zw5 _ rfl ?_|refine zw6 rfl ?_|refine zw7 mixed rfl ?_)
      conv=>whnf
      exact FinP.drop (n:=7) (Eq.trans rfl (tB_add2 q nn)) (zw21 7) rfl (tB_bel _) ⟨rfl,rfl⟩
     ·have hap : ∀ {X : Prop},X → Need (q.c.length + 1 ≤ 4294967296) X:=fun h=>zw6 (by omega) h
      refine callP_of C_ok Tryz.func49 rfl rfl (n:=_) rfl (zw18 rfl) (rs:=_) rfl ?_
      repeat' ((conv=>whnf); first|refine zw8 (zw19 (show (1 : Int) = 1 from rfl)) ?_|refine zw8 (zw19 h1) ?_|refine zw8 (zw19 h2) ?_|refine bounds_c _ ?_|refine zw0 ?_|refine zw1 ?_|refine zw2 (fun h=>?_) (fun h=>?_)|refine zw3 ?_|refine zw4 (fun h=>?_) (fun h=>?_)|refine zw5 _ rfl ?_|refine zw6 rfl ?_)
      conv=>whnf
      refine DrawP.por mixed [] [[(0,4),(1,0),(2,4),(3,3),(4,0),(5,3),(6,0),(7,3),(8,3),(9,0),(10,0),(11,0),(12,0),(13,0),(14,0),(15,0)]] (by kernel_rfl) ?_
      repeat' ((conv=>whnf); first|refine IdxN.intro 3 rfl (by decide) ?_|simp only [Nat.beq_refl,Bool.and_self]|refine hap ?_|refine LoopP.unroll ?_|refine zw9 (zw20 hlt) ?_|refine zw0 ?_|refine zw1 ?_|refine zw2 (fun h=>?_) (fun h=>?_)|refine zw3 ?_|refine zw4 (fun h=>?_) (fun h=>?_)|refine zw5 _ rfl ?_|refine zw6 rfl ?_|refine zw7 mixed rfl ?_)
      conv=>whnf
      exact FinP.drop (n:=7) (Eq.trans rfl (tB_add3 q nn)) (zw21 7) rfl (tB_bel _) ⟨rfl,rfl⟩
     ·have hap : ∀ {X : Prop},X → Need (q.d.length + 1 ≤ 4294967296) X:=fun h=>zw6 (by omega) h
      refine callP_of C_ok Tryz.func49 rfl rfl (n:=_) rfl (zw18 rfl) (rs:=_) rfl ?_
      repeat' ((conv=>whnf); first|refine zw8 (zw19 (show (1 : Int) = 1 from rfl)) ?_|refine zw8 (zw19 h1) ?_|refine zw8 (zw19 h2) ?_|refine bounds_c _ ?_|refine zw0 ?_|refine zw1 ?_|refine zw2 (fun h=>?_) (fun h=>?_)|refine zw3 ?_|refine zw4 (fun h=>?_) (fun h=>?_)|refine zw5 _ rfl ?_|refine zw6 rfl ?_)
      conv=>whnf
      refine DrawP.por mixed [] [[(0,4),(1,0),(2,4),(3,3),(4,0),(5,3),(6,0),(7,3),(8,3),(9,0),(10,0),(11,0),(12,0),(13,0),(14,0),(15,0)]] (by kernel_rfl) ?_
      repeat' ((conv=>whnf); first|refine IdxN.intro 4 rfl (by decide) ?_|simp only [Nat.beq_refl,Bool.and_self]|refine hap ?_|refine LoopP.unroll ?_|refine zw9 (zw20 hlt) ?_|refine zw0 ?_|refine zw1 ?_|refine zw2 (fun h=>?_) (fun h=>?_)|refine zw3 ?_|refine zw4 (fun h=>?_) (fun h=>?_)|refine zw5 _ rfl ?_|refine zw6 rfl ?_|refine zw7 mixed rfl ?_)
      conv=>whnf
      exact FinP.drop (n:=7) (Eq.trans rfl (tB_add4 q nn)) (zw21 7) rfl (tB_bel _) ⟨rfl,rfl⟩
    ·have he : tcC (.mk 1 v nn []) = []:=by rw [tcC,if_neg (fun h=>h2 h.2.2),tcL]; rfl
     rw [he]
     refine callP_of C_ok Tryz.func49 rfl rfl (n:=_) rfl (zw18 rfl) (rs:=_) rfl ?_
     repeat' ((conv=>whnf); first|refine zw8 (zw19 (show (1 : Int) = 1 from rfl)) ?_|refine zw8 (zw19 h1) ?_|refine zw9 (zw20 h2) ?_|refine bounds_c _ ?_|refine LoopP.unroll ?_|refine zw9 (zw20 hlt) ?_|refine zw0 ?_|refine zw1 ?_|refine zw2 (fun h=>?_) (fun h=>?_)|refine zw3 ?_|refine zw4 (fun h=>?_) (fun h=>?_)|refine zw5 _ rfl ?_|refine zw6 rfl ?_|refine zw7 mixed rfl ?_)
     conv=>whnf
     exact FinP.drop (n:=7) rfl (zw21 7) rfl (tB_bel q) ⟨rfl,rfl⟩
   ·have he : tcC (.mk 1 v nn []) = []:=by rw [tcC,if_neg (fun h=>h1 h.2.1),tcL]; rfl
    rw [he]
    refine callP_of C_ok Tryz.func49 rfl rfl (n:=_) rfl (zw18 rfl) (rs:=_) rfl ?_
    repeat' ((conv=>whnf); first|refine zw8 (zw19 (show (1 : Int) = 1 from rfl)) ?_|refine zw9 (zw20 h1) ?_|refine bounds_c _ ?_|refine LoopP.unroll ?_|refine zw9 (zw20 hlt) ?_|refine zw0 ?_|refine zw1 ?_|refine zw2 (fun h=>?_) (fun h=>?_)|refine zw3 ?_|refine zw4 (fun h=>?_) (fun h=>?_)|refine zw5 _ rfl ?_|refine zw6 rfl ?_|refine zw7 mixed rfl ?_)
    conv=>whnf
    exact FinP.drop (n:=7) rfl (zw21 7) rfl (tB_bel q) ⟨rfl,rfl⟩
  ·have he : tcC (.mk kd v nn ps) = tcL ps:=by rw [tcC,if_neg (fun h=>k1 h.1)]; rfl
   rw [he] at hn ⊢
   have hvs : vCos ps = true:=by
    rcases hvc with hvc | hvc
    rotate_left
    ·unfold isZ at hvc
     rw [Bool.and_eq_true,decide_eq_true_eq (p:=(((Co.mk kd v nn ps).parts.length : Int) = 0))] at hvc
     have h1 : (ps.length : Int) = 0:=hvc.2
     have : ps = []:=List.length_eq_zero_iff.1 (by omega)
     rw [this]; rfl
    rw [vCo,if_neg k1] at hvc
    split at hvc
    ·simp only [Bool.and_eq_true] at hvc; exact hvc.2
    ·split at hvc
     ·simp only [Bool.and_eq_true] at hvc; exact hvc.2
     ·cases hvc
   refine callP_of C_ok Tryz.func49 rfl rfl (n:=_) rfl (zw18 rfl) (rs:=_) rfl ?_
   repeat' ((conv=>whnf); first|refine zw9 (zw20 k1) ?_|refine zw0 ?_|refine zw1 ?_|refine zw2 (fun h=>?_) (fun h=>?_)|refine zw3 ?_|refine zw4 (fun h=>?_) (fun h=>?_)|refine zw5 _ rfl ?_|refine zw6 rfl ?_|refine zw7 mixed rfl ?_)
   conv=>whnf
   refine LoopP.inv (fun i=>i ≤ ps.length) (fun i=>⟨[(2,.ptr 6 0),(43,.d (cos ps)),(44,I ps.length),(45,I i)],Tryz.f49.ntmps,tB (q.adds (tcL (ps.take i))) ++ [.cells ([DI kd,DI v,DI nn,cos ps].map .d)],[],none⟩) (fun i=>ps.length - i) 0 (zw22 _) ?_ ?_
   ·exact Weak.to 8 rfl (Nat.le_of_ble_eq_true rfl) (Nat.le_of_ble_eq_true rfl) ⟨rfl,rfl,congrArg I (by simp),rfl,trivial⟩ (hB:=tB_bel8 _ _ 8 (by decide))
   intro i hi
   by_cases hi' : i < ps.length
   ·have hlt : (i : Int) < (ps.length : Int):=by omega
    have hw : IntKind.i64.wrap ((i : Int) + 1) = ((i + 1 : Nat) : Int):=by rw [wrap_in (by omega)]; omega
    have r1 : (ps.map Co.cells)[i]? = some [DI ps[i].kind,DI ps[i].var,DI ps[i].n,cos ps[i].parts]:=by rw [List.getElem?_map,List.getElem?_eq_getElem hi',← Co.cells_eq]; rfl
    have hm : ps[i] ∈ ps:=List.getElem_mem hi'
    have hsz : SizeOf.sizeOf ps[i] < SizeOf.sizeOf ps:=List.sizeOf_lt_of_mem hm
    have htk:=tcL_take hi'
    have ih:=tc_s m ps[i] (by simp only [Co.mk.sizeOf_spec] at hz; omega) (.inl (vCos_mem hvs _ hm)) (hlc.sub _ hm)
    have hsum : (tcL (ps.take (i + 1))).length ≤ (tcL ps).length:=by
     rw [← List.take_append_drop (i + 1) ps]
     rw [List.take_append_drop,tcL_map ps,tcL_map]
     have : (ps.map tcC) = (ps.take (i + 1)).map tcC ++ (ps.drop (i + 1)).map tcC:=by rw [← List.map_append,List.take_append_drop]
     rw [this,List.flatten_append,List.length_append]; omega
    rw [htk,List.length_append] at hsum
    have hq':=hq.le_adds' (tcL (ps.take i))
    have hcall : ∀ {E : List Blk} {k : V → List Blk → Prop},k (.tup []) (tB (q.adds (tcL (ps.take (i + 1)))) ++ E) → CallP C 49 [.agg [I ps[i].kind,I ps[i].var,I ps[i].n,.d (cos ps[i].parts)],.ptr 5 0,.ptr 6 0] (tB (q.adds (tcL (ps.take i))) ++ E) k:=fun h=>by
     have:=ih.sub hq' (by omega) (by rw [← Q4.adds_app,← htk]; exact h)
     rw [Co.cells_eq] at this; exact this
    repeat' ((conv=>whnf); first|refine zw8 (zw19 hlt) ?_|refine zw10 i _ rfl r1 ?_|refine hcall ?_|refine zw0 ?_|refine zw1 ?_|refine zw2 (fun h=>?_) (fun h=>?_)|refine zw3 ?_|refine zw4 (fun h=>?_) (fun h=>?_)|refine zw5 _ rfl ?_|refine zw6 rfl ?_|refine zw7 mixed rfl ?_)
    conv=>whnf
    exact ⟨i + 1,hi',by omega,Weak.to 8 rfl (zw18 rfl) (zw18 rfl) ⟨rfl,rfl,rfl,congrArg I hw,trivial⟩ (hB:=tB_bel8 _ _ 8 (by decide))⟩
   ·have hlt : ¬ (i : Int) < (ps.length : Int):=by omega
    rw [List.take_of_length_le (show ps.length ≤ i by omega)]
    repeat' ((conv=>whnf); first|refine zw9 (zw20 hlt) ?_|refine zw0 ?_|refine zw1 ?_|refine zw2 (fun h=>?_) (fun h=>?_)|refine zw3 ?_|refine zw4 (fun h=>?_) (fun h=>?_)|refine zw5 _ rfl ?_|refine zw6 rfl ?_|refine zw7 mixed rfl ?_)
    conv=>whnf
    exact FinP.drop (n:=7) rfl (zw21 7) rfl (tB_bel _) ⟨rfl,rfl⟩
def TsCall (l : List Sp) : Prop:=∀ (q : Q4) (n : Nat),q.le n → n + (tsL l).length ≤ 1000000 → CallP C 19 [.d (sps l),.ptr 0 0] (tA q) fun X L'=>X = .tup [] ∧ L' = tA (q.adds (tsL l))
theorem TsCall.sub {l : List Sp} (h : TsCall l) {q : Q4} {n : Nat} (hq : q.le n) (hn : n + (tsL l).length ≤ 1000000) {E : List Blk} {k : V → List Blk → Prop} (hk : k (.tup []) (tA (q.adds (tsL l)) ++ E)) :
  CallP C 19 [.d (sps l),.ptr 0 0] (tA q ++ E) k :=
 CallP.pre (h q n hq hn) (tA_bel q) rfl rfl fun X L1 hX=>by
  obtain ⟨rfl,rfl⟩:=hX
  exact ⟨rfl,tA_bel _,rfl,hk⟩
theorem tsL_sum {l : List Sp} {i : Nat} (h : i < l.length) : (tsL (l.take i)).length + (tcC l[i].cond).length + (tsL l[i].thn).length + (tsL l[i].els).length ≤ (tsL l).length:=by
 have h1:=tsL_take h
 have h2 : (tsL (l.take (i + 1))).length ≤ (tsL l).length:=by
  rw [tsL_map l,tsL_map]
  have : (l.map tsS) = (l.take (i + 1)).map tsS ++ (l.drop (i + 1)).map tsS:=by rw [← List.map_append,List.take_append_drop]
  rw [this,List.flatten_append,List.length_append]; omega
 rw [h1,tsS_eq] at h2
 simp only [List.length_append] at h2
 omega
theorem ts_s : ∀ (m : Nat) (l : List Sp),SizeOf.sizeOf l ≤ m → vSps l = true → LSs l → TsCall l
 | 0,l,hz,_,_=>absurd hz (by cases l <;> simp)
 | m + 1,l,hz,hv,hl=>by
  intro q n hq hn
  have hlen:=hl.len
  refine callP_of C_ok Tryz.func19 rfl rfl (n:=_) rfl (zw18 rfl) (rs:=_) rfl ?_
  repeat' ((conv=>whnf); first|refine zw0 ?_|refine zw1 ?_|refine zw2 (fun h=>?_) (fun h=>?_)|refine zw3 ?_|refine zw4 (fun h=>?_) (fun h=>?_)|refine zw5 _ rfl ?_|refine zw6 rfl ?_|refine zw7 mixed rfl ?_)
  conv=>whnf
  refine LoopP.inv (fun i=>i ≤ l.length) (fun i=>⟨[(3,.ptr 5 0),(4,.ptr 6 0),(8,.d (sps l)),(9,I l.length),(10,I i)],Tryz.f19.ntmps,tB (q.adds (tsL (l.take i))),[],none⟩) (fun i=>l.length - i) 0 (zw22 _) ?_ ?_
  ·exact Weak.to 7 rfl (Nat.le_of_ble_eq_true rfl) (Nat.le_of_ble_eq_true rfl) ⟨rfl,rfl,rfl,congrArg I (by simp),rfl,trivial⟩ (hB:=tB_bel _)
  intro i hi
  by_cases hi' : i < l.length
  ·have hlt : (i : Int) < (l.length : Int):=by omega
   have hw : IntKind.i64.wrap ((i : Int) + 1) = ((i + 1 : Nat) : Int):=by rw [wrap_in (by omega)]; omega
   have r1 : (l.map Sp.cells)[i]? = some [DI l[i].kind,DI l[i].by_,DI l[i].cond.kind,DI l[i].cond.var,DI l[i].cond.n,cos l[i].cond.parts,sps l[i].thn,sps l[i].els]:=by rw [List.getElem?_map,List.getElem?_eq_getElem hi',← Sp.cells_eq]; rfl
   have hm : l[i] ∈ l:=List.getElem_mem hi'
   have hsz : SizeOf.sizeOf l[i] < SizeOf.sizeOf l:=List.sizeOf_lt_of_mem hm
   have hsum:=tsL_sum hi'
   have htk:=tsL_take hi'
   rw [tsS_eq] at htk
   have hvs:=vSps_mem hv _ hm
   have hls:=hl.all _ hm
   have q1:=hq.le_adds' (tsL (l.take i))
   obtain ⟨s,hs⟩ : ∃ s,s = l[i]:=⟨_,rfl⟩
   rw [← hs] at r1 hsz hsum htk hvs hls
   have q2:=q1.le_adds' (tcC s.cond)
   have q3:=q2.le_adds' (tsL s.thn)
   have hfin : (((q.adds (tsL (l.take i))).adds (tcC s.cond)).adds (tsL s.thn)).adds (tsL s.els) = q.adds (tsL (l.take (i + 1))):=by
    rw [htk,← Q4.adds_app,← Q4.adds_app,← Q4.adds_app]; simp only [List.append_assoc]
   obtain ⟨h1,h2,hlc,ht,he⟩:=hls
   cases s with | mk kd b c t e =>
   simp only [Sp.mk.sizeOf_spec] at hsz
   simp only [Sp.cond,Sp.thn,Sp.els,Sp.kind,Sp.by_] at *
   have hok : (vCo c = true ∨ isZ c = true) ∧ vSps t = true ∧ vSps e = true:=by
    rw [vSp] at hvs
    split at hvs
    ·simp only [Bool.and_eq_true,decide_eq_true_eq] at hvs
     have t0 : t = []:=List.length_eq_zero_iff.1 (by omega)
     have e0 : e = []:=List.length_eq_zero_iff.1 (by omega)
     subst t0 e0
     exact ⟨.inr hvs.1.2,rfl,rfl⟩
    ·split at hvs
     ·simp only [Bool.and_eq_true,decide_eq_true_eq] at hvs
      exact ⟨.inl hvs.1.1.1.2,hvs.1.2,hvs.2⟩
     ·cases hvs
   have ic:=tc_s _ c (zw21 _) hok.1 hlc
   have i1:=ts_s m t (by omega) hok.2.1 ⟨h1,ht⟩
   have i2:=ts_s m e (by omega) hok.2.2 ⟨h2,he⟩
   generalize q.adds (tsL (l.take i)) = qa at *
   generalize hqb : qa.adds (tcC c) = qb at *
   generalize hqc : qb.adds (tsL t) = qc at *
   generalize hqd : qc.adds (tsL e) = qd at *
   have c1 : ∀ {E : List Blk} {k : V → List Blk → Prop},k (.tup []) (tB qb ++ E) → CallP C 49 [.agg [I c.kind,I c.var,I c.n,.d (cos c.parts)],.ptr 5 0,.ptr 6 0] (tB qa ++ E) k:=fun h=>by
    have:=ic.sub q1 (by omega) (by rw [hqb]; exact h)
    rw [Co.cells_eq] at this; exact this
   have c2 : ∀ {E : List Blk} {k : V → List Blk → Prop},k (.tup []) (tA qc ++ E) → CallP C 19 [.d (sps t),.ptr 0 0] (tA qb ++ E) k:=fun h=>i1.sub q2 (by omega) (by rw [hqc]; exact h)
   have c3 : ∀ {E : List Blk} {k : V → List Blk → Prop},k (.tup []) (tA qd ++ E) → CallP C 19 [.d (sps e),.ptr 0 0] (tA qc ++ E) k:=fun h=>i2.sub q3 (by omega) (by rw [hqd]; exact h)
   repeat' ((conv=>whnf); first|refine zw8 (zw19 hlt) ?_|refine zw10 i _ rfl r1 ?_|refine c1 ?_|refine c2 ?_|refine c3 ?_|refine zw0 ?_|refine zw1 ?_|refine zw2 (fun h=>?_) (fun h=>?_)|refine zw3 ?_|refine zw4 (fun h=>?_) (fun h=>?_)|refine zw5 _ rfl ?_|refine zw6 rfl ?_|refine zw7 mixed rfl ?_)
   conv=>whnf
   exact ⟨i + 1,hi',by omega,Weak.to 7 (Eq.trans rfl (congrArg tB hfin)) (zw18 rfl) (zw18 rfl) ⟨rfl,rfl,rfl,rfl,congrArg I hw,trivial⟩ (hB:=tB_bel _)⟩
  ·have hlt : ¬ (i : Int) < (l.length : Int):=by omega
   rw [List.take_of_length_le (show l.length ≤ i by omega)]
   repeat' ((conv=>whnf); first|refine zw9 (zw20 hlt) ?_|refine zw0 ?_|refine zw1 ?_|refine zw2 (fun h=>?_) (fun h=>?_)|refine zw3 ?_|refine zw4 (fun h=>?_) (fun h=>?_)|refine zw5 _ rfl ?_|refine zw6 rfl ?_|refine zw7 mixed rfl ?_)
   conv=>whnf
   exact FinP.drop (n:=5) rfl (zw21 5) rfl (tA_bel _) ⟨rfl,rfl⟩
end Go.Proofs.YtclmjkhdmhlijaaGreatDoor
namespace Go.Proofs.YtclmjkhdmhlijaaGreatDoor
open Go.Tidy
variable {L : List Blk} {k : V → List Blk → Prop}
theorem backward_c (vs : List Int) (h : k (.d (.fn 55 [.rptr [ins vs]])) L) : CallP C 26 [.d (ins vs)] L k:=by
 refine CallP.pure ?_ rfl (fun _=>rfl) h
 clear h
 refine callP_of C_ok Tryz.func26 rfl rfl (n:=_) rfl (zw18 rfl) (rs:=_) rfl ?_
 repeat' ((conv=>whnf); first|refine zw0 ?_|refine zw1 ?_|refine zw2 (fun h=>?_) (fun h=>?_)|refine zw3 ?_|refine zw4 (fun h=>?_) (fun h=>?_)|refine zw5 _ rfl ?_|refine zw6 rfl ?_|refine zw7 mixed rfl ?_)
 conv=>whnf
 exact FinP.data (L':=[]) (.d (.fn _ _ _ rfl (CvL.get (.cons (.ptrL (zw22 _) rfl (.cons (.d _) .nil)) .nil)).2)) rfl rfl ⟨rfl,rfl⟩
def bkX (vs : List Int) : List (List V):=(List.range vs.length).map fun c : Nat=>[I ((vs.length : Int) - 1 - c),I (vs.getD (vs.length - 1 - c) 0)]
theorem backward1_it (vs : List Int) (hl : vs.length ≤ 1073741824) : IterP C 55 [.rptr [ins vs]] (bkX vs):=by
 intro b N P S k hS hbS hdS hb hy h0 hP
 have len : (bkX vs).length = vs.length:=by unfold bkX; simp
 refine callP_of C_ok Tryz.func55 rfl rfl (n:=_) rfl (zw18 rfl) (rs:=_) rfl ?_
 repeat' ((conv=>whnf); first|refine zw0 ?_|refine zw1 ?_|refine zw2 (fun h=>?_) (fun h=>?_)|refine zw3 ?_|refine zw4 (fun h=>?_) (fun h=>?_)|refine zw5 _ rfl ?_|refine zw6 rfl ?_|refine zw7 mixed rfl ?_)
 conv=>whnf
 refine LoopP.inv (fun c : Nat=>c ≤ vs.length ∧ P c) (fun c=>⟨[(0,.yld b),(1,.d (.rptr [ins vs])),(3,I ((vs.length : Int) - 1 - c))],Tryz.f55.ntmps,S c,[],none⟩) (fun c=>vs.length - c) 0 ⟨zw22 _,hP⟩ ?_ ?_
 ·exact Weak.by ⟨rfl,rfl,congrArg I (by rw [List.length_map,wrap_in (by omega)]; omega),trivial⟩
 rintro c ⟨hc,hPc⟩
 by_cases hc' : c < vs.length
 ·have hge : (0 : Int) ≤ (vs.length : Int) - 1 - c:=by omega
  have hw : IntKind.i64.wrap ((vs.length : Int) - 1 - c - 1) = (vs.length : Int) - 1 - ((c + 1 : Nat) : Int):=by rw [wrap_in (by omega)]; omega
  have hix : (vs.length : Int) - 1 - c = ((vs.length - 1 - c : Nat) : Int):=by omega
  have r1 : (vs.map fun n=>[DI n])[vs.length - 1 - c]? = some [DI (vs.getD (vs.length - 1 - c) 0)]:=by rw [List.getElem?_map,List.getElem?_eq_getElem (show vs.length - 1 - c < vs.length by omega),getD_at (show vs.length - 1 - c < vs.length by omega)]; rfl
  have hyc:=hy c (by omega) hPc
  have hxs : (bkX vs)[c]'(by omega) = [I ((vs.length : Int) - 1 - c),I (vs.getD (vs.length - 1 - c) 0)]:=by unfold bkX; rw [List.getElem_map,List.getElem_range]
  rw [hxs] at hyc
  repeat' ((conv=>whnf); first|refine zw8 (zw19 hge) ?_|refine zw10 (vs.length - 1 - c) _ hix r1 ?_|refine zw0 ?_|refine zw1 ?_|refine zw2 (fun h=>?_) (fun h=>?_)|refine zw3 ?_|refine zw4 (fun h=>?_) (fun h=>?_)|refine zw5 _ rfl ?_|refine zw6 rfl ?_|refine zw7 mixed rfl ?_)
  conv=>whnf
  refine YieldP.mono hyc ?_
  rintro X M (⟨rfl,rfl,hP1⟩ | ⟨rfl,hz1,hz2,hz3⟩)
  ·repeat' (conv => whnf
            first|refine zw0 ?_|refine zw1 ?_|refine zw2 (fun h=>?_) (fun h=>?_)|refine zw3 ?_|refine zw4 (fun h=>?_) (fun h=>?_)|refine zw5 _ rfl ?_|refine zw6 rfl ?_|refine zw7 mixed rfl ?_)
   conv=>whnf
   exact ⟨c + 1,⟨hc',hP1⟩,by omega,Weak.by ⟨rfl,rfl,congrArg I hw,trivial⟩⟩
  ·repeat' (conv => whnf
            first|refine zw0 ?_|refine zw1 ?_|refine zw2 (fun h=>?_) (fun h=>?_)|refine zw3 ?_|refine zw4 (fun h=>?_) (fun h=>?_)|refine zw5 _ rfl ?_|refine zw6 rfl ?_|refine zw7 mixed rfl ?_)
   conv=>whnf
   exact FinP.drop (n:=N) (List.take_of_length_le (Nat.le_of_eq hz1)) (Nat.le_of_eq (hS 0)) rfl hz2 hz3
 ·have hge : ¬ (0 : Int) ≤ (vs.length : Int) - 1 - c:=by omega
  have hcl : c = vs.length:=by omega
  subst hcl
  repeat' ((conv=>whnf); first|refine zw9 (zw20 hge) ?_|refine zw0 ?_|refine zw1 ?_|refine zw2 (fun h=>?_) (fun h=>?_)|refine zw3 ?_|refine zw4 (fun h=>?_) (fun h=>?_)|refine zw5 _ rfl ?_|refine zw6 rfl ?_|refine zw7 mixed rfl ?_)
  conv=>whnf
  exact FinP.drop (n:=N) (List.take_of_length_le (Nat.le_of_eq (hS _))) (Nat.le_of_eq (hS 0)) rfl (hbS _) (by have:=h0; rw [len] at this; exact this hPc)
def rdN (F : List Nd) : List (List V):=F.map fun x=>x.cells.map .d
theorem rdN_bel (n : Nat) : ∀ F : List Nd,belR n (rdN F) = true
 | []=>rfl
 | x :: F=>by
  have:=rdN_bel n F
  unfold rdN at this ⊢
  simp only [List.map_cons,belR,this,Bool.and_true]
  rfl
def esF (F : List Nd) : List (V × V):=(List.range F.length).map fun i=>(keyV' (ndA F i),I i)
theorem esF_keys (F : List Nd) : (esF F).map (·.1) = F.map keyV':=by
 unfold esF
 rw [List.map_map]
 refine List.ext_getElem (by simp) fun i h1 h2=>?_
 simp only [List.length_map,List.length_range] at h1
 rw [List.getElem_map,List.getElem_map,List.getElem_range,← ndA_get h1]; rfl
theorem esF_bel (n : Nat) (F : List Nd) : belM n (esF F) = true:=by
 unfold esF
 induction List.range F.length with
 | nil=>rfl
 | cons i r ih=>simp only [List.map_cons,belM,keyV',V.bel,V.belL,Bool.and_true,Bool.true_and,Bool.and_self]; exact ih
theorem esF_snoc (F : List Nd) (x : Nd) : esF F ++ [(keyV' x,I F.length)] = esF (F ++ [x]):=by
 unfold esF
 rw [List.length_append,List.length_singleton,List.range_succ,List.map_append]
 congr 1
 ·refine List.map_congr_left fun i hi=>?_
  rw [ndA_pre (List.prefix_append F [x]) (List.mem_range.1 hi)]
 ·simp only [List.map_cons,List.map_nil]
  rw [ndA_get (by simp)]
  simp
theorem MapF.kyF {F : List Nd} {a : Nd} (ha : KyOk a) (hks : ∀ x ∈ F,KyOk x) {q : Option (Nat × V) → Prop} (h1 : a ∈ F → q (some (F.idxOf a,I (F.idxOf a)))) (h2 : a ∉ F → q none) : MapF tkK (esF F) (keyV' a) q :=
 MapF.kyG (esF_keys F) ha hks (fun hm v hv=>by
  have hi:=List.idxOf_lt_length_of_mem hm
  unfold esF at hv
  rw [List.getElem?_map,List.getElem?_range hi] at hv
  simp only [Option.map_some,Option.some.injEq,Prod.mk.injEq] at hv
  rw [← hv.2]
  exact h1 hm) h2
def fS (F : List Nd) : List Blk:=[.cells [.own 1 F.length 0 F.length,.map 2],.row F.length 5 (rdN F),.map (esF F)]
theorem fS_bel' (n : Nat) (h : 3 ≤ n) (F : List Nd) : belB n (fS F) = true:=by
 unfold fS
 simp only [belB,Blk.bel,V.belL,V.bel,rdN_bel,esF_bel,decide_eq_true (show 1 < n by omega),decide_eq_true (show 2 < n by omega),Bool.and_true]
theorem fS_bel (F : List Nd) : belB 3 (fS F) = true:=fS_bel' 3 (zw21 3) F
theorem rdN_snoc (F : List Nd) (x : Nd) : (rdN F).take F.length ++ [x.cells.map .d] = rdN (F ++ [x]):=by
 unfold rdN
 rw [List.take_of_length_le (by simp),List.map_append]; rfl
theorem put_c (F : List Nd) (x : Nd) (hF : ∀ y ∈ F,KyOk y) (hx : KyOk x) (hl : x.by_.length ≤ 1073741824) (hFl : F.length ≤ 1000000) :
  CallP C 25 [.ptr 0 0,ndV x] (fS F) fun X L'=>L' = fS (put F x).1 ∧ X = I (put F x).2:=by
 have hky : ∀ {L : List Blk} {k : V → List Blk → Prop},k (keyV' x) L → CallP C 39 [ndV x] L k:=fun h=>keyOf_c x hl h
 by_cases hm : x ∈ F
 ·have e : put F x = (F,F.idxOf x):=by unfold put; rw [if_pos hm]
  rw [e]
  have hmap : ∀ {q : Option (Nat × V) → Prop},q (some (F.idxOf x,I (F.idxOf x))) → MapF tkK (esF F) (keyV' x) q:=fun h=>MapF.kyF hx hF (fun _=>h) fun hn=>absurd hm hn
  refine callP_of C_ok Tryz.func25 rfl rfl (n:=_) rfl (zw18 rfl) (rs:=_) rfl ?_
  repeat' ((conv=>whnf); first|refine zw0 ?_|refine zw1 ?_|refine zw2 (fun h=>?_) (fun h=>?_)|refine zw3 ?_|refine zw4 (fun h=>?_) (fun h=>?_)|refine zw5 _ rfl ?_|refine zw6 rfl ?_|refine zw7 mixed rfl ?_|refine hky ?_|refine hmap ?_)
  conv=>whnf
  exact FinP.drop (n:=3) rfl (zw21 3) rfl (fS_bel F) ⟨rfl,rfl⟩
 ·have e : put F x = (F ++ [x],F.length):=by unfold put; rw [if_neg hm,List.idxOf_eq_length hm]
  rw [e]
  have hmap : ∀ {q : Option (Nat × V) → Prop},q none → MapF tkK (esF F) (keyV' x) q:=fun h=>MapF.kyF hx hF (fun hn=>absurd hn hm) fun _=>h
  have hap : ∀ {X : Prop},X → Need (F.length + 1 ≤ 4294967296) X:=fun h=>zw6 (by omega) h
  have hend : [Blk.cells [.own 1 (F.length + 1) 0 (F.length + 1),.map 2],.row (F.length + 1) 5 ((rdN F).take F.length ++ [x.cells.map .d]),.map (esF F ++ [(keyV' x,I F.length)])] = fS (F ++ [x]):=by
   rw [rdN_snoc,esF_snoc]; unfold fS; rw [List.length_append]; rfl
  refine callP_of C_ok Tryz.func25 rfl rfl (n:=_) rfl (zw18 rfl) (rs:=_) rfl ?_
  repeat' ((conv=>whnf); first|refine zw0 ?_|refine zw1 ?_|refine zw2 (fun h=>?_) (fun h=>?_)|refine zw3 ?_|refine zw4 (fun h=>?_) (fun h=>?_)|refine zw5 _ rfl ?_|refine zw6 rfl ?_|refine hky ?_|refine hmap ?_|simp only [Nat.beq_refl,Bool.and_self])
  conv=>whnf
  refine DrawP.por mixed [] [[(0,0),(1,0),(2,0),(3,0),(4,0),(5,0),(6,0),(7,0),(8,0),(9,0),(10,0)]] (by kernel_rfl) ?_
  repeat' ((conv=>whnf); first|refine zw0 ?_|refine zw1 ?_|refine zw2 (fun h=>?_) (fun h=>?_)|refine zw3 ?_|refine zw4 (fun h=>?_) (fun h=>?_)|refine zw5 _ rfl ?_|refine zw6 rfl ?_|refine hky ?_|refine hmap ?_|simp only [Nat.beq_refl,Bool.and_self])
  conv=>whnf
  refine DrawP.por mixed [] [[(0,0),(1,0),(2,0),(3,0),(4,0),(5,0),(6,0)]] (by kernel_rfl) ?_
  repeat' ((conv=>whnf); first|refine zw0 ?_|refine zw1 ?_|refine zw2 (fun h=>?_) (fun h=>?_)|refine zw3 ?_|refine zw4 (fun h=>?_) (fun h=>?_)|refine zw5 _ rfl ?_|refine zw6 rfl ?_|refine hky ?_|refine hmap ?_|simp only [Nat.beq_refl,Bool.and_self])
  conv=>whnf
  refine DrawP.por mixed [] [[(0,0),(1,0),(2,0),(3,0),(4,3),(5,0),(6,0),(7,0),(8,0),(9,0),(10,0)]] (by kernel_rfl) ?_
  repeat' ((conv=>whnf); first|refine zw0 ?_|refine zw1 ?_|refine zw2 (fun h=>?_) (fun h=>?_)|refine zw3 ?_|refine zw4 (fun h=>?_) (fun h=>?_)|refine zw5 _ rfl ?_|refine zw6 rfl ?_|refine hky ?_|refine hmap ?_|simp only [Nat.beq_refl,Bool.and_self]|refine hap ?_)
  conv=>whnf
  exact FinP.drop (n:=3) (Eq.trans rfl hend) (zw21 3) rfl (fS_bel _) ⟨rfl,rfl⟩
end Go.Proofs.YtclmjkhdmhlijaaGreatDoor
namespace Go.Proofs.YtclmjkhdmhlijaaGreatDoor
open Go.Tidy
variable {L : List Blk} {k : V → List Blk → Prop}
def fin : List (Int × List Int) → En → En
 | [],e=>e
 | (v,vs) :: r,e=>vs.reverse.foldl (fun e n=>fin r (setE e v n)) e
inductive Rs : Int → List (Int × List Int) → Prop
 | nil : Rs 5 []
 | cons (v : Int) (vs : List Int) (r : List (Int × List Int)) (h : Rs (v + 1) r) (h1 : 1 ≤ v) (h4 : v ≤ 4) : Rs v ((v,vs) :: r)
def Agr (w : Int) (x y : En) : Prop:=∀ u,1 ≤ u → u < w → u ≤ 4 → valF u x = valF u y
theorem Agr.all {x y : En} (h : Agr 5 x y) : x = y:=by
 have h1:=h 1 (by decide) (by decide) (by decide)
 have h2:=h 2 (by decide) (by decide) (by decide)
 have h3:=h 3 (by decide) (by decide) (by decide)
 have h4:=h 4 (by decide) (by decide) (by decide)
 cases x; cases y
 simp [valF] at h1 h2 h3 h4
 subst h1 h2 h3 h4; rfl
theorem Agr.set {x y : En} {v : Int} (hv : 1 ≤ v ∧ v ≤ 4) (h : Agr v x y) (n : Int) : Agr (v + 1) (setE x v n) (setE y v n):=fun u h1 h2 h3=>by
 rw [val_set hv ⟨h1,h3⟩,val_set hv ⟨h1,h3⟩]
 split
 ·rfl
 ·exact h u h1 (by omega) h3
theorem Agr.trans {w : Int} {x y z : En} (h : Agr w x y) (h' : Agr w y z) : Agr w x z:=fun u h1 h2 h3=>(h u h1 h2 h3).trans (h' u h1 h2 h3)
theorem Agr.ref (w : Int) (x : En) : Agr w x x:=fun _ _ _ _=>rfl
theorem Agr.put {x : En} {v : Int} (hv : 1 ≤ v ∧ v ≤ 4) (n : Int) : Agr v x (setE x v n):=fun u h1 h2 h3=>by
 rw [val_set hv ⟨h1,h3⟩,if_neg (by omega)]
theorem Agr.le {w w' : Int} {x y : En} (h : Agr w x y) (hw : w' ≤ w) : Agr w' x y:=fun u h1 h2 h3=>h u h1 (by omega) h3
theorem fin_agr {w : Int} {r : List (Int × List Int)} (h : Rs w r) : ∀ e,Agr w e (fin r e):=by
 induction h with
 | nil=>exact fun e=>.ref _ _
 | cons v vs r hr h1 h4 ih =>
  intro e
  rw [fin]
  generalize vs.reverse = ns
  induction ns generalizing e with
  | nil=>exact .ref _ _
  | cons n ns ih2 =>
   rw [List.foldl_cons]
   exact (Agr.put ⟨h1,h4⟩ n).trans (((ih _).le (by omega)).trans (ih2 _))
theorem bldV_agr {sub : En → List Nd → List Nd × Nat} {v : Int} (hv : 1 ≤ v ∧ v ≤ 4) (hs : ∀ x y F,Agr (v + 1) x y → sub x F = sub y F) {x y : En} (h : Agr v x y) : ∀ (ns : List Int) (F : List Nd) (s : Option (Nat × Nat × Int)),bldV sub v x ns F s = bldV sub v y ns F s
 | [],F,none=>rfl
 | [],F,some s=>rfl
 | n :: ns,F,none=>by
  rw [bldV,bldV,hs _ _ F (h.set hv n)]
  exact bldV_agr hv hs h ns _ _
 | n :: ns,F,some (t,f,m)=>by
  rw [bldV,bldV,hs _ _ F (h.set hv n)]
  split
  ·exact bldV_agr hv hs h ns _ _
  ·exact bldV_agr hv hs h ns _ _
theorem bld_agr (g : En → List Int) {w : Int} {r : List (Int × List Int)} (h : Rs w r) : ∀ x y F,Agr w x y → bld g r x F = bld g r y F:=by
 induction h with
 | nil=>intro x y F h; rw [h.all]
 | cons v vs r hr h1 h4 ih=>exact fun x y F h=>bldV_agr ⟨h1,h4⟩ ih h _ _ _
structure BS where
 F : List Nd
 s : Option (Nat × Nat × Int)
 e : En
def bst (g : En → List Int) (r : List (Int × List Int)) (v : Int) (o : BS) (n : Int) : BS :=
 match o.s with
 | none=>⟨(bld g r (setE o.e v n) o.F).1,some ((bld g r (setE o.e v n) o.F).2,(bld g r (setE o.e v n) o.F).2,n),fin r (setE o.e v n)⟩
 | some (t,f,m) =>
  if (bld g r (setE o.e v n) o.F).2 = f then ⟨(bld g r (setE o.e v n) o.F).1,some (t,f,n),fin r (setE o.e v n)⟩
  else ⟨(put (bld g r (setE o.e v n) o.F).1 ⟨v,m,t,(bld g r (setE o.e v n) o.F).2,[]⟩).1,some ((put (bld g r (setE o.e v n) o.F).1 ⟨v,m,t,(bld g r (setE o.e v n) o.F).2,[]⟩).2,(bld g r (setE o.e v n) o.F).2,n),fin r (setE o.e v n)⟩
def BS.res (o : BS) : Nat:=match o.s with
 | none=>0
 | some q=>q.1
theorem bst_e (g : En → List Int) (r : List (Int × List Int)) (v : Int) (o : BS) (n : Int) : (bst g r v o n).e = fin r (setE o.e v n):=by
 unfold bst
 split
 ·rfl
 ·split <;> rfl
theorem bst_fold (g : En → List Int) {r : List (Int × List Int)} {v : Int} (hr : Rs (v + 1) r) (hv : 1 ≤ v ∧ v ≤ 4) : ∀ (ns : List Int) (o : BS) (x : En),Agr v x o.e → bldV (bld g r) v x ns o.F o.s = ((ns.foldl (bst g r v) o).F,(ns.foldl (bst g r v) o).res) ∧ (ns.foldl (bst g r v) o).e = ns.foldl (fun e n=>fin r (setE e v n)) o.e
 | [],⟨F,none,e⟩,x,h=>⟨rfl,rfl⟩
 | [],⟨F,some (t,f,m),e⟩,x,h=>⟨rfl,rfl⟩
 | n :: ns,⟨F,s,e⟩,x,h=>by
  have hb:=bld_agr g hr _ _ F (h.set hv n)
  have h2 : Agr v x (bst g r v ⟨F,s,e⟩ n).e:=by
   rw [bst_e]
   exact (h.trans (.put hv n)).trans ((fin_agr hr _).le (by omega))
  have ih:=bst_fold g hr hv ns (bst g r v ⟨F,s,e⟩ n) x h2
  refine ⟨?_,?_⟩
  ·rw [List.foldl_cons,← ih.1]
   match s with
   | none=>rw [bldV,hb]; rfl
   | some (t,f,m) =>
    rw [bldV]
    simp only [hb]
    unfold bst
    simp only
    split <;> rfl
  ·rw [List.foldl_cons,ih.2,bst_e,List.foldl_cons]
theorem bld_fold (g : En → List Int) {r : List (Int × List Int)} {v : Int} (hr : Rs (v + 1) r) (hv : 1 ≤ v ∧ v ≤ 4) (vs : List Int) (e : En) (F : List Nd) :
  bld g ((v,vs) :: r) e F = ((vs.reverse.foldl (bst g r v) ⟨F,none,e⟩).F,(vs.reverse.foldl (bst g r v) ⟨F,none,e⟩).res) ∧ fin ((v,vs) :: r) e = (vs.reverse.foldl (bst g r v) ⟨F,none,e⟩).e :=
 ⟨by rw [bld]; exact (bst_fold g hr hv _ ⟨F,none,e⟩ e (.ref _ _)).1,by rw [(bst_fold g hr hv _ ⟨F,none,e⟩ e (.ref _ _)).2]; rfl⟩
def KyF (F : List Nd) : Prop:=∀ y ∈ F,KyOk y
theorem put_ky {F : List Nd} (h : KyF F) {x : Nd} (hx : KyOk x) : KyF (put F x).1:=by
 unfold put
 simp only
 split
 ·exact h
 ·intro y hy
  rcases List.mem_append.1 hy with hy | hy
  ·exact h y hy
  ·rw [List.mem_singleton.1 hy]; exact hx
theorem ky_in (v m : Int) (t p : Nat) : KyOk ⟨v,m,t,p,[]⟩:=⟨fun c hc=>by cases hc⟩
theorem bldV_ky {sub : En → List Nd → List Nd × Nat} (hs : ∀ x F,KyF F → KyF (sub x F).1) (v : Int) (x : En) : ∀ (ns : List Int) (F : List Nd) (s : Option (Nat × Nat × Int)),KyF F → KyF (bldV sub v x ns F s).1
 | [],F,none,h=>h
 | [],F,some s,h=>h
 | n :: ns,F,none,h=>by rw [bldV]; exact bldV_ky hs v x ns _ _ (hs _ _ h)
 | n :: ns,F,some (t,f,m),h=>by
  rw [bldV]
  split
  ·exact bldV_ky hs v x ns _ _ (hs _ _ h)
  ·exact bldV_ky hs v x ns _ _ (put_ky (hs _ _ h) (ky_in _ _ _ _))
theorem bld_ky {g : En → List Int} (hg : ∀ x,ByOk (g x)) : ∀ (r : List (Int × List Int)) (x : En) (F : List Nd),KyF F → KyF (bld g r x F).1
 | [],x,F,h=>put_ky h ⟨fun c hc=>by have:=(hg x).rg c hc; omega⟩
 | (v,vs) :: r,x,F,h=>bldV_ky (bld_ky hg r) v x _ F none h
theorem bst_ky {g : En → List Int} (hg : ∀ x,ByOk (g x)) (r : List (Int × List Int)) (v : Int) (o : BS) (n : Int) (h : KyF o.F) : KyF (bst g r v o n).F:=by
 have:=bld_ky hg r (setE o.e v n) o.F h
 unfold bst
 split
 ·exact this
 ·split
  ·exact this
  ·exact put_ky this (ky_in _ _ _ _)
theorem bst_len (g : En → List Int) (r : List (Int × List Int)) (v : Int) (o : BS) (n : Int) : (bst g r v o n).F.length ≤ o.F.length + (bndB r + 1):=by
 have:=bld_len g r (setE o.e v n) o.F
 unfold bst
 split
 ·simp only; omega
 ·split
  ·simp only; omega
  ·rename_i t f m _ _
   have h2:=put_len (bld g r (setE o.e v n) o.F).1 ⟨v,m,t,(bld g r (setE o.e v n) o.F).2,[]⟩
   simp only; omega
def bsC (g : En → List Int) (r : List (Int × List Int)) (v : Int) (vs : List Int) (F : List Nd) (e : En) (c : Nat) : BS:=(vs.reverse.take c).foldl (bst g r v) ⟨F,none,e⟩
theorem bsC_next {g : En → List Int} {r : List (Int × List Int)} {v : Int} {vs : List Int} {F : List Nd} {e : En} {c : Nat} (h : c < vs.length) : bsC g r v vs F e (c + 1) = bst g r v (bsC g r v vs F e c) (vs.getD (vs.length - 1 - c) 0):=by
 unfold bsC
 have h' : c < vs.reverse.length:=by rw [List.length_reverse]; exact h
 rw [take_next h',List.foldl_append,List.foldl_cons,List.foldl_nil,List.getElem_reverse,getD_at (by omega)]
theorem bsC_len (g : En → List Int) (r : List (Int × List Int)) (v : Int) (vs : List Int) (F : List Nd) (e : En) : ∀ c,c ≤ vs.length → (bsC g r v vs F e c).F.length ≤ F.length + c * (bndB r + 1)
 | 0,_=>by show F.length ≤ _; omega
 | c + 1,h=>by
  rw [bsC_next (by omega),Nat.succ_mul]
  have h1:=bsC_len g r v vs F e c (by omega)
  have h2:=bst_len g r v (bsC g r v vs F e c) (vs.getD (vs.length - 1 - c) 0)
  omega
theorem bsC_ky {g : En → List Int} (hg : ∀ x,ByOk (g x)) (r : List (Int × List Int)) (v : Int) (vs : List Int) (F : List Nd) (e : En) (hF : KyF F) : ∀ c,c ≤ vs.length → KyF (bsC g r v vs F e c).F
 | 0,_=>hF
 | c + 1,h=>by rw [bsC_next (by omega)]; exact bst_ky hg r v _ _ (bsC_ky hg r v vs F e hF c (by omega))
theorem bsC_some (g : En → List Int) (r : List (Int × List Int)) (v : Int) (vs : List Int) (F : List Nd) (e : En) (c : Nat) (h : c < vs.length) : ∃ t f,(bsC g r v vs F e (c + 1)).s = some (t,f,vs.getD (vs.length - 1 - c) 0):=by
 rw [bsC_next h]
 unfold bst
 split
 ·exact ⟨_,_,rfl⟩
 ·split
  ·exact ⟨_,_,rfl⟩
  ·exact ⟨_,_,rfl⟩
def cCaps : List V:=[.ptr 0 0,.ptr 6 0,.ptr 5 0,.ptr 2 0,.ptr 7 0,.ptr 8 0]
structure Vs4 where
 (s : List Sp) (a b c d : List Int)
def bS (q : Vs4) (F : List Nd) (e : En) : List Blk:=[.cells [.d (sps q.s)],.cells [.nil],.cells [.nil,.d (ins q.a),.d (ins q.b),.d (ins q.c),.d (ins q.d)],.map (esF F),.cells [.own 9 F.length 0 F.length,.map 3],.cells [.ptr 4 0],.cells (e.cells.map .d),.cells [.d .nilptr,.ptr 6 0,.ptr 6 1,.ptr 6 2,.ptr 6 3],.cells [.fn 23 cCaps],.row F.length 5 (rdN F)]
theorem bS_bel' (n : Nat) (h : 10 ≤ n) (q : Vs4) (F : List Nd) (e : En) : belB n (bS q F e) = true:=by
 have h1 : ∀ k,k < 10 → decide (k < n) = true:=fun k hk=>zw19 (by omega)
 unfold bS cCaps
 simp only [belB,Blk.bel,V.belL,V.bel,rdN_bel,esF_bel,V.belL_d,h1 0 (by decide),h1 2 (by decide),h1 3 (by decide),h1 4 (by decide),h1 5 (by decide),h1 6 (by decide),h1 7 (by decide),h1 8 (by decide),h1 9 (by decide),Bool.and_true]
theorem bS_bel (q : Vs4) (F : List Nd) (e : En) : belB 10 (bS q F e) = true:=bS_bel' 10 (zw21 10) q F e
theorem rnR_rdN (ρ : Nat → Nat) (F : List Nd) : rnR ρ (rdN F) = rdN F:=by
 unfold rdN
 induction F with
 | nil=>rfl
 | cons a l ih=>simp only [List.map_cons,rnR,V.rnL_d]; rw [ih]
theorem rnM_esF (ρ : Nat → Nat) (F : List Nd) : rnM ρ (esF F) = esF F:=by
 unfold esF
 induction List.range F.length with
 | nil=>rfl
 | cons i r ih=>simp only [List.map_cons,rnM,keyV',V.rnL,V.rn]; exact congrArg _ ih
theorem fS_part (q : Vs4) (F : List Nd) (e : En) (E : List Blk) : Part [4,9,3] (fS F) (bS q F e ++ E):=by
 refine ⟨by decide,fun b hb=>?_,rfl,fun b c hc=>?_,fS_bel F,rfl⟩
 ·rw [List.length_append]
  show b < 10 + _
  simp at hb; omega
 ·match b,hc with
  | 0,hc=>cases hc; rfl
  | 1,hc =>
   cases hc
   show some (Blk.row F.length 5 (rdN F)) = some (Blk.row F.length 5 (rnR _ (rdN F)))
   rw [rnR_rdN]
  | 2,hc =>
   cases hc
   show some (Blk.map (esF F)) = some (Blk.map (rnM _ (esF F)))
   rw [rnM_esF]
  | b + 3,hc=>simp at hc
theorem fS_back (q : Vs4) (F G : List Nd) (e : En) (E : List Blk) : putB [4,9,3] (rnB (rnI [4,9,3] (bS q F e ++ E).length) (fS G)) (bS q F e ++ E) = bS q G e ++ E:=by
 have h : rnB (rnI [4,9,3] (bS q F e ++ E).length) (fS G) = [.cells [.own 9 G.length 0 G.length,.map 3],.row G.length 5 (rdN G),.map (esF G)]:=by
  show [Blk.cells [.own 9 G.length 0 G.length,.map 3],.row G.length 5 (rnR _ (rdN G)),.map (rnM _ (esF G))] = _
  rw [rnR_rdN,rnM_esF]
 rw [h]
 simp only [putB,bS,List.cons_append,List.nil_append,List.set_cons_succ,List.set_cons_zero,List.append_nil]
theorem putS_c (q : Vs4) (F : List Nd) (e : En) (E : List Blk) (x : Nd) (hF : KyF F) (hx : KyOk x) (hl : x.by_.length ≤ 1073741824) (hFl : F.length ≤ 1000000) {k : V → List Blk → Prop} (h : k (I (put F x).2) (bS q (put F x).1 e ++ E)) :
  CallP C 25 [.ptr 4 0,ndV x] (bS q F e ++ E) k:=by
 refine CallP.embed [4,9,3] (put_c F x hF hx hl hFl) (fS_part q F e E) rfl ?_
 rintro X L1 ⟨rfl,rfl⟩
 rw [fS_back]
 exact h
end Go.Proofs.YtclmjkhdmhlijaaGreatDoor
namespace Go.Proofs.YtclmjkhdmhlijaaGreatDoor
open Go.Tidy
variable {L : List Blk} {k : V → List Blk → Prop}
theorem CallP.cnv {X : Ctx} {f : FuncId} {args args' : List V} {L L' : List Blk} {k : V → List Blk → Prop} (ha : args = args') (hL : L = L') (h : CallP X f args' L' k) : CallP X f args L k:=by subst ha hL; exact h
theorem dfB_of {A : List Blk} (h : ∀ (b : Nat) (l : LoopR),A[b]? = some (Blk.loop l) → A[l.df]? = some Blk.defr) : dfB A = true:=by
 unfold dfB
 refine List.all_eq_true.2 fun x hx=>?_
 obtain ⟨b,hb⟩:=List.mem_iff_getElem?.1 hx
 split
 ·rename_i l; rw [h b l hb]
 ·rfl
theorem YieldP.roundE {C' : Ctx} (hC : C'.OK) (cut : Code → Bool) {b : Nat} {args : List V} {L : List Blk} {k : V → List Blk → Prop} {lr : LoopR} {fr : List (Nat × V)} {n : Nat} {ps : List Tmp} {assign body : Code} {df : Nat} (hlr : LoopR.mk .ready none fr n ps assign body df = lr) (hL : L[b]? = some (.loop lr))
  (hb : (Nat.beq ps.length args.length && ps.all (fun p=>Nat.blt p n)) = true)
  (h : vc C' cut L.length assign ⟨zipF ps args fr,n,L,[],some b⟩ fun e σ=>match e with
   | .normal=>match σ.L[b]? with
    | some (.loop r1)=>match r1.st with
     | .ready=>setB σ.L b (.loop { r1 with st:=.busy }) fun L1=>vc C' cut L.length body { σ with L:=L1 } (vRoundEnd b L.length k)
     | _=>False
    | _=>False
   | _=>False) (hpn : C'.pn ≤ L.length) : YieldP C' b args L k:=by
 refine YieldP.round hC cut ?_ hpn
 subst hlr
 unfold vRound
 rw [hL]
 simp only [hb,cond_true]
 exact h
theorem YieldP.conv' {X : Ctx} {b : Nat} {args : List V} {L L' : List Blk} {k : V → List Blk → Prop} (hL : L = L') (h : YieldP X b args L' k) : YieldP X b args L k:=by subst hL; exact h
def BCall (q : Vs4) (v : Int) (r : List (Int × List Int)) : Prop:=∀ F e,KyF F → F.length + bndB r ≤ 100000 → CallP C 23 (I v :: cCaps) (bS q F e) fun X L'=>X = I (bld (directB q.s) r e F).2 ∧ L' = bS q (bld (directB q.s) r e F).1 (fin r e)
theorem BCall.sub {q : Vs4} {v : Int} {r : List (Int × List Int)} (h : BCall q v r) {F : List Nd} {e : En} (hF : KyF F) (hl : F.length + bndB r ≤ 100000) {E : List Blk} {k : V → List Blk → Prop} (hk : k (I (bld (directB q.s) r e F).2) (bS q (bld (directB q.s) r e F).1 (fin r e) ++ E)) :
  CallP C 23 (I v :: cCaps) (bS q F e ++ E) k :=
 CallP.pre (h F e hF hl) (bS_bel q F e) rfl rfl fun X L1 hX=>by
  obtain ⟨rfl,rfl⟩:=hX
  exact ⟨rfl,bS_bel q _ _,rfl,hk⟩
theorem leaf_c (q : Vs4) (hl : LSs q.s) (ho : orderF q.s = 0) (hg : ∀ x,ByOk (directB q.s x)) : BCall q 5 []:=by
 intro F e hF hn
 have h5 : (4 : Int) < 5:=by decide
 have hd : ∀ {L : List Blk} {k : V → List Blk → Prop},k (.tup [.d (ins (directB q.s e)),I (directE q.s e)]) L → CallP C 24 [.d (sps q.s),enV e] L k:=fun h=>Direct_c q.s e hl (fun h=>order_dsp hl h) h
 have hb:=(hg e).len
 have hky : KyOk ⟨0,0,0,0,directB q.s e⟩:=⟨fun c hc=>by have:=(hg e).rg c hc; omega⟩
 have hput:=fun (E : List Blk) (k : V → List Blk → Prop) h=>putS_c q F e E ⟨0,0,0,0,directB q.s e⟩ hF hky (by show (directB q.s e).length ≤ _; omega) (by omega) (k:=k) h
 refine callP_of C_ok Tryz.func23 rfl rfl (n:=_) rfl (zw18 rfl) (rs:=_) rfl ?_
 repeat' ((conv=>whnf); first|refine zw8 (zw19 h5) ?_|refine hd ?_|refine zw0 ?_|refine zw1 ?_|refine zw2 (fun h=>?_) (fun h=>?_)|refine zw3 ?_|refine zw4 (fun h=>?_) (fun h=>?_)|refine zw5 _ rfl ?_|refine zw6 rfl ?_)
 conv=>whnf
 refine CallP.cnv (L':=bS q F e ++ [.cells [I 5]]) (args':=[.ptr 4 0,ndV ⟨0,0,0,0,directB q.s e⟩]) rfl rfl ?_
 refine hput _ _ ?_
 repeat' ((conv=>whnf); first|refine zw0 ?_|refine zw1 ?_|refine zw2 (fun h=>?_) (fun h=>?_)|refine zw3 ?_|refine zw4 (fun h=>?_) (fun h=>?_)|refine zw5 _ rfl ?_|refine zw6 rfl ?_)
 conv=>whnf
 exact FinP.drop (n:=10) rfl (zw21 10) rfl (bS_bel q _ _) ⟨rfl,rfl⟩
theorem belB_app {n : Nat} : ∀ {A B : List Blk},belB n A = true → belB n B = true → belB n (A ++ B) = true
 | [],B,_,h=>h
 | a :: A,B,h,h'=>by
  simp only [List.cons_append,belB,Bool.and_eq_true] at h ⊢
  exact ⟨h.1,belB_app h.2 h'⟩
theorem bkX_len (vs : List Int) : (bkX vs).length = vs.length:=by unfold bkX; simp
theorem bkX_at {vs : List Int} {c : Nat} (h : c < (bkX vs).length) : (bkX vs)[c] = [I ((vs.length : Int) - 1 - c),I (vs.getD (vs.length - 1 - c) 0)]:=by
 simp only [bkX,List.getElem_map,List.getElem_range]
def bE (v : Int) (lr : LoopR) (o : Option (Nat × Nat × Int)) : List Blk:=[.cells [I v],.cells [I (match o with | none=>-1 | some s=>(s.1 : Int))],.cells [I (match o with | none=>-1 | some s=>(s.2.1 : Int))],.defr,.loop lr]
def bM (q : Vs4) (v : Int) (lr : LoopR) (o : BS) : List Blk:=bS q o.F o.e ++ bE v lr o.s
theorem step1_c (q : Vs4) (hg : ∀ x,ByOk (directB q.s x)) {r : List (Int × List Int)} (hr : Rs (1 + 1) r) (hvl : q.a.length ≤ 10000) (hne : 0 < q.a.length) (hih : BCall q (1 + 1) r) : BCall q 1 ((1,q.a) :: r):=by
 intro F e hF hn
 have hv : (1 : Int) ≤ 1 ∧ (1 : Int) ≤ 4:=by decide
 obtain ⟨f1,f2⟩:=bld_fold (directB q.s) hr hv q.a e F
 rw [f1,f2]
 have hall : q.a.reverse.foldl (bst (directB q.s) r 1) ⟨F,none,e⟩ = bsC (directB q.s) r 1 q.a F e q.a.length:=by
  unfold bsC; rw [List.take_of_length_le (by simp)]
 rw [hall]
 have hbnd : bndB ((1,q.a) :: r) = q.a.length * (bndB r + 1):=rfl
 rw [hbnd] at hn
 have hky:=bsC_ky hg r 1 q.a F e hF
 have hln : ∀ c,c < q.a.length → (bsC (directB q.s) r 1 q.a F e c).F.length + bndB r + 1 ≤ 100000:=fun c hc=>by
  have h1:=bsC_len (directB q.s) r 1 q.a F e c (by omega)
  have h2 : (c + 1) * (bndB r + 1) ≤ q.a.length * (bndB r + 1):=Nat.mul_le_mul_right _ (by omega)
  rw [Nat.succ_mul] at h2
  omega
 have hsome:=bsC_some (directB q.s) r 1 q.a F e
 have hnext:=fun c h=>bsC_next (g:=directB q.s) (r:=r) (v:=1) (vs:=q.a) (F:=F) (e:=e) (c:=c) h
 have h0 : bsC (directB q.s) r 1 q.a F e 0 = ⟨F,none,e⟩:=rfl
 generalize bsC (directB q.s) r 1 q.a F e = bs at *
 clear hall f1 f2 hbnd
 have h4 : ¬ (4 : Int) < 1:=by decide
 refine callP_of C_ok Tryz.func23 rfl rfl (n:=_) rfl (zw18 rfl) (rs:=_) rfl ?_
 repeat' ((conv=>whnf); first|refine zw9 (zw20 h4) ?_|refine IdxN.intro 1 rfl (by decide) ?_|refine backward_c _ ?_|refine zw0 ?_|refine zw1 ?_|refine zw2 (fun h=>?_) (fun h=>?_)|refine zw3 ?_|refine zw4 (fun h=>?_) (fun h=>?_)|refine zw5 _ rfl ?_|refine zw6 rfl ?_)
 conv=>whnf
 refine CallP.cnv (args':=.yld 14 :: [D.rptr [ins q.a]].map .d) (L':=bS q F e ++ [.cells [I 1],.cells [I (-1)],.cells [I (-1)],.defr,.loop _]) rfl rfl ?_
 generalize hlr : LoopR.mk _ _ _ _ _ _ _ _ = lr
 have hlrd : lr.df = 13:=by rw [← hlr]; rfl
 have hlrs : lr.st = .ready:=by rw [← hlr]
 have hlrp : lr.pend = none:=by rw [← hlr]
 have hback : (⟨.ready,none,lr.fr,lr.n,lr.ps,lr.assign,lr.body,lr.df⟩ : LoopR) = lr:=by rw [← hlr]
 have hblkb : (Blk.loop lr).bel 15 = true:=by rw [← hlr]; rfl
 have hMb : ∀ c,belB 15 (bM q 1 lr c) = true:=fun c=>by
  refine belB_app (bS_bel' 15 (by decide) q _ _) ?_
  show (true && (true && (true && (true && ((Blk.loop lr).bel 15 && true))))) = true
  rw [hblkb]; rfl
 have hMd : ∀ c,dfB (bM q 1 lr c) = true:=fun c=>by
  refine dfB_of fun j l' hc=>?_
  match j,hc with
  | 0,hc | 1,hc | 2,hc | 3,hc | 4,hc | 5,hc | 6,hc | 7,hc | 8,hc | 9,hc | 10,hc | 11,hc | 12,hc | 13,hc=>cases hc
  | 14,hc =>
   have : lr = l':=by cases hc; rfl
   rw [← this,hlrd]; rfl
  | j + 15,hc=>cases hc
 refine CallP.cnv (L':=bM q 1 lr (bs 0)) rfl (by rw [h0]; rfl) ?_
 refine backward1_it q.a (by omega) 14 15 (fun c=>c ≤ q.a.length) (fun c=>bM q 1 lr (bs c)) _ (fun c=>rfl) (fun c=>hMb _) (fun c=>hMd _) (by decide) ?_ ?_ (zw22 _)
 ·intro c hc hcP
  rw [bkX_at]
  rw [bkX_len] at hc
  have hw : IntKind.i64.wrap ((q.a.length : Int) - 1 - c + 1) = ((q.a.length - c : Nat) : Int):=by rw [wrap_in (by omega)]; omega
  have hnx:=hnext c hc
  have hk:=hky c hcP
  have hl1:=hln c hc
  have hsm : ∀ t f m,(bs c).s = some (t,f,m) → (q.a.map fun n=>[DI n])[q.a.length - c]? = some [DI m]:=fun t f m h=>by
   cases c with
   | zero=>rw [h0] at h; cases h
   | succ c =>
    obtain ⟨t',f',h'⟩:=hsome c (by omega)
    rw [h'] at h
    cases h
    rw [show q.a.length - (c + 1) = q.a.length - 1 - c by omega,List.getElem?_map,List.getElem?_eq_getElem (show q.a.length - 1 - c < q.a.length by omega),getD_at (show q.a.length - 1 - c < q.a.length by omega)]; rfl
  have hP' : c + 1 ≤ q.a.length:=hc
  generalize q.a.getD (q.a.length - 1 - c) 0 = m at hnx ⊢
  generalize bs (c + 1) = o' at hnx ⊢
  generalize bs c = o at *
  obtain ⟨F0,s0,e0⟩:=o
  have hcall:=fun (E : List Blk) (k : V → List Blk → Prop) h=>hih.sub (F:=F0) (e:=setE e0 1 m) hk (by show F0.length + _ ≤ _; simp only at hl1; omega) (E:=E) (k:=k) h
  have hky1:=bld_ky hg r (setE e0 1 m) F0 hk
  have hln1:=bld_len (directB q.s) r (setE e0 1 m) F0
  cases s0 with
  | none =>
   unfold bst at hnx
   simp only at hnx
   generalize bld (directB q.s) r (setE e0 1 m) F0 = P at *
   obtain ⟨F1,p⟩:=P
   generalize fin r (setE e0 1 m) = e1 at *
   simp only at hnx hky1 hln1 hcall hsm hl1
   subst hnx
   have hlt : (-1 : Int) < 0:=by decide
   refine YieldP.conv' (L':=bS q F0 e0 ++ bE 1 lr none) rfl ?_
   refine YieldP.roundE C_ok (fun _=>false) hlr rfl rfl ?_ (zw22 _)
   repeat' ((conv=>whnf); first|refine IdxN.intro 1 rfl (by decide) ?_|simp only [hlrs,setB_eq]|refine zw0 ?_|refine zw1 ?_|refine zw2 (fun h=>?_) (fun h=>?_)|refine zw3 ?_|refine zw4 (fun h=>?_) (fun h=>?_)|refine zw5 _ rfl ?_|refine zw6 rfl ?_)
   conv=>whnf
   refine CallP.cnv (args':=I (1 + 1) :: cCaps) (L':=bS q F0 (setE e0 1 m) ++ bE 1 { lr with st:=.busy } none) rfl rfl ?_
   refine hcall _ _ ?_
   repeat' ((conv=>whnf); first|refine zw8 (zw19 hlt) ?_|refine zw8 (zw19 (show (p : Int) = (p : Int) from rfl)) ?_|refine zw0 ?_|refine zw1 ?_|refine zw2 (fun h=>?_) (fun h=>?_)|refine zw3 ?_|refine zw4 (fun h=>?_) (fun h=>?_)|refine zw5 _ rfl ?_|refine zw6 rfl ?_)
   conv=>whnf
   refine zw15 (n:=15) (L':=bM q 1 lr ⟨F1,some (p,p,m),e1⟩) ?_ (zw21 _) rfl (hMb _) (.inl ⟨rfl,rfl,hP'⟩)
   exact congrArg (fun y : LoopR=>bS q F1 e1 ++ [.cells [I 1],.cells [I p],.cells [I p],.defr,.loop y]) hback
  | some s0 =>
   obtain ⟨t,f,mm⟩:=s0
   have r1:=hsm t f mm rfl
   unfold bst at hnx
   simp only at hnx
   generalize bld (directB q.s) r (setE e0 1 m) F0 = P at *
   obtain ⟨F1,p⟩:=P
   generalize fin r (setE e0 1 m) = e1 at *
   simp only at hnx hky1 hln1 hcall hl1
   have hlt : ¬ (t : Int) < 0:=by omega
   refine YieldP.conv' (L':=bS q F0 e0 ++ bE 1 lr (some (t,f,mm))) rfl ?_
   by_cases hpf : p = f
   ·rw [if_pos hpf] at hnx
    have hpf' : (p : Int) = (f : Int):=congrArg Nat.cast hpf
    subst hnx
    refine YieldP.roundE C_ok (fun _=>false) hlr rfl rfl ?_ (zw22 _)
    repeat' ((conv=>whnf); first|refine IdxN.intro 1 rfl (by decide) ?_|simp only [hlrs,setB_eq]|refine zw0 ?_|refine zw1 ?_|refine zw2 (fun h=>?_) (fun h=>?_)|refine zw3 ?_|refine zw4 (fun h=>?_) (fun h=>?_)|refine zw5 _ rfl ?_|refine zw6 rfl ?_)
    conv=>whnf
    refine CallP.cnv (args':=I (1 + 1) :: cCaps) (L':=bS q F0 (setE e0 1 m) ++ bE 1 { lr with st:=.busy } (some (t,f,mm))) rfl rfl ?_
    refine hcall _ _ ?_
    repeat' ((conv=>whnf); first|refine zw9 (zw20 hlt) ?_|refine zw8 (zw19 hpf') ?_|refine zw0 ?_|refine zw1 ?_|refine zw2 (fun h=>?_) (fun h=>?_)|refine zw3 ?_|refine zw4 (fun h=>?_) (fun h=>?_)|refine zw5 _ rfl ?_|refine zw6 rfl ?_)
    conv=>whnf
    refine zw15 (n:=15) (L':=bM q 1 lr ⟨F1,some (t,f,m),e1⟩) ?_ (zw21 _) rfl (hMb _) (.inl ⟨rfl,rfl,hP'⟩)
    exact congrArg (fun y : LoopR=>bS q F1 e1 ++ [.cells [I 1],.cells [I t],.cells [I f],.defr,.loop y]) hback
   ·rw [if_neg hpf] at hnx
    have hpf' : ¬ (p : Int) = (f : Int):=fun hn=>hpf (by omega)
    subst hnx
    have hput:=fun (E : List Blk) (k : V → List Blk → Prop) h=>putS_c q F1 e1 E ⟨1,mm,t,p,[]⟩ hky1 (ky_in _ _ _ _) (zw22 _) (by omega) (k:=k) h
    have hcp : CallP C 25 [.ptr 4 0,.agg [I 1,I mm,I t,I p,.nil]] (bS q F1 e1 ++ bE 1 { lr with st:=.busy } (some (t,f,mm))) fun x N=>x = I (put F1 ⟨1,mm,t,p,[]⟩).2 ∧ N = bS q (put F1 ⟨1,mm,t,p,[]⟩).1 e1 ++ bE 1 { lr with st:=.busy } (some (t,f,mm)) :=
     CallP.freeze (dargs:=[.ptr 4 0,ndV ⟨1,mm,t,p,[]⟩]) [] rfl rfl (.keep (.cv (.aggL (.cons (.d _) (.cons (.d _) (.cons (.d _) (.cons (.d _) (.cons .nil .nil)))))) .nil)) (hput _ _ ⟨rfl,rfl⟩)
    clear hput
    refine YieldP.roundE C_ok (fun _=>false) hlr rfl rfl ?_ (zw22 _)
    repeat' ((conv=>whnf); first|refine IdxN.intro 1 rfl (by decide) ?_|simp only [hlrs,setB_eq]|refine zw0 ?_|refine zw1 ?_|refine zw2 (fun h=>?_) (fun h=>?_)|refine zw3 ?_|refine zw4 (fun h=>?_) (fun h=>?_)|refine zw5 _ rfl ?_|refine zw6 rfl ?_)
    conv=>whnf
    refine CallP.cnv (args':=I (1 + 1) :: cCaps) (L':=bS q F0 (setE e0 1 m) ++ bE 1 { lr with st:=.busy } (some (t,f,mm))) rfl rfl ?_
    refine hcall _ _ ?_
    repeat' ((conv=>whnf); first|refine zw9 (zw20 hlt) ?_|refine zw9 (zw20 hpf') ?_|refine zw0 ?_|refine zw1 ?_|refine zw2 (fun h=>?_) (fun h=>?_)|refine zw3 ?_|refine zw4 (fun h=>?_) (fun h=>?_)|refine zw5 _ rfl ?_|refine zw6 rfl ?_)
    conv=>whnf
    refine DrawP.por mixed [12] [[(0,0),(1,0),(2,0),(3,0),(4,0),(5,0),(6,0),(7,0),(8,0),(9,0),(10,0),(11,0),(12,2),(13,0),(14,0),(15,0)]] (by kernel_rfl) ?_
    all_goals
     repeat' ((conv=>whnf); first|refine IdxN.intro 1 rfl (by decide) ?_|refine zw10 (q.a.length - c) _ hw r1 ?_|refine zw13 (I (put F1 ⟨1,mm,t,p,[]⟩).2) (bS q (put F1 ⟨1,mm,t,p,[]⟩).1 e1 ++ bE 1 { lr with st:=.busy } (some (t,f,mm))) hcp ?_|refine zw0 ?_|refine zw1 ?_|refine zw2 (fun h=>?_) (fun h=>?_)|refine zw3 ?_|refine zw4 (fun h=>?_) (fun h=>?_)|refine zw5 _ rfl ?_|refine zw6 rfl ?_|refine zw7 mixed rfl ?_)
    all_goals conv=>whnf
    refine zw15 (n:=15) (L':=bM q 1 lr ⟨(put F1 ⟨1,mm,t,p,[]⟩).1,some ((put F1 ⟨1,mm,t,p,[]⟩).2,p,m),e1⟩) ?_ (zw21 _) rfl (hMb _) (.inl ⟨rfl,rfl,hP'⟩)
    exact congrArg (fun y : LoopR=>bS q (put F1 ⟨1,mm,t,p,[]⟩).1 e1 ++ [.cells [I 1],.cells [I (put F1 ⟨1,mm,t,p,[]⟩).2],.cells [I p],.defr,.loop y]) hback
 ·intro _
  have hres:=hsome (q.a.length - 1) (by omega)
  rw [show q.a.length - 1 + 1 = q.a.length by omega] at hres
  obtain ⟨t,f,hres⟩:=hres
  rw [bkX_len]
  generalize q.a.getD _ 0 = m at hres
  generalize bs q.a.length = o at *
  obtain ⟨F1,s1,e1⟩:=o
  simp only at hres
  subst hres
  repeat' ((conv=>whnf); first|refine zw0 ?_|refine zw1 ?_|refine zw2 (fun h=>?_) (fun h=>?_)|refine zw3 ?_|refine zw4 (fun h=>?_) (fun h=>?_)|refine zw5 _ rfl ?_|refine zw6 rfl ?_|refine zw7 mixed rfl ?_|simp only [hlrs,hlrp])
  conv=>whnf
  exact FinP.drop (n:=10) (L':=bS q F1 e1) rfl (zw21 _) rfl (bS_bel q _ _) ⟨rfl,rfl⟩
theorem step2_c (q : Vs4) (hg : ∀ x,ByOk (directB q.s x)) {r : List (Int × List Int)} (hr : Rs (2 + 1) r) (hvl : q.b.length ≤ 10000) (hne : 0 < q.b.length) (hih : BCall q (2 + 1) r) : BCall q 2 ((2,q.b) :: r):=by
 intro F e hF hn
 have hv : (1 : Int) ≤ 2 ∧ (2 : Int) ≤ 4:=by decide
 obtain ⟨f1,f2⟩:=bld_fold (directB q.s) hr hv q.b e F
 rw [f1,f2]
 have hall : q.b.reverse.foldl (bst (directB q.s) r 2) ⟨F,none,e⟩ = bsC (directB q.s) r 2 q.b F e q.b.length:=by
  unfold bsC; rw [List.take_of_length_le (by simp)]
 rw [hall]
 have hbnd : bndB ((2,q.b) :: r) = q.b.length * (bndB r + 1):=rfl
 rw [hbnd] at hn
 have hky:=bsC_ky hg r 2 q.b F e hF
 have hln : ∀ c,c < q.b.length → (bsC (directB q.s) r 2 q.b F e c).F.length + bndB r + 1 ≤ 100000:=fun c hc=>by
  have h1:=bsC_len (directB q.s) r 2 q.b F e c (by omega)
  have h2 : (c + 1) * (bndB r + 1) ≤ q.b.length * (bndB r + 1):=Nat.mul_le_mul_right _ (by omega)
  rw [Nat.succ_mul] at h2
  omega
 have hsome:=bsC_some (directB q.s) r 2 q.b F e
 have hnext:=fun c h=>bsC_next (g:=directB q.s) (r:=r) (v:=2) (vs:=q.b) (F:=F) (e:=e) (c:=c) h
 have h0 : bsC (directB q.s) r 2 q.b F e 0 = ⟨F,none,e⟩:=rfl
 generalize bsC (directB q.s) r 2 q.b F e = bs at *
 clear hall f1 f2 hbnd
 have h4 : ¬ (4 : Int) < 2:=by decide
 refine callP_of C_ok Tryz.func23 rfl rfl (n:=_) rfl (zw18 rfl) (rs:=_) rfl ?_
 repeat' ((conv=>whnf); first|refine zw9 (zw20 h4) ?_|refine IdxN.intro 2 rfl (by decide) ?_|refine backward_c _ ?_|refine zw0 ?_|refine zw1 ?_|refine zw2 (fun h=>?_) (fun h=>?_)|refine zw3 ?_|refine zw4 (fun h=>?_) (fun h=>?_)|refine zw5 _ rfl ?_|refine zw6 rfl ?_)
 conv=>whnf
 refine CallP.cnv (args':=.yld 14 :: [D.rptr [ins q.b]].map .d) (L':=bS q F e ++ [.cells [I 2],.cells [I (-1)],.cells [I (-1)],.defr,.loop _]) rfl rfl ?_
 generalize hlr : LoopR.mk _ _ _ _ _ _ _ _ = lr
 have hlrd : lr.df = 13:=by rw [← hlr]; rfl
 have hlrs : lr.st = .ready:=by rw [← hlr]
 have hlrp : lr.pend = none:=by rw [← hlr]
 have hback : (⟨.ready,none,lr.fr,lr.n,lr.ps,lr.assign,lr.body,lr.df⟩ : LoopR) = lr:=by rw [← hlr]
 have hblkb : (Blk.loop lr).bel 15 = true:=by rw [← hlr]; rfl
 have hMb : ∀ c,belB 15 (bM q 2 lr c) = true:=fun c=>by
  refine belB_app (bS_bel' 15 (by decide) q _ _) ?_
  show (true && (true && (true && (true && ((Blk.loop lr).bel 15 && true))))) = true
  rw [hblkb]; rfl
 have hMd : ∀ c,dfB (bM q 2 lr c) = true:=fun c=>by
  refine dfB_of fun j l' hc=>?_
  match j,hc with
  | 0,hc | 1,hc | 2,hc | 3,hc | 4,hc | 5,hc | 6,hc | 7,hc | 8,hc | 9,hc | 10,hc | 11,hc | 12,hc | 13,hc=>cases hc
  | 14,hc =>
   have : lr = l':=by cases hc; rfl
   rw [← this,hlrd]; rfl
  | j + 15,hc=>cases hc
 refine CallP.cnv (L':=bM q 2 lr (bs 0)) rfl (by rw [h0]; rfl) ?_
 refine backward1_it q.b (by omega) 14 15 (fun c=>c ≤ q.b.length) (fun c=>bM q 2 lr (bs c)) _ (fun c=>rfl) (fun c=>hMb _) (fun c=>hMd _) (by decide) ?_ ?_ (zw22 _)
 ·intro c hc hcP
  rw [bkX_at]
  rw [bkX_len] at hc
  have hw : IntKind.i64.wrap ((q.b.length : Int) - 1 - c + 1) = ((q.b.length - c : Nat) : Int):=by rw [wrap_in (by omega)]; omega
  have hnx:=hnext c hc
  have hk:=hky c hcP
  have hl1:=hln c hc
  have hsm : ∀ t f m,(bs c).s = some (t,f,m) → (q.b.map fun n=>[DI n])[q.b.length - c]? = some [DI m]:=fun t f m h=>by
   cases c with
   | zero=>rw [h0] at h; cases h
   | succ c =>
    obtain ⟨t',f',h'⟩:=hsome c (by omega)
    rw [h'] at h
    cases h
    rw [show q.b.length - (c + 1) = q.b.length - 1 - c by omega,List.getElem?_map,List.getElem?_eq_getElem (show q.b.length - 1 - c < q.b.length by omega),getD_at (show q.b.length - 1 - c < q.b.length by omega)]; rfl
  have hP' : c + 1 ≤ q.b.length:=hc
  generalize q.b.getD (q.b.length - 1 - c) 0 = m at hnx ⊢
  generalize bs (c + 1) = o' at hnx ⊢
  generalize bs c = o at *
  obtain ⟨F0,s0,e0⟩:=o
  have hcall:=fun (E : List Blk) (k : V → List Blk → Prop) h=>hih.sub (F:=F0) (e:=setE e0 2 m) hk (by show F0.length + _ ≤ _; simp only at hl1; omega) (E:=E) (k:=k) h
  have hky1:=bld_ky hg r (setE e0 2 m) F0 hk
  have hln1:=bld_len (directB q.s) r (setE e0 2 m) F0
  cases s0 with
  | none =>
   unfold bst at hnx
   simp only at hnx
   generalize bld (directB q.s) r (setE e0 2 m) F0 = P at *
   obtain ⟨F1,p⟩:=P
   generalize fin r (setE e0 2 m) = e1 at *
   simp only at hnx hky1 hln1 hcall hsm hl1
   subst hnx
   have hlt : (-1 : Int) < 0:=by decide
   refine YieldP.conv' (L':=bS q F0 e0 ++ bE 2 lr none) rfl ?_
   refine YieldP.roundE C_ok (fun _=>false) hlr rfl rfl ?_ (zw22 _)
   repeat' ((conv=>whnf); first|refine IdxN.intro 2 rfl (by decide) ?_|simp only [hlrs,setB_eq]|refine zw0 ?_|refine zw1 ?_|refine zw2 (fun h=>?_) (fun h=>?_)|refine zw3 ?_|refine zw4 (fun h=>?_) (fun h=>?_)|refine zw5 _ rfl ?_|refine zw6 rfl ?_)
   conv=>whnf
   refine CallP.cnv (args':=I (2 + 1) :: cCaps) (L':=bS q F0 (setE e0 2 m) ++ bE 2 { lr with st:=.busy } none) rfl rfl ?_
   refine hcall _ _ ?_
   repeat' ((conv=>whnf); first|refine zw8 (zw19 hlt) ?_|refine zw8 (zw19 (show (p : Int) = (p : Int) from rfl)) ?_|refine zw0 ?_|refine zw1 ?_|refine zw2 (fun h=>?_) (fun h=>?_)|refine zw3 ?_|refine zw4 (fun h=>?_) (fun h=>?_)|refine zw5 _ rfl ?_|refine zw6 rfl ?_)
   conv=>whnf
   refine zw15 (n:=15) (L':=bM q 2 lr ⟨F1,some (p,p,m),e1⟩) ?_ (zw21 _) rfl (hMb _) (.inl ⟨rfl,rfl,hP'⟩)
   exact congrArg (fun y : LoopR=>bS q F1 e1 ++ [.cells [I 2],.cells [I p],.cells [I p],.defr,.loop y]) hback
  | some s0 =>
   obtain ⟨t,f,mm⟩:=s0
   have r1:=hsm t f mm rfl
   unfold bst at hnx
   simp only at hnx
   generalize bld (directB q.s) r (setE e0 2 m) F0 = P at *
   obtain ⟨F1,p⟩:=P
   generalize fin r (setE e0 2 m) = e1 at *
   simp only at hnx hky1 hln1 hcall hl1
   have hlt : ¬ (t : Int) < 0:=by omega
   refine YieldP.conv' (L':=bS q F0 e0 ++ bE 2 lr (some (t,f,mm))) rfl ?_
   by_cases hpf : p = f
   ·rw [if_pos hpf] at hnx
    have hpf' : (p : Int) = (f : Int):=congrArg Nat.cast hpf
    subst hnx
    refine YieldP.roundE C_ok (fun _=>false) hlr rfl rfl ?_ (zw22 _)
    repeat' ((conv=>whnf); first|refine IdxN.intro 2 rfl (by decide) ?_|simp only [hlrs,setB_eq]|refine zw0 ?_|refine zw1 ?_|refine zw2 (fun h=>?_) (fun h=>?_)|refine zw3 ?_|refine zw4 (fun h=>?_) (fun h=>?_)|refine zw5 _ rfl ?_|refine zw6 rfl ?_)
    conv=>whnf
    refine CallP.cnv (args':=I (2 + 1) :: cCaps) (L':=bS q F0 (setE e0 2 m) ++ bE 2 { lr with st:=.busy } (some (t,f,mm))) rfl rfl ?_
    refine hcall _ _ ?_
    repeat' ((conv=>whnf); first|refine zw9 (zw20 hlt) ?_|refine zw8 (zw19 hpf') ?_|refine zw0 ?_|refine zw1 ?_|refine zw2 (fun h=>?_) (fun h=>?_)|refine zw3 ?_|refine zw4 (fun h=>?_) (fun h=>?_)|refine zw5 _ rfl ?_|refine zw6 rfl ?_)
    conv=>whnf
    refine zw15 (n:=15) (L':=bM q 2 lr ⟨F1,some (t,f,m),e1⟩) ?_ (zw21 _) rfl (hMb _) (.inl ⟨rfl,rfl,hP'⟩)
    exact congrArg (fun y : LoopR=>bS q F1 e1 ++ [.cells [I 2],.cells [I t],.cells [I f],.defr,.loop y]) hback
   ·rw [if_neg hpf] at hnx
    have hpf' : ¬ (p : Int) = (f : Int):=fun hn=>hpf (by omega)
    subst hnx
    have hput:=fun (E : List Blk) (k : V → List Blk → Prop) h=>putS_c q F1 e1 E ⟨2,mm,t,p,[]⟩ hky1 (ky_in _ _ _ _) (zw22 _) (by omega) (k:=k) h
    have hcp : CallP C 25 [.ptr 4 0,.agg [I 2,I mm,I t,I p,.nil]] (bS q F1 e1 ++ bE 2 { lr with st:=.busy } (some (t,f,mm))) fun x N=>x = I (put F1 ⟨2,mm,t,p,[]⟩).2 ∧ N = bS q (put F1 ⟨2,mm,t,p,[]⟩).1 e1 ++ bE 2 { lr with st:=.busy } (some (t,f,mm)) :=
     CallP.freeze (dargs:=[.ptr 4 0,ndV ⟨2,mm,t,p,[]⟩]) [] rfl rfl (.keep (.cv (.aggL (.cons (.d _) (.cons (.d _) (.cons (.d _) (.cons (.d _) (.cons .nil .nil)))))) .nil)) (hput _ _ ⟨rfl,rfl⟩)
    clear hput
    refine YieldP.roundE C_ok (fun _=>false) hlr rfl rfl ?_ (zw22 _)
    repeat' ((conv=>whnf); first|refine IdxN.intro 2 rfl (by decide) ?_|simp only [hlrs,setB_eq]|refine zw0 ?_|refine zw1 ?_|refine zw2 (fun h=>?_) (fun h=>?_)|refine zw3 ?_|refine zw4 (fun h=>?_) (fun h=>?_)|refine zw5 _ rfl ?_|refine zw6 rfl ?_)
    conv=>whnf
    refine CallP.cnv (args':=I (2 + 1) :: cCaps) (L':=bS q F0 (setE e0 2 m) ++ bE 2 { lr with st:=.busy } (some (t,f,mm))) rfl rfl ?_
    refine hcall _ _ ?_
    repeat' ((conv=>whnf); first|refine zw9 (zw20 hlt) ?_|refine zw9 (zw20 hpf') ?_|refine zw0 ?_|refine zw1 ?_|refine zw2 (fun h=>?_) (fun h=>?_)|refine zw3 ?_|refine zw4 (fun h=>?_) (fun h=>?_)|refine zw5 _ rfl ?_|refine zw6 rfl ?_)
    conv=>whnf
    refine DrawP.por mixed [12] [[(0,0),(1,0),(2,0),(3,0),(4,0),(5,0),(6,0),(7,0),(8,0),(9,0),(10,0),(11,0),(12,2),(13,0),(14,0),(15,0)]] (by kernel_rfl) ?_
    all_goals
     repeat' ((conv=>whnf); first|refine IdxN.intro 2 rfl (by decide) ?_|refine zw10 (q.b.length - c) _ hw r1 ?_|refine zw13 (I (put F1 ⟨2,mm,t,p,[]⟩).2) (bS q (put F1 ⟨2,mm,t,p,[]⟩).1 e1 ++ bE 2 { lr with st:=.busy } (some (t,f,mm))) hcp ?_|refine zw0 ?_|refine zw1 ?_|refine zw2 (fun h=>?_) (fun h=>?_)|refine zw3 ?_|refine zw4 (fun h=>?_) (fun h=>?_)|refine zw5 _ rfl ?_|refine zw6 rfl ?_|refine zw7 mixed rfl ?_)
    all_goals conv=>whnf
    refine zw15 (n:=15) (L':=bM q 2 lr ⟨(put F1 ⟨2,mm,t,p,[]⟩).1,some ((put F1 ⟨2,mm,t,p,[]⟩).2,p,m),e1⟩) ?_ (zw21 _) rfl (hMb _) (.inl ⟨rfl,rfl,hP'⟩)
    exact congrArg (fun y : LoopR=>bS q (put F1 ⟨2,mm,t,p,[]⟩).1 e1 ++ [.cells [I 2],.cells [I (put F1 ⟨2,mm,t,p,[]⟩).2],.cells [I p],.defr,.loop y]) hback
 ·intro _
  have hres:=hsome (q.b.length - 1) (by omega)
  rw [show q.b.length - 1 + 1 = q.b.length by omega] at hres
  obtain ⟨t,f,hres⟩:=hres
  rw [bkX_len]
  generalize q.b.getD _ 0 = m at hres
  generalize bs q.b.length = o at *
  obtain ⟨F1,s1,e1⟩:=o
  simp only at hres
  subst hres
  repeat' ((conv=>whnf); first|refine zw0 ?_|refine zw1 ?_|refine zw2 (fun h=>?_) (fun h=>?_)|refine zw3 ?_|refine zw4 (fun h=>?_) (fun h=>?_)|refine zw5 _ rfl ?_|refine zw6 rfl ?_|refine zw7 mixed rfl ?_|simp only [hlrs,hlrp])
  conv=>whnf
  exact FinP.drop (n:=10) (L':=bS q F1 e1) rfl (zw21 _) rfl (bS_bel q _ _) ⟨rfl,rfl⟩
theorem step3_c (q : Vs4) (hg : ∀ x,ByOk (directB q.s x)) {r : List (Int × List Int)} (hr : Rs (3 + 1) r) (hvl : q.c.length ≤ 10000) (hne : 0 < q.c.length) (hih : BCall q (3 + 1) r) : BCall q 3 ((3,q.c) :: r):=by
 intro F e hF hn
 have hv : (1 : Int) ≤ 3 ∧ (3 : Int) ≤ 4:=by decide
 obtain ⟨f1,f2⟩:=bld_fold (directB q.s) hr hv q.c e F
 rw [f1,f2]
 have hall : q.c.reverse.foldl (bst (directB q.s) r 3) ⟨F,none,e⟩ = bsC (directB q.s) r 3 q.c F e q.c.length:=by
  unfold bsC; rw [List.take_of_length_le (by simp)]
 rw [hall]
 have hbnd : bndB ((3,q.c) :: r) = q.c.length * (bndB r + 1):=rfl
 rw [hbnd] at hn
 have hky:=bsC_ky hg r 3 q.c F e hF
 have hln : ∀ c,c < q.c.length → (bsC (directB q.s) r 3 q.c F e c).F.length + bndB r + 1 ≤ 100000:=fun c hc=>by
  have h1:=bsC_len (directB q.s) r 3 q.c F e c (by omega)
  have h2 : (c + 1) * (bndB r + 1) ≤ q.c.length * (bndB r + 1):=Nat.mul_le_mul_right _ (by omega)
  rw [Nat.succ_mul] at h2
  omega
 have hsome:=bsC_some (directB q.s) r 3 q.c F e
 have hnext:=fun c h=>bsC_next (g:=directB q.s) (r:=r) (v:=3) (vs:=q.c) (F:=F) (e:=e) (c:=c) h
 have h0 : bsC (directB q.s) r 3 q.c F e 0 = ⟨F,none,e⟩:=rfl
 generalize bsC (directB q.s) r 3 q.c F e = bs at *
 clear hall f1 f2 hbnd
 have h4 : ¬ (4 : Int) < 3:=by decide
 refine callP_of C_ok Tryz.func23 rfl rfl (n:=_) rfl (zw18 rfl) (rs:=_) rfl ?_
 repeat' ((conv=>whnf); first|refine zw9 (zw20 h4) ?_|refine IdxN.intro 3 rfl (by decide) ?_|refine backward_c _ ?_|refine zw0 ?_|refine zw1 ?_|refine zw2 (fun h=>?_) (fun h=>?_)|refine zw3 ?_|refine zw4 (fun h=>?_) (fun h=>?_)|refine zw5 _ rfl ?_|refine zw6 rfl ?_)
 conv=>whnf
 refine CallP.cnv (args':=.yld 14 :: [D.rptr [ins q.c]].map .d) (L':=bS q F e ++ [.cells [I 3],.cells [I (-1)],.cells [I (-1)],.defr,.loop _]) rfl rfl ?_
 generalize hlr : LoopR.mk _ _ _ _ _ _ _ _ = lr
 have hlrd : lr.df = 13:=by rw [← hlr]; rfl
 have hlrs : lr.st = .ready:=by rw [← hlr]
 have hlrp : lr.pend = none:=by rw [← hlr]
 have hback : (⟨.ready,none,lr.fr,lr.n,lr.ps,lr.assign,lr.body,lr.df⟩ : LoopR) = lr:=by rw [← hlr]
 have hblkb : (Blk.loop lr).bel 15 = true:=by rw [← hlr]; rfl
 have hMb : ∀ c,belB 15 (bM q 3 lr c) = true:=fun c=>by
  refine belB_app (bS_bel' 15 (by decide) q _ _) ?_
  show (true && (true && (true && (true && ((Blk.loop lr).bel 15 && true))))) = true
  rw [hblkb]; rfl
 have hMd : ∀ c,dfB (bM q 3 lr c) = true:=fun c=>by
  refine dfB_of fun j l' hc=>?_
  match j,hc with
  | 0,hc | 1,hc | 2,hc | 3,hc | 4,hc | 5,hc | 6,hc | 7,hc | 8,hc | 9,hc | 10,hc | 11,hc | 12,hc | 13,hc=>cases hc
  | 14,hc =>
   have : lr = l':=by cases hc; rfl
   rw [← this,hlrd]; rfl
  | j + 15,hc=>cases hc
 refine CallP.cnv (L':=bM q 3 lr (bs 0)) rfl (by rw [h0]; rfl) ?_
 refine backward1_it q.c (by omega) 14 15 (fun c=>c ≤ q.c.length) (fun c=>bM q 3 lr (bs c)) _ (fun c=>rfl) (fun c=>hMb _) (fun c=>hMd _) (by decide) ?_ ?_ (zw22 _)
 ·intro c hc hcP
  rw [bkX_at]
  rw [bkX_len] at hc
  have hw : IntKind.i64.wrap ((q.c.length : Int) - 1 - c + 1) = ((q.c.length - c : Nat) : Int):=by rw [wrap_in (by omega)]; omega
  have hnx:=hnext c hc
  have hk:=hky c hcP
  have hl1:=hln c hc
  have hsm : ∀ t f m,(bs c).s = some (t,f,m) → (q.c.map fun n=>[DI n])[q.c.length - c]? = some [DI m]:=fun t f m h=>by
   cases c with
   | zero=>rw [h0] at h; cases h
   | succ c =>
    obtain ⟨t',f',h'⟩:=hsome c (by omega)
    rw [h'] at h
    cases h
    rw [show q.c.length - (c + 1) = q.c.length - 1 - c by omega,List.getElem?_map,List.getElem?_eq_getElem (show q.c.length - 1 - c < q.c.length by omega),getD_at (show q.c.length - 1 - c < q.c.length by omega)]; rfl
  have hP' : c + 1 ≤ q.c.length:=hc
  generalize q.c.getD (q.c.length - 1 - c) 0 = m at hnx ⊢
  generalize bs (c + 1) = o' at hnx ⊢
  generalize bs c = o at *
  obtain ⟨F0,s0,e0⟩:=o
  have hcall:=fun (E : List Blk) (k : V → List Blk → Prop) h=>hih.sub (F:=F0) (e:=setE e0 3 m) hk (by show F0.length + _ ≤ _; simp only at hl1; omega) (E:=E) (k:=k) h
  have hky1:=bld_ky hg r (setE e0 3 m) F0 hk
  have hln1:=bld_len (directB q.s) r (setE e0 3 m) F0
  cases s0 with
  | none =>
   unfold bst at hnx
   simp only at hnx
   generalize bld (directB q.s) r (setE e0 3 m) F0 = P at *
   obtain ⟨F1,p⟩:=P
   generalize fin r (setE e0 3 m) = e1 at *
   simp only at hnx hky1 hln1 hcall hsm hl1
   subst hnx
   have hlt : (-1 : Int) < 0:=by decide
   refine YieldP.conv' (L':=bS q F0 e0 ++ bE 3 lr none) rfl ?_
   refine YieldP.roundE C_ok (fun _=>false) hlr rfl rfl ?_ (zw22 _)
   repeat' ((conv=>whnf); first|refine IdxN.intro 3 rfl (by decide) ?_|simp only [hlrs,setB_eq]|refine zw0 ?_|refine zw1 ?_|refine zw2 (fun h=>?_) (fun h=>?_)|refine zw3 ?_|refine zw4 (fun h=>?_) (fun h=>?_)|refine zw5 _ rfl ?_|refine zw6 rfl ?_)
   conv=>whnf
   refine CallP.cnv (args':=I (3 + 1) :: cCaps) (L':=bS q F0 (setE e0 3 m) ++ bE 3 { lr with st:=.busy } none) rfl rfl ?_
   refine hcall _ _ ?_
   repeat' ((conv=>whnf); first|refine zw8 (zw19 hlt) ?_|refine zw8 (zw19 (show (p : Int) = (p : Int) from rfl)) ?_|refine zw0 ?_|refine zw1 ?_|refine zw2 (fun h=>?_) (fun h=>?_)|refine zw3 ?_|refine zw4 (fun h=>?_) (fun h=>?_)|refine zw5 _ rfl ?_|refine zw6 rfl ?_)
   conv=>whnf
   refine zw15 (n:=15) (L':=bM q 3 lr ⟨F1,some (p,p,m),e1⟩) ?_ (zw21 _) rfl (hMb _) (.inl ⟨rfl,rfl,hP'⟩)
   exact congrArg (fun y : LoopR=>bS q F1 e1 ++ [.cells [I 3],.cells [I p],.cells [I p],.defr,.loop y]) hback
  | some s0 =>
   obtain ⟨t,f,mm⟩:=s0
   have r1:=hsm t f mm rfl
   unfold bst at hnx
   simp only at hnx
   generalize bld (directB q.s) r (setE e0 3 m) F0 = P at *
   obtain ⟨F1,p⟩:=P
   generalize fin r (setE e0 3 m) = e1 at *
   simp only at hnx hky1 hln1 hcall hl1
   have hlt : ¬ (t : Int) < 0:=by omega
   refine YieldP.conv' (L':=bS q F0 e0 ++ bE 3 lr (some (t,f,mm))) rfl ?_
   by_cases hpf : p = f
   ·rw [if_pos hpf] at hnx
    have hpf' : (p : Int) = (f : Int):=congrArg Nat.cast hpf
    subst hnx
    refine YieldP.roundE C_ok (fun _=>false) hlr rfl rfl ?_ (zw22 _)
    repeat' ((conv=>whnf); first|refine IdxN.intro 3 rfl (by decide) ?_|simp only [hlrs,setB_eq]|refine zw0 ?_|refine zw1 ?_|refine zw2 (fun h=>?_) (fun h=>?_)|refine zw3 ?_|refine zw4 (fun h=>?_) (fun h=>?_)|refine zw5 _ rfl ?_|refine zw6 rfl ?_)
    conv=>whnf
    refine CallP.cnv (args':=I (3 + 1) :: cCaps) (L':=bS q F0 (setE e0 3 m) ++ bE 3 { lr with st:=.busy } (some (t,f,mm))) rfl rfl ?_
    refine hcall _ _ ?_
    repeat' ((conv=>whnf); first|refine zw9 (zw20 hlt) ?_|refine zw8 (zw19 hpf') ?_|refine zw0 ?_|refine zw1 ?_|refine zw2 (fun h=>?_) (fun h=>?_)|refine zw3 ?_|refine zw4 (fun h=>?_) (fun h=>?_)|refine zw5 _ rfl ?_|refine zw6 rfl ?_)
    conv=>whnf
    refine zw15 (n:=15) (L':=bM q 3 lr ⟨F1,some (t,f,m),e1⟩) ?_ (zw21 _) rfl (hMb _) (.inl ⟨rfl,rfl,hP'⟩)
    exact congrArg (fun y : LoopR=>bS q F1 e1 ++ [.cells [I 3],.cells [I t],.cells [I f],.defr,.loop y]) hback
   ·rw [if_neg hpf] at hnx
    have hpf' : ¬ (p : Int) = (f : Int):=fun hn=>hpf (by omega)
    subst hnx
    have hput:=fun (E : List Blk) (k : V → List Blk → Prop) h=>putS_c q F1 e1 E ⟨3,mm,t,p,[]⟩ hky1 (ky_in _ _ _ _) (zw22 _) (by omega) (k:=k) h
    have hcp : CallP C 25 [.ptr 4 0,.agg [I 3,I mm,I t,I p,.nil]] (bS q F1 e1 ++ bE 3 { lr with st:=.busy } (some (t,f,mm))) fun x N=>x = I (put F1 ⟨3,mm,t,p,[]⟩).2 ∧ N = bS q (put F1 ⟨3,mm,t,p,[]⟩).1 e1 ++ bE 3 { lr with st:=.busy } (some (t,f,mm)) :=
     CallP.freeze (dargs:=[.ptr 4 0,ndV ⟨3,mm,t,p,[]⟩]) [] rfl rfl (.keep (.cv (.aggL (.cons (.d _) (.cons (.d _) (.cons (.d _) (.cons (.d _) (.cons .nil .nil)))))) .nil)) (hput _ _ ⟨rfl,rfl⟩)
    clear hput
    refine YieldP.roundE C_ok (fun _=>false) hlr rfl rfl ?_ (zw22 _)
    repeat' ((conv=>whnf); first|refine IdxN.intro 3 rfl (by decide) ?_|simp only [hlrs,setB_eq]|refine zw0 ?_|refine zw1 ?_|refine zw2 (fun h=>?_) (fun h=>?_)|refine zw3 ?_|refine zw4 (fun h=>?_) (fun h=>?_)|refine zw5 _ rfl ?_|refine zw6 rfl ?_)
    conv=>whnf
    refine CallP.cnv (args':=I (3 + 1) :: cCaps) (L':=bS q F0 (setE e0 3 m) ++ bE 3 { lr with st:=.busy } (some (t,f,mm))) rfl rfl ?_
    refine hcall _ _ ?_
    repeat' ((conv=>whnf); first|refine zw9 (zw20 hlt) ?_|refine zw9 (zw20 hpf') ?_|refine zw0 ?_|refine zw1 ?_|refine zw2 (fun h=>?_) (fun h=>?_)|refine zw3 ?_|refine zw4 (fun h=>?_) (fun h=>?_)|refine zw5 _ rfl ?_|refine zw6 rfl ?_)
    conv=>whnf
    refine DrawP.por mixed [12] [[(0,0),(1,0),(2,0),(3,0),(4,0),(5,0),(6,0),(7,0),(8,0),(9,0),(10,0),(11,0),(12,2),(13,0),(14,0),(15,0)]] (by kernel_rfl) ?_
    all_goals
     repeat' ((conv=>whnf); first|refine IdxN.intro 3 rfl (by decide) ?_|refine zw10 (q.c.length - c) _ hw r1 ?_|refine zw13 (I (put F1 ⟨3,mm,t,p,[]⟩).2) (bS q (put F1 ⟨3,mm,t,p,[]⟩).1 e1 ++ bE 3 { lr with st:=.busy } (some (t,f,mm))) hcp ?_|refine zw0 ?_|refine zw1 ?_|refine zw2 (fun h=>?_) (fun h=>?_)|refine zw3 ?_|refine zw4 (fun h=>?_) (fun h=>?_)|refine zw5 _ rfl ?_|refine zw6 rfl ?_|refine zw7 mixed rfl ?_)
    all_goals conv=>whnf
    refine zw15 (n:=15) (L':=bM q 3 lr ⟨(put F1 ⟨3,mm,t,p,[]⟩).1,some ((put F1 ⟨3,mm,t,p,[]⟩).2,p,m),e1⟩) ?_ (zw21 _) rfl (hMb _) (.inl ⟨rfl,rfl,hP'⟩)
    exact congrArg (fun y : LoopR=>bS q (put F1 ⟨3,mm,t,p,[]⟩).1 e1 ++ [.cells [I 3],.cells [I (put F1 ⟨3,mm,t,p,[]⟩).2],.cells [I p],.defr,.loop y]) hback
 ·intro _
  have hres:=hsome (q.c.length - 1) (by omega)
  rw [show q.c.length - 1 + 1 = q.c.length by omega] at hres
  obtain ⟨t,f,hres⟩:=hres
  rw [bkX_len]
  generalize q.c.getD _ 0 = m at hres
  generalize bs q.c.length = o at *
  obtain ⟨F1,s1,e1⟩:=o
  simp only at hres
  subst hres
  repeat' ((conv=>whnf); first|refine zw0 ?_|refine zw1 ?_|refine zw2 (fun h=>?_) (fun h=>?_)|refine zw3 ?_|refine zw4 (fun h=>?_) (fun h=>?_)|refine zw5 _ rfl ?_|refine zw6 rfl ?_|refine zw7 mixed rfl ?_|simp only [hlrs,hlrp])
  conv=>whnf
  exact FinP.drop (n:=10) (L':=bS q F1 e1) rfl (zw21 _) rfl (bS_bel q _ _) ⟨rfl,rfl⟩
theorem step4_c (q : Vs4) (hg : ∀ x,ByOk (directB q.s x)) {r : List (Int × List Int)} (hr : Rs (4 + 1) r) (hvl : q.d.length ≤ 10000) (hne : 0 < q.d.length) (hih : BCall q (4 + 1) r) : BCall q 4 ((4,q.d) :: r):=by
 intro F e hF hn
 have hv : (1 : Int) ≤ 4 ∧ (4 : Int) ≤ 4:=by decide
 obtain ⟨f1,f2⟩:=bld_fold (directB q.s) hr hv q.d e F
 rw [f1,f2]
 have hall : q.d.reverse.foldl (bst (directB q.s) r 4) ⟨F,none,e⟩ = bsC (directB q.s) r 4 q.d F e q.d.length:=by
  unfold bsC; rw [List.take_of_length_le (by simp)]
 rw [hall]
 have hbnd : bndB ((4,q.d) :: r) = q.d.length * (bndB r + 1):=rfl
 rw [hbnd] at hn
 have hky:=bsC_ky hg r 4 q.d F e hF
 have hln : ∀ c,c < q.d.length → (bsC (directB q.s) r 4 q.d F e c).F.length + bndB r + 1 ≤ 100000:=fun c hc=>by
  have h1:=bsC_len (directB q.s) r 4 q.d F e c (by omega)
  have h2 : (c + 1) * (bndB r + 1) ≤ q.d.length * (bndB r + 1):=Nat.mul_le_mul_right _ (by omega)
  rw [Nat.succ_mul] at h2
  omega
 have hsome:=bsC_some (directB q.s) r 4 q.d F e
 have hnext:=fun c h=>bsC_next (g:=directB q.s) (r:=r) (v:=4) (vs:=q.d) (F:=F) (e:=e) (c:=c) h
 have h0 : bsC (directB q.s) r 4 q.d F e 0 = ⟨F,none,e⟩:=rfl
 generalize bsC (directB q.s) r 4 q.d F e = bs at *
 clear hall f1 f2 hbnd
 have h4 : ¬ (4 : Int) < 4:=by decide
 refine callP_of C_ok Tryz.func23 rfl rfl (n:=_) rfl (zw18 rfl) (rs:=_) rfl ?_
 repeat' ((conv=>whnf); first|refine zw9 (zw20 h4) ?_|refine IdxN.intro 4 rfl (by decide) ?_|refine backward_c _ ?_|refine zw0 ?_|refine zw1 ?_|refine zw2 (fun h=>?_) (fun h=>?_)|refine zw3 ?_|refine zw4 (fun h=>?_) (fun h=>?_)|refine zw5 _ rfl ?_|refine zw6 rfl ?_)
 conv=>whnf
 refine CallP.cnv (args':=.yld 14 :: [D.rptr [ins q.d]].map .d) (L':=bS q F e ++ [.cells [I 4],.cells [I (-1)],.cells [I (-1)],.defr,.loop _]) rfl rfl ?_
 generalize hlr : LoopR.mk _ _ _ _ _ _ _ _ = lr
 have hlrd : lr.df = 13:=by rw [← hlr]; rfl
 have hlrs : lr.st = .ready:=by rw [← hlr]
 have hlrp : lr.pend = none:=by rw [← hlr]
 have hback : (⟨.ready,none,lr.fr,lr.n,lr.ps,lr.assign,lr.body,lr.df⟩ : LoopR) = lr:=by rw [← hlr]
 have hblkb : (Blk.loop lr).bel 15 = true:=by rw [← hlr]; rfl
 have hMb : ∀ c,belB 15 (bM q 4 lr c) = true:=fun c=>by
  refine belB_app (bS_bel' 15 (by decide) q _ _) ?_
  show (true && (true && (true && (true && ((Blk.loop lr).bel 15 && true))))) = true
  rw [hblkb]; rfl
 have hMd : ∀ c,dfB (bM q 4 lr c) = true:=fun c=>by
  refine dfB_of fun j l' hc=>?_
  match j,hc with
  | 0,hc | 1,hc | 2,hc | 3,hc | 4,hc | 5,hc | 6,hc | 7,hc | 8,hc | 9,hc | 10,hc | 11,hc | 12,hc | 13,hc=>cases hc
  | 14,hc =>
   have : lr = l':=by cases hc; rfl
   rw [← this,hlrd]; rfl
  | j + 15,hc=>cases hc
 refine CallP.cnv (L':=bM q 4 lr (bs 0)) rfl (by rw [h0]; rfl) ?_
 refine backward1_it q.d (by omega) 14 15 (fun c=>c ≤ q.d.length) (fun c=>bM q 4 lr (bs c)) _ (fun c=>rfl) (fun c=>hMb _) (fun c=>hMd _) (by decide) ?_ ?_ (zw22 _)
 ·intro c hc hcP
  rw [bkX_at]
  rw [bkX_len] at hc
  have hw : IntKind.i64.wrap ((q.d.length : Int) - 1 - c + 1) = ((q.d.length - c : Nat) : Int):=by rw [wrap_in (by omega)]; omega
  have hnx:=hnext c hc
  have hk:=hky c hcP
  have hl1:=hln c hc
  have hsm : ∀ t f m,(bs c).s = some (t,f,m) → (q.d.map fun n=>[DI n])[q.d.length - c]? = some [DI m]:=fun t f m h=>by
   cases c with
   | zero=>rw [h0] at h; cases h
   | succ c =>
    obtain ⟨t',f',h'⟩:=hsome c (by omega)
    rw [h'] at h
    cases h
    rw [show q.d.length - (c + 1) = q.d.length - 1 - c by omega,List.getElem?_map,List.getElem?_eq_getElem (show q.d.length - 1 - c < q.d.length by omega),getD_at (show q.d.length - 1 - c < q.d.length by omega)]; rfl
  have hP' : c + 1 ≤ q.d.length:=hc
  generalize q.d.getD (q.d.length - 1 - c) 0 = m at hnx ⊢
  generalize bs (c + 1) = o' at hnx ⊢
  generalize bs c = o at *
  obtain ⟨F0,s0,e0⟩:=o
  have hcall:=fun (E : List Blk) (k : V → List Blk → Prop) h=>hih.sub (F:=F0) (e:=setE e0 4 m) hk (by show F0.length + _ ≤ _; simp only at hl1; omega) (E:=E) (k:=k) h
  have hky1:=bld_ky hg r (setE e0 4 m) F0 hk
  have hln1:=bld_len (directB q.s) r (setE e0 4 m) F0
  cases s0 with
  | none =>
   unfold bst at hnx
   simp only at hnx
   generalize bld (directB q.s) r (setE e0 4 m) F0 = P at *
   obtain ⟨F1,p⟩:=P
   generalize fin r (setE e0 4 m) = e1 at *
   simp only at hnx hky1 hln1 hcall hsm hl1
   subst hnx
   have hlt : (-1 : Int) < 0:=by decide
   refine YieldP.conv' (L':=bS q F0 e0 ++ bE 4 lr none) rfl ?_
   refine YieldP.roundE C_ok (fun _=>false) hlr rfl rfl ?_ (zw22 _)
   repeat' ((conv=>whnf); first|refine IdxN.intro 4 rfl (by decide) ?_|simp only [hlrs,setB_eq]|refine zw0 ?_|refine zw1 ?_|refine zw2 (fun h=>?_) (fun h=>?_)|refine zw3 ?_|refine zw4 (fun h=>?_) (fun h=>?_)|refine zw5 _ rfl ?_|refine zw6 rfl ?_)
   conv=>whnf
   refine CallP.cnv (args':=I (4 + 1) :: cCaps) (L':=bS q F0 (setE e0 4 m) ++ bE 4 { lr with st:=.busy } none) rfl rfl ?_
   refine hcall _ _ ?_
   repeat' ((conv=>whnf); first|refine zw8 (zw19 hlt) ?_|refine zw8 (zw19 (show (p : Int) = (p : Int) from rfl)) ?_|refine zw0 ?_|refine zw1 ?_|refine zw2 (fun h=>?_) (fun h=>?_)|refine zw3 ?_|refine zw4 (fun h=>?_) (fun h=>?_)|refine zw5 _ rfl ?_|refine zw6 rfl ?_)
   conv=>whnf
   refine zw15 (n:=15) (L':=bM q 4 lr ⟨F1,some (p,p,m),e1⟩) ?_ (zw21 _) rfl (hMb _) (.inl ⟨rfl,rfl,hP'⟩)
   exact congrArg (fun y : LoopR=>bS q F1 e1 ++ [.cells [I 4],.cells [I p],.cells [I p],.defr,.loop y]) hback
  | some s0 =>
   obtain ⟨t,f,mm⟩:=s0
   have r1:=hsm t f mm rfl
   unfold bst at hnx
   simp only at hnx
   generalize bld (directB q.s) r (setE e0 4 m) F0 = P at *
   obtain ⟨F1,p⟩:=P
   generalize fin r (setE e0 4 m) = e1 at *
   simp only at hnx hky1 hln1 hcall hl1
   have hlt : ¬ (t : Int) < 0:=by omega
   refine YieldP.conv' (L':=bS q F0 e0 ++ bE 4 lr (some (t,f,mm))) rfl ?_
   by_cases hpf : p = f
   ·rw [if_pos hpf] at hnx
    have hpf' : (p : Int) = (f : Int):=congrArg Nat.cast hpf
    subst hnx
    refine YieldP.roundE C_ok (fun _=>false) hlr rfl rfl ?_ (zw22 _)
    repeat' ((conv=>whnf); first|refine IdxN.intro 4 rfl (by decide) ?_|simp only [hlrs,setB_eq]|refine zw0 ?_|refine zw1 ?_|refine zw2 (fun h=>?_) (fun h=>?_)|refine zw3 ?_|refine zw4 (fun h=>?_) (fun h=>?_)|refine zw5 _ rfl ?_|refine zw6 rfl ?_)
    conv=>whnf
    refine CallP.cnv (args':=I (4 + 1) :: cCaps) (L':=bS q F0 (setE e0 4 m) ++ bE 4 { lr with st:=.busy } (some (t,f,mm))) rfl rfl ?_
    refine hcall _ _ ?_
    repeat' ((conv=>whnf); first|refine zw9 (zw20 hlt) ?_|refine zw8 (zw19 hpf') ?_|refine zw0 ?_|refine zw1 ?_|refine zw2 (fun h=>?_) (fun h=>?_)|refine zw3 ?_|refine zw4 (fun h=>?_) (fun h=>?_)|refine zw5 _ rfl ?_|refine zw6 rfl ?_)
    conv=>whnf
    refine zw15 (n:=15) (L':=bM q 4 lr ⟨F1,some (t,f,m),e1⟩) ?_ (zw21 _) rfl (hMb _) (.inl ⟨rfl,rfl,hP'⟩)
    exact congrArg (fun y : LoopR=>bS q F1 e1 ++ [.cells [I 4],.cells [I t],.cells [I f],.defr,.loop y]) hback
   ·rw [if_neg hpf] at hnx
    have hpf' : ¬ (p : Int) = (f : Int):=fun hn=>hpf (by omega)
    subst hnx
    have hput:=fun (E : List Blk) (k : V → List Blk → Prop) h=>putS_c q F1 e1 E ⟨4,mm,t,p,[]⟩ hky1 (ky_in _ _ _ _) (zw22 _) (by omega) (k:=k) h
    have hcp : CallP C 25 [.ptr 4 0,.agg [I 4,I mm,I t,I p,.nil]] (bS q F1 e1 ++ bE 4 { lr with st:=.busy } (some (t,f,mm))) fun x N=>x = I (put F1 ⟨4,mm,t,p,[]⟩).2 ∧ N = bS q (put F1 ⟨4,mm,t,p,[]⟩).1 e1 ++ bE 4 { lr with st:=.busy } (some (t,f,mm)) :=
     CallP.freeze (dargs:=[.ptr 4 0,ndV ⟨4,mm,t,p,[]⟩]) [] rfl rfl (.keep (.cv (.aggL (.cons (.d _) (.cons (.d _) (.cons (.d _) (.cons (.d _) (.cons .nil .nil)))))) .nil)) (hput _ _ ⟨rfl,rfl⟩)
    clear hput
    refine YieldP.roundE C_ok (fun _=>false) hlr rfl rfl ?_ (zw22 _)
    repeat' ((conv=>whnf); first|refine IdxN.intro 4 rfl (by decide) ?_|simp only [hlrs,setB_eq]|refine zw0 ?_|refine zw1 ?_|refine zw2 (fun h=>?_) (fun h=>?_)|refine zw3 ?_|refine zw4 (fun h=>?_) (fun h=>?_)|refine zw5 _ rfl ?_|refine zw6 rfl ?_)
    conv=>whnf
    refine CallP.cnv (args':=I (4 + 1) :: cCaps) (L':=bS q F0 (setE e0 4 m) ++ bE 4 { lr with st:=.busy } (some (t,f,mm))) rfl rfl ?_
    refine hcall _ _ ?_
    repeat' ((conv=>whnf); first|refine zw9 (zw20 hlt) ?_|refine zw9 (zw20 hpf') ?_|refine zw0 ?_|refine zw1 ?_|refine zw2 (fun h=>?_) (fun h=>?_)|refine zw3 ?_|refine zw4 (fun h=>?_) (fun h=>?_)|refine zw5 _ rfl ?_|refine zw6 rfl ?_)
    conv=>whnf
    refine DrawP.por mixed [12] [[(0,0),(1,0),(2,0),(3,0),(4,0),(5,0),(6,0),(7,0),(8,0),(9,0),(10,0),(11,0),(12,2),(13,0),(14,0),(15,0)]] (by kernel_rfl) ?_
    all_goals
     repeat' ((conv=>whnf); first|refine IdxN.intro 4 rfl (by decide) ?_|refine zw10 (q.d.length - c) _ hw r1 ?_|refine zw13 (I (put F1 ⟨4,mm,t,p,[]⟩).2) (bS q (put F1 ⟨4,mm,t,p,[]⟩).1 e1 ++ bE 4 { lr with st:=.busy } (some (t,f,mm))) hcp ?_|refine zw0 ?_|refine zw1 ?_|refine zw2 (fun h=>?_) (fun h=>?_)|refine zw3 ?_|refine zw4 (fun h=>?_) (fun h=>?_)|refine zw5 _ rfl ?_|refine zw6 rfl ?_|refine zw7 mixed rfl ?_)
    all_goals conv=>whnf
    refine zw15 (n:=15) (L':=bM q 4 lr ⟨(put F1 ⟨4,mm,t,p,[]⟩).1,some ((put F1 ⟨4,mm,t,p,[]⟩).2,p,m),e1⟩) ?_ (zw21 _) rfl (hMb _) (.inl ⟨rfl,rfl,hP'⟩)
    exact congrArg (fun y : LoopR=>bS q (put F1 ⟨4,mm,t,p,[]⟩).1 e1 ++ [.cells [I 4],.cells [I (put F1 ⟨4,mm,t,p,[]⟩).2],.cells [I p],.defr,.loop y]) hback
 ·intro _
  have hres:=hsome (q.d.length - 1) (by omega)
  rw [show q.d.length - 1 + 1 = q.d.length by omega] at hres
  obtain ⟨t,f,hres⟩:=hres
  rw [bkX_len]
  generalize q.d.getD _ 0 = m at hres
  generalize bs q.d.length = o at *
  obtain ⟨F1,s1,e1⟩:=o
  simp only at hres
  subst hres
  repeat' ((conv=>whnf); first|refine zw0 ?_|refine zw1 ?_|refine zw2 (fun h=>?_) (fun h=>?_)|refine zw3 ?_|refine zw4 (fun h=>?_) (fun h=>?_)|refine zw5 _ rfl ?_|refine zw6 rfl ?_|refine zw7 mixed rfl ?_|simp only [hlrs,hlrp])
  conv=>whnf
  exact FinP.drop (n:=10) (L':=bS q F1 e1) rfl (zw21 _) rfl (bS_bel q _ _) ⟨rfl,rfl⟩
theorem build_c (q : Vs4) (hl : LSs q.s) (ho : orderF q.s = 0) (hg : ∀ x,ByOk (directB q.s x)) (ha : 0 < q.a.length ∧ q.a.length ≤ 10000) (hb : 0 < q.b.length ∧ q.b.length ≤ 10000) (hc : 0 < q.c.length ∧ q.c.length ≤ 10000) (hd : 0 < q.d.length ∧ q.d.length ≤ 10000) : BCall q 1 (vlist q.a q.b q.c q.d):=by
 have r5:=Rs.nil
 have r4 : Rs 4 [(4,q.d)]:=.cons 4 q.d _ r5 (by decide) (by decide)
 have r3 : Rs 3 [(3,q.c),(4,q.d)]:=.cons 3 q.c _ r4 (by decide) (by decide)
 have r2 : Rs 2 [(2,q.b),(3,q.c),(4,q.d)]:=.cons 2 q.b _ r3 (by decide) (by decide)
 have c5:=leaf_c q hl ho hg
 have c4:=step4_c q hg r5 hd.2 hd.1 c5
 have c3:=step3_c q hg r4 hc.2 hc.1 c4
 have c2:=step2_c q hg r3 hb.2 hb.1 c3
 exact step1_c q hg r2 ha.2 ha.1 c2
end Go.Proofs.YtclmjkhdmhlijaaGreatDoor
namespace Go.Proofs.YtclmjkhdmhlijaaGreatDoor
open Go.Tidy
def ins1 : List Int → Int → List Int
 | [],n=>[n]
 | a :: r,n=>if a < n then a :: ins1 r n else if a = n then a :: r else n :: a :: r
theorem ins1_mem {x n : Int} : ∀ {l : List Int},x ∈ ins1 l n ↔ x = n ∨ x ∈ l
 | []=>by simp [ins1]
 | a :: r=>by
  rw [ins1]
  split
  ·rw [List.mem_cons,ins1_mem (l:=r),List.mem_cons]
   constructor
   ·rintro (h | h | h)
    ·exact .inr (.inl h)
    ·exact .inl h
    ·exact .inr (.inr h)
   ·rintro (h | h | h)
    ·exact .inr (.inl h)
    ·exact .inl h
    ·exact .inr (.inr h)
  ·split
   ·rename_i h; subst h; simp
   ·simp
abbrev Up (l : List Int) : Prop:=l.Pairwise (· < ·)
theorem ins1_up {n : Int} : ∀ {l : List Int},Up l → Up (ins1 l n)
 | [],_=>by simp [ins1]
 | a :: r,h=>by
  have h:=List.pairwise_cons.1 h
  rw [ins1]
  split
  ·rename_i c
   refine List.pairwise_cons.2 ⟨fun x hx=>?_,ins1_up h.2⟩
   rcases ins1_mem.1 hx with rfl | hx
   ·exact c
   ·exact h.1 x hx
  ·split
   ·exact List.pairwise_cons.2 h
   ·refine List.pairwise_cons.2 ⟨fun x hx=>?_,List.pairwise_cons.2 h⟩
    rcases List.mem_cons.1 hx with rfl | hx
    ·omega
    ·have:=h.1 x hx; omega
theorem up_uniq : ∀ {l m : List Int},Up l → Up m → (∀ x,x ∈ l ↔ x ∈ m) → l = m
 | [],[],_,_,_=>rfl
 | [],b :: m,_,_,h=>by have:=(h b).2 (by simp); cases this
 | a :: l,[],_,_,h=>by have:=(h a).1 (by simp); cases this
 | a :: l,b :: m,hl,hm,h=>by
  have hl:=List.pairwise_cons.1 hl
  have hm:=List.pairwise_cons.1 hm
  have e : a = b:=by
   rcases List.mem_cons.1 ((h a).1 (by simp)) with e | h1
   ·exact e
   rcases List.mem_cons.1 ((h b).2 (by simp)) with e | h2
   ·exact e.symm
   have:=hm.1 a h1
   have:=hl.1 b h2
   omega
  subst e
  refine congrArg _ (up_uniq hl.2 hm.2 fun x=>⟨fun hx=>?_,fun hx=>?_⟩)
  ·rcases List.mem_cons.1 ((h x).1 (by simp [hx])) with e | h1
   ·have:=hl.1 x hx; omega
   ·exact h1
  ·rcases List.mem_cons.1 ((h x).2 (by simp [hx])) with e | h1
   ·have:=hm.1 x hx; omega
   ·exact h1
def insA (l : List Int) (ns : List Int) : List Int:=ns.foldl ins1 l
theorem insA_mem {x : Int} : ∀ {ns l : List Int},x ∈ insA l ns ↔ x ∈ ns ∨ x ∈ l
 | [],l=>by simp [insA]
 | n :: ns,l=>by
  show x ∈ insA (ins1 l n) ns ↔ _
  rw [insA_mem,ins1_mem,List.mem_cons]
  constructor
  ·rintro (h | h | h)
   ·exact .inl (.inr h)
   ·exact .inl (.inl h)
   ·exact .inr h
  ·rintro ((h | h) | h)
   ·exact .inr (.inl h)
   ·exact .inl h
   ·exact .inr (.inr h)
theorem insA_up : ∀ {ns l : List Int},Up l → Up (insA l ns)
 | [],l,h=>h
 | n :: ns,l,h=>insA_up (ns:=ns) (ins1_up h)
theorem cp_inv {d : List Int} (hd : d.Pairwise (· ≤ ·)) : ∀ m,m ≤ d.length → Up (Go.Lib.compactUpTo d.toArray m) ∧ (∀ x ∈ Go.Lib.compactUpTo d.toArray m,∃ j,∃ h : j < d.length,j < m ∧ x = d[j]) ∧ ∀ (j : Nat) (h : j < d.length),j < m → d[j] ∈ Go.Lib.compactUpTo d.toArray m
 | 0,_=>⟨List.Pairwise.nil,fun x hx=>(by cases hx),fun j _ hj=>absurd hj (Nat.not_lt_zero j)⟩
 | m + 1,hm=>by
  obtain ⟨h1,h2,h3⟩:=cp_inv hd m (by omega)
  rw [Go.Lib.compactUpTo_succ]
  have hle:=List.pairwise_iff_getElem.1 hd
  have eg : ∀ j,j < d.length → d.toArray[j]! = d[j]!:=fun j hj=>by simp
  have eg2 : ∀ (j : Nat) (hj : j < d.length),d.toArray[j]! = d[j]:=fun j hj=>by
   rw [getElem!_pos d.toArray j (by simpa using hj)]; simp
  by_cases hk : Go.Lib.keeps d.toArray m = true
  ·rw [if_pos hk]
   have hlt : ∀ x ∈ Go.Lib.compactUpTo d.toArray m,x < d[m]:=fun x hx=>by
    obtain ⟨j,hj,hjm,rfl⟩:=h2 x hx
    unfold Go.Lib.keeps at hk
    rw [decide_eq_true_eq] at hk
    rcases hk with hk | hk
    ·omega
    ·rw [eg2 m (by omega),eg2 (m - 1) (by omega)] at hk
     have a1 : d[j] ≤ d[m - 1]:=by
      by_cases e : j = m - 1
      ·subst e; exact Int.le_refl _
      ·exact hle j (m - 1) hj (by omega) (by omega)
     have a2:=hle (m - 1) m (by omega) (by omega) (by omega)
     omega
   refine ⟨List.pairwise_append.2 ⟨h1,by simp,fun x hx y hy=>?_⟩,fun x hx=>?_,fun j hj hjm=>?_⟩
   ·rw [List.mem_singleton.1 hy,eg2 m (by omega)]; exact hlt x hx
   ·rcases List.mem_append.1 hx with hx | hx
    ·obtain ⟨j,hj,hjm,e⟩:=h2 x hx
     exact ⟨j,hj,by omega,e⟩
    ·rw [List.mem_singleton.1 hx]
     exact ⟨m,by omega,by omega,eg2 m (by omega)⟩
   ·by_cases e : j = m
    ·subst e; rw [eg2 j hj]; simp
    ·exact List.mem_append.2 (.inl (h3 j hj (by omega)))
  ·rw [if_neg hk,List.append_nil]
   refine ⟨h1,fun x hx=>?_,fun j hj hjm=>?_⟩
   ·obtain ⟨j,hj,hjm,e⟩:=h2 x hx
    exact ⟨j,hj,by omega,e⟩
   ·by_cases e : j = m
    ·subst e
     unfold Go.Lib.keeps at hk
     rw [decide_eq_true_eq] at hk
     have e2 : ¬ j = 0:=fun e=>hk (.inl e)
     have e3 : d.toArray[j]! = d.toArray[j - 1]!:=Classical.byContradiction fun e=>hk (.inr e)
     rw [eg2 j hj,eg2 (j - 1) (by omega)] at e3
     rw [e3]
     exact h3 (j - 1) (by omega) (by omega)
    ·exact h3 j hj (by omega)
theorem cps_mem {l : List Int} {x : Int} : x ∈ cpI (sortI l) ↔ x ∈ l:=by
 have hs : (sortI l).Pairwise (· ≤ ·):=by
  have:=List.pairwise_mergeSort (le:=fun x y : Int=>decide (x ≤ y)) (fun a b c h1 h2=>by simp at *; omega) (fun a b=>by simp; omega) l
  exact this.imp fun h=>by simpa using h
 obtain ⟨_,h2,h3⟩:=cp_inv hs (sortI l).length (zw21 _)
 have hm : ∀ x,x ∈ sortI l ↔ x ∈ l:=fun x=>List.mem_mergeSort
 show x ∈ Go.Lib.compactUpTo _ _ ↔ _
 constructor
 ·intro h
  obtain ⟨j,hj,_,rfl⟩:=h2 x h
  exact (hm _).1 (List.getElem_mem hj)
 ·intro h
  obtain ⟨j,hj,rfl⟩:=List.mem_iff_getElem.1 ((hm x).2 h)
  exact h3 j hj hj
theorem cps_up (l : List Int) : Up (cpI (sortI l)):=by
 have hs : (sortI l).Pairwise (· ≤ ·):=by
  have:=List.pairwise_mergeSort (le:=fun x y : Int=>decide (x ≤ y)) (fun a b c h1 h2=>by simp at *; omega) (fun a b=>by simp; omega) l
  exact this.imp fun h=>by simpa using h
 exact (cp_inv hs (sortI l).length (zw21 _)).1
theorem sortI_len (l : List Int) : (sortI l).length = l.length:=List.length_mergeSort _
theorem cps_eq {l m : List Int} (hm : Up m) (h : ∀ x,x ∈ l ↔ x ∈ m) : cpI (sortI l) = m:=up_uniq (cps_up l) hm fun x=>cps_mem.trans (h x)
def selV (v : Int) (ps : List (Int × Int)) : List Int:=(ps.filter fun p=>decide (p.1 = v)).map (·.2)
theorem selV_mem {v x : Int} {ps : List (Int × Int)} : x ∈ selV v ps ↔ (v,x) ∈ ps:=by
 unfold selV
 rw [List.mem_map]
 constructor
 ·rintro ⟨⟨a,b⟩,h,rfl⟩
  rw [List.mem_filter] at h
  have:=of_decide_eq_true h.2
  simp only at this
  subst this
  exact h.1
 ·intro h
  exact ⟨(v,x),List.mem_filter.2 ⟨h,decide_eq_true rfl⟩,rfl⟩
def tv (v : Int) (ps : List (Int × Int)) : List Int:=insA [lo v] (selV v ps)
theorem tv_mem {v x : Int} {ps : List (Int × Int)} : x ∈ tv v ps ↔ x = lo v ∨ (v,x) ∈ ps:=by
 unfold tv
 rw [insA_mem,selV_mem,List.mem_singleton]
 exact Or.comm
theorem tv_up (v : Int) (ps : List (Int × Int)) : Up (tv v ps):=insA_up (by simp)
theorem tv_raw (v : Int) (ps : List (Int × Int)) : cpI (sortI (selV v ps ++ [lo v])) = tv v ps:=cps_eq (tv_up v ps) fun x=>by
 rw [List.mem_append,List.mem_singleton,selV_mem,tv_mem]
 exact Or.comm
theorem up_nodup {l : List Int} (h : Up l) : l.Nodup:=h.imp fun h=>by omega
theorem up_len {l m : List Int} (h : Up l) (hs : ∀ x ∈ l,x ∈ m) : l.length ≤ m.length:=List.Nodup.length_le_of_subset (up_nodup h) hs
def InB (p : Int × Int) : Prop:=lo p.1 < p.2 ∧ p.2 ≤ hi p.1
theorem tc_in : ∀ (m : Nat) (c : Co),SizeOf.sizeOf c ≤ m → ∀ p ∈ tcC c,InB p
 | 0,c,hz=>absurd hz (by cases c; simp)
 | m + 1,.mk kd v n ps,hz=>by
  intro p hp
  simp only [Co.mk.sizeOf_spec] at hz
  rw [tcC,List.mem_append] at hp
  rcases hp with hp | hp
  ·split at hp
   ·rename_i h; rw [List.mem_singleton.1 hp]; exact h.2
   ·cases hp
  ·rw [tcL_map] at hp
   obtain ⟨l,hl,hp⟩:=List.mem_flatten.1 hp
   obtain ⟨c,hc,rfl⟩:=List.mem_map.1 hl
   have:=List.sizeOf_lt_of_mem hc
   exact tc_in m c (by omega) p hp
theorem ts_in : ∀ (m : Nat) (l : List Sp),SizeOf.sizeOf l ≤ m → ∀ p ∈ tsL l,InB p
 | 0,l,hz=>absurd hz (by cases l <;> simp)
 | m + 1,[],hz=>fun p hp=>by rw [tsL] at hp; cases hp
 | m + 1,.mk kd b c t e :: l,hz=>by
  intro p hp
  simp only [List.cons.sizeOf_spec,Sp.mk.sizeOf_spec] at hz
  rw [tsL,tsS,List.mem_append,List.mem_append,List.mem_append] at hp
  rcases hp with ((hp | hp) | hp) | hp
  ·exact tc_in _ c (zw21 _) p hp
  ·exact ts_in m t (by omega) p hp
  ·exact ts_in m e (by omega) p hp
  ·exact ts_in m l (by omega) p hp
theorem falls_of {m : Int} : ∀ {ns : List Int} {b : Int},(b :: ns).Pairwise (fun x y=>y < x) → (∀ x ∈ b :: ns,m ≤ x) → Falls m b ns
 | [],b,_,h=>.nil b (h b (by simp))
 | n :: ns,b,hp,h=>by
  rw [List.pairwise_cons] at hp
  exact .cons (hp.1 n (by simp)) (falls_of hp.2 fun x hx=>h x (by simp [hx]))
theorem tv_vals (v : Int) (hv : 1 ≤ v ∧ v ≤ 4) {ps : List (Int × Int)} (hp : ∀ p ∈ ps,InB p) : Vals v (tv v ps):=by
 have hne : (tv v ps).reverse ≠ []:=by
  rw [Ne,List.reverse_eq_nil_iff]
  intro h
  have:=(tv_mem (v:=v) (x:=lo v) (ps:=ps)).2 (.inl rfl)
  rw [h] at this; cases this
 obtain ⟨m,ns,e⟩:=List.exists_cons_of_ne_nil hne
 have hmem : ∀ x ∈ m :: ns,lo v ≤ x ∧ x ≤ hi v:=fun x hx=>by
  rw [← e,List.mem_reverse,tv_mem] at hx
  rcases hx with rfl | hx
  ·refine ⟨Int.le_refl _,?_⟩
   have h4 : v = 1 ∨ v = 2 ∨ v = 3 ∨ v = 4:=by omega
   rcases h4 with rfl | rfl | rfl | rfl <;> decide
  ·have:=hp _ hx
   unfold InB at this
   simp only at this
   omega
 refine ⟨⟨m,ns,e,(hmem m (by simp)).2,falls_of ?_ fun x hx=>(hmem x hx).1⟩⟩
 rw [← e,List.pairwise_reverse]
 exact tv_up v ps
def vq (l : List Sp) : Vs4:=⟨l,tv 1 (tsL l),tv 2 (tsL l),tv 3 (tsL l),tv 4 (tsL l)⟩
theorem adds_sel : ∀ (ps : List (Int × Int)) (q : Q4),q.adds ps = ⟨q.a ++ selV 1 ps,q.b ++ selV 2 ps,q.c ++ selV 3 ps,q.d ++ selV 4 ps⟩
 | [],q=>by simp [Q4.adds,selV]
 | (v,n) :: ps,q=>by
  show (q.add (v,n)).adds ps = _
  rw [adds_sel ps]
  unfold Q4.add selV
  by_cases h1 : v = 1
  ·subst h1; simp
  by_cases h2 : v = 2
  ·subst h2; simp
  by_cases h3 : v = 3
  ·subst h3; simp
  by_cases h4 : v = 4
  ·subst h4; simp
  ·simp [h1,h2,h3,h4]
theorem tc_le : ∀ (m : Nat) (c : Co),SizeOf.sizeOf c ≤ m → ∀ d,cN d c ≤ 256 → (tcC c).length ≤ cN d c
 | 0,c,hz=>absurd hz (by cases c; simp)
 | m + 1,.mk kd v n ps,hz=>by
  intro d hd
  simp only [Co.mk.sizeOf_spec] at hz
  rw [cN] at hd ⊢
  split at hd
  ·omega
  rename_i h16
  rw [if_neg h16]
  have key : ∀ l : List Co,(∀ c ∈ l,SizeOf.sizeOf c ≤ m) → cNs (d + 1) l ≤ 256 → (tcL l).length ≤ cNs (d + 1) l:=by
   intro l
   induction l with
   | nil=>intro _ _; rw [tcL]; exact Nat.zero_le _
   | cons c cs ih =>
    intro hl hh
    rw [cNs] at hh ⊢
    rw [tcL,List.length_append]
    have h1:=tc_le m c (hl c (by simp)) (d + 1) (by omega)
    have h2:=ih (fun c h=>hl c (by simp [h])) (by omega)
    omega
  have:=key ps (fun c h=>by have:=List.sizeOf_lt_of_mem h; omega) (by omega)
  rw [tcC,List.length_append]
  have h1 : (if kd = 1 ∧ lo v < n ∧ n ≤ hi v then [(v,n)] else []).length ≤ 1:=by split <;> simp
  omega
theorem tc_zero {c : Co} (h : isZ c = true) : tcC c = []:=by
 cases c with | mk kd v n ps =>
 unfold isZ at h
 simp only [Bool.and_eq_true,decide_eq_true_eq,Co.kind,Co.var,Co.n,Co.parts] at h
 obtain ⟨⟨⟨h1,h2⟩,h3⟩,h4⟩:=h
 have k1 : kd = 0:=of_decide_eq_true h1
 have h4:=of_decide_eq_true h4
 have : ps = []:=List.length_eq_zero_iff.1 (by omega)
 subst this
 subst k1
 rw [tcC,tcL]; rfl
theorem tcz_le {c : Co} (h : cz c ≤ 256) : (tcC c).length ≤ cz c:=by
 unfold cz at h ⊢
 split
 ·rename_i hz; rw [tc_zero hz]; exact Nat.zero_le _
 ·rename_i hz; rw [if_neg hz] at h; exact tc_le _ c (Nat.le_refl _) 0 h
theorem ts_le : ∀ (m : Nat) (l : List Sp),SizeOf.sizeOf l ≤ m → ∀ d,(sNs d l).2 ≤ 256 → (tsL l).length ≤ (sNs d l).2
 | 0,l,hz=>absurd hz (by cases l <;> simp)
 | m + 1,[],hz=>fun d _=>by rw [tsL]; exact Nat.zero_le _
 | m + 1,.mk kd b c t e :: l,hz=>by
  intro d hd
  simp only [List.cons.sizeOf_spec,Sp.mk.sizeOf_spec] at hz
  rw [sNs,sN] at hd ⊢
  split at hd
  ·simp only at hd; omega
  rename_i h16
  rw [if_neg h16]
  simp only at hd ⊢
  have h1:=ts_le m t (by omega) (d + 1) (by omega)
  have h2:=ts_le m e (by omega) (d + 1) (by omega)
  have h3:=ts_le m l (by omega) d (by omega)
  have h4:=tcz_le (c:=c) (by omega)
  rw [tsL,tsS,List.length_append,List.length_append,List.length_append]
  omega
theorem ts_256 {l : List Sp} (h : orderF l = 0) : (tsL l).length ≤ 256:=by
 obtain ⟨_,hf,_⟩:=order_ok.1 h
 have:=ts_le _ l (zw21 _) 0 hf.2
 have:=hf.2
 omega
theorem insA_len : ∀ (ns l : List Int),(insA l ns).length ≤ l.length + ns.length
 | [],l=>by simp [insA]
 | n :: ns,l=>by
  have h1:=insA_len ns (ins1 l n)
  have h2 : ∀ l : List Int,(ins1 l n).length ≤ l.length + 1:=by
   intro l
   induction l with
   | nil=>simp [ins1]
   | cons a r ih=>rw [ins1]; split <;> (try split) <;> simp <;> omega
  have h3:=h2 l
  show (insA (ins1 l n) ns).length ≤ _
  rw [List.length_cons]; omega
theorem selV_len (v : Int) (ps : List (Int × Int)) : (selV v ps).length ≤ ps.length:=by
 unfold selV; rw [List.length_map]; exact List.length_filter_le _ _
theorem tv_len (v : Int) (ps : List (Int × Int)) : (tv v ps).length ≤ ps.length + 1:=by
 have h1:=insA_len (selV v ps) [lo v]
 have h2:=selV_len v ps
 unfold tv
 simp only [List.length_singleton] at h1
 omega
theorem tv_pos (v : Int) (ps : List (Int × Int)) : 0 < (tv v ps).length:=List.length_pos_of_mem ((tv_mem (v:=v) (x:=lo v) (ps:=ps)).2 (.inl rfl))
end Go.Proofs.YtclmjkhdmhlijaaGreatDoor
namespace Go.Proofs.YtclmjkhdmhlijaaGreatDoor
open Go.Tidy
variable {L : List Blk} {k : V → List Blk → Prop}
theorem directB_ok {l : List Sp} (hl : LSs l) (x : En) : ByOk (directB l x):=by
 have hok : ByOk []:=⟨List.nodup_nil,fun b hb=>by cases hb⟩
 unfold directB
 split
 ·rename_i h
  exact (direct1_s x _ l (zw21 _) hl.len (order_dsp hl h.1) [] hok).1
 ·exact hok
def cM (l : List Sp) (q : Q4) : List Blk:=[.cells [.d (sps l)],.cells [.nil],.cells [.nil,.own 3 q.a.length 0 q.a.length,.own 4 q.b.length 0 q.b.length,.own 5 q.c.length 0 q.c.length,.own 6 q.d.length 0 q.d.length],.row q.a.length 1 (rdI q.a),.row q.b.length 1 (rdI q.b),.row q.c.length 1 (rdI q.c),.row q.d.length 1 (rdI q.d)]
theorem rnR_rdI (ρ : Nat → Nat) (l : List Int) : rnR ρ (rdI l) = rdI l:=by
 unfold rdI
 induction l with
 | nil=>rfl
 | cons a l ih=>simp only [List.map_cons,rnR,V.rnL,V.rn]; rw [ih]
theorem tA_part (l : List Sp) (q : Q4) : Part [2,3,4,5,6] (tA q) (cM l q):=by
 refine ⟨by decide,fun b hb=>?_,rfl,fun b c hc=>?_,tA_bel q,rfl⟩
 ·show b < 7
  simp at hb; omega
 ·match b,hc with
  | 0,hc=>cases hc; rfl
  | 1,hc =>
   cases hc
   show some (Blk.row q.a.length 1 (rdI q.a)) = some (Blk.row q.a.length 1 (rnR _ (rdI q.a)))
   rw [rnR_rdI]
  | 2,hc =>
   cases hc
   show some (Blk.row q.b.length 1 (rdI q.b)) = some (Blk.row q.b.length 1 (rnR _ (rdI q.b)))
   rw [rnR_rdI]
  | 3,hc =>
   cases hc
   show some (Blk.row q.c.length 1 (rdI q.c)) = some (Blk.row q.c.length 1 (rnR _ (rdI q.c)))
   rw [rnR_rdI]
  | 4,hc =>
   cases hc
   show some (Blk.row q.d.length 1 (rdI q.d)) = some (Blk.row q.d.length 1 (rnR _ (rdI q.d)))
   rw [rnR_rdI]
  | b + 5,hc=>simp at hc
theorem tA_back (l : List Sp) (q p : Q4) : putB [2,3,4,5,6] (rnB (rnI [2,3,4,5,6] (cM l q).length) (tA p)) (cM l q) = cM l p:=by
 have h : rnB (rnI [2,3,4,5,6] (cM l q).length) (tA p) = [.cells [.nil,.own 3 p.a.length 0 p.a.length,.own 4 p.b.length 0 p.b.length,.own 5 p.c.length 0 p.c.length,.own 6 p.d.length 0 p.d.length],.row p.a.length 1 (rdI p.a),.row p.b.length 1 (rdI p.b),.row p.c.length 1 (rdI p.c),.row p.d.length 1 (rdI p.d)]:=by
  show [Blk.cells [.nil,.own 3 p.a.length 0 p.a.length,.own 4 p.b.length 0 p.b.length,.own 5 p.c.length 0 p.c.length,.own 6 p.d.length 0 p.d.length],.row p.a.length 1 (rnR _ (rdI p.a)),.row p.b.length 1 (rnR _ (rdI p.b)),.row p.c.length 1 (rnR _ (rdI p.c)),.row p.d.length 1 (rnR _ (rdI p.d))] = _
  rw [rnR_rdI,rnR_rdI,rnR_rdI,rnR_rdI]
 rw [h]
 simp only [putB,cM,List.cons_append,List.nil_append,List.set_cons_succ,List.set_cons_zero,List.append_nil]
theorem testsM_c (l : List Sp) (hl : LSs l) (hv : vSps l = true) (hn : (tsL l).length ≤ 1000000) {k : V → List Blk → Prop} (h : k (.tup []) (cM l ⟨selV 1 (tsL l),selV 2 (tsL l),selV 3 (tsL l),selV 4 (tsL l)⟩)) :
  CallP C 19 [.d (sps l),.ptr 2 0] [.cells [.d (sps l)],.cells [.nil],.cells [.nil,.nil,.nil,.nil,.nil]] k:=by
 refine CallP.nilCell 2 1 1 _ rfl rfl (by decide) ?_
 refine CallP.nilCell 2 2 1 _ rfl rfl (by decide) ?_
 refine CallP.nilCell 2 3 1 _ rfl rfl (by decide) ?_
 refine CallP.nilCell 2 4 1 _ rfl rfl (by decide) ?_
 refine CallP.cnv (L':=cM l ⟨[],[],[],[]⟩) rfl rfl ?_
 refine CallP.embed [2,3,4,5,6] (ts_s _ l (zw21 _) hv hl ⟨[],[],[],[]⟩ 0 ⟨zw21 0,Nat.le_refl 0,Nat.le_refl 0,Nat.le_refl 0⟩ (by omega)) (tA_part l _) rfl ?_
 rintro X L1 ⟨rfl,rfl⟩
 rw [tA_back,adds_sel]
 exact h
theorem cpI_le (l : List Int) : (cpI l).length ≤ l.length:=by
 unfold cpI Go.Lib.compact Go.Lib.compactUpTo
 rw [List.length_map]
 exact Nat.le_trans (List.length_filter_le _ _) (by simp)
@[irreducible] def cps (l : List Int) (n : Int) : List Int:=cpI (sortI (l ++ [n]))
@[irreducible] def srR (l : List Int) (n : Int) : List (List V):=rdI (sortI (l ++ [n]))
@[irreducible] def cpR (l : List Int) (n : Int) : List (List V):=rdI (cpI (sortI (l ++ [n])) ++ List.replicate (l.length + 1 - (cpI (sortI (l ++ [n]))).length) 0)
theorem sort_ap {b gen : Nat} {l : List Int} {n : Int} (hL : L[b]? = some (.row gen 1 ((rdI l).take l.length ++ [[I n]]))) (hl' : l.length ≤ 1000000) (h : k (.tup []) (L.set b (.row gen 1 (srR l n)))) : CallP C 21 [.own b gen 0 (l.length + 1)] L k:=by
 have e : (rdI l).take l.length ++ [[I n]] = rdI (l ++ [n]):=by
  unfold rdI
  rw [List.take_of_length_le (by simp),List.map_append]; rfl
 have hn : (l ++ [n]).length = l.length + 1:=by simp
 unfold srR at h
 rw [← hn]
 exact sort_c (by rw [hL,e]) (by omega) (by omega) h
theorem compact_ap {b gen : Nat} {l : List Int} {n : Int} (hL : L[b]? = some (.row gen 1 (srR l n))) (h : k (.own b gen 0 (cps l n).length) (L.set b (.row gen 1 (cpR l n)))) : CallP C 22 [.own b gen 0 (l.length + 1)] L k:=by
 unfold srR at hL
 unfold cps cpR at h
 have hn : (sortI (l ++ [n])).length = l.length + 1:=by rw [sortI_len]; simp
 rw [← hn] at h ⊢
 exact compact_c hL (by omega) (cpI_le _) h
theorem cpR_cv {S : Nat → Prop} {L : List Blk} {b gen : Nat} {l : List Int} {n : Int} (hb : S b) (hL : L[b]? = some (.row gen 1 (cpR l n))) : Cv S L (.own b gen 0 (cps l n).length) (ins (cps l n)):=by
 refine .row ((cps l n).map fun n=>[DI n]) hb hL ?_ (by simp) (fun e he=>by obtain ⟨n,_,rfl⟩:=List.mem_map.1 he; rfl)
 unfold cpR cps rdI
 rw [List.drop_zero,List.map_append,List.take_append_of_le_length (by simp),List.take_of_length_le (by simp),List.map_map]
 rfl
theorem cpR_bel (n : Nat) (l : List Int) (m : Int) : belR n (cpR l m) = true:=by unfold cpR; exact rdI_bel n _
def oV (b : Nat) (a : List Int) (v : Int) : Bool → V
 | true=>.own b (a.length + 1) 0 (cps a (lo v)).length
 | false=>.own b a.length 0 a.length
def oR (a : List Int) (v : Int) : Bool → Blk
 | true=>.row (a.length + 1) 1 (cpR a (lo v))
 | false=>.row a.length 1 (rdI a)
def wB (l : List Sp) (a1 a2 a3 a4 : List Int) (x y z u : Bool) : List Blk:=[.cells [.d (sps l)],.cells [.nil],.cells [.nil,oV 3 a1 1 x,oV 4 a2 2 y,oV 5 a3 3 z,oV 6 a4 4 u],oR a1 1 x,oR a2 2 y,oR a3 3 z,oR a4 4 u]
theorem oR_bel (n : Nat) (a : List Int) (v : Int) (x : Bool) : (oR a v x).bel n = true:=by
 cases x
 ·exact rdI_bel n _
 ·exact cpR_bel n _ _
theorem oV_bel (n b : Nat) (h : b < n) (a : List Int) (v : Int) (x : Bool) : (oV b a v x).bel n = true:=by
 cases x <;> exact decide_eq_true h
theorem wB_bel (l : List Sp) (a1 a2 a3 a4 : List Int) (x y z u : Bool) : belB 7 (wB l a1 a2 a3 a4 x y z u) = true:=by
 have e : ∀ cs : List V,(Blk.cells cs).bel 7 = V.belL 7 cs:=fun _=>rfl
 unfold wB
 simp only [belB,oR_bel,e,V.belL,V.bel,oV_bel 7 3 (by decide),oV_bel 7 4 (by decide),oV_bel 7 5 (by decide),oV_bel 7 6 (by decide),Bool.and_true]
def wM (l : List Sp) (a1 a2 a3 a4 : List Int) : Nat → List Blk
 | 0=>wB l a1 a2 a3 a4 false false false false
 | 1=>wB l a1 a2 a3 a4 true false false false
 | 2=>wB l a1 a2 a3 a4 true true false false
 | 3=>wB l a1 a2 a3 a4 true true true false
 | _=>wB l a1 a2 a3 a4 true true true true
theorem wM_bel (l : List Sp) (a1 a2 a3 a4 : List Int) (j : Nat) : belB 7 (wM l a1 a2 a3 a4 j) = true:=by
 unfold wM; split <;> exact wB_bel _ _ _ _ _ _ _ _ _
def plM (o : List Nat) (i : Nat) : List (V × V):=(List.range i).map fun j=>(I (o.getD j 0),I j)
theorem plM_bel (n : Nat) (o : List Nat) (i : Nat) : belM n (plM o i) = true:=by
 unfold plM
 induction List.range i with
 | nil=>rfl
 | cons a r ih=>simp only [List.map_cons,belM,V.bel,Bool.true_and]; exact ih
theorem plM_keys {o : List Nat} {i : Nat} (h : i ≤ o.length) : (plM o i).map (·.1) = (natI (o.take i)).map fun m=>.d (.int .i64 m):=by
 unfold plM natI
 rw [List.map_map,List.map_map]
 refine List.ext_getElem (by simp; omega) fun j h1 h2=>?_
 simp only [List.length_map,List.length_range] at h1
 rw [List.getElem_map,List.getElem_map,List.getElem_range,List.getElem_take]
 show I ((o.getD j 0 : Nat) : Int) = I ((o[j] : Nat) : Int)
 rw [List.getD_eq_getElem?_getD,List.getElem?_eq_getElem (by omega)]; rfl
theorem plM_next (o : List Nat) {i : Nat} (h : i < o.length) : plM o i ++ [(I (o[i] : Nat),I i)] = plM o (i + 1):=by
 unfold plM
 rw [List.range_succ,List.map_append]
 congr 1
 show _ = [(I ((o.getD i 0 : Nat) : Int),I i)]
 rw [List.getD_eq_getElem?_getD,List.getElem?_eq_getElem h]; rfl
theorem plM_new {o : List Nat} {i : Nat} (hn : o.Nodup) (h : i < o.length) {x : Int} (hx : x = (o[i] : Nat)) {q : Option (Nat × V) → Prop} (hq : q none) : MapF (.int .i64) (plM o i) (I x) q :=
 MapF.no (natI (o.take i)) (plM_keys (Nat.le_of_lt h)) (by
  subst hx
  intro hm
  unfold natI at hm
  obtain ⟨b,hb,e⟩:=List.mem_map.1 hm
  obtain ⟨j,hj,e2⟩:=List.mem_iff_getElem.1 hb
  rw [List.length_take] at hj
  rw [List.getElem_take] at e2
  have e3 : b = o[i]:=by
   have : (b : Int) = (o[i] : Int):=e
   omega
  have:=nd_inj hn (by omega) h (e2.trans e3)
  omega) hq
theorem plM_at {o : List Nat} (hn : o.Nodup) {a : Nat} (ha : a ∈ o) {x : Int} (hx : x = (a : Int)) {q : Option (Nat × V) → Prop} (hq : q (some (o.idxOf a,I (o.idxOf a)))) : MapF (.int .i64) (plM o o.length) (I x) q:=by
 subst hx
 have hi:=List.idxOf_lt_length_of_mem ha
 refine MapF.ints (natI (o.take o.length)) (plM_keys (zw21 _)) (.inl ⟨o.idxOf a,I (o.idxOf a),?_,fun j hj=>?_,?_,hq⟩)
 ·unfold natI
  rw [List.take_length,List.getElem?_map,List.getElem?_eq_getElem hi,List.getElem_idxOf]; rfl
 ·unfold natI
  rw [List.take_length,List.getElem?_map,List.getElem?_eq_getElem (by omega)]
  intro e
  have e : ((o[j] : Nat) : Int) = (a : Int):=by simpa using e
  have e2 : o[j] = a:=by omega
  have:=nd_inj hn (by omega) hi (e2.trans (List.getElem_idxOf hi).symm)
  omega
 ·unfold plM
  rw [List.getElem?_map,List.getElem?_range hi]
  show some (I ((o.getD (o.idxOf a) 0 : Nat) : Int),_) = _
  rw [List.getD_eq_getElem?_getD,List.getElem?_eq_getElem hi,List.getElem_idxOf]; rfl
def eM (q : Vs4) (F : List Nd) (e : En) (t : V) : List Blk:=[.cells [.d (sps q.s)],.cells [t],.cells [.nil,.d (ins q.a),.d (ins q.b),.d (ins q.c),.d (ins q.d)],.map (esF F),.cells [.d (nds F),.map 3],.cells [.ptr 4 0],.cells (e.cells.map .d),.cells [.d .nilptr,.ptr 6 0,.ptr 6 1,.ptr 6 2,.ptr 6 3],.cells [.fn 23 cCaps]]
theorem eM_bel (n : Nat) (h : 9 ≤ n) (q : Vs4) (F : List Nd) (e : En) (t : V) (ht : t.bel n = true) : belB n (eM q F e t) = true:=by
 have h1 : ∀ k,k < 9 → decide (k < n) = true:=fun k hk=>zw19 (by omega)
 unfold eM cCaps
 simp only [belB,Blk.bel,V.belL,V.bel,esF_bel,V.belL_d,ht,h1 0 (by decide),h1 2 (by decide),h1 3 (by decide),h1 4 (by decide),h1 5 (by decide),h1 6 (by decide),h1 7 (by decide),h1 8 (by decide),Bool.and_true]
theorem rdN_cv {S : Nat → Prop} {L : List Blk} {b gen n : Nat} (F : List Nd) (hn : n = F.length) (hb : S b) (hL : L[b]? = some (.row gen 5 (rdN F))) : Cv S L (.own b gen 0 n) (nds F):=by
 subst hn
 refine .row (F.map Nd.cells) hb hL ?_ (by simp) (fun e he=>by obtain ⟨n,_,rfl⟩:=List.mem_map.1 he; rfl)
 unfold rdN
 rw [List.drop_zero,List.take_of_length_le (by simp),List.map_map]
 rfl
theorem wf_neg {F : List Nd} (h : Wf F) (x : Nd) (hx : x ∈ F) (hv : x.var ≠ 0) : 0 ≤ x.yes ∧ 0 ≤ x.no:=by
 obtain ⟨i,hi,rfl⟩:=List.mem_iff_getElem.1 hx
 have hin:=h.inn hi (by rw [ndA_get hi]; exact hv)
 rw [ndA_get hi] at hin
 exact ⟨hin.y.1,hin.z.1⟩
def few3 (q : Vs4) : Prop:=q.a.length * q.b.length * q.c.length * q.d.length ≤ 300
def cmpN (l : List Sp) : List Nd:=cmpT (directB l) (vq l).a (vq l).b (vq l).c (vq l).d
def cmpX (l : List Sp) : List Nd:=if orderF l = 0 then cmpN l else []
theorem compile_no (l : List Sp) (hl : LSs l) (ho : orderF l ≠ 0) (h : k (.tup [treV [],I (orderF l)]) L) : CallP C 6 [.d (sps l)] L k:=by
 have h1 : ∀ {L : List Blk} {k : V → List Blk → Prop},k (I (orderF l)) L → CallP C 18 [.d (sps l)] L k:=fun h=>order_c l hl h
 generalize orderF l = o at *
 refine CallP.pure ?_ rfl (fun _=>rfl) h
 clear h
 refine callP_of C_ok Tryz.func6 rfl rfl (n:=_) rfl (zw18 rfl) (rs:=_) rfl ?_
 repeat' ((conv=>whnf); first|refine h1 ?_|refine zw3 ?_|refine zw9 (zw20 ho) ?_|refine zw0 ?_|refine zw1 ?_|refine zw2 (fun h=>?_) (fun h=>?_)|refine zw3 ?_|refine zw4 (fun h=>?_) (fun h=>?_)|refine zw5 _ rfl ?_|refine zw6 rfl ?_|refine zw7 mixed rfl ?_)
 conv=>whnf
 exact FinP.data (L':=[]) (Y:=.tup [treV [],I o]) (.tup _ _ rfl fun j x y hx hy=>by
  match j,hx,hy with
  | 0,hx,hy=>cases hx; cases hy; exact .aggL (.cons .nil .nil)
  | 1,hx,hy=>cases hx; cases hy; exact .d (.d _)
  | j + 2,hx,hy=>cases hx) rfl rfl ⟨rfl,rfl⟩
theorem compile_c (l : List Sp) (hl : LSs l) (hf : orderF l = 0 → few3 (vq l)) (h : k (.tup [treV (cmpX l),I (orderF l)]) L) : CallP C 6 [.d (sps l)] L k:=by
 by_cases ho : orderF l = 0
 rotate_left
 ·exact compile_no l hl ho (by rw [cmpX,if_neg ho] at h; exact h)
 rw [cmpX,if_pos ho,ho] at h
 have h1 : ∀ {L : List Blk} {k : V → List Blk → Prop},k (I 0) L → CallP C 18 [.d (sps l)] L k:=fun h=>order_c l hl (by rw [ho]; exact h)
 have h256:=ts_256 ho
 obtain ⟨hne,hfit,hvs⟩:=order_ok.1 ho
 refine CallP.pure ?_ rfl (fun _=>rfl) h
 clear h
 have hts:=fun (k : V → List Blk → Prop) h=>testsM_c l hl hvs (by omega) (k:=k) h
 refine callP_cut (fun c=>match c with | .block 0 _=>true | .region 18 _ _=>true | _=>false) C_ok Tryz.func6 rfl rfl (n:=_) rfl (zw18 rfl) (rs:=_) rfl ?_
 have l1:=selV_len 1 (tsL l)
 have l2:=selV_len 2 (tsL l)
 have l3:=selV_len 3 (tsL l)
 have l4:=selV_len 4 (tsL l)
 have e1:=tv_raw 1 (tsL l)
 have e2:=tv_raw 2 (tsL l)
 have e3:=tv_raw 3 (tsL l)
 have e4:=tv_raw 4 (tsL l)
 have hap : ∀ {X : Prop} (m : List Int),m.length ≤ (tsL l).length → X → Need (m.length + 1 ≤ 4294967296) X:=fun m hm h=>zw6 (by omega) h
 repeat' ((conv=>whnf); first|refine zw0 ?_|refine zw1 ?_|refine zw2 (fun h=>?_) (fun h=>?_)|refine zw3 ?_|refine zw4 (fun h=>?_) (fun h=>?_)|refine zw5 _ rfl ?_|refine zw6 rfl ?_|refine h1 ?_|refine hts _ ?_)
 conv=>whnf
 refine CutP.intro (ι:=Unit) (fun _=>⟨[(1,.ptr 0 0),(2,.ptr 1 0),(5,.ptr 2 0)],Tryz.f6.ntmps,[.cells [.d (sps l)],.cells [.nil],.cells [.nil,.d (ins (vq l).a),.d (ins (vq l).b),.d (ins (vq l).c),.d (ins (vq l).d)]],[],none⟩) ?_ (fun _=>?_)
 ·have e1 : (vq l).a = cps (selV 1 (tsL l)) (lo 1):=by unfold cps; exact e1.symm
  have e2 : (vq l).b = cps (selV 2 (tsL l)) (lo 2):=by unfold cps; exact e2.symm
  have e3 : (vq l).c = cps (selV 3 (tsL l)) (lo 3):=by unfold cps; exact e3.symm
  have e4 : (vq l).d = cps (selV 4 (tsL l)) (lo 4):=by unfold cps; exact e4.symm
  rw [e1,e2,e3,e4]
  clear e1 e2 e3 e4
  generalize selV 1 (tsL l) = a1 at *
  generalize selV 2 (tsL l) = a2 at *
  generalize selV 3 (tsL l) = a3 at *
  generalize selV 4 (tsL l) = a4 at *
  conv=>whnf
  refine LoopP.inv (fun j : Nat=>j ≤ 4) (fun j=>⟨[(1,.ptr 0 0),(2,.ptr 1 0),(5,.ptr 2 0),(6,I ((j : Int) + 1))],Tryz.f6.ntmps,wM l a1 a2 a3 a4 j,[],none⟩) (fun j=>4 - j) 0 (zw22 _) ?_ ?_
  ·exact Weak.by ⟨rfl,rfl,rfl,rfl,trivial⟩
  intro j hj
  match j,hj with
  | 0,_ =>
   repeat' ((conv=>whnf); first|refine bounds_c _ ?_|refine hap _ l1 ?_|refine IdxN.intro 1 rfl (by decide) ?_|refine sort_ap rfl (by omega) ?_|refine compact_ap rfl ?_|simp only [Nat.beq_refl,Bool.and_self]|refine zw0 ?_|refine zw1 ?_|refine zw2 (fun h=>?_) (fun h=>?_)|refine zw3 ?_|refine zw4 (fun h=>?_) (fun h=>?_)|refine zw5 _ rfl ?_|refine zw6 rfl ?_)
   conv=>whnf
   exact ⟨1,by decide,by decide,Weak.to 7 rfl (zw22 _) (zw18 rfl) ⟨rfl,rfl,rfl,rfl,trivial⟩ (hB:=wM_bel l a1 a2 a3 a4 1)⟩
  | 1,_ =>
   repeat' ((conv=>whnf); first|refine bounds_c _ ?_|refine hap _ l2 ?_|refine IdxN.intro 2 rfl (by decide) ?_|refine sort_ap rfl (by omega) ?_|refine compact_ap rfl ?_|simp only [Nat.beq_refl,Bool.and_self]|refine zw0 ?_|refine zw1 ?_|refine zw2 (fun h=>?_) (fun h=>?_)|refine zw3 ?_|refine zw4 (fun h=>?_) (fun h=>?_)|refine zw5 _ rfl ?_|refine zw6 rfl ?_)
   conv=>whnf
   exact ⟨2,by decide,by decide,Weak.to 7 rfl (zw22 _) (zw18 rfl) ⟨rfl,rfl,rfl,rfl,trivial⟩ (hB:=wM_bel l a1 a2 a3 a4 2)⟩
  | 2,_ =>
   repeat' ((conv=>whnf); first|refine bounds_c _ ?_|refine hap _ l3 ?_|refine IdxN.intro 3 rfl (by decide) ?_|refine sort_ap rfl (by omega) ?_|refine compact_ap rfl ?_|simp only [Nat.beq_refl,Bool.and_self]|refine zw0 ?_|refine zw1 ?_|refine zw2 (fun h=>?_) (fun h=>?_)|refine zw3 ?_|refine zw4 (fun h=>?_) (fun h=>?_)|refine zw5 _ rfl ?_|refine zw6 rfl ?_)
   conv=>whnf
   exact ⟨3,by decide,by decide,Weak.to 7 rfl (zw22 _) (zw18 rfl) ⟨rfl,rfl,rfl,rfl,trivial⟩ (hB:=wM_bel l a1 a2 a3 a4 3)⟩
  | 3,_ =>
   repeat' ((conv=>whnf); first|refine bounds_c _ ?_|refine hap _ l4 ?_|refine IdxN.intro 4 rfl (by decide) ?_|refine sort_ap rfl (by omega) ?_|refine compact_ap rfl ?_|simp only [Nat.beq_refl,Bool.and_self]|refine zw0 ?_|refine zw1 ?_|refine zw2 (fun h=>?_) (fun h=>?_)|refine zw3 ?_|refine zw4 (fun h=>?_) (fun h=>?_)|refine zw5 _ rfl ?_|refine zw6 rfl ?_)
   conv=>whnf
   exact ⟨4,by decide,by decide,Weak.to 7 rfl (zw22 _) (zw18 rfl) ⟨rfl,rfl,rfl,rfl,trivial⟩ (hB:=wM_bel l a1 a2 a3 a4 4)⟩
  | 4,_ =>
   repeat' ((conv=>whnf); first|refine zw0 ?_|refine zw1 ?_|refine zw2 (fun h=>?_) (fun h=>?_)|refine zw3 ?_|refine zw4 (fun h=>?_) (fun h=>?_)|refine zw5 _ rfl ?_|refine zw6 rfl ?_)
   conv=>whnf
   refine ⟨(),Weak.thaw 3 (zw22 _) (zw18 rfl) rfl ⟨.inl ⟨rfl,rfl⟩,.inl ⟨rfl,rfl⟩,.inl ⟨rfl,rfl⟩,trivial⟩ fun b x y hx hy=>?_⟩
   match b,hx,hy with
   | 0,hx,hy=>cases hx; cases hy; exact .inl ⟨rfl,rfl⟩
   | 1,hx,hy=>cases hx; cases hy; exact .inl ⟨rfl,rfl⟩
   | 2,hx,hy =>
    cases hx; cases hy
    refine .inr (.inr ⟨_,_,rfl,rfl,rfl,fun j u v hu hv=>?_⟩)
    match j,hu,hv with
    | 0,hu,hv=>cases hu; cases hv; exact .inl ⟨rfl,rfl⟩
    | 1,hu,hv=>cases hu; cases hv; exact .inr (.d (cpR_cv (zw21 3) rfl))
    | 2,hu,hv=>cases hu; cases hv; exact .inr (.d (cpR_cv (zw18 rfl) rfl))
    | 3,hu,hv=>cases hu; cases hv; exact .inr (.d (cpR_cv (zw18 rfl) rfl))
    | 4,hu,hv=>cases hu; cases hv; exact .inr (.d (cpR_cv (zw18 rfl) rfl))
    | j + 5,hu,hv=>cases hu
   | b + 3,hx,hy=>cases hy
  | j + 5,h=>omega
 ·have hfw:=hf ho
  have p1:=tv_pos 1 (tsL l)
  have p2:=tv_pos 2 (tsL l)
  have p3:=tv_pos 3 (tsL l)
  have p4:=tv_pos 4 (tsL l)
  have q1:=tv_len 1 (tsL l)
  have q2:=tv_len 2 (tsL l)
  have q3:=tv_len 3 (tsL l)
  have q4:=tv_len 4 (tsL l)
  have hg:=directB_ok hl
  have hB:=build_c (vq l) hl ho hg ⟨p1,by show (tv 1 (tsL l)).length ≤ _; omega⟩ ⟨p2,by show (tv 2 (tsL l)).length ≤ _; omega⟩ ⟨p3,by show (tv 3 (tsL l)).length ≤ _; omega⟩ ⟨p4,by show (tv 4 (tsL l)).length ≤ _; omega⟩
  have hbn : bndB (vlist (vq l).a (vq l).b (vq l).c (vq l).d) ≤ 1500:=bnd_few p1 p2 p3 hfw p4
  have hbc:=hB [] ⟨0,0,0,0⟩ (fun y hy=>by cases hy) (by simp only [List.length_nil]; omega)
  have hBld:=bld_ok hg (tv_vals 1 (by decide) (ts_in _ l (zw21 _))) (tv_vals 2 (by decide) (ts_in _ l (zw21 _))) (tv_vals 3 (by decide) (ts_in _ l (zw21 _))) (tv_vals 4 (by decide) (ts_in _ l (zw21 _)))
  obtain ⟨F,root,e0,hbc,hres,hclo,hneg,hrt,hFl,holen⟩ : ∃ F root e0,(CallP C 23 (I 1 :: cCaps) (bS (vq l) [] ⟨0,0,0,0⟩) fun X L'=>X = I (root : Nat) ∧ L' = bS (vq l) F e0) ∧ cmpN l = renum F (visO F root) ∧ Closed F ∧ (∀ x ∈ F,x.var ≠ 0 → 0 ≤ x.yes ∧ 0 ≤ x.no) ∧ root < F.length ∧ F.length ≤ 1500 ∧ (visO F root).length ≤ 1500:=by
   refine ⟨_,_,_,hbc,rfl,?_⟩
   obtain ⟨c1,c2,c3⟩:=cmp_vis hg (tv_vals 1 (by decide) (ts_in _ l (zw21 _))) (tv_vals 2 (by decide) (ts_in _ l (zw21 _))) (tv_vals 3 (by decide) (ts_in _ l (zw21 _))) (tv_vals 4 (by decide) (ts_in _ l (zw21 _)))
   have c4:=cmp_len hg (tv_vals 1 (by decide) (ts_in _ l (zw21 _))) (tv_vals 2 (by decide) (ts_in _ l (zw21 _))) (tv_vals 3 (by decide) (ts_in _ l (zw21 _))) (tv_vals 4 (by decide) (ts_in _ l (zw21 _))) hfw
   have c5:=bld_len (directB l) (vlist (vq l).a (vq l).b (vq l).c (vq l).d) ⟨0,0,0,0⟩ []
   refine ⟨c1.wf.closed,fun x hx hv=>?_,c2,by simp only [List.length_nil] at c5; exact Nat.le_trans c5 (by omega),c4⟩
   exact wf_neg c1.wf x hx hv
  rw [hres]
  clear hres hB hbn hBld
  repeat' ((conv=>whnf); first|refine zw0 ?_|refine zw1 ?_|refine zw2 (fun h=>?_) (fun h=>?_)|refine zw3 ?_|refine zw4 (fun h=>?_) (fun h=>?_)|refine zw5 _ rfl ?_|refine zw6 rfl ?_)
  conv=>whnf
  refine CutP.intro (ι:=Unit) (fun _=>⟨[(2,.ptr 1 0),(9,.ptr 5 0),(13,I root)],Tryz.f6.ntmps,eM (vq l) F e0 .nil,[],none⟩) ?_ (fun _=>?_)
  ·repeat' (conv => whnf
            first|refine zw0 ?_|refine zw1 ?_|refine zw2 (fun h=>?_) (fun h=>?_)|refine zw3 ?_|refine zw4 (fun h=>?_) (fun h=>?_)|refine zw5 _ rfl ?_|refine zw6 rfl ?_)
   conv=>whnf
   refine CallP.nilCell 4 0 5 _ rfl rfl (by decide) ?_
   refine CallP.cnv (args':=I 1 :: cCaps) (L':=bS (vq l) [] ⟨0,0,0,0⟩) rfl rfl ?_
   refine hbc.mono ?_
   rintro X L' ⟨rfl,rfl⟩
   repeat' ((conv=>whnf); first|refine zw0 ?_|refine zw1 ?_|refine zw2 (fun h=>?_) (fun h=>?_)|refine zw3 ?_|refine zw4 (fun h=>?_) (fun h=>?_)|refine zw5 _ rfl ?_|refine zw6 rfl ?_)
   conv=>whnf
   refine ⟨(),Weak.thaw 9 (zw22 _) (zw18 rfl) rfl ⟨.inl ⟨rfl,rfl⟩,.inl ⟨rfl,rfl⟩,.inl ⟨rfl,rfl⟩,trivial⟩ fun b x y hx hy=>?_⟩
   match b,hx,hy with
   | 0,hx,hy=>cases hx; cases hy; exact .inl ⟨rfl,rfl⟩
   | 1,hx,hy=>cases hx; cases hy; exact .inl ⟨rfl,rfl⟩
   | 2,hx,hy=>cases hx; cases hy; exact .inl ⟨rfl,rfl⟩
   | 3,hx,hy=>cases hx; cases hy; exact .inl ⟨rfl,esF_bel _ _⟩
   | 4,hx,hy =>
    cases hx; cases hy
    refine .inr (.inr ⟨_,_,rfl,rfl,rfl,fun j u v hu hv=>?_⟩)
    match j,hu,hv with
    | 0,hu,hv=>cases hu; cases hv; exact .inr (.d (rdN_cv F rfl (zw21 9) rfl))
    | 1,hu,hv=>cases hu; cases hv; exact .inl ⟨rfl,rfl⟩
    | j + 2,hu,hv=>cases hu
   | 5,hx,hy=>cases hx; cases hy; exact .inl ⟨rfl,rfl⟩
   | 6,hx,hy=>cases hx; cases hy; exact .inl ⟨rfl,V.belL_d _ _⟩
   | 7,hx,hy=>cases hx; cases hy; exact .inl ⟨rfl,rfl⟩
   | 8,hx,hy=>cases hx; cases hy; exact .inl ⟨rfl,rfl⟩
   | b + 9,hx,hy=>cases hy
  ·have hvi:=visO_vis hclo hrt
   have hvc : ∀ {L : List Blk} {k : V → List Blk → Prop},k (.d (ins (natI (visO F root)))) L → CallP C 27 [.d (nds F),I root] L k:=fun h=>visit_c F root hclo hrt (by omega) hneg h
   generalize visO F root = o at *
   have hm : MetOk F.length o:=hvi.metok hclo (fun a ha=>by rw [List.mem_singleton.1 ha]; exact hrt) ⟨List.nodup_nil,fun a ha=>by cases ha⟩
   have hlim : ¬ (4096 : Int) < (((natI o).map fun n=>[DI n]).length : Int):=by unfold natI; rw [List.length_map,List.length_map]; omega
   repeat' ((conv=>whnf); first|refine hvc ?_|refine zw9 (zw20 hlim) ?_|refine zw0 ?_|refine zw1 ?_|refine zw2 (fun h=>?_) (fun h=>?_)|refine zw3 ?_|refine zw4 (fun h=>?_) (fun h=>?_)|refine zw5 _ rfl ?_|refine zw6 rfl ?_)
   conv=>whnf
   have hlo : ((natI o).map fun n=>[DI n]).length = o.length:=by unfold natI; rw [List.length_map,List.length_map]
   have hat : ∀ (i : Nat) (hi : i < o.length),((natI o).map fun n=>[DI n])[i]? = some [DI (o[i] : Nat)]:=fun i hi=>by
    unfold natI; rw [List.getElem?_map,List.getElem?_map,List.getElem?_eq_getElem hi]; rfl
   have hb1 : ∀ i,belB 10 (eM (vq l) F e0 .nil ++ [.map (plM o i)]) = true:=fun i=>belB_app (eM_bel 10 (by decide) _ _ _ _ rfl) (by show (belM 10 (plM o i) && true) = true; rw [plM_bel]; rfl)
   refine LoopP.inv (fun i : Nat=>i ≤ o.length) (fun i=>⟨[(2,.ptr 1 0),(9,.ptr 5 0),(14,.d (ins (natI o))),(15,.map 9),(78,.d (ins (natI o))),(79,I o.length),(80,I i)],Tryz.f6.ntmps,eM (vq l) F e0 .nil ++ [.map (plM o i)],[],none⟩) (fun i=>o.length - i) 0 (zw22 _) ?_ ?_
   ·exact Weak.by ⟨rfl,rfl,rfl,rfl,rfl,congrArg I (congrArg Nat.cast hlo),rfl,trivial⟩
   intro i hi
   by_cases hi' : i < o.length
   ·have hlt : (i : Int) < (o.length : Int):=by omega
    have hw : IntKind.i64.wrap ((i : Int) + 1) = ((i + 1 : Nat) : Int):=by rw [wrap_in (by omega)]; omega
    have r1:=hat i hi'
    have hmp : ∀ {q : Option (Nat × V) → Prop},q none → MapF (.int .i64) (plM o i) (I (o[i] : Nat)) q:=fun h=>plM_new hm.nd hi' rfl h
    repeat' ((conv=>whnf); first|refine zw8 (zw19 hlt) ?_|refine zw10 i _ rfl r1 ?_|refine hmp ?_|refine zw0 ?_|refine zw1 ?_|refine zw2 (fun h=>?_) (fun h=>?_)|refine zw3 ?_|refine zw4 (fun h=>?_) (fun h=>?_)|refine zw5 _ rfl ?_|refine zw6 rfl ?_)
    conv=>whnf
    exact ⟨i + 1,hi',by omega,Weak.by (hL:=Eq.trans rfl (congrArg (fun x=>eM (vq l) F e0 .nil ++ [.map x]) (plM_next o hi'))) ⟨rfl,rfl,rfl,rfl,rfl,rfl,congrArg I hw,trivial⟩⟩
   have hlt : ¬ (i : Int) < (o.length : Int):=by omega
   have hie : i = o.length:=by omega
   subst hie
   repeat' ((conv=>whnf); first|refine zw9 (zw20 hlt) ?_|refine zw0 ?_|refine zw1 ?_|refine zw2 (fun h=>?_) (fun h=>?_)|refine zw3 ?_|refine zw4 (fun h=>?_) (fun h=>?_)|refine zw5 _ rfl ?_|refine zw6 rfl ?_)
   conv=>whnf
   have hkid:=hvi.kids fun a ha=>by cases ha
   obtain ⟨ns,hns⟩ : ∃ ns,ns = renum F o:=⟨_,rfl⟩
   have hnl : ns.length = o.length:=by rw [hns]; unfold renum; simp
   have hna : ∀ (i : Nat) (hi : i < o.length),ns[i]'(by omega) = ren o (ndA F o[i]):=fun i hi=>by
    subst hns; unfold renum; rw [List.getElem_map]
   rw [← hns]
   have htk : ∀ (i : Nat) (hi : i < o.length) (z : List V),z = (ren o (ndA F o[i])).cells.map .d → (rdN (ns.take i)).take i ++ [z] = rdN (ns.take (i + 1)):=fun i hi z hz=>by
    subst hz
    rw [take_next (show i < ns.length by omega),hna i hi,List.take_of_length_le (by unfold rdN; rw [List.length_map,List.length_take]; exact Nat.min_le_left _ _)]
    unfold rdN
    rw [List.map_append]; rfl
   have hb2 : ∀ i,belB 11 (eM (vq l) F e0 (.own 10 i 0 i) ++ [.map (plM o o.length),.row i 5 (rdN (ns.take i))]) = true:=fun i=>belB_app (eM_bel 11 (by decide) _ _ _ _ rfl) (by show (belM 11 (plM o o.length) && (belR 11 (rdN (ns.take i)) && true)) = true; rw [plM_bel,rdN_bel]; rfl)
   refine LoopP.inv (fun i : Nat=>i ≤ o.length) (fun i=>⟨[(2,.ptr 1 0),(9,.ptr 5 0),(15,.map 9),(89,.d (ins (natI o))),(90,I o.length),(91,I i)],Tryz.f6.ntmps,eM (vq l) F e0 (.own 10 i 0 i) ++ [.map (plM o o.length),.row i 5 (rdN (ns.take i))],[],none⟩) (fun i=>o.length - i) 0 (zw22 _) ?_ ?_
   ·exact Weak.nilCellTo 1 0 5 [.nil] rfl rfl (by decide) rfl ⟨rfl,rfl,rfl,rfl,congrArg I (congrArg Nat.cast hlo),rfl,trivial⟩
   clear hi hi' hlt
   intro i hi
   by_cases hi' : i < o.length
   ·have hlt : (i : Int) < (o.length : Int):=by omega
    have hw : IntKind.i64.wrap ((i : Int) + 1) = ((i + 1 : Nat) : Int):=by rw [wrap_in (by omega)]; omega
    have r1:=hat i hi'
    have htki:=htk i hi'
    have hap : ∀ {X : Prop},X → Need (i + 1 ≤ 4294967296) X:=fun h=>zw6 (by omega) h
    have hkd:=hkid o[i] (List.getElem_mem hi')
    have hoF:=hm.lt _ (List.getElem_mem hi')
    have hng:=hneg (ndA F o[i]) (by rw [ndA_get hoF]; exact List.getElem_mem hoF)
    have r2:=nds_at' (l:=F) hoF
    generalize o[i] = a at r1 r2 htki hkd hoF hng
    unfold ren at htki
    generalize ndA F a = x at r2 htki hkd hng
    by_cases hv : x.var = 0
    ·rw [if_pos hv] at htki
     repeat' ((conv=>whnf); first|refine zw8 (zw19 hlt) ?_|refine zw10 i _ rfl r1 ?_|refine zw10 a _ rfl r2 ?_|refine zw3 ?_|refine zw8 (zw19 hv) ?_|refine hap ?_|simp only [Nat.beq_refl,Bool.and_self]|refine zw0 ?_|refine zw1 ?_|refine zw2 (fun h=>?_) (fun h=>?_)|refine zw3 ?_|refine zw4 (fun h=>?_) (fun h=>?_)|refine zw5 _ rfl ?_|refine zw6 rfl ?_)
     conv=>whnf
     exact ⟨i + 1,hi',by omega,Weak.to 11 (Eq.trans rfl (congrArg (fun z=>eM (vq l) F e0 (.own 10 (i + 1) 0 (i + 1)) ++ [.map (plM o o.length),.row (i + 1) 5 z]) (htki _ rfl))) (zw22 _) (zw18 rfl) ⟨rfl,rfl,rfl,rfl,rfl,congrArg I hw,trivial⟩ (hB:=hb2 (i + 1))⟩
    ·rw [if_neg hv] at htki
     have hp1 : ∀ {q : Option (Nat × V) → Prop},q (some (o.idxOf x.y,I (o.idxOf x.y))) → MapF (.int .i64) (plM o o.length) (I x.yes) q:=fun h=>plM_at hm.nd (hkd hv).1 (by unfold Nd.y; have:=(hng hv).1; omega) h
     have hp2 : ∀ {q : Option (Nat × V) → Prop},q (some (o.idxOf x.z,I (o.idxOf x.z))) → MapF (.int .i64) (plM o o.length) (I x.no) q:=fun h=>plM_at hm.nd (hkd hv).2 (by unfold Nd.z; have:=(hng hv).2; omega) h
     repeat' ((conv=>whnf); first|refine zw8 (zw19 hlt) ?_|refine zw10 i _ rfl r1 ?_|refine zw10 a _ rfl r2 ?_|refine zw3 ?_|refine zw9 (zw20 hv) ?_|refine hap ?_|simp only [Nat.beq_refl,Bool.and_self]|refine zw0 ?_|refine zw1 ?_|refine zw2 (fun h=>?_) (fun h=>?_)|refine zw3 ?_|refine zw4 (fun h=>?_) (fun h=>?_)|refine zw5 _ rfl ?_|refine zw6 rfl ?_)
     conv=>whnf
     refine DrawP.por mixed [2,3,6,7] [[(0,0),(1,0),(4,0),(5,0),(2,2),(3,2),(6,2),(8,0),(7,2),(9,0),(10,0),(11,0)],[(0,0),(1,0),(4,0),(5,0),(2,2),(3,2),(6,2),(8,0),(9,0),(7,2),(10,0),(11,0)],[(0,0),(1,0),(4,0),(5,0),(2,2),(6,2),(3,2),(8,0),(7,2),(9,0),(10,0),(11,0)],[(0,0),(1,0),(4,0),(5,0),(2,2),(6,2),(3,2),(8,0),(9,0),(7,2),(10,0),(11,0)],[(0,0),(1,0),(4,0),(5,0),(2,2),(6,2),(7,2),(3,2),(8,0),(9,0),(10,0),(11,0)],[(0,0),(1,0),(4,0),(5,0),(6,2),(2,2),(3,2),(8,0),(7,2),(9,0),(10,0),(11,0)],[(0,0),(1,0),(4,0),(5,0),(6,2),(2,2),(3,2),(8,0),(9,0),(7,2),(10,0),(11,0)],[(0,0),(1,0),(4,0),(5,0),(6,2),(2,2),(7,2),(3,2),(8,0),(9,0),(10,0),(11,0)],[(0,0),(1,0),(4,0),(5,0),(6,2),(7,2),(2,2),(3,2),(8,0),(9,0),(10,0),(11,0)]] (by kernel_rfl) ?_
     conv=>whnf
     refine And.intro ?_ ?_
     rotate_left 1
     conv=>whnf
     refine And.intro ?_ ?_
     rotate_left 1
     conv=>whnf
     refine And.intro ?_ ?_
     rotate_left 1
     conv=>whnf
     refine And.intro ?_ ?_
     rotate_left 1
     conv=>whnf
     refine And.intro ?_ ?_
     rotate_left 1
     conv=>whnf
     refine And.intro ?_ ?_
     rotate_left 1
     conv=>whnf
     refine And.intro ?_ ?_
     rotate_left 1
     conv=>whnf
     refine And.intro ?_ ?_
     all_goals
      repeat' ((conv=>whnf); first|refine zw13 (I (o.idxOf x.z)) _ (hp2 ⟨rfl,rfl⟩) ?_|refine zw13 (I (o.idxOf x.y)) _ (hp1 ⟨rfl,rfl⟩) ?_|refine zw13 (I x.yes) _ ⟨rfl,rfl⟩ ?_|refine zw13 (I x.no) _ ⟨rfl,rfl⟩ ?_|refine hap ?_|simp only [Nat.beq_refl,Bool.and_self]|refine zw0 ?_|refine zw1 ?_|refine zw2 (fun h=>?_) (fun h=>?_)|refine zw3 ?_|refine zw4 (fun h=>?_) (fun h=>?_)|refine zw5 _ rfl ?_|refine zw6 rfl ?_)
     all_goals conv=>whnf
     all_goals
      exact ⟨i + 1,hi',by omega,Weak.to 11 (Eq.trans rfl (congrArg (fun z=>eM (vq l) F e0 (.own 10 (i + 1) 0 (i + 1)) ++ [.map (plM o o.length),.row (i + 1) 5 z]) (htki _ rfl))) (zw22 _) (zw18 rfl) ⟨rfl,rfl,rfl,rfl,rfl,congrArg I hw,trivial⟩ (hB:=hb2 (i + 1))⟩
   ·have hlt : ¬ (i : Int) < (o.length : Int):=by omega
    have hie : i = o.length:=by omega
    subst hie
    rw [List.take_of_length_le (by omega)]
    repeat' ((conv=>whnf); first|refine zw9 (zw20 hlt) ?_|refine zw0 ?_|refine zw1 ?_|refine zw2 (fun h=>?_) (fun h=>?_)|refine zw3 ?_|refine zw4 (fun h=>?_) (fun h=>?_)|refine zw5 _ rfl ?_|refine zw6 rfl ?_)
    conv=>whnf
    refine zw16 (L':=[]) (Y:=.tup [treV ns,I 0]) (.tup _ _ rfl fun j x y hx hy=>?_) rfl rfl ⟨rfl,rfl⟩
    match j,hx,hy with
    | 0,hx,hy =>
     cases hx; cases hy
     exact .aggL (.cons (rdN_cv ns hnl.symm (zw22 _) rfl) .nil)
    | 1,hx,hy=>cases hx; cases hy; exact .d (.d _)
    | j + 2,hx,hy=>cases hx
end Go.Proofs.YtclmjkhdmhlijaaGreatDoor
namespace Go.Proofs.YtclmjkhdmhlijaaGreatDoor
open Go.Tidy
variable {L : List Blk} {k : V → List Blk → Prop}
theorem nd_eq (x y : Nd) : x = y ↔ x.var = y.var ∧ x.n = y.n ∧ x.yes = y.yes ∧ x.no = y.no ∧ x.by_ = y.by_:=by
 cases x; cases y; simp
theorem rsameNode_c (x y : Nd) (hx : x.by_.length ≤ 4611686018427387904) (hy : y.by_.length ≤ 4611686018427387904) (h : k (B (decide (x = y))) L) : CallP C 31 [ndV x,ndV y] L k:=by
 have hs : ∀ {L : List Blk} {k : V → List Blk → Prop},k (B (decide (x.by_ = y.by_))) L → CallP C 13 [.d (ins x.by_),.d (ins y.by_)] L k:=fun h=>same_c _ _ hx hy h
 refine CallP.pure ?_ rfl (fun _=>rfl) h
 clear h
 refine callP_of C_ok Tryz.func31 rfl rfl (n:=_) rfl (zw18 rfl) (rs:=_) rfl ?_
 by_cases c1 : x.var = y.var
 rotate_left
 ·repeat' (conv => whnf
           first|refine zw9 (zw20 c1) ?_|refine hs ?_|refine zw0 ?_|refine zw1 ?_|refine zw2 (fun h=>?_) (fun h=>?_)|refine zw3 ?_|refine zw4 (fun h=>?_) (fun h=>?_)|refine zw5 _ rfl ?_|refine zw6 rfl ?_|refine zw7 mixed rfl ?_)
  conv=>whnf
  exact FinP.drop (n:=0) rfl (zw21 0) rfl rfl ⟨rfl,congrArg B (Eq.trans (b:=false) (by first | rfl | exact decide_eq_false c1) (zw20 fun e=>c1 ((nd_eq x y).1 e).1).symm)⟩
 by_cases c2 : x.n = y.n
 rotate_left
 ·repeat' (conv => whnf
           first|refine zw8 (zw19 c1) ?_|refine zw9 (zw20 c2) ?_|refine hs ?_|refine zw0 ?_|refine zw1 ?_|refine zw2 (fun h=>?_) (fun h=>?_)|refine zw3 ?_|refine zw4 (fun h=>?_) (fun h=>?_)|refine zw5 _ rfl ?_|refine zw6 rfl ?_|refine zw7 mixed rfl ?_)
  conv=>whnf
  exact FinP.drop (n:=0) rfl (zw21 0) rfl rfl ⟨rfl,congrArg B (Eq.trans (b:=false) (by first | rfl | exact decide_eq_false c2) (zw20 fun e=>c2 ((nd_eq x y).1 e).2.1).symm)⟩
 by_cases c3 : x.yes = y.yes
 rotate_left
 ·repeat' (conv => whnf
           first|refine zw8 (zw19 c1) ?_|refine zw8 (zw19 c2) ?_|refine zw9 (zw20 c3) ?_|refine hs ?_|refine zw0 ?_|refine zw1 ?_|refine zw2 (fun h=>?_) (fun h=>?_)|refine zw3 ?_|refine zw4 (fun h=>?_) (fun h=>?_)|refine zw5 _ rfl ?_|refine zw6 rfl ?_|refine zw7 mixed rfl ?_)
  conv=>whnf
  exact FinP.drop (n:=0) rfl (zw21 0) rfl rfl ⟨rfl,congrArg B (Eq.trans (b:=false) (by first | rfl | exact decide_eq_false c3) (zw20 fun e=>c3 ((nd_eq x y).1 e).2.2.1).symm)⟩
 by_cases c4 : x.no = y.no
 rotate_left
 ·repeat' (conv => whnf
           first|refine zw8 (zw19 c1) ?_|refine zw8 (zw19 c2) ?_|refine zw8 (zw19 c3) ?_|refine zw9 (zw20 c4) ?_|refine hs ?_|refine zw0 ?_|refine zw1 ?_|refine zw2 (fun h=>?_) (fun h=>?_)|refine zw3 ?_|refine zw4 (fun h=>?_) (fun h=>?_)|refine zw5 _ rfl ?_|refine zw6 rfl ?_|refine zw7 mixed rfl ?_)
  conv=>whnf
  exact FinP.drop (n:=0) rfl (zw21 0) rfl rfl ⟨rfl,congrArg B (Eq.trans (b:=false) (by first | rfl | exact decide_eq_false c4) (zw20 fun e=>c4 ((nd_eq x y).1 e).2.2.2.1).symm)⟩
 ·have e : decide (x = y) = decide (x.by_ = y.by_):=by
   rw [decide_eq_decide,nd_eq]
   exact ⟨fun h=>h.2.2.2.2,fun h=>⟨c1,c2,c3,c4,h⟩⟩
  rw [e]
  repeat' ((conv=>whnf); first|refine zw8 (zw19 c1) ?_|refine zw8 (zw19 c2) ?_|refine zw8 (zw19 c3) ?_|refine zw8 (zw19 c4) ?_|refine hs ?_|refine zw0 ?_|refine zw1 ?_|refine zw2 (fun h=>?_) (fun h=>?_)|refine zw3 ?_|refine zw4 (fun h=>?_) (fun h=>?_)|refine zw5 _ rfl ?_|refine zw6 rfl ?_|refine zw7 mixed rfl ?_)
  conv=>whnf
  exact FinP.drop (n:=0) rfl (zw21 0) rfl rfl ⟨rfl,rfl⟩
theorem rsame_c (a b : List Nd) (ha : a.length ≤ 1073741824) (hb : b.length ≤ 1073741824) (hs : ∀ x ∈ a,x.by_.length ≤ 4611686018427387904) (ht : ∀ x ∈ b,x.by_.length ≤ 4611686018427387904) (h : k (B (decide (a = b))) L) : CallP C 8 [treV a,treV b] L k:=by
 refine CallP.pure ?_ rfl (fun _=>rfl) h
 clear h
 refine callP_of C_ok Tryz.func8 rfl rfl (n:=_) rfl (zw18 rfl) (rs:=_) rfl ?_
 by_cases h1 : ((a.map Nd.cells).length : Int) = ((b.map Nd.cells).length : Int)
 rotate_left
 ·have hne : a ≠ b:=fun e=>h1 (by rw [e])
  repeat' ((conv=>whnf); first|refine zw3 ?_|refine zw9 (zw20 h1) ?_|refine zw0 ?_|refine zw1 ?_|refine zw2 (fun h=>?_) (fun h=>?_)|refine zw3 ?_|refine zw4 (fun h=>?_) (fun h=>?_)|refine zw5 _ rfl ?_|refine zw6 rfl ?_|refine zw7 mixed rfl ?_)
  conv=>whnf
  exact FinP.drop (n:=0) rfl (zw21 0) rfl rfl ⟨rfl,congrArg B (zw20 hne).symm⟩
 have hl : a.length = b.length:=by rw [List.length_map,List.length_map] at h1; omega
 repeat' ((conv=>whnf); first|refine zw3 ?_|refine zw8 (zw19 h1) ?_|refine zw0 ?_|refine zw1 ?_|refine zw2 (fun h=>?_) (fun h=>?_)|refine zw3 ?_|refine zw4 (fun h=>?_) (fun h=>?_)|refine zw5 _ rfl ?_|refine zw6 rfl ?_|refine zw7 mixed rfl ?_)
 conv=>whnf
 refine LoopP.inv (fun i=>i ≤ a.length ∧ ∀ (j : Nat) (h : j < a.length) (h' : j < b.length),j < i → a[j] = b[j]) (fun i=>⟨[(2,.ptr 0 0),(3,.ptr 1 0),(5,I i)],Tryz.f8.ntmps,[.cells [.d (nds a)],.cells [.d (nds b)]],[],none⟩) (fun i=>a.length - i) 0 ⟨zw22 _,fun j _ _ h=>absurd h (Nat.not_lt_zero j)⟩ ?_ ?_
 ·exact Weak.by ⟨rfl,rfl,rfl,trivial⟩
 rintro i ⟨hi,heq⟩
 by_cases hi' : i < a.length
 ·have hlt : (i : Int) < ((a.map Nd.cells).length : Int):=by rw [List.length_map]; omega
  have hib : i < b.length:=by omega
  have hw : IntKind.i64.wrap ((i : Int) + 1) = ((i + 1 : Nat) : Int):=by rw [wrap_in (by omega)]; omega
  have r1:=nds_at' hi'
  have r2:=nds_at' hib
  have hq0 : ndA a i = a[i]:=ndA_get hi'
  have hq1 : ndA b i = b[i]:=ndA_get hib
  have hsn : ∀ {L : List Blk} {k : V → List Blk → Prop},k (B (decide (ndA a i = ndA b i))) L → CallP C 31 [ndV (ndA a i),ndV (ndA b i)] L k:=fun h=>rsameNode_c _ _ (hs _ (by rw [hq0]; exact List.getElem_mem hi')) (ht _ (by rw [hq1]; exact List.getElem_mem hib)) h
  by_cases hq : ndA a i = ndA b i
  ·repeat' (conv => whnf
            first|refine zw3 ?_|refine zw8 (zw19 hlt) ?_|refine zw8 (zw19 hq) ?_|refine zw10 i _ rfl r1 ?_|refine zw10 i _ rfl r2 ?_|refine zw12 _ (hsn ⟨rfl,rfl⟩) ?_|refine zw0 ?_|refine zw1 ?_|refine zw2 (fun h=>?_) (fun h=>?_)|refine zw3 ?_|refine zw4 (fun h=>?_) (fun h=>?_)|refine zw5 _ rfl ?_|refine zw6 rfl ?_|refine zw7 mixed rfl ?_)
   conv=>whnf
   exact ⟨i + 1,⟨hi',fun j hj hj' hji=>by
    by_cases e : j = i
    ·subst e; rw [← hq0,← hq1]; exact hq
    ·exact heq j hj hj' (by omega)⟩,by omega,Weak.by ⟨rfl,rfl,congrArg I hw,trivial⟩⟩
  ·have hne : a ≠ b:=fun e=>hq (by subst e; rfl)
   repeat' ((conv=>whnf); first|refine zw3 ?_|refine zw8 (zw19 hlt) ?_|refine zw9 (zw20 hq) ?_|refine zw10 i _ rfl r1 ?_|refine zw10 i _ rfl r2 ?_|refine zw12 _ (hsn ⟨rfl,rfl⟩) ?_|refine zw0 ?_|refine zw1 ?_|refine zw2 (fun h=>?_) (fun h=>?_)|refine zw3 ?_|refine zw4 (fun h=>?_) (fun h=>?_)|refine zw5 _ rfl ?_|refine zw6 rfl ?_|refine zw7 mixed rfl ?_)
   conv=>whnf
   exact FinP.drop (n:=0) rfl (zw21 0) rfl rfl ⟨rfl,congrArg B (zw20 hne).symm⟩
 ·have hlt : ¬ (i : Int) < ((a.map Nd.cells).length : Int):=by rw [List.length_map]; omega
  have hab : a = b:=List.ext_getElem hl fun j h1 h2=>heq j h1 h2 (by omega)
  repeat' ((conv=>whnf); first|refine zw9 (zw20 hlt) ?_|refine zw0 ?_|refine zw1 ?_|refine zw2 (fun h=>?_) (fun h=>?_)|refine zw3 ?_|refine zw4 (fun h=>?_) (fun h=>?_)|refine zw5 _ rfl ?_|refine zw6 rfl ?_|refine zw7 mixed rfl ?_)
  conv=>whnf
  exact FinP.drop (n:=0) rfl (zw21 0) rfl rfl ⟨rfl,congrArg B (zw19 hab).symm⟩
theorem ins1_split {n : Int} : ∀ (l : List Int) (m : Nat),m ≤ l.length → (∀ (j : Nat) (h : j < l.length),j < m → l[j] < n) → (∀ h : m < l.length,n ≤ l[m]) → ins1 l n = if (∃ h : m < l.length,l[m] = n) then l else l.take m ++ n :: l.drop m
 | [],m,hm,_,_=>by
  have : m = 0:=by simpa using hm
  subst this
  rw [if_neg (fun ⟨h,_⟩=>absurd h (Nat.not_lt_zero 0))]; rfl
 | a :: r,0,_,_,h2=>by
  have h:=h2 (by simp)
  simp only [List.getElem_cons_zero] at h
  rw [ins1,if_neg (by omega)]
  by_cases e : a = n
  ·rw [if_pos e,if_pos ⟨by simp,by simpa using e⟩]
  ·rw [if_neg e,if_neg (fun ⟨_,h⟩=>e (by simpa using h))]; rfl
 | a :: r,m + 1,hm,h1,h2=>by
  have h:=h1 0 (by simp) (by omega)
  simp only [List.getElem_cons_zero] at h
  rw [ins1,if_pos h,ins1_split r m (by simpa using hm) (fun j hj hjm=>by have:=h1 (j + 1) (by simpa using hj) (by omega); rwa [List.getElem_cons_succ] at this) (fun hh=>by have:=h2 (by simpa using hh); rwa [List.getElem_cons_succ] at this)]
  by_cases e : ∃ h : m < r.length,r[m] = n
  ·rw [if_pos e,if_pos (by obtain ⟨hh,e⟩:=e; exact ⟨by simpa using hh,by simpa using e⟩)]
  ·rw [if_neg e,if_neg (fun ⟨hh,h⟩=>e ⟨by simpa using hh,by simpa using h⟩)]; rfl
theorem with_cv {S : Nat → Prop} {L : List Blk} {A B : List (List V)} {x y : List Int} (hA : A = rdI x) (hB : B = rdI y) (n : Int) : CvLL S L (((((((([] : List (List V)).take 0) ++ A).take (0 + A.length) ++ [[I n]]).take (0 + A.length + 1) ++ B).drop 0).take (0 + A.length + 1 + B.length))) ((x ++ n :: y).map fun v=>[DI v]):=by
 have e : ((((((([] : List (List V)).take 0) ++ A).take (0 + A.length) ++ [[I n]]).take (0 + A.length + 1) ++ B).drop 0).take (0 + A.length + 1 + B.length)) = rdI (x ++ n :: y):=by
  have hs : rdI (x ++ n :: y) = rdI x ++ [[I n]] ++ rdI y:=by unfold rdI; rw [List.map_append,List.map_cons]; simp
  rw [hs,← hA,← hB]
  simp only [List.take_nil,List.nil_append,Nat.zero_add,List.take_length,List.drop_zero]
  rw [List.take_of_length_le (l:=A ++ [[I n]]) (by simp),List.take_of_length_le (by simp; omega)]
 rw [e]; exact rdI_rows _
theorem with_a (l : List Int) (i : Nat) : (((l.map fun v=>[DI v]).drop 0).take (i - 0)).map (fun x=>x.map V.d) = rdI (l.take i):=by
 unfold rdI; rw [List.drop_zero,Nat.sub_zero,List.map_take,List.map_map,← List.map_take]; rfl
theorem with_b (l : List Int) (i : Nat) : (((l.map fun v=>[DI v]).drop i).take ((l.map fun n=>[DI n]).length - i)).map (fun x=>x.map V.d) = rdI (l.drop i):=by
 unfold rdI; rw [List.take_of_length_le (by simp),List.map_drop,List.map_map,← List.map_drop]; rfl
theorem with_l (l : List Int) (i : Nat) (n : Int) (hi : i ≤ l.length) : 0 + ((((l.map fun v=>[DI v]).drop 0).take (i - 0)).map (fun x=>x.map V.d)).length + 1 + ((((l.map fun v=>[DI v]).drop i).take ((l.map fun n=>[DI n]).length - i)).map (fun x=>x.map V.d)).length = (((l.take i) ++ n :: l.drop i).map fun v=>[DI v]).length:=by
 rw [with_a,with_b]
 simp [rdI]
 omega
theorem with_c (l : List Int) (n : Int) (hl : l.length ≤ 1000000) (h : k (.d (ins (ins1 l n))) L) : CallP C 90 [.d (ins l),I n] L k:=by
 refine CallP.pure ?_ rfl (fun _=>rfl) h
 clear h
 refine callP_of C_ok Tryz.func90 rfl rfl (n:=_) rfl (zw18 rfl) (rs:=_) rfl ?_
 repeat' ((conv=>whnf); first|refine zw0 ?_|refine zw1 ?_|refine zw2 (fun h=>?_) (fun h=>?_)|refine zw3 ?_|refine zw4 (fun h=>?_) (fun h=>?_)|refine zw5 _ rfl ?_|refine zw6 rfl ?_|refine zw7 mixed rfl ?_)
 conv=>whnf
 refine LoopP.inv (fun i=>i ≤ l.length ∧ ∀ (j : Nat) (h : j < l.length),j < i → l[j] < n) (fun i=>⟨[(0,.d (ins l)),(1,I n),(5,I i)],Tryz.f90.ntmps,[],[],none⟩) (fun i=>l.length - i) 0 ⟨zw22 _,fun j _ h=>absurd h (Nat.not_lt_zero j)⟩ ?_ ?_
 ·exact Weak.by ⟨rfl,rfl,rfl,trivial⟩
 rintro i ⟨hi,heq⟩
 by_cases hi' : i < l.length
 ·have hlt : (i : Int) < ((l.map fun n=>[DI n]).length : Int):=by rw [List.length_map]; omega
  have hw : IntKind.i64.wrap ((i : Int) + 1) = ((i + 1 : Nat) : Int):=by rw [wrap_in (by omega)]; omega
  have r1 : (l.map fun n=>[DI n])[i]? = some [DI l[i]]:=by rw [List.getElem?_map,List.getElem?_eq_getElem hi']; rfl
  by_cases hq : l[i] < n
  ·repeat' (conv => whnf
            first|refine zw8 (zw19 hlt) ?_|refine zw8 (zw19 hq) ?_|refine zw10 i _ rfl r1 ?_|refine zw0 ?_|refine zw1 ?_|refine zw2 (fun h=>?_) (fun h=>?_)|refine zw3 ?_|refine zw4 (fun h=>?_) (fun h=>?_)|refine zw5 _ rfl ?_|refine zw6 rfl ?_|refine zw7 mixed rfl ?_)
   conv=>whnf
   exact ⟨i + 1,⟨hi',fun j hj hji=>by
    by_cases e : j = i
    ·subst e; exact hq
    ·exact heq j hj (by omega)⟩,by omega,Weak.by ⟨rfl,rfl,congrArg I hw,trivial⟩⟩
  ·have hsp:=ins1_split l i hi heq fun h=>by omega
   by_cases e : l[i] = n
   ·rw [if_pos ⟨hi',e⟩] at hsp
    rw [hsp]
    repeat' ((conv=>whnf); first|refine zw8 (zw19 hlt) ?_|refine zw9 (zw20 hq) ?_|refine zw8 (zw19 e) ?_|refine zw10 i _ rfl r1 ?_|refine zw0 ?_|refine zw1 ?_|refine zw2 (fun h=>?_) (fun h=>?_)|refine zw3 ?_|refine zw4 (fun h=>?_) (fun h=>?_)|refine zw5 _ rfl ?_|refine zw6 rfl ?_|refine zw7 mixed rfl ?_)
    conv=>whnf
    exact FinP.drop (n:=0) rfl (zw21 0) rfl rfl ⟨rfl,rfl⟩
   ·rw [if_neg (fun ⟨_,h⟩=>e h)] at hsp
    rw [hsp]
    repeat' ((conv=>whnf); first|refine zw8 (zw19 hlt) ?_|refine zw9 (zw20 hq) ?_|refine zw9 (zw20 e) ?_|refine zw10 i _ rfl r1 ?_|refine zw0 ?_|refine zw1 ?_|refine zw2 (fun h=>?_) (fun h=>?_)|refine zw3 ?_|refine zw4 (fun h=>?_) (fun h=>?_)|refine zw5 _ rfl ?_|refine zw6 rfl ?_)
    conv=>whnf
    refine DrawP.por mixed [] [[(1,0),(2,0),(3,1),(5,0),(8,0),(9,0),(10,1),(0,0),(4,0),(6,0),(7,0),(11,0),(12,0)],[(1,0),(2,0),(3,1),(5,0),(8,0),(9,0),(10,1),(0,0),(6,0),(4,0),(7,0),(11,0),(12,0)],[(1,0),(2,0),(3,1),(5,0),(8,0),(9,0),(10,1),(6,0),(0,0),(4,0),(7,0),(11,0),(12,0)]] (by kernel_rfl) ?_
    conv=>whnf
    refine And.intro ?_ ?_
    rotate_left 1
    conv=>whnf
    refine And.intro ?_ ?_
    all_goals
     repeat' ((conv=>whnf); first|refine zw0 ?_|refine zw1 ?_|refine zw2 (fun h=>?_) (fun h=>?_)|refine zw3 ?_|refine zw4 (fun h=>?_) (fun h=>?_)|refine zw5 _ rfl ?_|refine zw6 rfl ?_|refine zw7 mixed rfl ?_|refine zw6 (rdI_e l) ?_|refine zw6 (fun e he=>rdI_e l e (List.mem_of_mem_take (List.mem_of_mem_drop he))) ?_|refine zw6 (fun e he=>rdI_e l e (List.mem_of_mem_drop (List.mem_of_mem_take he))) ?_|refine SliceP.intro 0 i rfl rfl (zw22 _) (by rw [List.length_map]; omega) ?_|refine SliceP.intro i (l.map fun n=>[DI n]).length rfl rfl (by rw [List.length_map]; omega) (zw21 _) ?_|refine zw6 (zw23 (m:=4294967296) (by simp; omega) (apLim_ge _)) ?_)
    all_goals conv=>whnf
    all_goals refine zw16 (L':=[]) (.d (.rowL (ds:=((l.take i) ++ n :: l.drop i).map fun v=>[DI v]) (zw22 _) rfl ?_ ?_ (rdI_e _))) rfl rfl ⟨rfl,rfl⟩
    all_goals first
     | exact with_cv (with_a l i) (with_b l i) n
     | exact with_l l i n hi
 ·have hlt : ¬ (i : Int) < ((l.map fun n=>[DI n]).length : Int):=by rw [List.length_map]; omega
  have hsp:=ins1_split l i hi heq fun h=>by omega
  rw [if_neg (fun ⟨h,_⟩=>absurd h (by omega))] at hsp
  rw [hsp]
  repeat' ((conv=>whnf); first|refine zw9 (zw20 hlt) ?_|refine zw0 ?_|refine zw1 ?_|refine zw2 (fun h=>?_) (fun h=>?_)|refine zw3 ?_|refine zw4 (fun h=>?_) (fun h=>?_)|refine zw5 _ rfl ?_|refine zw6 rfl ?_)
  conv=>whnf
  refine DrawP.por mixed [] [[(1,0),(2,0),(3,1),(5,0),(8,0),(9,0),(10,1),(0,0),(4,0),(6,0),(7,0),(11,0),(12,0)],[(1,0),(2,0),(3,1),(5,0),(8,0),(9,0),(10,1),(0,0),(6,0),(4,0),(7,0),(11,0),(12,0)],[(1,0),(2,0),(3,1),(5,0),(8,0),(9,0),(10,1),(6,0),(0,0),(4,0),(7,0),(11,0),(12,0)]] (by kernel_rfl) ?_
  conv=>whnf
  refine And.intro ?_ ?_
  rotate_left 1
  conv=>whnf
  refine And.intro ?_ ?_
  all_goals
   repeat' ((conv=>whnf); first|refine zw0 ?_|refine zw1 ?_|refine zw2 (fun h=>?_) (fun h=>?_)|refine zw3 ?_|refine zw4 (fun h=>?_) (fun h=>?_)|refine zw5 _ rfl ?_|refine zw6 rfl ?_|refine zw7 mixed rfl ?_|refine zw6 (rdI_e l) ?_|refine zw6 (fun e he=>rdI_e l e (List.mem_of_mem_take (List.mem_of_mem_drop he))) ?_|refine zw6 (fun e he=>rdI_e l e (List.mem_of_mem_drop (List.mem_of_mem_take he))) ?_|refine SliceP.intro 0 i rfl rfl (zw22 _) (by rw [List.length_map]; omega) ?_|refine SliceP.intro i (l.map fun n=>[DI n]).length rfl rfl (by rw [List.length_map]; omega) (zw21 _) ?_|refine zw6 (zw23 (m:=4294967296) (by simp; omega) (apLim_ge _)) ?_)
  all_goals conv=>whnf
  all_goals refine zw16 (L':=[]) (.d (.rowL (ds:=((l.take i) ++ n :: l.drop i).map fun v=>[DI v]) (zw22 _) rfl ?_ ?_ (rdI_e _))) rfl rfl ⟨rfl,rfl⟩
  all_goals first
   | exact with_cv (with_a l i) (with_b l i) n
   | exact with_l l i n hi
end Go.Proofs.YtclmjkhdmhlijaaGreatDoor
namespace Go.Proofs.YtclmjkhdmhlijaaGreatDoor
open Go.Tidy
variable {L : List Blk} {k : V → List Blk → Prop}
structure OutOk (l : List Int) : Prop where
 up : Up l
 rg : ∀ x ∈ l,0 ≤ x ∧ x ≤ 46
theorem OutOk.len {l : List Int} (h : OutOk l) : l.length ≤ 47:=by
 have:=up_len h.up (m:=(List.range 47).map fun (n : Nat)=>(n : Int)) fun x hx=>by
  have:=h.rg x hx
  exact List.mem_map.2 ⟨x.toNat,List.mem_range.2 (by omega),by omega⟩
 simpa using this
theorem lo_hi (v : Int) : 0 ≤ lo v ∧ hi v ≤ 46:=by
 unfold lo hi
 constructor
 ·split <;> omega
 ·split <;> (try split) <;> omega
theorem OutOk.ins {l : List Int} (h : OutOk l) {v : Int} {ps : List (Int × Int)} (hp : ∀ p ∈ ps,InB p) : OutOk (insA l (selV v ps)) :=
 ⟨insA_up h.up,fun x hx=>by
  rcases insA_mem.1 hx with hx | hx
  ·rw [selV_mem] at hx
   have:=hp _ hx
   unfold InB at this
   simp only at this
   have:=lo_hi v
   omega
  ·exact h.rg x hx⟩
theorem insA_app (l a b : List Int) : insA l (a ++ b) = insA (insA l a) b:=List.foldl_append
theorem selV_app (v : Int) (a b : List (Int × Int)) : selV v (a ++ b) = selV v a ++ selV v b:=by unfold selV; rw [List.filter_append,List.map_append]
def NCall (v : Int) (c : Co) : Prop:=∀ out,OutOk out → ∀ (L : List Blk) (k : V → List Blk → Prop),k (.d (ins (insA out (selV v (tcC c))))) L → CallP C 69 [.agg (c.cells.map .d),I v,.d (ins out)] L k
theorem tcC_in (c : Co) : ∀ p ∈ tcC c,InB p:=tc_in _ c (zw21 _)
theorem tcL_in (l : List Co) : ∀ p ∈ tcL l,InB p:=fun p hp=>by
 rw [tcL_map] at hp
 obtain ⟨m,hm,hp⟩:=List.mem_flatten.1 hp
 obtain ⟨c,hc,rfl⟩:=List.mem_map.1 hm
 exact tcC_in c p hp
theorem tsL_in (l : List Sp) : ∀ p ∈ tsL l,InB p:=ts_in _ l (zw21 _)
theorem numbers_s (v : Int) : ∀ (m : Nat) (c : Co),SizeOf.sizeOf c ≤ m → LCo c → NCall v c
 | 0,c,h,_=>absurd h (by cases c; simp)
 | m + 1,c,hsz,hc=>by
  intro out ho L k h
  have ih:=numbers_s v m
  have hlen:=hc.len
  have ho1:=ho.len
  obtain ⟨o1,ho1e⟩ : ∃ o1,o1 = insA out (selV v (if c.kind = 1 ∧ lo c.var < c.n ∧ c.n ≤ hi c.var then [(c.var,c.n)] else [])):=⟨_,rfl⟩
  have hok1 : OutOk o1:=by
   rw [ho1e]
   refine ho.ins fun p hp=>?_
   split at hp
   ·rename_i hh; rw [List.mem_singleton.1 hp]; exact hh.2
   ·cases hp
  have hres : insA out (selV v (tcC c)) = insA o1 (selV v (tcL c.parts)):=by
   rw [tcC_eq,selV_app,insA_app,ho1e]
  rw [hres] at h
  have ewith : ∀ {L : List Blk} {k : V → List Blk → Prop},k (.d (ins (ins1 out c.n))) L → CallP C 90 [.d (ins out),I c.n] L k:=fun h=>with_c out c.n (by omega) h
  have ho1if : o1 = if c.kind = 1 ∧ c.var = v ∧ lo v < c.n ∧ c.n ≤ hi v then ins1 out c.n else out:=by
   rw [ho1e]
   by_cases e : c.var = v
   ·rw [e]
    by_cases e2 : c.kind = 1 ∧ lo v < c.n ∧ c.n ≤ hi v
    ·rw [if_pos e2,if_pos ⟨e2.1,rfl,e2.2⟩]
     simp [selV,insA]
    ·rw [if_neg e2,if_neg (fun h=>e2 ⟨h.1,h.2.2⟩)]; rfl
   ·rw [if_neg (show ¬ (c.kind = 1 ∧ c.var = v ∧ lo v < c.n ∧ c.n ≤ hi v) from fun h=>e h.2.1)]
    split
    ·simp [selV,insA,e]
    ·rfl
  rw [Co.cells_eq]
  refine CallP.pure ?_ rfl (fun _=>rfl) h
  clear h
  refine callP_cut (fun c=>match c with | .seq (.region 2 _ _) (.cond _ _ _)=>true | _=>false) C_ok Tryz.func69 rfl rfl (n:=_) rfl (zw18 rfl) (rs:=_) rfl ?_
  repeat' ((conv=>whnf); first|refine rbounds_c _ ?_|refine zw0 ?_|refine zw1 ?_|refine zw2 (fun h=>?_) (fun h=>?_)|refine zw3 ?_|refine zw4 (fun h=>?_) (fun h=>?_)|refine zw5 _ rfl ?_|refine zw6 rfl ?_|refine zw7 mixed rfl ?_)
  conv=>whnf
  refine CutP.intro (ι:=Unit) (fun _=>⟨[(1,I v),(2,.d (ins o1)),(3,.ptr 0 0)],Tryz.f69.ntmps,[.cells [I c.kind,I c.var,I c.n,.d (cos c.parts)]],[],none⟩) ?_ (fun _=>?_)
  ·by_cases c1 : c.kind = 1
   rotate_left
   ·rw [ho1if,if_neg (fun h=>c1 h.1)]
    repeat' ((conv=>whnf); first|refine zw9 (zw20 c1) ?_|refine zw0 ?_|refine zw1 ?_|refine zw2 (fun h=>?_) (fun h=>?_)|refine zw3 ?_|refine zw4 (fun h=>?_) (fun h=>?_)|refine zw5 _ rfl ?_|refine zw6 rfl ?_|refine zw7 mixed rfl ?_)
    conv=>whnf
    exact ⟨(),Weak.by ⟨rfl,rfl,rfl,trivial⟩⟩
   by_cases c2 : c.var = v
   rotate_left
   ·rw [ho1if,if_neg (fun h=>c2 h.2.1)]
    repeat' ((conv=>whnf); first|refine zw8 (zw19 c1) ?_|refine zw9 (zw20 c2) ?_|refine zw0 ?_|refine zw1 ?_|refine zw2 (fun h=>?_) (fun h=>?_)|refine zw3 ?_|refine zw4 (fun h=>?_) (fun h=>?_)|refine zw5 _ rfl ?_|refine zw6 rfl ?_|refine zw7 mixed rfl ?_)
    conv=>whnf
    exact ⟨(),Weak.by ⟨rfl,rfl,rfl,trivial⟩⟩
   by_cases c3 : lo v < c.n
   rotate_left
   ·rw [ho1if,if_neg (fun h=>c3 h.2.2.1)]
    repeat' ((conv=>whnf); first|refine zw8 (zw19 c1) ?_|refine zw8 (zw19 c2) ?_|refine zw9 (zw20 c3) ?_|refine zw0 ?_|refine zw1 ?_|refine zw2 (fun h=>?_) (fun h=>?_)|refine zw3 ?_|refine zw4 (fun h=>?_) (fun h=>?_)|refine zw5 _ rfl ?_|refine zw6 rfl ?_|refine zw7 mixed rfl ?_)
    conv=>whnf
    exact ⟨(),Weak.by ⟨rfl,rfl,rfl,trivial⟩⟩
   by_cases c4 : c.n ≤ hi v
   rotate_left
   ·rw [ho1if,if_neg (fun h=>c4 h.2.2.2)]
    repeat' ((conv=>whnf); first|refine zw8 (zw19 c1) ?_|refine zw8 (zw19 c2) ?_|refine zw8 (zw19 c3) ?_|refine zw9 (zw20 c4) ?_|refine zw0 ?_|refine zw1 ?_|refine zw2 (fun h=>?_) (fun h=>?_)|refine zw3 ?_|refine zw4 (fun h=>?_) (fun h=>?_)|refine zw5 _ rfl ?_|refine zw6 rfl ?_|refine zw7 mixed rfl ?_)
    conv=>whnf
    exact ⟨(),Weak.by ⟨rfl,rfl,rfl,trivial⟩⟩
   ·rw [ho1if,if_pos ⟨c1,c2,c3,c4⟩]
    repeat' ((conv=>whnf); first|refine zw8 (zw19 c1) ?_|refine zw8 (zw19 c2) ?_|refine zw8 (zw19 c3) ?_|refine zw8 (zw19 c4) ?_|refine ewith ?_|refine zw0 ?_|refine zw1 ?_|refine zw2 (fun h=>?_) (fun h=>?_)|refine zw3 ?_|refine zw4 (fun h=>?_) (fun h=>?_)|refine zw5 _ rfl ?_|refine zw6 rfl ?_|refine zw7 mixed rfl ?_)
    conv=>whnf
    exact ⟨(),Weak.by ⟨rfl,rfl,rfl,trivial⟩⟩
  have key : ∀ i,OutOk (insA o1 (selV v (tcL (c.parts.take i)))):=fun i=>hok1.ins (tcL_in _)
  repeat' ((conv=>whnf); first|refine zw0 ?_|refine zw1 ?_|refine zw2 (fun h=>?_) (fun h=>?_)|refine zw3 ?_|refine zw4 (fun h=>?_) (fun h=>?_)|refine zw5 _ rfl ?_|refine zw6 rfl ?_|refine zw7 mixed rfl ?_)
  conv=>whnf
  refine LoopP.inv (fun i=>i ≤ c.parts.length) (fun i=>⟨[(1,I v),(2,.d (ins (insA o1 (selV v (tcL (c.parts.take i)))))),(3,.ptr 0 0),(9,I i)],Tryz.f69.ntmps,[.cells [I c.kind,I c.var,I c.n,.d (cos c.parts)]],[],none⟩) (fun i=>c.parts.length - i) 0 (zw22 _) ?_ ?_
  ·exact Weak.by ⟨rfl,rfl,rfl,rfl,trivial⟩
  intro i hi
  by_cases hi' : i < c.parts.length
  ·have hlt : (i : Int) < ((c.parts.map Co.cells).length : Int):=by rw [List.length_map]; omega
   have hw : IntKind.i64.wrap ((i : Int) + 1) = ((i + 1 : Nat) : Int):=by rw [wrap_in (by omega)]; omega
   have hpm : c.parts[i] ∈ c.parts:=List.getElem_mem hi'
   have hps:=part_sizeC hpm
   have htk:=tcL_take hi'
   have hk:=key i
   obtain ⟨p,hp⟩ : ∃ p,p = c.parts[i]:=⟨_,rfl⟩
   have r1 : (c.parts.map Co.cells)[i]? = some [DI p.kind,DI p.var,DI p.n,cos p.parts]:=by rw [List.getElem?_map,List.getElem?_eq_getElem hi',← hp,← Co.cells_eq]; rfl
   have hcall:=ih p (by rw [hp]; omega) (by rw [hp]; exact hc.sub _ hpm) _ hk
   rw [← hp] at htk
   have hnx : insA o1 (selV v (tcL (c.parts.take (i + 1)))) = insA (insA o1 (selV v (tcL (c.parts.take i)))) (selV v (tcC p)):=by rw [htk,selV_app,insA_app]
   rw [Co.cells_eq,← hnx] at hcall
   repeat' ((conv=>whnf); first|refine zw8 (zw19 hlt) ?_|refine zw10 i _ rfl r1 ?_|refine hcall _ _ ?_|refine zw0 ?_|refine zw1 ?_|refine zw2 (fun h=>?_) (fun h=>?_)|refine zw3 ?_|refine zw4 (fun h=>?_) (fun h=>?_)|refine zw5 _ rfl ?_|refine zw6 rfl ?_|refine zw7 mixed rfl ?_)
   conv=>whnf
   exact ⟨i + 1,hi',by omega,Weak.by ⟨rfl,rfl,rfl,congrArg I hw,trivial⟩⟩
  ·have hlt : ¬ (i : Int) < ((c.parts.map Co.cells).length : Int):=by rw [List.length_map]; omega
   rw [List.take_of_length_le (show c.parts.length ≤ i by omega)]
   repeat' ((conv=>whnf); first|refine zw9 (zw20 hlt) ?_|refine zw0 ?_|refine zw1 ?_|refine zw2 (fun h=>?_) (fun h=>?_)|refine zw3 ?_|refine zw4 (fun h=>?_) (fun h=>?_)|refine zw5 _ rfl ?_|refine zw6 rfl ?_|refine zw7 mixed rfl ?_)
   conv=>whnf
   exact FinP.drop (n:=0) rfl (zw21 0) rfl rfl ⟨rfl,rfl⟩
def RTCall (v : Int) (l : List Sp) : Prop:=∀ out,OutOk out → ∀ (L : List Blk) (k : V → List Blk → Prop),k (.d (ins (insA out (selV v (tsL l))))) L → CallP C 46 [.d (sps l),I v,.d (ins out)] L k
theorem rtests_s (v : Int) : ∀ (m : Nat) (l : List Sp),SizeOf.sizeOf l ≤ m → LSs l → RTCall v l
 | 0,l,h,_=>absurd h (by cases l <;> simp)
 | m + 1,l,hsz,hl=>by
  intro out ho L k h
  have ih:=rtests_s v m
  have hlen:=hl.len
  have key : ∀ i,OutOk (insA out (selV v (tsL (l.take i)))):=fun i=>ho.ins (tsL_in _)
  refine CallP.pure ?_ rfl (fun _=>rfl) h
  clear h
  refine callP_of C_ok Tryz.func46 rfl rfl (n:=_) rfl (zw18 rfl) (rs:=_) rfl ?_
  repeat' ((conv=>whnf); first|refine zw0 ?_|refine zw1 ?_|refine zw2 (fun h=>?_) (fun h=>?_)|refine zw3 ?_|refine zw4 (fun h=>?_) (fun h=>?_)|refine zw5 _ rfl ?_|refine zw6 rfl ?_|refine zw7 mixed rfl ?_)
  conv=>whnf
  refine LoopP.inv (fun i=>i ≤ l.length) (fun i=>⟨[(0,.d (sps l)),(1,I v),(2,.d (ins (insA out (selV v (tsL (l.take i)))))),(7,I i)],Tryz.f46.ntmps,[],[],none⟩) (fun i=>l.length - i) 0 (zw22 _) ?_ ?_
  ·exact Weak.by ⟨rfl,rfl,rfl,rfl,trivial⟩
  intro i hi
  by_cases hi' : i < l.length
  ·have hlt : (i : Int) < ((l.map Sp.cells).length : Int):=by rw [List.length_map]; omega
   have hw : IntKind.i64.wrap ((i : Int) + 1) = ((i + 1 : Nat) : Int):=by rw [wrap_in (by omega)]; omega
   have r1 : (l.map Sp.cells)[i]? = some [DI l[i].kind,DI l[i].by_,DI l[i].cond.kind,DI l[i].cond.var,DI l[i].cond.n,cos l[i].cond.parts,sps l[i].thn,sps l[i].els]:=by rw [List.getElem?_map,List.getElem?_eq_getElem hi',← Sp.cells_eq]; rfl
   have hm : l[i] ∈ l:=List.getElem_mem hi'
   have hsz' : SizeOf.sizeOf l[i] < SizeOf.sizeOf l:=List.sizeOf_lt_of_mem hm
   have htk:=tsL_take hi'
   rw [tsS_eq] at htk
   have hk:=key i
   have hls:=hl.all _ hm
   obtain ⟨s,hs⟩ : ∃ s,s = l[i]:=⟨_,rfl⟩
   rw [← hs] at r1 hsz' htk hls
   obtain ⟨h1,h2,hlc,ht,he⟩:=hls
   have hnx : insA out (selV v (tsL (l.take (i + 1)))) = insA (insA (insA (insA out (selV v (tsL (l.take i)))) (selV v (tcC s.cond))) (selV v (tsL s.thn))) (selV v (tsL s.els)):=by
    rw [htk]; simp only [selV_app,insA_app]
   cases s with | mk kd b c t e =>
   simp only [Sp.mk.sizeOf_spec] at hsz'
   simp only [Sp.cond,Sp.thn,Sp.els,Sp.kind,Sp.by_] at *
   generalize insA out (selV v (tsL (l.take i))) = oa at hk hnx
   have k2:=hk.ins (v:=v) (tcC_in c)
   have k3:=k2.ins (v:=v) (tsL_in t)
   have n1:=numbers_s v _ c (zw21 _) hlc oa hk
   have n2:=ih t (by omega) ⟨h1,ht⟩ _ k2
   have n3:=ih e (by omega) ⟨h2,he⟩ _ k3
   rw [Co.cells_eq] at n1
   repeat' ((conv=>whnf); first|refine zw8 (zw19 hlt) ?_|refine zw10 i _ rfl r1 ?_|refine n1 _ _ ?_|refine n2 _ _ ?_|refine n3 _ _ ?_|refine zw0 ?_|refine zw1 ?_|refine zw2 (fun h=>?_) (fun h=>?_)|refine zw3 ?_|refine zw4 (fun h=>?_) (fun h=>?_)|refine zw5 _ rfl ?_|refine zw6 rfl ?_|refine zw7 mixed rfl ?_)
   conv=>whnf
   exact ⟨i + 1,hi',by omega,Weak.by ⟨rfl,rfl,congrArg (fun x=>V.d (ins x)) hnx.symm,congrArg I hw,trivial⟩⟩
  ·have hlt : ¬ (i : Int) < ((l.map Sp.cells).length : Int):=by rw [List.length_map]; omega
   rw [List.take_of_length_le (show l.length ≤ i by omega)]
   repeat' ((conv=>whnf); first|refine zw9 (zw20 hlt) ?_|refine zw0 ?_|refine zw1 ?_|refine zw2 (fun h=>?_) (fun h=>?_)|refine zw3 ?_|refine zw4 (fun h=>?_) (fun h=>?_)|refine zw5 _ rfl ?_|refine zw6 rfl ?_|refine zw7 mixed rfl ?_)
   conv=>whnf
   exact FinP.drop (n:=0) rfl (zw21 0) rfl rfl ⟨rfl,rfl⟩
theorem Tests_c (l : List Sp) (v : Int) (hl : LSs l) (hv : 1 ≤ v ∧ v ≤ 4) (h : k (.d (ins (tv v (tsL l)))) L) : CallP C 17 [.d (sps l),I v] L k:=by
 have ho : OutOk [lo v]:=⟨by simp,fun x hx=>by
  rw [List.mem_singleton.1 hx]
  have h4 : v = 1 ∨ v = 2 ∨ v = 3 ∨ v = 4:=by omega
  rcases h4 with rfl | rfl | rfl | rfl <;> decide⟩
 have ht:=rtests_s v _ l (zw21 _) hl [lo v] ho
 have hfz : ∀ {b : Nat} {L : List Blk} {k : V → List Blk → Prop},L[b]? = some (.row 0 1 [[I (lo v)]]) → k (.d (ins (tv v (tsL l)))) (killB [b] L) → CallP C 46 [.d (sps l),I v,.own b 0 0 1] L k:=fun {b} {L} {k} hL h =>
  CallP.freeze (dargs:=[.d (sps l),I v,.d (ins [lo v])]) [b] rfl (by simp [plainBlk,hL]) (.keep (.keep (.cv (.d (.rowL (ds:=[[DI (lo v)]]) (List.mem_singleton.2 rfl) hL (.cons (.cons (.d _) .nil) .nil) rfl (fun e he=>by rw [List.mem_singleton.1 he]; rfl))) .nil))) (ht _ _ h)
 refine CallP.pure ?_ rfl (fun _=>rfl) h
 clear h
 refine callP_of C_ok Tryz.func17 rfl rfl (n:=_) rfl (zw18 rfl) (rs:=_) rfl ?_
 repeat' ((conv=>whnf); first|refine rbounds_c _ ?_|refine hfz rfl ?_|refine zw0 ?_|refine zw1 ?_|refine zw2 (fun h=>?_) (fun h=>?_)|refine zw3 ?_|refine zw4 (fun h=>?_) (fun h=>?_)|refine zw5 _ rfl ?_|refine zw6 rfl ?_|refine zw7 mixed rfl ?_)
 conv=>whnf
 exact FinP.drop (n:=0) rfl (zw21 0) rfl rfl ⟨rfl,rfl⟩
theorem tv_out (v : Int) (hv : 1 ≤ v ∧ v ≤ 4) {ps : List (Int × Int)} (hp : ∀ p ∈ ps,InB p) : OutOk (tv v ps):=by
 have ho : OutOk [lo v]:=⟨by simp,fun x hx=>by
  rw [List.mem_singleton.1 hx]
  have h4 : v = 1 ∨ v = 2 ∨ v = 3 ∨ v = 4:=by omega
  rcases h4 with rfl | rfl | rfl | rfl <;> decide⟩
 exact ho.ins hp
instance (q : Vs4) : Decidable (few3 q):=inferInstanceAs (Decidable (_ ≤ 300))
def fewR (l : List Sp) : Bool:=fewB l && decide (few3 (vq l))
def prN (a b c d : Nat) : Nat → Nat
 | 0=>1
 | 1=>1 * a
 | 2=>1 * a * b
 | 3=>1 * a * b * c
 | _=>1 * a * b * c * d
theorem rfew_c (l : List Sp) (hl : LSs l) (h : k (B (fewR l)) L) : CallP C 5 [.d (sps l)] L k:=by
 have h14 : ∀ {L : List Blk} {k : V → List Blk → Prop},k (B (fewB l)) L → CallP C 16 [.d (sps l)] L k:=fun h=>few_c l hl h
 by_cases c0 : fewB l = true
 rotate_left
 ·have e : fewR l = false:=by unfold fewR; rw [eq_false_of_ne_true c0]; rfl
  rw [e] at h
  rw [eq_false_of_ne_true c0] at h14
  refine CallP.pure ?_ rfl (fun _=>rfl) h
  clear h
  refine callP_of C_ok Tryz.func5 rfl rfl (n:=_) rfl (zw18 rfl) (rs:=_) rfl ?_
  repeat' ((conv=>whnf); first|refine h14 ?_|refine zw0 ?_|refine zw1 ?_|refine zw2 (fun h=>?_) (fun h=>?_)|refine zw3 ?_|refine zw4 (fun h=>?_) (fun h=>?_)|refine zw5 _ rfl ?_|refine zw6 rfl ?_|refine zw7 mixed rfl ?_)
  conv=>whnf
  exact FinP.drop (n:=0) rfl (zw21 0) rfl rfl ⟨rfl,rfl⟩
 have e : fewR l = decide ((tv 1 (tsL l)).length * (tv 2 (tsL l)).length * (tv 3 (tsL l)).length * (tv 4 (tsL l)).length ≤ 300):=by unfold fewR few3; rw [c0]; rfl
 rw [e] at h
 rw [c0] at h14
 have o1:=(tv_out 1 (by decide) (tsL_in l)).len
 have o2:=(tv_out 2 (by decide) (tsL_in l)).len
 have o3:=(tv_out 3 (by decide) (tsL_in l)).len
 have o4:=(tv_out 4 (by decide) (tsL_in l)).len
 have T:=fun (v : Int) (hv : 1 ≤ v ∧ v ≤ 4) (L : List Blk) (k : V → List Blk → Prop) h=>Tests_c (L:=L) (k:=k) l v hl hv h
 have t1 : ∀ {L : List Blk} {k : V → List Blk → Prop},k (.d (ins (tv 1 (tsL l)))) L → CallP C 17 [.d (sps l),I 1] L k:=fun h=>T 1 (by decide) _ _ h
 have t2 : ∀ {L : List Blk} {k : V → List Blk → Prop},k (.d (ins (tv 2 (tsL l)))) L → CallP C 17 [.d (sps l),I 2] L k:=fun h=>T 2 (by decide) _ _ h
 have t3 : ∀ {L : List Blk} {k : V → List Blk → Prop},k (.d (ins (tv 3 (tsL l)))) L → CallP C 17 [.d (sps l),I 3] L k:=fun h=>T 3 (by decide) _ _ h
 have t4 : ∀ {L : List Blk} {k : V → List Blk → Prop},k (.d (ins (tv 4 (tsL l)))) L → CallP C 17 [.d (sps l),I 4] L k:=fun h=>T 4 (by decide) _ _ h
 generalize tv 1 (tsL l) = a at *
 generalize tv 2 (tsL l) = b at *
 generalize tv 3 (tsL l) = c at *
 generalize tv 4 (tsL l) = d at *
 have ml : ∀ x : List Int,(x.map fun n=>[DI n]).length = x.length:=fun x=>List.length_map _
 have w1 : IntKind.i64.wrap (((1 : Nat) : Int) * ((a.map fun n=>[DI n]).length : Int)) = ((1 * a.length : Nat) : Int):=by rw [ml,wrap_in (by omega)]; omega
 have m2 : a.length * b.length ≤ 47 * 47:=Nat.mul_le_mul o1 o2
 have m3 : a.length * b.length * c.length ≤ 47 * 47 * 47:=Nat.mul_le_mul m2 o3
 have m4 : a.length * b.length * c.length * d.length ≤ 47 * 47 * 47 * 47:=Nat.mul_le_mul m3 o4
 have w2 : IntKind.i64.wrap (((1 * a.length : Nat) : Int) * ((b.map fun n=>[DI n]).length : Int)) = ((1 * a.length * b.length : Nat) : Int):=by
  rw [ml,← Int.natCast_mul,Nat.one_mul,wrap_in (by omega)]
 have w3 : IntKind.i64.wrap (((1 * a.length * b.length : Nat) : Int) * ((c.map fun n=>[DI n]).length : Int)) = ((1 * a.length * b.length * c.length : Nat) : Int):=by
  rw [ml,← Int.natCast_mul,Nat.one_mul,wrap_in (by omega)]
 have w4 : IntKind.i64.wrap (((1 * a.length * b.length * c.length : Nat) : Int) * ((d.map fun n=>[DI n]).length : Int)) = ((1 * a.length * b.length * c.length * d.length : Nat) : Int):=by
  rw [ml,← Int.natCast_mul,Nat.one_mul,wrap_in (by omega)]
 clear T
 refine CallP.pure ?_ rfl (fun _=>rfl) h
 clear h
 refine callP_of C_ok Tryz.func5 rfl rfl (n:=_) rfl (zw18 rfl) (rs:=_) rfl ?_
 repeat' ((conv=>whnf); first|refine h14 ?_|refine zw0 ?_|refine zw1 ?_|refine zw2 (fun h=>?_) (fun h=>?_)|refine zw3 ?_|refine zw4 (fun h=>?_) (fun h=>?_)|refine zw5 _ rfl ?_|refine zw6 rfl ?_|refine zw7 mixed rfl ?_)
 conv=>whnf
 refine LoopP.inv (fun j : Nat=>j ≤ 4) (fun j=>⟨[(0,.d (sps l)),(3,I (prN a.length b.length c.length d.length j)),(4,I ((j : Int) + 1))],Tryz.f5.ntmps,[],[],none⟩) (fun j=>4 - j) 0 (zw22 _) ?_ ?_
 ·exact Weak.by ⟨rfl,rfl,rfl,trivial⟩
 intro j hj
 match j,hj with
  | 0,_ =>
   repeat' ((conv=>whnf); first|refine t1 ?_|refine zw0 ?_|refine zw1 ?_|refine zw2 (fun h=>?_) (fun h=>?_)|refine zw3 ?_|refine zw4 (fun h=>?_) (fun h=>?_)|refine zw5 _ rfl ?_|refine zw6 rfl ?_|refine zw7 mixed rfl ?_)
   conv=>whnf
   exact ⟨1,by decide,by decide,Weak.by ⟨rfl,congrArg I w1,rfl,trivial⟩⟩
  | 1,_ =>
   repeat' ((conv=>whnf); first|refine t2 ?_|refine zw0 ?_|refine zw1 ?_|refine zw2 (fun h=>?_) (fun h=>?_)|refine zw3 ?_|refine zw4 (fun h=>?_) (fun h=>?_)|refine zw5 _ rfl ?_|refine zw6 rfl ?_|refine zw7 mixed rfl ?_)
   conv=>whnf
   exact ⟨2,by decide,by decide,Weak.by ⟨rfl,congrArg I w2,rfl,trivial⟩⟩
  | 2,_ =>
   repeat' ((conv=>whnf); first|refine t3 ?_|refine zw0 ?_|refine zw1 ?_|refine zw2 (fun h=>?_) (fun h=>?_)|refine zw3 ?_|refine zw4 (fun h=>?_) (fun h=>?_)|refine zw5 _ rfl ?_|refine zw6 rfl ?_|refine zw7 mixed rfl ?_)
   conv=>whnf
   exact ⟨3,by decide,by decide,Weak.by ⟨rfl,congrArg I w3,rfl,trivial⟩⟩
  | 3,_ =>
   repeat' ((conv=>whnf); first|refine t4 ?_|refine zw0 ?_|refine zw1 ?_|refine zw2 (fun h=>?_) (fun h=>?_)|refine zw3 ?_|refine zw4 (fun h=>?_) (fun h=>?_)|refine zw5 _ rfl ?_|refine zw6 rfl ?_|refine zw7 mixed rfl ?_)
   conv=>whnf
   exact ⟨4,by decide,by decide,Weak.by ⟨rfl,congrArg I w4,rfl,trivial⟩⟩
  | 4,_ =>
   repeat' ((conv=>whnf); first|refine zw0 ?_|refine zw1 ?_|refine zw2 (fun h=>?_) (fun h=>?_)|refine zw3 ?_|refine zw4 (fun h=>?_) (fun h=>?_)|refine zw5 _ rfl ?_|refine zw6 rfl ?_|refine zw7 mixed rfl ?_)
   conv=>whnf
   refine zw15 (n:=0) rfl (zw21 0) rfl rfl ⟨rfl,congrArg B ?_⟩
   show decide (((1 * a.length * b.length * c.length * d.length : Nat) : Int) ≤ 300) = _
   rw [decide_eq_decide,Nat.one_mul]
   omega
  | j + 5,h=>omega
end Go.Proofs.YtclmjkhdmhlijaaGreatDoor
