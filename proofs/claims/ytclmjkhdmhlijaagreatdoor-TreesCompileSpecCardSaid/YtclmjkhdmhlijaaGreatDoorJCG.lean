import Derived.Test.YtclmjkhdmhlijaaGreatDoorJCF
set_option maxRecDepth 100000
set_option maxHeartbeats 0
set_option linter.unusedSimpArgs false
set_option linter.unusedVariables false
namespace Go.Proofs.YtclmjkhdmhlijaaGreatDoor
open Go.Tidy
variable {L : List Blk} {k : V → List Blk → Prop}
def zCo : Co:=.mk 0 0 0 []
def byS16 (n : Int) : Sp:=.mk 1 n zCo [] []
def atC (v n : Int) : Co:=.mk 1 v n []
def chS (c : Co) (a b : Int) : List Sp:=[.mk 2 0 c [byS16 a] [byS16 b]]
theorem lco16 (kd v n : Int) : LCo (.mk kd v n []):=.mk (zw22 _) fun p hp=>by cases hp
theorem lsp16 (n : Int) : LSp (byS16 n):=.mk (zw22 _) (zw22 _) (lco16 _ _ _) (fun p hp=>by cases hp) (fun p hp=>by cases hp)
theorem lch (v n a b : Int) : LSs (chS (atC v n) a b):=by
 refine ⟨by simp [chS],fun s hs=>?_⟩
 rw [List.mem_singleton.1 hs]
 exact .mk (Nat.le_of_ble_eq_true rfl) (Nat.le_of_ble_eq_true rfl) (lco16 _ _ _) (fun p hp=>by rw [List.mem_singleton.1 hp]; exact lsp16 a) (fun p hp=>by rw [List.mem_singleton.1 hp]; exact lsp16 b)
theorem atLeast16_c (v n : Int) (h : k (.agg ((atC v n).cells.map .d)) L) : CallP C 10 [I v,I n] L k:=by
 refine CallP.pure ?_ rfl (fun _=>rfl) h
 clear h
 refine callP_of C_ok Tryz.func10 rfl rfl (n:=_) rfl (zw18 rfl) (rs:=_) rfl ?_
 repeat' ((conv=>whnf); first|refine zw0 ?_|refine zw1 ?_|refine zw2 (fun h=>?_) (fun h=>?_)|refine zw3 ?_|refine zw4 (fun h=>?_) (fun h=>?_)|refine zw5 _ rfl ?_|refine zw6 rfl ?_|refine zw7 mixed rfl ?_)
 conv=>whnf
 exact FinP.data (L':=[]) (Y:=.agg ((atC v n).cells.map .d)) (.aggL (.cons (.d _) (.cons (.d _) (.cons (.d _) (.cons .nil .nil))))) rfl rfl ⟨rfl,rfl⟩
theorem by16_c (n : Int) (h : k (.d (sps [byS16 n])) L) : CallP C 32 [I n] L k:=by
 refine CallP.pure ?_ rfl (fun _=>rfl) h
 clear h
 refine callP_of C_ok Tryz.func32 rfl rfl (n:=_) rfl (zw18 rfl) (rs:=_) rfl ?_
 repeat' ((conv=>whnf); first|refine zw0 ?_|refine zw1 ?_|refine zw2 (fun h=>?_) (fun h=>?_)|refine zw3 ?_|refine zw4 (fun h=>?_) (fun h=>?_)|refine zw5 _ rfl ?_|refine zw6 rfl ?_|refine zw7 mixed rfl ?_)
 conv=>whnf
 exact FinP.data (L':=[]) (Y:=.d (sps [byS16 n])) (.d (.rowL (ds:=[byS16 n].map Sp.cells) (Nat.zero_le _) rfl (.cons (.cons (.d _) (.cons (.d _) (.cons (.d _) (.cons (.d _) (.cons (.d _) (.cons .nil (.cons .nil (.cons .nil .nil)))))))) .nil) rfl (fun e he=>by rw [List.mem_singleton.1 he]; rfl))) rfl rfl ⟨rfl,rfl⟩
theorem choice16_c (v n a b : Int) (h : k (.d (sps (chS (atC v n) a b))) L) : CallP C 9 [.agg ((atC v n).cells.map .d),I a,I b] L k:=by
 refine CallP.pure ?_ rfl (fun _=>rfl) h
 clear h
 refine callP_of C_ok Tryz.func9 rfl rfl (n:=_) rfl (zw18 rfl) (rs:=_) rfl ?_
 repeat' ((conv=>whnf); first|refine zw0 ?_|refine zw1 ?_|refine zw2 (fun h=>?_) (fun h=>?_)|refine zw3 ?_|refine zw4 (fun h=>?_) (fun h=>?_)|refine zw5 _ rfl ?_|refine zw6 rfl ?_|refine zw7 mixed rfl ?_|refine by16_c _ ?_|refine zw12 _ (by16_c _ ⟨rfl,rfl⟩) ?_)
 conv=>whnf
 exact FinP.data (L':=[]) (Y:=.d (sps (chS (atC v n) a b))) (.d (.rowL (ds:=(chS (atC v n) a b).map Sp.cells) (Nat.zero_le _) rfl (.cons (.cons (.d _) (.cons (.d _) (.cons (.d _) (.cons (.d _) (.cons (.d _) (.cons (.d _) (.cons (.d _) (.cons (.d _) .nil)))))))) .nil) rfl (fun e he=>by rw [List.mem_singleton.1 he]; rfl))) rfl rfl ⟨rfl,rfl⟩
def sl1 : List Sp:=chS (atC 1 3) 4 3
def sl2 : List Sp:=chS (atC 1 30) 4 3
def tr1 : List Nd:=[⟨1,3,1,2,[]⟩,⟨0,0,0,0,[4]⟩,⟨0,0,0,0,[3]⟩]
def tr2 : List Nd:=[⟨0,0,0,0,[3]⟩]
theorem ord1 : orderF sl1 = 0:=by decide +kernel
theorem ord2 : orderF sl2 = 0:=by decide +kernel
theorem few1 : few3 (vq sl1):=by decide +kernel
theorem few2 : few3 (vq sl2):=by decide +kernel
theorem cmp1 : cmpX sl1 = tr1:=by decide +kernel
theorem cmp2 : cmpX sl2 = tr2:=by decide +kernel
theorem ev16 : evalB tr1 ⟨4,0,0,4⟩ = [4] ∧ evalE tr1 ⟨4,0,0,4⟩ = 0:=by decide +kernel
theorem rea16 : reachX tr1 0 = ⟨2,0,0,2⟩ ∧ reachO tr1 0 = true ∧ reachE tr1 0 = 0:=by decide +kernel
theorem smT (l : List Nd) (h : decide (l.length ≤ 4096 ∧ ∀ x ∈ l,x.by_.length ≤ 1073741824) = true) : TrSm l:=⟨(of_decide_eq_true h).1,(of_decide_eq_true h).2⟩
theorem sm1 : TrSm tr1:=smT tr1 (by decide)
theorem sm2 : TrSm tr2:=smT tr2 (by decide)
theorem big62 {n : Nat} (h : n ≤ 1073741824) : n ≤ 4611686018427387904:=zw23 h (by decide)
theorem comp1 (h : k (.tup [treV tr1,I 0]) L) : CallP C 6 [.d (sps (chS (atC 1 3) 4 3))] L k:=compile_c sl1 (lch _ _ _ _) (fun _=>few1) (by rw [cmp1,ord1]; exact h)
theorem comp2 (h : k (.tup [treV tr2,I 0]) L) : CallP C 6 [.d (sps (chS (atC 1 30) 4 3))] L k:=compile_c sl2 (lch _ _ _ _) (fun _=>few2) (by rw [cmp2,ord2]; exact h)
theorem reach1 (h : k (.tup [enV ⟨2,0,0,2⟩,B true,I 0]) L) : CallP C 11 [treV tr1,I 0] L k:=reach_c tr1 0 sm1 (by rw [rea16.1,rea16.2.1,rea16.2.2]; exact h)
theorem eval1 (h : k (.tup [.d (ins [4]),I 0]) L) : CallP C 12 [treV tr1,enV ⟨4,0,0,4⟩] L k:=eval_c tr1 _ sm1 (by rw [ev16.1,ev16.2]; exact h)
theorem chk0 (h : k (I 160) L) : CallP C 14 [treV []] L k:=check16_c [] (smT [] (by decide)) (by rw [show checkT [] = 160 by decide +kernel]; exact h)
theorem rsm1 (h : k (B true) L) : CallP C 8 [treV tr1,treV tr1] L k:=rsame_c tr1 tr1 (by decide) (by decide) (fun x hx=>big62 (sm1.by_ x hx)) (fun x hx=>big62 (sm1.by_ x hx)) (by rw [decide_eq_true rfl]; exact h)
theorem rsm2 (h : k (B true) L) : CallP C 8 [treV tr2,treV tr2] L k:=rsame_c tr2 tr2 (by decide) (by decide) (fun x hx=>big62 (sm2.by_ x hx)) (fun x hx=>big62 (sm2.by_ x hx)) (by rw [decide_eq_true rfl]; exact h)
theorem tsm1 (h : k (B true) L) : CallP C 15 [treV tr1,treV tr1] L k:=tsame_c tr1 tr1 (by decide) (by decide) (fun x hx=>big62 (sm1.by_ x hx)) (fun x hx=>big62 (sm1.by_ x hx)) (by rw [decide_eq_true rfl]; exact h)
theorem tsm2 (h : k (B false) L) : CallP C 15 [treV tr1,treV tr2] L k:=tsame_c tr1 tr2 (by decide) (by decide) (fun x hx=>big62 (sm1.by_ x hx)) (fun x hx=>big62 (sm2.by_ x hx)) (by rw [show decide (tr1 = tr2) = false by decide]; exact h)
theorem ssm4 (h : k (B true) L) : CallP C 13 [.d (ins [4]),.d (ins [4])] L k:=same_c _ _ (by decide) (by decide) h
theorem len5 {l : List (List D)} (h : l.all (fun e=>decide (e.length = 5)) = true) : ∀ e ∈ l,e.length = 5:=fun e he=>by simpa using List.all_eq_true.1 h e he
theorem sane16_c (h : k (B true) L) : CallP C 4 [] L k:=by
 refine CallP.pure ?_ rfl (fun _=>rfl) h
 clear h
 refine callP_of C_ok Tryz.func4 rfl rfl (n:=_) rfl (zw18 rfl) (rs:=_) rfl ?_
 repeat' ((conv=>whnf); first|refine zw0 ?_|refine zw1 ?_|refine zw2 (fun h=>?_) (fun h=>?_)|refine zw3 ?_|refine zw4 (fun h=>?_) (fun h=>?_)|refine zw5 _ rfl ?_|refine zw6 rfl ?_|refine zw7 mixed rfl ?_|refine atLeast16_c _ _ ?_|refine choice16_c _ _ _ _ ?_|refine comp1 ?_|refine comp2 ?_|refine reach1 ?_|refine eval1 ?_|refine tsm2 ?_|refine CallP.lent (rsm1 ⟨rfl,rfl⟩) (.keep (.cv (Cw.aggL (.cons (.rowL (ds:=tr1.map Nd.cells) trivial rfl (.cons (.cons (.d _) (.cons (.d _) (.cons (.d _) (.cons (.d _) (.cons .nil .nil))))) (.cons (.cons (.d _) (.cons (.d _) (.cons (.d _) (.cons (.d _) (.cons (.rowL (ds:=[[DI 4]]) trivial rfl (.cons (.cons (.d _) .nil) .nil) rfl (by exact len1 rfl)) .nil))))) (.cons (.cons (.d _) (.cons (.d _) (.cons (.d _) (.cons (.d _) (.cons (.rowL (ds:=[[DI 3]]) trivial rfl (.cons (.cons (.d _) .nil) .nil) rfl (by exact len1 rfl)) .nil))))) .nil))) rfl (by exact len5 rfl)) .nil)) .nil)) rfl rfl ?_|refine CallP.lent (rsm2 ⟨rfl,rfl⟩) (.keep (.cv (Cw.aggL (.cons (.rowL (ds:=tr2.map Nd.cells) trivial rfl (.cons (.cons (.d _) (.cons (.d _) (.cons (.d _) (.cons (.d _) (.cons (.rowL (ds:=[[DI 3]]) trivial rfl (.cons (.cons (.d _) .nil) .nil) rfl (by exact len1 rfl)) .nil))))) .nil) rfl (by exact len5 rfl)) .nil)) .nil)) rfl rfl ?_|refine CallP.lent (tsm1 ⟨rfl,rfl⟩) (.keep (.cv (Cw.aggL (.cons (.rowL (ds:=tr1.map Nd.cells) trivial rfl (.cons (.cons (.d _) (.cons (.d _) (.cons (.d _) (.cons (.d _) (.cons .nil .nil))))) (.cons (.cons (.d _) (.cons (.d _) (.cons (.d _) (.cons (.d _) (.cons (.rowL (ds:=[[DI 4]]) trivial rfl (.cons (.cons (.d _) .nil) .nil) rfl (by exact len1 rfl)) .nil))))) (.cons (.cons (.d _) (.cons (.d _) (.cons (.d _) (.cons (.d _) (.cons (.rowL (ds:=[[DI 3]]) trivial rfl (.cons (.cons (.d _) .nil) .nil) rfl (by exact len1 rfl)) .nil))))) .nil))) rfl (by exact len5 rfl)) .nil)) .nil)) rfl rfl ?_|refine CallP.lent (chk0 ⟨rfl,rfl⟩) (.cv (Cw.aggL (.cons .nil .nil)) .nil) rfl rfl ?_|refine CallP.lent (ssm4 ⟨rfl,rfl⟩) (.keep (.cv (y:=.d (ins [4])) (.d (.rowL (ds:=[[DI 4]]) trivial rfl (.cons (.cons (.d _) .nil) .nil) rfl (by exact len1 rfl))) .nil)) rfl rfl ?_)
 conv=>whnf
 exact FinP.drop (n:=0) rfl (zw21 0) rfl rfl ⟨rfl,rfl⟩
end Go.Proofs.YtclmjkhdmhlijaaGreatDoor
namespace Go.Proofs.YtclmjkhdmhlijaaGreatDoor
open Go.Tidy
def Same2 (ps : List (Int × Int)) (x y : En) : Prop:=∀ v n,(v,n) ∈ ps → (n ≤ valF v x ↔ n ≤ valF v y)
theorem Same2.sub {ps qs : List (Int × Int)} {x y : En} (h : Same2 ps x y) (hs : ∀ p ∈ qs,p ∈ ps) : Same2 qs x y:=fun v n hm=>h v n (hs _ hm)
theorem ho_same {x y : En} (hx : Box x) (hy : Box y) : ∀ (m : Nat) (c : Co),SizeOf.sizeOf c ≤ m → vCo c = true → Same2 (tcC c) x y → hoF x c = hoF y c
 | 0,c,hz,_,_=>absurd hz (by cases c; simp)
 | m + 1,.mk kd v n ps,hz,hv,hs=>by
  simp only [Co.mk.sizeOf_spec] at hz
  have hsub : ∀ p ∈ ps,Same2 (tcC p) x y:=fun p hp=>hs.sub fun q hq=>by
   rw [tcC,List.mem_append,tcL_map]
   exact .inr (List.mem_flatten.2 ⟨_,List.mem_map.2 ⟨p,hp,rfl⟩,hq⟩)
  have ih : ∀ p ∈ ps,vCo p = true → hoF x p = hoF y p:=fun p hp hvp=>ho_same hx hy m p (by have:=List.sizeOf_lt_of_mem hp; omega) hvp (hsub p hp)
  rw [vCo] at hv
  rw [hoF,hoF]
  by_cases k1 : kd = 1
  ·subst k1
   rw [if_pos rfl] at hv
   rw [if_pos rfl,if_pos rfl,decide_eq_decide]
   simp only [Bool.and_eq_true,decide_eq_true_eq] at hv
   have h14 : 1 ≤ v ∧ v ≤ 4:=by omega
   have b1:=hx v h14
   have b2:=hy v h14
   by_cases h1 : lo v < n ∧ n ≤ hi v
   ·exact hs v n (by rw [tcC,if_pos ⟨rfl,h1⟩]; simp)
   ·omega
  rw [if_neg k1] at hv
  rw [if_neg k1,if_neg k1]
  have hvs : vCos ps = true:=by
   split at hv
   ·simp only [Bool.and_eq_true] at hv; exact hv.2
   ·split at hv
    ·simp only [Bool.and_eq_true] at hv; exact hv.2
    ·cases hv
  have hall : ∀ p ∈ ps,hoF x p = hoF y p:=fun p hp=>ih p hp (vCos_mem hvs p hp)
  split
  ·cases ps with
   | nil=>rfl
   | cons p r=>rw [hoHead,hoHead,hall p (by simp)]
  ·split
   ·rw [hoAny_any,hoAny_any]
    clear hs hsub ih hvs hv hz
    induction ps with
    | nil=>rfl
    | cons p r ihp=>rw [List.any_cons,List.any_cons,hall p (by simp),ihp fun q hq=>hall q (by simp [hq])]
   ·rw [hoAll_all,hoAll_all]
    clear hs hsub ih hvs hv hz
    induction ps with
    | nil=>rfl
    | cons p r ihp=>rw [List.all_cons,List.all_cons,hall p (by simp),ihp fun q hq=>hall q (by simp [hq])]
theorem ds_same {x y : En} (hx : Box x) (hy : Box y) : ∀ (m : Nat) (l : List Sp),SizeOf.sizeOf l ≤ m → vSps l = true → Same2 (tsL l) x y → ∀ b,dSs x b l = dSs y b l
 | 0,l,hz,_,_=>absurd hz (by cases l <;> simp)
 | m + 1,[],hz,_,_=>fun b=>rfl
 | m + 1,.mk kd w c t e :: l,hz,hv,hs=>by
  intro b
  simp only [List.cons.sizeOf_spec,Sp.mk.sizeOf_spec] at hz
  have hv1:=vSps_mem hv _ (List.mem_cons_self ..)
  have hvl : vSps l = true:=by rw [vSps,Bool.and_eq_true] at hv; exact hv.2
  have s1 : Same2 (tcC c) x y:=hs.sub fun q hq=>by rw [tsL,tsS]; simp [hq]
  have s2 : Same2 (tsL t) x y:=hs.sub fun q hq=>by rw [tsL,tsS]; simp [hq]
  have s3 : Same2 (tsL e) x y:=hs.sub fun q hq=>by rw [tsL,tsS]; simp [hq]
  have s4 : Same2 (tsL l) x y:=hs.sub fun q hq=>by rw [tsL]; simp [hq]
  have h1 : dS x b (.mk kd w c t e) = dS y b (.mk kd w c t e):=by
   rw [dS,dS]
   by_cases k2 : kd = 2
   ·rw [if_pos k2,if_pos k2]
    rw [vSp] at hv1
    rw [if_neg (show ¬ kd = 1 by omega),if_pos k2] at hv1
    simp only [Bool.and_eq_true] at hv1
    rw [ho_same hx hy _ c (Nat.le_refl _) hv1.1.1.1.2 s1,ds_same hx hy m t (by omega) hv1.1.2 s2,ds_same hx hy m e (by omega) hv1.2 s3]
   ·rw [if_neg k2,if_neg k2]
  rw [dSs,dSs,h1,ds_same hx hy m l (by omega) hvl s4]
theorem box_env {x : En} : envE x = 0 ↔ Box x:=by
 unfold envE
 constructor
 ·intro h u hu
  split at h
  ·rename_i hh
   have h4 : u = 1 ∨ u = 2 ∨ u = 3 ∨ u = 4:=by omega
   rcases h4 with rfl | rfl | rfl | rfl <;> simp [lo,hi,valF] <;> omega
  ·cases h
 ·intro h
  have h1:=h 1 (by decide)
  have h2:=h 2 (by decide)
  have h3:=h 3 (by decide)
  have h4:=h 4 (by decide)
  simp [lo,hi,valF] at h1 h2 h3 h4
  rw [if_pos (by omega)]
theorem direct_same {l : List Sp} {x y : En} (ho : orderF l = 0) (hx : Box x) (hy : Box y) (hs : Same2 (tsL l) x y) : directB l x = directB l y:=by
 unfold directB
 rw [if_pos ⟨ho,box_env.2 hx⟩,if_pos ⟨ho,box_env.2 hy⟩]
 exact ds_same hx hy _ l (zw21 _) (order_ok.1 ho).2.2 hs []
theorem flr_ok : ∀ (l : List Int) (n : Int),l.Pairwise (fun x y=>y < x) → (∃ k ∈ l,k ≤ n) → flr l n ∈ l ∧ flr l n ≤ n ∧ ∀ k ∈ l,k ≤ n → k ≤ flr l n
 | [],n,_,h=>by obtain ⟨k,hk,_⟩:=h; cases hk
 | [a],n,_,h=>by
  obtain ⟨k,hk,hn⟩:=h
  rw [List.mem_singleton.1 hk] at hn
  exact ⟨by simp [flr],hn,fun k hk _=>by rw [List.mem_singleton.1 hk]; exact Int.le_refl _⟩
 | a :: b :: r,n,hp,h=>by
  have hp':=List.pairwise_cons.1 hp
  rw [flr_cons]
  split
  ·rename_i c
   refine ⟨by simp,c,fun k hk _=>?_⟩
   rcases List.mem_cons.1 hk with rfl | hk
   ·exact Int.le_refl _
   ·have:=hp'.1 k hk; omega
  ·rename_i c
   have h' : ∃ k ∈ b :: r,k ≤ n:=by
    obtain ⟨k,hk,hn⟩:=h
    rcases List.mem_cons.1 hk with rfl | hk
    ·omega
    ·exact ⟨k,hk,hn⟩
   obtain ⟨i1,i2,i3⟩:=flr_ok (b :: r) n hp'.2 h'
   refine ⟨List.mem_cons_of_mem _ i1,i2,fun k hk hn=>?_⟩
   rcases List.mem_cons.1 hk with rfl | hk
   ·omega
   ·exact i3 k hk hn
def dn (ps : List (Int × Int)) (y : En) : En:=⟨flr (tv 1 ps).reverse y.tied,flr (tv 2 ps).reverse y.round,flr (tv 3 ps).reverse y.fin,flr (tv 4 ps).reverse y.clubs⟩
theorem dn_val (ps : List (Int × Int)) (y : En) (u : Int) (hu : 1 ≤ u ∧ u ≤ 4) : valF u (dn ps y) = flr (tv u ps).reverse (valF u y):=by
 have h4 : u = 1 ∨ u = 2 ∨ u = 3 ∨ u = 4:=by omega
 rcases h4 with rfl | rfl | rfl | rfl <;> rfl
theorem rdE_dn (ps : List (Int × Int)) (x y : En) : rdE (vlist (tv 1 ps) (tv 2 ps) (tv 3 ps) (tv 4 ps)) x y = dn ps y:=rfl
theorem tv_flr {u : Int} (hu : 1 ≤ u ∧ u ≤ 4) {ps : List (Int × Int)} {y : En} (hy : Box y) : flr (tv u ps).reverse (valF u y) ∈ tv u ps ∧ flr (tv u ps).reverse (valF u y) ≤ valF u y ∧ ∀ k ∈ tv u ps,k ≤ valF u y → k ≤ flr (tv u ps).reverse (valF u y):=by
 obtain ⟨h1,h2,h3⟩:=flr_ok (tv u ps).reverse (valF u y) (List.pairwise_reverse.2 (tv_up u ps)) ⟨lo u,by rw [List.mem_reverse]; exact tv_mem.2 (.inl rfl),(hy u hu).1⟩
 exact ⟨List.mem_reverse.1 h1,h2,fun k hk=>h3 k (List.mem_reverse.2 hk)⟩
theorem dn_box {ps : List (Int × Int)} (hp : ∀ p ∈ ps,InB p) {y : En} (hy : Box y) : Box (dn ps y):=fun u hu=>by
 rw [dn_val _ _ _ hu]
 obtain ⟨h1,h2,h3⟩:=tv_flr (ps:=ps) hu hy
 have:=hy u hu
 refine ⟨h3 (lo u) (tv_mem.2 (.inl rfl)) this.1,by omega⟩
theorem dn_same {ps : List (Int × Int)} (hp : ∀ p ∈ ps,InB p ∧ 1 ≤ p.1 ∧ p.1 ≤ 4) {y : En} (hy : Box y) : Same2 ps (dn ps y) y:=fun v n hm=>by
 have hu:=(hp _ hm).2
 simp only at hu
 rw [dn_val _ _ _ hu]
 obtain ⟨h1,h2,h3⟩:=tv_flr (ps:=ps) hu hy
 exact ⟨fun h=>by omega,fun h=>h3 n (tv_mem.2 (.inr hm)) h⟩
theorem tc_rng : ∀ (m : Nat) (c : Co),SizeOf.sizeOf c ≤ m → vCo c = true → ∀ p ∈ tcC c,1 ≤ p.1 ∧ p.1 ≤ 4
 | 0,c,hz=>absurd hz (by cases c; simp)
 | m + 1,.mk kd v n ps,hz=>by
  intro hv p hp
  simp only [Co.mk.sizeOf_spec] at hz
  rw [vCo] at hv
  rw [tcC,List.mem_append] at hp
  by_cases k1 : kd = 1
  ·rw [if_pos k1] at hv
   simp only [Bool.and_eq_true,decide_eq_true_eq] at hv
   have h0 : ps = []:=List.length_eq_zero_iff.1 (by omega)
   subst h0
   rw [tcL] at hp
   rcases hp with hp | hp
   ·split at hp
    ·rw [List.mem_singleton.1 hp]; simp only; omega
    ·cases hp
   ·cases hp
  ·rw [if_neg k1] at hv
   rcases hp with hp | hp
   ·rw [if_neg (fun h=>k1 h.1)] at hp; cases hp
   have hvs : vCos ps = true:=by
    split at hv
    ·simp only [Bool.and_eq_true] at hv; exact hv.2
    ·split at hv
     ·simp only [Bool.and_eq_true] at hv; exact hv.2
     ·cases hv
   rw [tcL_map] at hp
   obtain ⟨q,hq,hp⟩:=List.mem_flatten.1 hp
   obtain ⟨c,hc,rfl⟩:=List.mem_map.1 hq
   exact tc_rng m c (by have:=List.sizeOf_lt_of_mem hc; omega) (vCos_mem hvs c hc) p hp
theorem ts_rng : ∀ (m : Nat) (l : List Sp),SizeOf.sizeOf l ≤ m → vSps l = true → ∀ p ∈ tsL l,1 ≤ p.1 ∧ p.1 ≤ 4
 | 0,l,hz=>absurd hz (by cases l <;> simp)
 | m + 1,[],hz=>fun _ p hp=>by rw [tsL] at hp; cases hp
 | m + 1,.mk kd w c t e :: l,hz=>by
  intro hv p hp
  simp only [List.cons.sizeOf_spec,Sp.mk.sizeOf_spec] at hz
  have hv1:=vSps_mem hv _ (List.mem_cons_self ..)
  have hvl : vSps l = true:=by rw [vSps,Bool.and_eq_true] at hv; exact hv.2
  rw [vSp] at hv1
  rw [tsL,tsS,List.mem_append,List.mem_append,List.mem_append] at hp
  rcases hp with hp | hp
  rotate_left
  ·exact ts_rng m l (by omega) hvl p hp
  split at hv1
  ·simp only [Bool.and_eq_true,decide_eq_true_eq] at hv1
   have t0 : t = []:=List.length_eq_zero_iff.1 (by omega)
   have e0 : e = []:=List.length_eq_zero_iff.1 (by omega)
   subst t0 e0
   rw [tc_zero hv1.1.2,tsL] at hp
   simp at hp
  ·split at hv1
   ·simp only [Bool.and_eq_true] at hv1
    rcases hp with (hp | hp) | hp
    ·exact tc_rng _ c (zw21 _) hv1.1.1.1.2 p hp
    ·exact ts_rng m t (by omega) hv1.1.2 p hp
    ·exact ts_rng m e (by omega) hv1.2 p hp
   ·cases hv1
theorem mean_ok {l : List Sp} (hl : LSs l) (ho : orderF l = 0) (hf : few3 (vq l)) : ValidT (cmpN l) ∧ (∀ y,Box y → (un (cmpN l) 0).ev y = directB l y) ∧ (cmpN l).length ≤ 1500:=by
 have hg:=directB_ok hl
 have v1:=tv_vals 1 (by decide) (tsL_in l)
 have v2:=tv_vals 2 (by decide) (tsL_in l)
 have v3:=tv_vals 3 (by decide) (tsL_in l)
 have v4:=tv_vals 4 (by decide) (tsL_in l)
 have h1500:=cmp_len hg v1 v2 v3 v4 hf
 obtain ⟨h1,h2⟩:=cmp_ok hg v1 v2 v3 v4 (by omega)
 refine ⟨h1,fun y hy=>?_,?_⟩
 ·have:=h2 y
  rw [rdE_dn] at this
  refine Eq.trans this (direct_same ho (dn_box (tsL_in l) hy) hy (dn_same (fun p hp=>⟨tsL_in l p hp,ts_rng _ l (zw21 _) (order_ok.1 ho).2.2 p hp⟩) hy))
 ·show (renum _ _).length ≤ _
  unfold renum; rw [List.length_map]; exact h1500
theorem cmp_sm {l : List Sp} (hl : LSs l) (hf : orderF l = 0 → few3 (vq l)) : TrSm (cmpX l) ∧ ∀ x ∈ cmpX l,x.by_.length ≤ 12:=by
 unfold cmpX
 split
 ·rename_i ho
  obtain ⟨h1,_,h3⟩:=mean_ok hl ho (hf ho)
  have hb : ∀ x ∈ cmpN l,x.by_.length ≤ 12:=fun x hx=>by
   obtain ⟨i,hi,rfl⟩:=List.mem_iff_getElem.1 hx
   rcases h1.wf.get hi with h | h
   ·rw [ndA_get hi] at h; exact h.2.1.len
   ·rw [ndA_get hi] at h; rw [h.by_]; simp
  exact ⟨⟨by omega,fun x hx=>by have:=hb x hx; omega⟩,hb⟩
 ·exact ⟨⟨by simp,fun x hx=>by cases hx⟩,fun x hx=>by cases hx⟩
end Go.Proofs.YtclmjkhdmhlijaaGreatDoor
namespace Go.Proofs.YtclmjkhdmhlijaaGreatDoor
open Go.Tidy
variable {L : List Blk} {k : V → List Blk → Prop}
end Go.Proofs.YtclmjkhdmhlijaaGreatDoor
namespace Go.Proofs.YtclmjkhdmhlijaaGreatDoor
open Go.Tidy
variable {L : List Blk} {k : V → List Blk → Prop}
theorem filter_mono {α : Type} {p q : α → Bool} (h : ∀ x,p x = true → q x = true) : ∀ l : List α,(l.filter p).length ≤ (l.filter q).length
 | []=>zw21 _
 | a :: l=>by
  have ih:=filter_mono h l
  rw [List.filter_cons,List.filter_cons]
  by_cases hp : p a = true
  ·rw [if_pos hp,if_pos (h a hp)]; simp; exact ih
  ·rw [if_neg hp]
   split
   ·simp; omega
   ·exact ih
theorem unm_pre {n : Nat} {m m' : List Nat} (h : m <+: m') : unm n m' ≤ unm n m:=by
 unfold unm
 refine filter_mono (fun x hx=>?_) _
 obtain ⟨s,rfl⟩:=h
 simp only [Bool.not_eq_true',List.contains_append,Bool.or_eq_false_iff] at hx ⊢
 exact hx.1
theorem natI_snoc (m : List Nat) (a : Nat) : natI (m ++ [a]) = natI m ++ [(a : Int)]:=by unfold natI; rw [List.map_append]; rfl
theorem natI_any {m : List Nat} {a : Nat} : ((natI m).any fun v=>decide (v = (a : Int))) = true ↔ a ∈ m:=by
 rw [List.any_eq_true]
 unfold natI
 constructor
 ·rintro ⟨v,hv,e⟩
  obtain ⟨b,hb,rfl⟩:=List.mem_map.1 hv
  have e : (b : Int) = (a : Int):=of_decide_eq_true e
  have : b = a:=by omega
  exact this ▸ hb
 ·exact fun h=>⟨(a : Int),List.mem_map.2 ⟨a,h,rfl⟩,decide_eq_true rfl⟩
theorem rvisit_s (l : List Nd) (hc : Closed l) (hl : l.length ≤ 1000000) (hneg : ∀ x ∈ l,x.var ≠ 0 → 0 ≤ x.yes ∧ 0 ≤ x.no) : ∀ (n a : Nat) (m f : List Nat),unm l.length m ≤ n → a < l.length → MetOk l.length m → VisL l [a] m f →
  ∀ (L : List Blk) (k : V → List Blk → Prop),k (.d (ins (natI f))) L → CallP C 30 [treV l,I a,.d (ins (natI m))] L k
 | n,a,m,f,hn,ha,hm,hV,L,k,h=>by
  have hml:=hm.len
  have hin : ∀ {L : List Blk} {k : V → List Blk → Prop},k (B ((natI m).any fun v=>decide (v = (a : Int)))) L → CallP C 60 [.d (ins (natI m)),I a] L k:=fun h=>in_c (natI m) (by unfold natI; rw [List.length_map]; omega) _ h
  by_cases hma : a ∈ m
  ·have hf : f = m:=by
    cases hV with
    | met _ h=>cases h; rfl
    | leaf h=>exact absurd hma h
    | node h=>exact absurd hma h
   rw [hf] at h
   rw [natI_any.2 hma] at hin
   refine CallP.pure ?_ rfl (fun _=>rfl) h
   clear h
   refine callP_of C_ok Tryz.func30 rfl rfl (n:=_) rfl (zw18 rfl) (rs:=_) rfl ?_
   repeat' ((conv=>whnf); first|refine hin ?_|refine zw0 ?_|refine zw1 ?_|refine zw2 (fun h=>?_) (fun h=>?_)|refine zw3 ?_|refine zw4 (fun h=>?_) (fun h=>?_)|refine zw5 _ rfl ?_|refine zw6 rfl ?_|refine zw7 mixed rfl ?_)
   conv=>whnf
   exact FinP.drop (n:=0) rfl (zw21 0) rfl rfl ⟨rfl,rfl⟩
  have hin' : ((natI m).any fun v=>decide (v = (a : Int))) = false:=eq_false_of_ne_true fun h=>hma (natI_any.1 h)
  rw [hin'] at hin
  have hm':=hm.snoc hma ha
  have hml':=hm'.len
  have hu:=unm_snoc hma ha
  have r1:=nds_at' (l:=l) ha
  refine CallP.pure ?_ rfl (fun _=>rfl) h
  clear h
  refine callP_cut (fun c=>match c with | .region 3 _ _=>true | _=>false) C_ok Tryz.func30 rfl rfl (n:=_) rfl (zw18 rfl) (rs:=_) rfl ?_
  repeat' ((conv=>whnf); first|refine hin ?_|refine zw0 ?_|refine zw1 ?_|refine zw2 (fun h=>?_) (fun h=>?_)|refine zw3 ?_|refine zw4 (fun h=>?_) (fun h=>?_)|refine zw5 _ rfl ?_|refine zw6 rfl ?_|refine zw7 mixed rfl ?_)
  conv=>whnf
  have n1 : 0 + (((natI m).map fun v=>[DI v]).map fun x=>x.map V.d).length ≤ 4294967296:=by rw [ap_len]; unfold natI; rw [List.length_map]; omega
  have n2 : 0 + (((natI m).map fun v=>[DI v]).map fun x=>x.map V.d).length + 1 ≤ 4294967296:=by rw [ap_len]; unfold natI; rw [List.length_map]; omega
  refine CutP.intro (ι:=Unit) (fun _=>⟨[(1,I a),(2,.d (ins (natI (m ++ [a])))),(3,.ptr 0 0)],Tryz.f30.ntmps,[.cells [.d (nds l)]],[],none⟩) ?_ (fun _=>?_)
  ·repeat' (conv => whnf
            first|refine zw6 (rdI_e (natI m)) ?_|refine zw6 n1 ?_|refine zw6 n2 ?_|simp only [Nat.beq_refl,Bool.and_self]|refine zw0 ?_|refine zw1 ?_|refine zw2 (fun h=>?_) (fun h=>?_)|refine zw3 ?_|refine zw4 (fun h=>?_) (fun h=>?_)|refine zw5 _ rfl ?_|refine zw6 rfl ?_|refine zw7 mixed rfl ?_)
   conv=>whnf
   rw [natI_snoc]
   refine ⟨(),Weak.thaw 1 (zw22 _) (zw18 rfl) rfl ⟨.inl ⟨rfl,rfl⟩,.inr (.d (.rowL (ds:=(natI m ++ [(a : Int)]).map fun v=>[DI v]) (zw18 rfl) rfl (ap_cv (natI m) a) (ap_ds (natI m) a) (rdI_e _))),.inl ⟨rfl,rfl⟩,trivial⟩ fun b x y hx hy=>?_⟩
   match b,hx,hy with
   | 0,hx,hy=>cases hx; cases hy; exact .inl ⟨rfl,rfl⟩
   | b + 1,hx,hy=>cases hy
  by_cases hv : (ndA l a).var = 0
  ·have hf : f = m ++ [a]:=by
    cases hV with
    | met h=>exact absurd h hma
    | leaf _ _ h=>cases h; rfl
    | node _ h=>exact absurd hv h
   rw [hf]
   repeat' ((conv=>whnf); first|refine zw8 (zw19 hv) ?_|refine zw10 a _ rfl r1 ?_|refine zw0 ?_|refine zw1 ?_|refine zw2 (fun h=>?_) (fun h=>?_)|refine zw3 ?_|refine zw4 (fun h=>?_) (fun h=>?_)|refine zw5 _ rfl ?_|refine zw6 rfl ?_|refine zw7 mixed rfl ?_)
   conv=>whnf
   exact FinP.drop (n:=0) rfl (zw21 0) rfl rfl ⟨rfl,rfl⟩
  ·have hV' : VisL l ((ndA l a).y :: (ndA l a).z :: []) (m ++ [a]) f:=by
    cases hV with
    | met h=>exact absurd h hma
    | leaf _ h=>exact absurd h hv
    | node _ _ h=>exact h
   obtain ⟨m1,v1,v2⟩:=hV'.split (s1:=[(ndA l a).y]) (s2:=[(ndA l a).z]) rfl
   have hyl:=hc.y a ha hv
   have hzl:=hc.z a ha hv
   have hm1:=v1.metok hc (fun b hb=>by rw [List.mem_singleton.1 hb]; exact hyl) hm'
   have hu1:=unm_pre (n:=l.length) v1.pre
   have hn0:=hneg _ (ndA_mem ha) hv
   have ey : (ndA l a).yes = ((ndA l a).y : Int):=by unfold Nd.y; omega
   have ez : (ndA l a).no = ((ndA l a).z : Int):=by unfold Nd.z; omega
   match n,hn with
   | 0,hn=>omega
   | n + 1,hn =>
    have i1 : ∀ {L : List Blk} {k : V → List Blk → Prop},k (.d (ins (natI m1))) L → CallP C 30 [treV l,I (ndA l a).yes,.d (ins (natI (m ++ [a])))] L k:=fun h=>by
     rw [ey]; exact rvisit_s l hc hl hneg n _ _ _ (by omega) hyl hm' v1 _ _ h
    have i2 : ∀ {L : List Blk} {k : V → List Blk → Prop},k (.d (ins (natI f))) L → CallP C 30 [treV l,I (ndA l a).no,.d (ins (natI m1))] L k:=fun h=>by
     rw [ez]; exact rvisit_s l hc hl hneg n _ _ _ (by omega) hzl hm1 v2 _ _ h
    repeat' ((conv=>whnf); first|refine zw9 (zw20 hv) ?_|refine zw10 a _ rfl r1 ?_|refine zw12 _ (i1 ⟨rfl,rfl⟩) ?_|refine zw12 _ (i2 ⟨rfl,rfl⟩) ?_|refine zw0 ?_|refine zw1 ?_|refine zw2 (fun h=>?_) (fun h=>?_)|refine zw3 ?_|refine zw4 (fun h=>?_) (fun h=>?_)|refine zw5 _ rfl ?_|refine zw6 rfl ?_|refine zw7 mixed rfl ?_)
    conv=>whnf
    exact FinP.drop (n:=0) rfl (zw21 0) rfl rfl ⟨rfl,rfl⟩
end Go.Proofs.YtclmjkhdmhlijaaGreatDoor
namespace Go.Proofs.YtclmjkhdmhlijaaGreatDoor
open Go.Tidy
variable {L : List Blk} {k : V → List Blk → Prop}
structure RS where
 F : List Nd
 (t f : Nat)
def rst (sub : En → List Nd → List Nd × Nat) (v : Int) (x : En) (vs : List Int) (F : List Nd) : Nat → RS
 | 0=>⟨(sub (setE x v (vs.getD (vs.length - 1) 0)) F).1,(sub (setE x v (vs.getD (vs.length - 1) 0)) F).2,(sub (setE x v (vs.getD (vs.length - 1) 0)) F).2⟩
 | c + 1 =>
  if (sub (setE x v (vs.getD (vs.length - 2 - c) 0)) (rst sub v x vs F c).F).2 = (rst sub v x vs F c).f then
   ⟨(sub (setE x v (vs.getD (vs.length - 2 - c) 0)) (rst sub v x vs F c).F).1,(rst sub v x vs F c).t,(rst sub v x vs F c).f⟩
  else ⟨(put (sub (setE x v (vs.getD (vs.length - 2 - c) 0)) (rst sub v x vs F c).F).1 ⟨v,vs.getD (vs.length - 1 - c) 0,(rst sub v x vs F c).t,(sub (setE x v (vs.getD (vs.length - 2 - c) 0)) (rst sub v x vs F c).F).2,[]⟩).1,
   (put (sub (setE x v (vs.getD (vs.length - 2 - c) 0)) (rst sub v x vs F c).F).1 ⟨v,vs.getD (vs.length - 1 - c) 0,(rst sub v x vs F c).t,(sub (setE x v (vs.getD (vs.length - 2 - c) 0)) (rst sub v x vs F c).F).2,[]⟩).2,(sub (setE x v (vs.getD (vs.length - 2 - c) 0)) (rst sub v x vs F c).F).2⟩
theorem rev_drop {vs : List Int} {c : Nat} (h : c < vs.length) : vs.reverse.drop c = vs.getD (vs.length - 1 - c) 0 :: vs.reverse.drop (c + 1):=by
 rw [List.drop_eq_getElem_cons (by rw [List.length_reverse]; exact h),List.getElem_reverse,getD_at (by omega)]
theorem rst_bld (sub : En → List Nd → List Nd × Nat) (v : Int) (x : En) (vs : List Int) (F : List Nd) : ∀ c,c < vs.length →
  bldV sub v x vs.reverse F none = bldV sub v x (vs.reverse.drop (c + 1)) (rst sub v x vs F c).F (some ((rst sub v x vs F c).t,(rst sub v x vs F c).f,vs.getD (vs.length - 1 - c) 0))
 | 0,h=>by
  have:=rev_drop h
  rw [List.drop_zero] at this
  rw [this,bldV]; rfl
 | c + 1,h=>by
  rw [rst_bld sub v x vs F c (by omega),rev_drop h,show vs.length - 1 - (c + 1) = vs.length - 2 - c by omega,bldV,rst]
  split <;> rfl
theorem rst_all (g : En → List Int) (r : List (Int × List Int)) (v : Int) (x : En) (vs : List Int) (F : List Nd) (h : 0 < vs.length) :
  bld g ((v,vs) :: r) x F = ((rst (bld g r) v x vs F (vs.length - 1)).F,(rst (bld g r) v x vs F (vs.length - 1)).t):=by
 rw [bld,rst_bld (bld g r) v x vs F (vs.length - 1) (by omega),show vs.length - 1 + 1 = vs.length by omega,List.drop_of_length_le (by simp),bldV]
theorem rst_len (g : En → List Int) (r : List (Int × List Int)) (v : Int) (x : En) (vs : List Int) (F : List Nd) : ∀ c,(rst (bld g r) v x vs F c).F.length ≤ F.length + (c + 1) * (bndB r + 1)
 | 0=>by
  have:=bld_len g r (setE x v (vs.getD (vs.length - 1) 0)) F
  rw [rst]; simp only; omega
 | c + 1=>by
  have h1:=rst_len g r v x vs F c
  have h2:=bld_len g r (setE x v (vs.getD (vs.length - 2 - c) 0)) (rst (bld g r) v x vs F c).F
  rw [rst,Nat.succ_mul]
  split
  ·simp only; omega
  ·have h3:=put_len (bld g r (setE x v (vs.getD (vs.length - 2 - c) 0)) (rst (bld g r) v x vs F c).F).1 ⟨v,vs.getD (vs.length - 1 - c) 0,(rst (bld g r) v x vs F c).t,(bld g r (setE x v (vs.getD (vs.length - 2 - c) 0)) (rst (bld g r) v x vs F c).F).2,[]⟩
   simp only; omega
def sM (F : List Nd) : List Blk:=[.cells [.own 1 F.length 0 F.length],.row F.length 5 (rdN F)]
theorem sM_bel' (n : Nat) (h : 2 ≤ n) (F : List Nd) : belB n (sM F) = true:=by
 unfold sM
 simp only [belB,Blk.bel,V.belL,V.bel,rdN_bel,decide_eq_true (show 1 < n by omega),Bool.and_true]
theorem sM_bel (F : List Nd) : belB 2 (sM F) = true:=sM_bel' 2 (zw21 2) F
theorem rdN_at {F : List Nd} {i : Nat} (h : i < F.length) : (rdN F)[i]? = some ((ndA F i).cells.map .d):=by
 unfold rdN; rw [List.getElem?_map,List.getElem?_eq_getElem h,ndA_get h]; rfl
theorem rset_c (x : En) (v n : Int) (hv : 1 ≤ v ∧ v ≤ 4) (h : k (enV (setE x v n)) L) : CallP C 59 [enV x,I v,I n] L k:=by
 have h4 : v = 1 ∨ v = 2 ∨ v = 3 ∨ v = 4:=by omega
 refine CallP.pure ?_ rfl (fun _=>rfl) h
 clear h
 refine callP_of C_ok Tryz.func59 rfl rfl (n:=_) rfl (zw18 rfl) (rs:=_) rfl ?_
 rcases h4 with rfl | rfl | rfl | rfl
 ·repeat' (conv => whnf
           first|refine zw0 ?_|refine zw1 ?_|refine zw2 (fun h=>?_) (fun h=>?_)|refine zw3 ?_|refine zw4 (fun h=>?_) (fun h=>?_)|refine zw5 _ rfl ?_|refine zw6 rfl ?_)
  conv=>whnf
  exact FinP.drop (n:=0) rfl (zw21 0) rfl rfl ⟨rfl,rfl⟩
 ·repeat' (conv => whnf
           first|refine zw0 ?_|refine zw1 ?_|refine zw2 (fun h=>?_) (fun h=>?_)|refine zw3 ?_|refine zw4 (fun h=>?_) (fun h=>?_)|refine zw5 _ rfl ?_|refine zw6 rfl ?_)
  conv=>whnf
  exact FinP.drop (n:=0) rfl (zw21 0) rfl rfl ⟨rfl,rfl⟩
 ·repeat' (conv => whnf
           first|refine zw0 ?_|refine zw1 ?_|refine zw2 (fun h=>?_) (fun h=>?_)|refine zw3 ?_|refine zw4 (fun h=>?_) (fun h=>?_)|refine zw5 _ rfl ?_|refine zw6 rfl ?_)
  conv=>whnf
  exact FinP.drop (n:=0) rfl (zw21 0) rfl rfl ⟨rfl,rfl⟩
 ·repeat' (conv => whnf
           first|refine zw0 ?_|refine zw1 ?_|refine zw2 (fun h=>?_) (fun h=>?_)|refine zw3 ?_|refine zw4 (fun h=>?_) (fun h=>?_)|refine zw5 _ rfl ?_|refine zw6 rfl ?_)
  conv=>whnf
  exact FinP.drop (n:=0) rfl (zw21 0) rfl rfl ⟨rfl,rfl⟩
theorem rput_c (F : List Nd) (x : Nd) (hF : ∀ y ∈ F,y.by_.length ≤ 1000000) (hl : x.by_.length ≤ 1000000) (hFl : F.length ≤ 1000000) :
  CallP C 57 [.ptr 0 0,ndV x] (sM F) fun X L'=>X = I (put F x).2 ∧ L' = sM (put F x).1:=by
 have hap : ∀ {X : Prop},X → Need (F.length + 1 ≤ 4294967296) X:=fun h=>zw6 (by omega) h
 have hend : [Blk.cells [.own 1 (F.length + 1) 0 (F.length + 1)],.row (F.length + 1) 5 ((rdN F).take F.length ++ [x.cells.map .d])] = sM (F ++ [x]):=by
  rw [rdN_snoc]; unfold sM; rw [List.length_append]; rfl
 refine callP_of C_ok Tryz.func57 rfl rfl (n:=_) rfl (zw18 rfl) (rs:=_) rfl ?_
 conv=>whnf
 refine LoopP.inv (fun i : Nat=>i ≤ F.length ∧ ∀ j,j < i → ndA F j ≠ x) (fun i=>⟨[(0,.ptr 0 0),(3,.ptr 2 0),(5,I i)],Tryz.f57.ntmps,sM F ++ [.cells (x.cells.map .d)],[],none⟩) (fun i=>F.length - i) 0 ⟨zw22 _,fun j h=>absurd h (Nat.not_lt_zero j)⟩ ?_ ?_
 ·exact Weak.by ⟨rfl,rfl,rfl,trivial⟩
 rintro i ⟨hi,h1⟩
 by_cases hi' : i < F.length
 ·have hlt : (i : Int) < (F.length : Int):=by omega
  have hw : IntKind.i64.wrap ((i : Int) + 1) = ((i + 1 : Nat) : Int):=by rw [wrap_in (by omega)]; omega
  have r1 : (rdN F)[0 + i]? = some ((ndA F i).cells.map .d):=by rw [Nat.zero_add]; exact rdN_at hi'
  have hm:=ndA_mem hi'
  have hsn : ∀ {L : List Blk} {k : V → List Blk → Prop},k (B (decide (ndA F i = x))) L → CallP C 31 [ndV (ndA F i),ndV x] L k:=fun h=>rsameNode_c _ _ (zw23 (hF _ hm) (by decide)) (zw23 hl (by decide)) h
  by_cases e : ndA F i = x
  ·have hx : x ∈ F:=e ▸ hm
   have hp : put F x = (F,i):=by
    unfold put
    rw [if_pos hx]
    congr 1
    have hj:=List.idxOf_lt_length_of_mem hx
    have hg : ndA F (F.idxOf x) = x:=by rw [ndA_get hj]; exact List.getElem_idxOf hj
    rcases Nat.lt_trichotomy (F.idxOf x) i with h | h | h
    ·exact absurd hg (h1 _ h)
    ·exact h
    ·have:=List.not_of_lt_findIdx (p:=(· == x)) (xs:=F) (i:=i) h
     rw [ndA_get hi'] at e
     simp [e] at this
   rw [hp]
   repeat' ((conv=>whnf); first|refine zw8 (zw19 hlt) ?_|refine zw8 (zw19 e) ?_|refine IdxN.intro i rfl hi' ?_|refine zw5 _ r1 ?_|refine zw12 _ (hsn ⟨rfl,rfl⟩) ?_|simp only [Nat.beq_refl,Bool.and_self]|refine zw0 ?_|refine zw1 ?_|refine zw2 (fun h=>?_) (fun h=>?_)|refine zw3 ?_|refine zw4 (fun h=>?_) (fun h=>?_)|refine zw5 _ rfl ?_|refine zw6 rfl ?_|refine zw7 mixed rfl ?_)
   conv=>whnf
   exact FinP.drop (n:=2) rfl (zw21 2) rfl (sM_bel F) ⟨rfl,rfl⟩
  ·repeat' (conv => whnf
            first|refine zw8 (zw19 hlt) ?_|refine zw9 (zw20 e) ?_|refine IdxN.intro i rfl hi' ?_|refine zw5 _ r1 ?_|refine zw12 _ (hsn ⟨rfl,rfl⟩) ?_|simp only [Nat.beq_refl,Bool.and_self]|refine zw0 ?_|refine zw1 ?_|refine zw2 (fun h=>?_) (fun h=>?_)|refine zw3 ?_|refine zw4 (fun h=>?_) (fun h=>?_)|refine zw5 _ rfl ?_|refine zw6 rfl ?_|refine zw7 mixed rfl ?_)
   conv=>whnf
   exact ⟨i + 1,⟨hi',fun j hj=>by
    by_cases e2 : j = i
    ·subst e2; exact e
    ·exact h1 j (by omega)⟩,by omega,Weak.by ⟨rfl,rfl,congrArg I hw,trivial⟩⟩
 ·have hlt : ¬ (i : Int) < (F.length : Int):=by omega
  have hx : x ∉ F:=fun hx=>by
   obtain ⟨j,hj,e⟩:=List.mem_iff_getElem.1 hx
   exact h1 j (by omega) (by rw [ndA_get hj]; exact e)
  have e : put F x = (F ++ [x],F.length):=by unfold put; rw [if_neg hx,List.idxOf_eq_length hx]
  have hw : IntKind.i64.wrap (((F.length + 1 : Nat) : Int) - 1) = (F.length : Int):=by rw [wrap_in (by omega)]; omega
  rw [e]
  repeat' ((conv=>whnf); first|refine zw9 (zw20 hlt) ?_|simp only [Nat.beq_refl,Bool.and_self]|refine zw0 ?_|refine zw1 ?_|refine zw2 (fun h=>?_) (fun h=>?_)|refine zw3 ?_|refine zw4 (fun h=>?_) (fun h=>?_)|refine zw5 _ rfl ?_|refine zw6 rfl ?_)
  conv=>whnf
  refine DrawP.por mixed [] [[(0,0),(1,0),(2,0),(3,0),(4,3),(5,0),(6,0),(7,0),(8,0),(9,0),(10,0)]] (by kernel_rfl) ?_
  repeat' ((conv=>whnf); first|refine hap ?_|simp only [Nat.beq_refl,Bool.and_self]|refine zw0 ?_|refine zw1 ?_|refine zw2 (fun h=>?_) (fun h=>?_)|refine zw3 ?_|refine zw4 (fun h=>?_) (fun h=>?_)|refine zw5 _ rfl ?_|refine zw6 rfl ?_)
  conv=>whnf
  exact FinP.drop (n:=2) (Eq.trans rfl hend) (zw21 2) rfl (sM_bel _) ⟨congrArg I hw,rfl⟩
def ByF (F : List Nd) : Prop:=∀ y ∈ F,y.by_.length ≤ 12
theorem put_by {F : List Nd} (h : ByF F) {x : Nd} (hx : x.by_.length ≤ 12) : ByF (put F x).1:=by
 unfold put
 simp only
 split
 ·exact h
 ·intro y hy
  rcases List.mem_append.1 hy with hy | hy
  ·exact h y hy
  ·rw [List.mem_singleton.1 hy]; exact hx
theorem bldV_by {sub : En → List Nd → List Nd × Nat} (hs : ∀ x F,ByF F → ByF (sub x F).1) (v : Int) (x : En) : ∀ (ns : List Int) (F : List Nd) (s : Option (Nat × Nat × Int)),ByF F → ByF (bldV sub v x ns F s).1
 | [],F,none,h=>h
 | [],F,some s,h=>h
 | n :: ns,F,none,h=>by rw [bldV]; exact bldV_by hs v x ns _ _ (hs _ _ h)
 | n :: ns,F,some (t,f,m),h=>by
  rw [bldV]
  split
  ·exact bldV_by hs v x ns _ _ (hs _ _ h)
  ·exact bldV_by hs v x ns _ _ (put_by (hs _ _ h) (zw22 _))
theorem bld_by {g : En → List Int} (hg : ∀ x,ByOk (g x)) : ∀ (r : List (Int × List Int)) (x : En) (F : List Nd),ByF F → ByF (bld g r x F).1
 | [],x,F,h=>put_by h (hg x).len
 | (v,vs) :: r,x,F,h=>bldV_by (bld_by hg r) v x _ F none h
theorem rst_by {g : En → List Int} (hg : ∀ x,ByOk (g x)) (r : List (Int × List Int)) (v : Int) (x : En) (vs : List Int) (F : List Nd) (h : ByF F) : ∀ c,ByF (rst (bld g r) v x vs F c).F
 | 0=>bld_by hg r _ _ h
 | c + 1=>by
  have h1:=bld_by hg r (setE x v (vs.getD (vs.length - 2 - c) 0)) _ (rst_by hg r v x vs F h c)
  rw [rst]
  split
  ·exact h1
  ·exact put_by h1 (zw22 _)
def InE (v : Int) (x : En) : Prop:=∀ u,1 ≤ u → u < v → lo u ≤ valF u x ∧ valF u x ≤ hi u
theorem InE.set {v n : Int} {x : En} (h : InE v x) (hv : 1 ≤ v ∧ v ≤ 4) (hn : lo v ≤ n ∧ n ≤ hi v) : InE (v + 1) (setE x v n):=fun u h1 h2=>by
 rw [val_set hv (by omega)]
 by_cases e : u = v
 ·rw [if_pos e,e]; exact hn
 ·rw [if_neg e]; exact h u h1 (by omega)
def RBld (l : List Sp) (v : Int) (r : List (Int × List Int)) : Prop:=∀ F x,InE v x → ByF F → F.length + bndB r ≤ 100000 →
 CallP C 29 [.ptr 0 0,.d (sps l),I v,enV x] (sM F) fun X L'=>X = I (bld (directB l) r x F).2 ∧ L' = sM (bld (directB l) r x F).1
theorem RBld.sub {l : List Sp} {v : Int} {r : List (Int × List Int)} (h : RBld l v r) {F : List Nd} {x : En} (hx : InE v x) (hF : ByF F) (hl : F.length + bndB r ≤ 100000) {E : List Blk} {k : V → List Blk → Prop} (hk : k (I (bld (directB l) r x F).2) (sM (bld (directB l) r x F).1 ++ E)) :
  CallP C 29 [.ptr 0 0,.d (sps l),I v,enV x] (sM F ++ E) k :=
 CallP.pre (h F x hx hF hl) (sM_bel F) rfl rfl fun X L1 hX=>by
  obtain ⟨rfl,rfl⟩:=hX
  exact ⟨rfl,sM_bel _,rfl,hk⟩
theorem rputS_c (F : List Nd) (x : Nd) (E : List Blk) (hF : ByF F) (hl : x.by_.length ≤ 12) (hFl : F.length ≤ 1000000) {k : V → List Blk → Prop} (hk : k (I (put F x).2) (sM (put F x).1 ++ E)) :
  CallP C 57 [.ptr 0 0,ndV x] (sM F ++ E) k :=
 CallP.pre (rput_c F x (fun y hy=>zw23 (hF y hy) (by decide)) (zw23 hl (by decide)) hFl) (sM_bel F) rfl rfl fun X L1 hX=>by
  obtain ⟨rfl,rfl⟩:=hX
  exact ⟨rfl,sM_bel _,rfl,hk⟩
theorem rleaf_b (l : List Sp) (hl : LSs l) (ho : orderF l = 0) : RBld l 5 []:=by
 intro F x hx hF hn
 have h5 : (4 : Int) < 5:=by decide
 have hB : Box x:=fun u hu=>hx u hu.1 (by omega)
 have hd : directB l x = dSs x [] l:=by unfold directB; rw [if_pos ⟨ho,box_env.2 hB⟩]
 have hv:=(order_ok.1 ho).2.2
 have hap : ∀ {L : List Blk} {k : V → List Blk → Prop},k (.d (ins (directB l x))) L → CallP C 58 [.d (sps l),enV x] L k:=fun h=>applied_c x l hl.len (fun s hs=>rsp_of _ s (Nat.le_refl _) (vSps_mem hv s hs) (hl.all s hs)) (by rw [hd] at h; exact h)
 have hb:=(directB_ok hl x).len
 have hput:=fun (E : List Blk) (k : V → List Blk → Prop) h=>rputS_c F ⟨0,0,0,0,directB l x⟩ E hF hb (by omega) (k:=k) h
 refine callP_of C_ok Tryz.func29 rfl rfl (n:=_) rfl (zw18 rfl) (rs:=_) rfl ?_
 repeat' ((conv=>whnf); first|refine zw8 (zw19 h5) ?_|refine hap ?_|refine zw0 ?_|refine zw1 ?_|refine zw2 (fun h=>?_) (fun h=>?_)|refine zw3 ?_|refine zw4 (fun h=>?_) (fun h=>?_)|refine zw5 _ rfl ?_|refine zw6 rfl ?_)
 conv=>whnf
 refine CallP.cnv (L':=sM F ++ [.cells (x.cells.map .d)]) (args':=[.ptr 0 0,ndV ⟨0,0,0,0,directB l x⟩]) rfl rfl ?_
 refine hput _ _ ?_
 repeat' ((conv=>whnf); first|refine zw0 ?_|refine zw1 ?_|refine zw2 (fun h=>?_) (fun h=>?_)|refine zw3 ?_|refine zw4 (fun h=>?_) (fun h=>?_)|refine zw5 _ rfl ?_|refine zw6 rfl ?_)
 conv=>whnf
 exact FinP.drop (n:=2) rfl (zw21 2) rfl (sM_bel _) ⟨rfl,rfl⟩
theorem rstep_b (l : List Sp) (hl : LSs l) (ho : orderF l = 0) {v : Int} (hv : 1 ≤ v ∧ v ≤ 4) {r : List (Int × List Int)} (hih : RBld l (v + 1) r) : RBld l v ((v,tv v (tsL l)) :: r):=by
 intro F x hx hF hn
 have hg:=directB_ok hl
 have hts : ∀ {L : List Blk} {k : V → List Blk → Prop},k (.d (ins (tv v (tsL l)))) L → CallP C 17 [.d (sps l),I v] L k:=fun h=>Tests_c l v hl hv h
 have hne:=tv_pos v (tsL l)
 have hlen:=(tv_out v hv (tsL_in l)).len
 have hrg : ∀ n ∈ tv v (tsL l),lo v ≤ n ∧ n ≤ hi v:=fun n hn=>by
  rcases tv_mem.1 hn with rfl | hn
  ·refine ⟨Int.le_refl _,?_⟩
   have h4 : v = 1 ∨ v = 2 ∨ v = 3 ∨ v = 4:=by omega
   rcases h4 with rfl | rfl | rfl | rfl <;> decide
  ·have:=tsL_in l _ hn
   unfold InB at this
   simp only at this
   omega
 rw [rst_all _ _ _ _ _ _ hne]
 have hbnd : bndB ((v,tv v (tsL l)) :: r) = (tv v (tsL l)).length * (bndB r + 1):=rfl
 rw [hbnd] at hn
 generalize tv v (tsL l) = vs at *
 have hmem : ∀ i,i < vs.length → lo v ≤ vs.getD i 0 ∧ vs.getD i 0 ≤ hi v:=fun i hi=>hrg _ (by rw [getD_at hi]; exact List.getElem_mem hi)
 have hby:=rst_by hg r v x vs F hF
 have hln : ∀ c,c + 1 < vs.length → (rst (bld (directB l) r) v x vs F c).F.length + bndB r + 1 ≤ 100000:=fun c hc=>by
  have h1:=rst_len (directB l) r v x vs F c
  have h2 : (c + 2) * (bndB r + 1) ≤ vs.length * (bndB r + 1):=Nat.mul_le_mul_right _ (by omega)
  rw [show (c + 2) * (bndB r + 1) = (c + 1) * (bndB r + 1) + (bndB r + 1) from Nat.succ_mul _ _] at h2
  omega
 have h4 : ¬ (4 : Int) < v:=by omega
 have wv : IntKind.i64.wrap (v + 1) = v + 1:=wrap_in (by omega)
 have wk : IntKind.i64.wrap (((vs.map fun n=>[DI n]).length : Int) - 1) = ((vs.length - 1 : Nat) : Int):=by rw [List.length_map,wrap_in (by omega)]; omega
 have wj : IntKind.i64.wrap (((vs.length - 1 : Nat) : Int) - 1) = (vs.length : Int) - 2:=by rw [wrap_in (by omega)]; omega
 have at_ : ∀ i,i < vs.length → (vs.map fun n=>[DI n])[i]? = some [DI (vs.getD i 0)]:=fun i hi=>by rw [List.getElem?_map,List.getElem?_eq_getElem hi,getD_at hi]; rfl
 have hset : ∀ (n : Int) {L : List Blk} {k : V → List Blk → Prop},k (enV (setE x v n)) L → CallP C 59 [enV x,I v,I n] L k:=fun n _ _ h=>rset_c x v n hv h
 have hsub : ∀ (G : List Nd) (E : List Blk) (i : Nat),i < vs.length → ByF G → G.length + bndB r ≤ 100000 → ∀ {k : V → List Blk → Prop},k (I (bld (directB l) r (setE x v (vs.getD i 0)) G).2) (sM (bld (directB l) r (setE x v (vs.getD i 0)) G).1 ++ E) → CallP C 29 [.ptr 0 0,.d (sps l),I (IntKind.i64.wrap (v + 1)),enV (setE x v (vs.getD i 0))] (sM G ++ E) k:=fun G E i hi hG hGl _ h=>by
  rw [wv]; exact hih.sub (hx.set hv (hmem i hi)) hG hGl h
 have r0:=at_ (vs.length - 1) (by omega)
 have hfirst:=fun (E : List Blk) (k : V → List Blk → Prop) h=>hsub F E (vs.length - 1) (by omega) hF (by
  have : 1 * (bndB r + 1) ≤ vs.length * (bndB r + 1):=Nat.mul_le_mul_right _ hne
  omega) (k:=k) h
 refine callP_of C_ok Tryz.func29 rfl rfl (n:=_) rfl (zw18 rfl) (rs:=_) rfl ?_
 repeat' ((conv=>whnf); first|refine zw9 (zw20 h4) ?_|refine hts ?_|refine zw0 ?_|refine zw1 ?_|refine zw2 (fun h=>?_) (fun h=>?_)|refine zw3 ?_|refine zw4 (fun h=>?_) (fun h=>?_)|refine zw5 _ rfl ?_|refine zw6 rfl ?_)
 conv=>whnf
 refine DrawP.por mixed [11] [[(0,0),(1,0),(2,0),(3,0),(4,0),(5,0),(6,0),(7,0),(8,0),(9,0),(10,0),(11,2),(12,0)]] (by kernel_rfl) ?_
 repeat' ((conv=>whnf); first|refine zw10 (vs.length - 1) _ wk r0 ?_|refine zw12 _ (hset _ ⟨rfl,rfl⟩) ?_|refine zw13 _ _ (CallP.cnv (L':=sM F ++ [.cells (x.cells.map .d)]) rfl rfl (hfirst _ _ ⟨rfl,rfl⟩)) ?_|refine zw0 ?_|refine zw1 ?_|refine zw2 (fun h=>?_) (fun h=>?_)|refine zw3 ?_|refine zw4 (fun h=>?_) (fun h=>?_)|refine zw5 _ rfl ?_|refine zw6 rfl ?_)
 conv=>whnf
 refine LoopP.inv (fun c : Nat=>c + 1 ≤ vs.length) (fun c=>⟨[(0,.ptr 0 0),(1,.d (sps l)),(2,I v),(7,.ptr 2 0),(9,.d (ins vs)),(11,I (rst (bld (directB l) r) v x vs F c).t),(12,I (rst (bld (directB l) r) v x vs F c).f),(13,I ((vs.length : Int) - 2 - c))],Tryz.f29.ntmps,sM (rst (bld (directB l) r) v x vs F c).F ++ [.cells (x.cells.map .d)],[],none⟩) (fun c=>vs.length - c) 0 hne ?_ ?_
 ·exact Weak.by ⟨rfl,rfl,rfl,rfl,rfl,rfl,rfl,congrArg I (by rw [wk,wj]; omega),trivial⟩
 intro c hc
 by_cases hc' : c + 1 < vs.length
 rotate_left
 ·have hge : ¬ (0 : Int) ≤ (vs.length : Int) - 2 - c:=by omega
  obtain rfl : c = vs.length - 1:=by omega
  repeat' ((conv=>whnf); first|refine zw9 (zw20 hge) ?_|refine zw0 ?_|refine zw1 ?_|refine zw2 (fun h=>?_) (fun h=>?_)|refine zw3 ?_|refine zw4 (fun h=>?_) (fun h=>?_)|refine zw5 _ rfl ?_|refine zw6 rfl ?_)
  conv=>whnf
  exact FinP.drop (n:=2) rfl (zw21 2) rfl (sM_bel _) ⟨rfl,rfl⟩
 have hst:=rst.eq_2 (bld (directB l) r) v x vs F c
 have hbc:=hby c
 have hlc:=hln c
 generalize rst (bld (directB l) r) v x vs F c = o at *
 obtain ⟨Fc,tc,fc⟩:=o
 simp only at hst hbc hlc
 have hge : (0 : Int) ≤ (vs.length : Int) - 2 - c:=by omega
 have hix : (vs.length : Int) - 2 - c = ((vs.length - 2 - c : Nat) : Int):=by omega
 have hw : IntKind.i64.wrap ((vs.length : Int) - 2 - c - 1) = (vs.length : Int) - 2 - ((c + 1 : Nat) : Int):=by rw [wrap_in (by omega)]; omega
 have r1:=at_ (vs.length - 2 - c) (by omega)
 have r2:=at_ (vs.length - 1 - c) (by omega)
 have hx2 : IntKind.i64.wrap ((vs.length : Int) - 2 - c + 1) = ((vs.length - 1 - c : Nat) : Int):=by rw [wrap_in (by omega)]; omega
 have hcall:=fun (E : List Blk) (k : V → List Blk → Prop) h=>hsub Fc E (vs.length - 2 - c) (by omega) hbc (by have:=hlc hc'; omega) (k:=k) h
 have hby1:=bld_by hg r (setE x v (vs.getD (vs.length - 2 - c) 0)) Fc hbc
 have hln1:=bld_len (directB l) r (setE x v (vs.getD (vs.length - 2 - c) 0)) Fc
 have hln2:=hlc hc'
 generalize bld (directB l) r (setE x v (vs.getD (vs.length - 2 - c) 0)) Fc = P at *
 obtain ⟨F1,p⟩:=P
 simp only at hst hcall hby1 hln1
 have hput:=fun (E : List Blk) (k : V → List Blk → Prop) h=>rputS_c F1 ⟨v,vs.getD (vs.length - 1 - c) 0,tc,p,[]⟩ E hby1 (zw22 _) (by omega) (k:=k) h
 by_cases e : (p : Int) = (fc : Int)
 ·have e' : p = fc:=by omega
  rw [if_pos e'] at hst
  repeat' ((conv=>whnf); first|refine zw8 (zw19 hge) ?_|refine zw0 ?_|refine zw1 ?_|refine zw2 (fun h=>?_) (fun h=>?_)|refine zw3 ?_|refine zw4 (fun h=>?_) (fun h=>?_)|refine zw5 _ rfl ?_|refine zw6 rfl ?_)
  conv=>whnf
  refine DrawP.por mixed [11] [[(0,0),(1,0),(2,0),(3,0),(4,0),(5,0),(6,0),(7,0),(8,0),(9,0),(10,0),(11,2),(12,0)]] (by kernel_rfl) ?_
  repeat' ((conv=>whnf); first|refine zw3 ?_|refine zw8 (zw19 e) ?_|refine zw10 (vs.length - 2 - c) _ hix r1 ?_|refine zw12 _ (hset _ ⟨rfl,rfl⟩) ?_|refine zw13 _ _ (CallP.cnv (L':=sM Fc ++ [.cells (x.cells.map .d)]) rfl rfl (hcall _ _ ⟨rfl,rfl⟩)) ?_|refine zw0 ?_|refine zw1 ?_|refine zw2 (fun h=>?_) (fun h=>?_)|refine zw3 ?_|refine zw4 (fun h=>?_) (fun h=>?_)|refine zw5 _ rfl ?_|refine zw6 rfl ?_)
  conv=>whnf
  refine ⟨c + 1,hc',by omega,?_⟩
  rw [hst]
  exact Weak.by ⟨rfl,rfl,rfl,rfl,rfl,rfl,rfl,congrArg I hw,trivial⟩
 ·have e' : ¬ p = fc:=by omega
  rw [if_neg e'] at hst
  repeat' ((conv=>whnf); first|refine zw8 (zw19 hge) ?_|refine zw0 ?_|refine zw1 ?_|refine zw2 (fun h=>?_) (fun h=>?_)|refine zw3 ?_|refine zw4 (fun h=>?_) (fun h=>?_)|refine zw5 _ rfl ?_|refine zw6 rfl ?_)
  conv=>whnf
  refine DrawP.por mixed [11] [[(0,0),(1,0),(2,0),(3,0),(4,0),(5,0),(6,0),(7,0),(8,0),(9,0),(10,0),(11,2),(12,0)]] (by kernel_rfl) ?_
  repeat' ((conv=>whnf); first|refine zw3 ?_|refine zw9 (zw20 e) ?_|refine zw10 (vs.length - 2 - c) _ hix r1 ?_|refine zw10 (vs.length - 1 - c) _ hx2 r2 ?_|refine zw12 _ (hset _ ⟨rfl,rfl⟩) ?_|refine zw13 _ _ (CallP.cnv (L':=sM Fc ++ [.cells (x.cells.map .d)]) rfl rfl (hcall _ _ ⟨rfl,rfl⟩)) ?_|refine zw0 ?_|refine zw1 ?_|refine zw2 (fun h=>?_) (fun h=>?_)|refine zw3 ?_|refine zw4 (fun h=>?_) (fun h=>?_)|refine zw5 _ rfl ?_|refine zw6 rfl ?_)
  conv=>whnf
  refine CallP.freeze (dargs:=[.ptr 0 0,ndV ⟨v,vs.getD (vs.length - 1 - c) 0,tc,p,[]⟩]) (L':=sM F1 ++ [.cells (x.cells.map .d)]) [] rfl rfl (.keep (.cv (.aggL (.cons (.d _) (.cons (.d _) (.cons (.d _) (.cons (.d _) (.cons .nil .nil)))))) .nil)) ?_
  refine hput _ _ ?_
  repeat' ((conv=>whnf); first|refine zw0 ?_|refine zw1 ?_|refine zw2 (fun h=>?_) (fun h=>?_)|refine zw3 ?_|refine zw4 (fun h=>?_) (fun h=>?_)|refine zw5 _ rfl ?_|refine zw6 rfl ?_)
  conv=>whnf
  refine ⟨c + 1,hc',by omega,?_⟩
  rw [hst]
  exact Weak.by ⟨rfl,rfl,rfl,rfl,rfl,rfl,rfl,congrArg I hw,trivial⟩
theorem rbuild_c (l : List Sp) (hl : LSs l) (ho : orderF l = 0) : RBld l 1 (vlist (vq l).a (vq l).b (vq l).c (vq l).d) :=
 rstep_b l hl ho (v:=1) (by decide) (rstep_b l hl ho (v:=2) (by decide) (rstep_b l hl ho (v:=3) (by decide) (rstep_b l hl ho (v:=4) (by decide) (rleaf_b l hl ho))))
end Go.Proofs.YtclmjkhdmhlijaaGreatDoor
namespace Go.Proofs.YtclmjkhdmhlijaaGreatDoor
open Go.Tidy
variable {L : List Blk} {k : V → List Blk → Prop}
def plc (n : Nat) (o : List Nat) (i : Nat) : List Int:=(List.range n).map fun j=>if j ∈ o.take i then (o.idxOf j : Int) else 0
theorem plc_len (n : Nat) (o : List Nat) (i : Nat) : (plc n o i).length = n:=by unfold plc; simp
theorem plc_zero (n : Nat) (o : List Nat) : plc n o 0 = List.replicate n 0:=by
 unfold plc
 refine List.ext_getElem (by simp) fun j h1 h2=>?_
 rw [List.getElem_map,List.getElem_replicate]
 simp
theorem plc_next {n : Nat} {o : List Nat} (hn : o.Nodup) {i : Nat} (hi : i < o.length) : (plc n o i).set o[i] (i : Int) = plc n o (i + 1):=by
 unfold plc
 refine List.ext_getElem (by simp) fun j h1 h2=>?_
 rw [List.getElem_set,List.getElem_map,List.getElem_map,List.getElem_range]
 simp only [take_next hi,List.mem_append,List.mem_singleton]
 by_cases e : o[i] = j
 ·subst e
  rw [if_pos rfl,if_pos (.inr rfl)]
  congr 1
  exact nd_inj hn hi (List.idxOf_lt_length_of_mem (List.getElem_mem hi)) (List.getElem_idxOf (List.idxOf_lt_length_of_mem (List.getElem_mem hi))).symm
 ·rw [if_neg e]
  by_cases h : j ∈ o.take i
  ·rw [if_pos h,if_pos (.inl h)]
  ·rw [if_neg h,if_neg (fun h'=>h'.elim h fun h'=>e h'.symm)]
theorem plc_at {n : Nat} {o : List Nat} {a : Nat} (ha : a ∈ o) (hn : a < n) : (rdI (plc n o o.length))[a]? = some [I (o.idxOf a : Nat)]:=by
 unfold rdI plc
 rw [List.getElem?_map,List.getElem?_map,List.getElem?_range hn,List.take_length]
 show some [I (if a ∈ o then (o.idxOf a : Int) else 0)] = _
 rw [if_pos ha]
theorem rdI_set (l : List Int) (j : Nat) (n : Int) : (rdI l).set j [I n] = rdI (l.set j n):=by
 unfold rdI; rw [List.map_set]
theorem rcompile_no (l : List Sp) (hl : LSs l) (ho : orderF l ≠ 0) (h : k (.tup [treV [],I (orderF l)]) L) : CallP C 7 [.d (sps l)] L k:=by
 have h1 : ∀ {L : List Blk} {k : V → List Blk → Prop},k (I (orderF l)) L → CallP C 28 [.d (sps l)] L k:=fun h=>rorder_c l hl (by rw [← order_eq]; exact h)
 generalize orderF l = o at *
 refine CallP.pure ?_ rfl (fun _=>rfl) h
 clear h
 refine callP_of C_ok Tryz.func7 rfl rfl (n:=_) rfl (zw18 rfl) (rs:=_) rfl ?_
 repeat' ((conv=>whnf); first|refine h1 ?_|refine zw3 ?_|refine zw9 (zw20 ho) ?_|refine zw0 ?_|refine zw1 ?_|refine zw2 (fun h=>?_) (fun h=>?_)|refine zw3 ?_|refine zw4 (fun h=>?_) (fun h=>?_)|refine zw5 _ rfl ?_|refine zw6 rfl ?_|refine zw7 mixed rfl ?_)
 conv=>whnf
 exact FinP.data (L':=[]) (Y:=.tup [treV [],I o]) (.tup _ _ rfl fun j x y hx hy=>by
  match j,hx,hy with
  | 0,hx,hy=>cases hx; cases hy; exact .aggL (.cons .nil .nil)
  | 1,hx,hy=>cases hx; cases hy; exact .d (.d _)
  | j + 2,hx,hy=>cases hx) rfl rfl ⟨rfl,rfl⟩
theorem rcompile_c (l : List Sp) (hl : LSs l) (hf : orderF l = 0 → few3 (vq l)) (h : k (.tup [treV (cmpX l),I (orderF l)]) L) : CallP C 7 [.d (sps l)] L k:=by
 by_cases ho : orderF l = 0
 rotate_left
 ·exact rcompile_no l hl ho (by rw [cmpX,if_neg ho] at h; exact h)
 rw [cmpX,if_pos ho,ho] at h
 have h1 : ∀ {L : List Blk} {k : V → List Blk → Prop},k (I 0) L → CallP C 28 [.d (sps l)] L k:=fun h=>rorder_c l hl (by rw [← order_eq,ho]; exact h)
 refine CallP.pure ?_ rfl (fun _=>rfl) h
 clear h
 have hfw:=hf ho
 have p1:=tv_pos 1 (tsL l)
 have p2:=tv_pos 2 (tsL l)
 have p3:=tv_pos 3 (tsL l)
 have p4:=tv_pos 4 (tsL l)
 have hg:=directB_ok hl
 have hbn : bndB (vlist (vq l).a (vq l).b (vq l).c (vq l).d) ≤ 1500:=bnd_few p1 p2 p3 hfw p4
 have hbc:=rbuild_c l hl ho [] ⟨0,0,0,0⟩ (fun u h1 h2=>by omega) (fun y hy=>by cases hy) (by simp only [List.length_nil]; omega)
 obtain ⟨F,root,hbc,hres,hclo,hneg,hrt,hFl,holen⟩ : ∃ F root,(CallP C 29 [.ptr 0 0,.d (sps l),I 1,enV ⟨0,0,0,0⟩] (sM []) fun X L'=>X = I (root : Nat) ∧ L' = sM F) ∧ cmpN l = renum F (visO F root) ∧ Closed F ∧ (∀ x ∈ F,x.var ≠ 0 → 0 ≤ x.yes ∧ 0 ≤ x.no) ∧ root < F.length ∧ F.length ≤ 1500 ∧ (visO F root).length ≤ 1500:=by
  refine ⟨_,_,hbc,rfl,?_⟩
  obtain ⟨c1,c2,c3⟩:=cmp_vis hg (tv_vals 1 (by decide) (ts_in _ l (zw21 _))) (tv_vals 2 (by decide) (ts_in _ l (zw21 _))) (tv_vals 3 (by decide) (ts_in _ l (zw21 _))) (tv_vals 4 (by decide) (ts_in _ l (zw21 _)))
  have c4:=cmp_len hg (tv_vals 1 (by decide) (ts_in _ l (zw21 _))) (tv_vals 2 (by decide) (ts_in _ l (zw21 _))) (tv_vals 3 (by decide) (ts_in _ l (zw21 _))) (tv_vals 4 (by decide) (ts_in _ l (zw21 _))) hfw
  have c5:=bld_len (directB l) (vlist (vq l).a (vq l).b (vq l).c (vq l).d) ⟨0,0,0,0⟩ []
  refine ⟨c1.wf.closed,fun x hx hv=>?_,c2,by simp only [List.length_nil] at c5; exact Nat.le_trans c5 (by omega),c4⟩
  exact wf_neg c1.wf x hx hv
 rw [hres]
 clear hres hbn
 have hbc' : CallP C 29 [.ptr 1 0,.d (sps l),I 1,enV ⟨0,0,0,0⟩] [.cells [.nil],.cells [.own 2 0 0 0],.row 0 5 []] fun X L'=>X = I (root : Nat) ∧ L' = [.cells [.nil],.cells [.own 2 F.length 0 F.length],.row F.length 5 (rdN F)]:=by
  refine CallP.embed [1,2] hbc ⟨by decide,fun b hb=>by show b < 3; simp at hb; omega,rfl,fun b c hc=>?_,rfl,rfl⟩ rfl ?_
  ·match b,hc with
   | 0,hc=>cases hc; rfl
   | 1,hc=>cases hc; rfl
   | b + 2,hc=>simp at hc
  rintro X L1 ⟨rfl,rfl⟩
  refine ⟨rfl,?_⟩
  show putB [1,2] [Blk.cells [.own 2 F.length 0 F.length],.row F.length 5 (rnR _ (rdN F))] _ = _
  rw [rnR_rdN]; rfl
 refine callP_cut (fun c=>match c with | .region 5 _ _=>true | _=>false) C_ok Tryz.func7 rfl rfl (n:=_) rfl (zw18 rfl) (rs:=_) rfl ?_
 repeat' ((conv=>whnf); first|refine zw0 ?_|refine zw1 ?_|refine zw2 (fun h=>?_) (fun h=>?_)|refine zw3 ?_|refine zw4 (fun h=>?_) (fun h=>?_)|refine zw5 _ rfl ?_|refine zw6 rfl ?_|refine h1 ?_)
 conv=>whnf
 refine CutP.intro (ι:=Unit) (fun _=>⟨[(2,.ptr 0 0),(5,.ptr 1 0),(6,I root)],Tryz.f7.ntmps,[.cells [.nil],.cells [.d (nds F)]],[],none⟩) ?_ (fun _=>?_)
 ·repeat' (conv => whnf
           first|refine zw0 ?_|refine zw1 ?_|refine zw2 (fun h=>?_) (fun h=>?_)|refine zw3 ?_|refine zw4 (fun h=>?_) (fun h=>?_)|refine zw5 _ rfl ?_|refine zw6 rfl ?_)
  conv=>whnf
  refine CallP.nilCell 1 0 5 _ rfl rfl (by decide) ?_
  refine CallP.cnv (args':=[.ptr 1 0,.d (sps l),I 1,enV ⟨0,0,0,0⟩]) (L':=[.cells [.nil],.cells [.own 2 0 0 0],.row 0 5 []]) rfl rfl ?_
  refine hbc'.mono ?_
  rintro X L1 ⟨rfl,rfl⟩
  repeat' ((conv=>whnf); first|refine zw0 ?_|refine zw1 ?_|refine zw2 (fun h=>?_) (fun h=>?_)|refine zw3 ?_|refine zw4 (fun h=>?_) (fun h=>?_)|refine zw5 _ rfl ?_|refine zw6 rfl ?_)
  conv=>whnf
  refine ⟨(),Weak.thaw 2 (zw22 _) (zw18 rfl) rfl ⟨.inl ⟨rfl,rfl⟩,.inl ⟨rfl,rfl⟩,.inl ⟨rfl,rfl⟩,trivial⟩ fun b x y hx hy=>?_⟩
  match b,hx,hy with
  | 0,hx,hy=>cases hx; cases hy; exact .inl ⟨rfl,rfl⟩
  | 1,hx,hy =>
   cases hx; cases hy
   refine .inr (.inr ⟨_,_,rfl,rfl,rfl,fun j u v hu hv=>?_⟩)
   match j,hu,hv with
   | 0,hu,hv=>cases hu; cases hv; exact .inr (.d (rdN_cv F rfl (zw21 2) rfl))
   | j + 1,hu,hv=>cases hu
  | b + 2,hx,hy=>cases hy
 have hvi:=visO_vis hclo hrt
 have hvc : ∀ {L : List Blk} {k : V → List Blk → Prop},k (.d (ins (natI (visO F root)))) L → CallP C 30 [treV F,I root,.nil] L k:=fun h =>
  CallP.freeze (dargs:=[treV F,I root,.d (ins (natI []))]) [] rfl rfl (.keep (.keep (.cv (.d .nil) .nil))) (rvisit_s F hclo (by omega) hneg _ root [] _ (zw21 _) hrt ⟨List.nodup_nil,fun a ha=>by cases ha⟩ hvi _ _ h)
 generalize visO F root = o at *
 have hm : MetOk F.length o:=hvi.metok hclo (fun a ha=>by rw [List.mem_singleton.1 ha]; exact hrt) ⟨List.nodup_nil,fun a ha=>by cases ha⟩
 have hlim : ¬ (4096 : Int) < (((natI o).map fun n=>[DI n]).length : Int):=by unfold natI; rw [List.length_map,List.length_map]; omega
 have hFc : (((F.map Nd.cells).length : Nat) : Int) = (F.length : Int):=by rw [List.length_map]
 have hmk : ∀ {q : Nat → Prop},q F.length → MakeP ((F.map Nd.cells).length : Int) ((F.map Nd.cells).length : Int) q:=fun h=>MakeP.intro F.length F.length hFc hFc (zw21 _) (by omega) h
 repeat' ((conv=>whnf); first|refine hvc ?_|refine zw9 (zw20 hlim) ?_|refine hmk ?_|refine zw0 ?_|refine zw1 ?_|refine zw2 (fun h=>?_) (fun h=>?_)|refine zw3 ?_|refine zw4 (fun h=>?_) (fun h=>?_)|refine zw5 _ rfl ?_|refine zw6 rfl ?_)
 conv=>whnf
 have hlo : ((natI o).map fun n=>[DI n]).length = o.length:=by unfold natI; rw [List.length_map,List.length_map]
 have hat : ∀ (i : Nat) (hi : i < o.length),((natI o).map fun n=>[DI n])[i]? = some [DI (o[i] : Nat)]:=fun i hi=>by
  unfold natI; rw [List.getElem?_map,List.getElem?_map,List.getElem?_eq_getElem hi]; rfl
 have h0 : List.replicate F.length [I 0] = rdI (plc F.length o 0):=by
  rw [plc_zero]; unfold rdI; rw [List.map_replicate]
 refine LoopP.inv (fun i : Nat=>i ≤ o.length) (fun i=>⟨[(2,.ptr 0 0),(5,.ptr 1 0),(7,.d (ins (natI o))),(8,.own 2 0 0 F.length),(9,I i)],Tryz.f7.ntmps,[.cells [.nil],.cells [.d (nds F)],.row 0 1 (rdI (plc F.length o i))],[],none⟩) (fun i=>o.length - i) 0 (zw22 _) ?_ ?_
 ·exact Weak.by (hL:=Eq.trans rfl (congrArg (fun x=>[Blk.cells [.nil],.cells [.d (nds F)],.row 0 1 x]) h0)) ⟨rfl,rfl,rfl,congrArg (V.own 2 0 0) (by simp),rfl,trivial⟩
 intro i hi
 by_cases hi' : i < o.length
 ·have hlt : (i : Int) < (((natI o).map fun n=>[DI n]).length : Int):=by omega
  have hw : IntKind.i64.wrap ((i : Int) + 1) = ((i + 1 : Nat) : Int):=by rw [wrap_in (by omega)]; omega
  have r1:=hat i hi'
  have hoF:=hm.lt _ (List.getElem_mem hi')
  have hpn:=plc_next (n:=F.length) hm.nd hi'
  have r2 : (rdI (plc F.length o i))[0 + o[i]]? = some [I ((plc F.length o i).getD o[i] 0)]:=by
   unfold rdI
   rw [Nat.zero_add,List.getElem?_map,List.getElem?_eq_getElem (by rw [plc_len]; exact hoF),getD_at (by rw [plc_len]; exact hoF)]; rfl
  repeat' ((conv=>whnf); first|refine zw8 (zw19 hlt) ?_|refine zw10 i _ rfl r1 ?_|refine IdxN.intro o[i] rfl hoF ?_|refine zw5 _ r2 ?_|refine zw0 ?_|refine zw1 ?_|refine zw2 (fun h=>?_) (fun h=>?_)|refine zw3 ?_|refine zw4 (fun h=>?_) (fun h=>?_)|refine zw5 _ rfl ?_|refine zw6 rfl ?_)
  conv=>whnf
  have hset : (rdI (plc F.length o i)).set (0 + o[i]) [I i] = rdI (plc F.length o (i + 1)):=by rw [Nat.zero_add,rdI_set,hpn]
  exact ⟨i + 1,hi',by omega,Weak.by (hL:=Eq.trans rfl (congrArg (fun x=>[Blk.cells [.nil],.cells [.d (nds F)],.row 0 1 x]) hset)) ⟨rfl,rfl,rfl,rfl,congrArg I hw,trivial⟩⟩
 have hlt : ¬ (i : Int) < (((natI o).map fun n=>[DI n]).length : Int):=by omega
 have hie : i = o.length:=by omega
 subst hie
 repeat' ((conv=>whnf); first|refine zw9 (zw20 hlt) ?_|refine zw0 ?_|refine zw1 ?_|refine zw2 (fun h=>?_) (fun h=>?_)|refine zw3 ?_|refine zw4 (fun h=>?_) (fun h=>?_)|refine zw5 _ rfl ?_|refine zw6 rfl ?_)
 conv=>whnf
 have hkid:=hvi.kids fun a ha=>by cases ha
 obtain ⟨ns,hns⟩ : ∃ ns,ns = renum F o:=⟨_,rfl⟩
 have hnl : ns.length = o.length:=by rw [hns]; unfold renum; simp
 have hna : ∀ (i : Nat) (hi : i < o.length),ns[i]'(by omega) = ren o (ndA F o[i]):=fun i hi=>by
  subst hns; unfold renum; rw [List.getElem_map]
 rw [← hns]
 have htk : ∀ (i : Nat) (hi : i < o.length) (z : List V),z = (ren o (ndA F o[i])).cells.map .d → (rdN (ns.take i)).take i ++ [z] = rdN (ns.take (i + 1)):=fun i hi z hz=>by
  subst hz
  rw [take_next (show i < ns.length by omega),hna i hi,List.take_of_length_le (by unfold rdN; rw [List.length_map,List.length_take]; exact Nat.min_le_left _ _)]
  unfold rdN
  rw [List.map_append]; rfl
 have hpl : (plc F.length o o.length).length = F.length:=plc_len _ _ _
 have hpa:=fun {a : Nat} (ha : a ∈ o) (hn : a < F.length)=>plc_at (n:=F.length) ha hn
 generalize plc F.length o o.length = pp at *
 have hb2 : ∀ i,belB 5 [.cells [.nil],.cells [.d (nds F)],.row 0 1 (rdI pp),.cells [.own 4 i 0 i],.row i 5 (rdN (ns.take i))] = true:=fun i=>by
  show (belR 5 (rdI pp) && (belR 5 (rdN (ns.take i)) && true)) = true
  rw [rdI_bel,rdN_bel]; rfl
 refine LoopP.inv (fun i : Nat=>i ≤ o.length) (fun i=>⟨[(2,.ptr 0 0),(5,.ptr 1 0),(7,.d (ins (natI o))),(8,.own 2 0 0 F.length),(10,.ptr 3 0),(11,I i)],Tryz.f7.ntmps,[.cells [.nil],.cells [.d (nds F)],.row 0 1 (rdI pp),.cells [.own 4 i 0 i],.row i 5 (rdN (ns.take i))],[],none⟩) (fun i=>o.length - i) 0 (zw22 _) ?_ ?_
 ·exact Weak.nilCellTo 3 0 5 [.nil] rfl rfl (by decide) rfl ⟨rfl,rfl,rfl,rfl,rfl,rfl,trivial⟩
 clear hi hi' hlt
 intro i hi
 by_cases hi' : i < o.length
 ·have hlt : (i : Int) < (((natI o).map fun n=>[DI n]).length : Int):=by omega
  have hw : IntKind.i64.wrap ((i : Int) + 1) = ((i + 1 : Nat) : Int):=by rw [wrap_in (by omega)]; omega
  have r1:=hat i hi'
  have htki:=htk i hi'
  have hap : ∀ {X : Prop},X → Need (i + 1 ≤ 4294967296) X:=fun h=>zw6 (by omega) h
  have hkd:=hkid o[i] (List.getElem_mem hi')
  have hoF:=hm.lt _ (List.getElem_mem hi')
  have hng:=hneg (ndA F o[i]) (by rw [ndA_get hoF]; exact List.getElem_mem hoF)
  have hcy:=hclo.y o[i] hoF
  have hcz:=hclo.z o[i] hoF
  have r2:=nds_at' (l:=F) hoF
  generalize o[i] = a at r1 r2 htki hkd hoF hng hcy hcz
  unfold ren at htki
  generalize ndA F a = x at r2 htki hkd hng hcy hcz
  by_cases hv : x.var = 0
  ·rw [if_pos hv] at htki
   repeat' ((conv=>whnf); first|refine zw8 (zw19 hlt) ?_|refine zw0 ?_|refine zw1 ?_|refine zw2 (fun h=>?_) (fun h=>?_)|refine zw3 ?_|refine zw4 (fun h=>?_) (fun h=>?_)|refine zw5 _ rfl ?_|refine zw6 rfl ?_)
   conv=>whnf
   refine DrawP.por mixed [] [[(0,0),(1,0),(2,0),(3,3),(4,0),(5,0),(6,3),(7,3),(8,3),(9,3),(10,0),(11,0)]] (by kernel_rfl) ?_
   repeat' ((conv=>whnf); first|refine zw10 i _ rfl r1 ?_|refine zw10 a _ rfl r2 ?_|refine zw3 ?_|refine zw8 (zw19 hv) ?_|refine hap ?_|simp only [Nat.beq_refl,Bool.and_self]|refine zw0 ?_|refine zw1 ?_|refine zw2 (fun h=>?_) (fun h=>?_)|refine zw3 ?_|refine zw4 (fun h=>?_) (fun h=>?_)|refine zw5 _ rfl ?_|refine zw6 rfl ?_)
   conv=>whnf
   exact ⟨i + 1,hi',by omega,Weak.to 5 (Eq.trans rfl (congrArg (fun z=>[Blk.cells [.nil],.cells [.d (nds F)],.row 0 1 (rdI pp),.cells [.own 4 (i + 1) 0 (i + 1)],.row (i + 1) 5 z]) (htki _ rfl))) (zw22 _) (zw18 rfl) ⟨rfl,rfl,rfl,rfl,rfl,congrArg I hw,trivial⟩ (hB:=hb2 (i + 1))⟩
  ·rw [if_neg hv] at htki
   have ha1:=hpa (hkd hv).1 (hcy hv)
   have ha2:=hpa (hkd hv).2 (hcz hv)
   have ha1' : (rdI pp)[0 + x.y]? = some [I (o.idxOf x.y : Nat)]:=by rw [Nat.zero_add]; exact ha1
   have ha2' : (rdI pp)[0 + x.z]? = some [I (o.idxOf x.z : Nat)]:=by rw [Nat.zero_add]; exact ha2
   have ey : x.yes = ((x.y : Nat) : Int):=by unfold Nd.y; have:=(hng hv).1; omega
   have ez : x.no = ((x.z : Nat) : Int):=by unfold Nd.z; have:=(hng hv).2; omega
   repeat' ((conv=>whnf); first|refine zw8 (zw19 hlt) ?_|refine zw0 ?_|refine zw1 ?_|refine zw2 (fun h=>?_) (fun h=>?_)|refine zw3 ?_|refine zw4 (fun h=>?_) (fun h=>?_)|refine zw5 _ rfl ?_|refine zw6 rfl ?_)
   conv=>whnf
   refine DrawP.por mixed [] [[(0,0),(1,0),(2,0),(3,3),(4,0),(5,0),(6,3),(7,3),(8,3),(9,3),(10,0),(11,0)]] (by kernel_rfl) ?_
   repeat' ((conv=>whnf); first|refine zw10 i _ rfl r1 ?_|refine zw10 a _ rfl r2 ?_|refine zw3 ?_|refine zw9 (zw20 hv) ?_|refine IdxN.intro x.y ey (hcy hv) ?_|refine IdxN.intro x.z ez (hcz hv) ?_|refine zw5 _ ha1' ?_|refine zw5 _ ha2' ?_|refine hap ?_|simp only [Nat.beq_refl,Bool.and_self]|refine zw0 ?_|refine zw1 ?_|refine zw2 (fun h=>?_) (fun h=>?_)|refine zw3 ?_|refine zw4 (fun h=>?_) (fun h=>?_)|refine zw5 _ rfl ?_|refine zw6 rfl ?_)
   conv=>whnf
   exact ⟨i + 1,hi',by omega,Weak.to 5 (Eq.trans rfl (congrArg (fun z=>[Blk.cells [.nil],.cells [.d (nds F)],.row 0 1 (rdI pp),.cells [.own 4 (i + 1) 0 (i + 1)],.row (i + 1) 5 z]) (htki _ rfl))) (zw22 _) (zw18 rfl) ⟨rfl,rfl,rfl,rfl,rfl,congrArg I hw,trivial⟩ (hB:=hb2 (i + 1))⟩
 ·have hlt : ¬ (i : Int) < (((natI o).map fun n=>[DI n]).length : Int):=by omega
  have hie : i = o.length:=by omega
  subst hie
  rw [List.take_of_length_le (by omega)]
  repeat' ((conv=>whnf); first|refine zw9 (zw20 hlt) ?_|refine zw0 ?_|refine zw1 ?_|refine zw2 (fun h=>?_) (fun h=>?_)|refine zw3 ?_|refine zw4 (fun h=>?_) (fun h=>?_)|refine zw5 _ rfl ?_|refine zw6 rfl ?_)
  conv=>whnf
  refine zw16 (L':=[]) (Y:=.tup [treV ns,I 0]) (.tup _ _ rfl fun j x y hx hy=>?_) rfl rfl ⟨rfl,rfl⟩
  match j,hx,hy with
  | 0,hx,hy =>
   cases hx; cases hy
   exact .aggL (.cons (rdN_cv ns hnl.symm (zw22 _) rfl) .nil)
  | 1,hx,hy=>cases hx; cases hy; exact .d (.d _)
  | j + 2,hx,hy=>cases hx
end Go.Proofs.YtclmjkhdmhlijaaGreatDoor
