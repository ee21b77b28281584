import Derived.Test.YtndlggbljkhfbaaGreatJNF
set_option maxRecDepth 100000
set_option maxHeartbeats 0
set_option linter.unusedSimpArgs false
set_option linter.unusedVariables false
namespace Go.Proofs.YtndlggbljkhfbaaGreat
open Go.Tidy
variable {L : List Blk} {k : V → List Blk → Prop}
theorem allN_mem {n : Nat} {x : Int} : x ∈ allN n ↔ 0 ≤ x ∧ x < (n : Int):=by
 unfold allN
 rw [List.mem_map]
 constructor
 ·rintro ⟨i,hi,rfl⟩
  have:=List.mem_range.1 hi; omega
 ·rintro ⟨h1,h2⟩
  exact ⟨x.toNat,List.mem_range.2 (by omega),by omega⟩
theorem allN_pair (n : Nat) : (allN n).Pairwise (· < ·):=by
 unfold allN
 exact List.Pairwise.map _ (fun a b h=>by omega) List.pairwise_lt_range
theorem sort_filter {n : Nat} {us : List Int} (hn : us.Nodup) (hr : ∀ u ∈ us,0 ≤ u ∧ u < (n : Int)) : sortI us = (allN n).filter fun x=>decide (x ∈ us):=by
 have tr : ∀ a b c : Int,decide (a ≤ b) = true → decide (b ≤ c) = true → decide (a ≤ c) = true:=fun a b c h1 h2=>by simp only [decide_eq_true_eq] at *; omega
 have to : ∀ a b : Int,(decide (a ≤ b) || decide (b ≤ a)) = true:=fun a b=>by simp only [Bool.or_eq_true,decide_eq_true_eq]; omega
 have hp2:=(allN_pair n).filter (p:=fun x=>decide (x ∈ us))
 refine List.Perm.eq_of_pairwise (le:=fun a b : Int=>decide (a ≤ b) = true) (fun a b _ _ h1 h2=>?_) (List.pairwise_mergeSort tr to us) (hp2.imp fun {a b} h=>by simp only [decide_eq_true_eq]; omega) ?_
 ·simp only [decide_eq_true_eq] at h1 h2; omega
 ·refine (List.mergeSort_perm us _).trans ((List.perm_ext_iff_of_nodup hn (hp2.imp fun {a b} h=>by omega)).2 fun x=>?_)
  rw [List.mem_filter,allN_mem,decide_eq_true_eq]
  exact ⟨fun h=>⟨hr x h,h⟩,fun h=>h.2⟩
end Go.Proofs.YtndlggbljkhfbaaGreat
namespace Go.Proofs.YtndlggbljkhfbaaGreat
open Go.Tidy
variable {L : List Blk} {k : V → List Blk → Prop}
def pC : Pl:=⟨[1,2],false,[⟨1,1,0,0,0,[]⟩,⟨2,1,0,0,0,[]⟩,⟨9,2,0,0,0,[]⟩]⟩
theorem contrary_c (h : k (plV pC) L) : CallP C 59 [] L k:=by
 refine CallP.pure ?_ rfl (fun _=>rfl) h
 clear h
 refine callP_of C_ok Tryz.func59 rfl rfl (n:=_) rfl (w18 rfl) (rs:=_) rfl ?_
 repeat' ((conv=>whnf); first|refine w0 ?_|refine w1 ?_|refine w2 (fun h=>?_) (fun h=>?_)|refine w3 ?_|refine w4 (fun h=>?_) (fun h=>?_)|refine w5 _ rfl ?_|refine w6 rfl ?_|refine w7 mixed rfl ?_)
 conv=>whnf
 exact FinP.data (L':=[]) (.aggL (.cons (.rowL (ds:=[[DI 1],[DI 2]]) (w22 _) rfl (.cons (.cons (.d _) .nil) (.cons (.cons (.d _) .nil) .nil)) rfl (by exact len1 rfl)) (.cons (.d _) (.cons (.rowL (ds:=pC.demands.map Dm.cells) (w22 _) rfl (.cons (.cons (.d _) (.cons (.d _) (.cons (.d _) (.cons (.d _) (.cons (.d _) (.cons .nil .nil)))))) (.cons (.cons (.d _) (.cons (.d _) (.cons (.d _) (.cons (.d _) (.cons (.d _) (.cons .nil .nil)))))) (.cons (.cons (.d _) (.cons (.d _) (.cons (.d _) (.cons (.d _) (.cons (.d _) (.cons .nil .nil)))))) .nil))) rfl (by exact len6 rfl)) .nil)))) rfl rfl ⟨rfl,rfl⟩
def bsShow : Bs → List Int × List (List Int)
 | .go sp us t=>(us,t.map fun b=>[b.m.home,b.m.away,b.r,b.b,(b.t.length : Int)])
 | .stop e=>([e],[])
theorem rv1 : (bsShow (proveO pC 9)).1 = [1,0] ∧ (bsShow (proveO pC 9)).2 = [[1,2,0,1,0],[2,1,0,0,0]]:=by decide +kernel
theorem rvA : argE pC 9 = 0:=by decide +kernel
theorem rv2 : leastF pC 9 = ([0,1],0):=by decide +kernel
theorem rv3 : leastF pC 0 = ([],3):=by decide +kernel
theorem rv4 : keepE pC [2] = 0 ∧ proveE (keepX pC [2]) 9 = 300 ∧ (keepX pC [2]).demands.length = 1:=by decide +kernel
theorem rv6 : chkE pC [0,1] [.mk ⟨1,2⟩ 0 1 [],.mk ⟨2,1⟩ 0 0 []] = 0:=by decide +kernel
theorem rv0 : chkE pC [] [] = 330:=by decide +kernel
theorem smC : Small [] pC:=⟨by decide,by decide,by decide,by decide,by decide⟩
def tC : List Brc:=[.mk ⟨1,2⟩ 0 1 [],.mk ⟨2,1⟩ 0 0 []]
theorem brc_of {t : List Brc} (h : (t.map fun b=>[b.m.home,b.m.away,b.r,b.b,(b.t.length : Int)]) = [[1,2,0,1,0],[2,1,0,0,0]]) : t = tC:=by
 match t,h with
 | [.mk ⟨a,b⟩ r d t1,.mk ⟨a2,b2⟩ r2 d2 t2],h =>
  simp only [List.map_cons,List.map_nil,Brc.m,Brc.r,Brc.b,Brc.t,List.cons.injEq,and_true,Int.ofNat_eq_zero,Int.natCast_eq_zero,List.length_eq_zero_iff] at h
  obtain ⟨⟨rfl,rfl,rfl,rfl,h1⟩,rfl,rfl,rfl,rfl,h2⟩:=h
  rw [h1,h2]; rfl
 | [],h=>simp at h
 | [x],h=>simp at h
 | x :: y :: z :: t,h=>simp at h
theorem rvP : proveU pC 9 = [0,1] ∧ proveT pC 9 = tC ∧ proveE pC 9 = 0:=by
 have h:=rv1
 unfold proveU proveT proveE
 rw [if_pos rvA,if_pos rvA,if_pos rvA]
 generalize proveO pC 9 = o at h
 match o,h with
 | .go sp us t,⟨h1,h2⟩ =>
  refine ⟨?_,brc_of h2,rfl⟩
  have h1' : us = [1,0]:=h1
  show sortI us = _
  rw [h1',sort_filter (n:=2) (by decide) (by decide)]
  decide
 | .stop e,⟨h1,h2⟩=>cases h1
theorem prove_e {p : Pl} {bud : Int} {us : List Int} {t : List Brc} {e : Int} (hs : Small [] p) (hv : proveU p bud = us ∧ proveT p bud = t ∧ proveE p bud = e) (h : k (.tup [refV us t,I e]) L) : CallP C 14 [plV p,I bud] L k:=by
 obtain ⟨rfl,rfl,rfl⟩:=hv; exact prove_c p bud hs h
theorem proveE_c {p : Pl} {bud : Int} {e : Int} (hs : Small [] p) (hv : proveE p bud = e) (h : ∀ us t,k (.tup [refV us t,I e]) L) : CallP C 14 [plV p,I bud] L k:=by
 subst hv; exact prove_c p bud hs (h _ _)
theorem least_e {p : Pl} {bud : Int} {x : List Int} {e : Int} (hs : Small [] p) (hD : p.demands.length ≤ 1073741823) (hv : leastF p bud = (x,e)) (h : k (.tup [.d (ints x),I e]) L) : CallP C 19 [plV p,I bud] L k :=
 least_c p bud hs hD (by rw [hv]; exact h)
theorem chk_e {p : Pl} {us : List Int} {r : List Brc} {e : Int} (hs : Small [] p) (hul : us.length ≤ 1073741824) (hv : chkE p us r = e) (h : k (I e) L) : CallP C 18 [plV p,refV us r] L k:=by
 subst hv; exact check33_c p us r hs hul h
theorem same01 (h : k (B true) L) : CallP C 31 [.d (ints [0,1]),.d (ints [0,1])] L k:=rsameI_c [0,1] [0,1] (by decide) h
theorem rsane_c (h : k (B true) L) : CallP C 22 [] L k:=by
 refine CallP.pure ?_ rfl (fun _=>rfl) h
 clear h
 refine callP_of C_ok Tryz.func22 rfl rfl (n:=_) rfl (w18 rfl) (rs:=_) rfl ?_
 repeat' ((conv=>whnf); first|refine w0 ?_|refine w1 ?_|refine w2 (fun h=>?_) (fun h=>?_)|refine w3 ?_|refine w4 (fun h=>?_) (fun h=>?_)|refine w5 _ rfl ?_|refine w6 rfl ?_|refine w7 mixed rfl ?_|refine contrary_c ?_|refine prove_e smC rvP ?_|refine least_e smC (by decide) rv2 ?_|refine least_e smC (by decide) rv3 ?_|refine CallP.freeze (args:=[plV pC,.own 2 0 0 1]) [2] rfl rfl (.keep (.cv (.d (.rowL (ds:=[[DI 2]]) (List.mem_singleton.2 rfl) rfl (.cons (.cons (.d _) .nil) .nil) rfl (by exact len1 rfl))) .nil)) (keep_c pC [2] smC.hc smC.hd (by decide) (by simp) ?_)|refine proveE_c (small_keep smC (by decide)) rv4.2.1 (fun us t=>?_)|refine chk_e smC (by decide) rv6 ?_|refine CallP.freeze (args:=[plV pC,.agg [.nil,.nil]]) (dargs:=[plV pC,refV [] []]) [] rfl rfl (.keep (.cv (.aggL (.cons .nil (.cons .nil .nil))) .nil)) (chk_e smC (by decide) rv0 ?_)|refine w10 0 _ rfl rfl ?_|refine w8 (w19 rv4.1) ?_|refine w8 (w19 (show (((keepX pC [2]).demands.map Dm.cells).length : Int) = 1 by rw [List.length_map,rv4.2.2]; rfl)) ?_|refine CallP.lent (same01 ⟨rfl,rfl⟩) (.keep (.cv (y:=.d (ints [0,1])) (.d (.rowL (ds:=[[DI 0],[DI 1]]) trivial rfl (.cons (.cons (.d _) .nil) (.cons (.cons (.d _) .nil) .nil)) rfl (by exact len1 rfl))) .nil)) rfl rfl ?_)
 conv=>whnf
 exact FinP.drop (n:=0) rfl (w21 0) rfl rfl ⟨rfl,rfl⟩
end Go.Proofs.YtndlggbljkhfbaaGreat
namespace Go.Proofs.YtndlggbljkhfbaaGreat
open Go.Tidy
theorem cells_brc : C.P.cellsOf 91 = 5:=by kernel_rfl
theorem cells_brs : C.P.cellsOf 34 = 1:=by kernel_rfl
theorem cells_ref : C.P.cellsOf 36 = 2:=by kernel_rfl
theorem u16T {xs : List D} (h : TyI C.P 56 xs) (_ : ∀ y ∈ xs,Dsm reachBytes y) : ∃ n : Int,xs = [.int .u16 n] ∧ (0 ≤ n ∧ n ≤ 65535):=by
 obtain ⟨n,h,hw⟩:=h.intI Tryz.underlying56
 exact ⟨n,h,by simp only [Lit.wf,Bool.and_eq_true,decide_eq_true_eq] at hw; exact hw⟩
theorem u8T {xs : List D} (h : TyI C.P 5 xs) (_ : ∀ y ∈ xs,Dsm reachBytes y) : ∃ n : Int,xs = [.int .u8 n] ∧ (0 ≤ n ∧ n ≤ 255):=by
 obtain ⟨n,h,hw⟩:=h.intI Tryz.underlying5
 exact ⟨n,h,by simp only [Lit.wf,Bool.and_eq_true,decide_eq_true_eq] at hw; exact hw⟩
theorem brcsT : ∀ (n : Nat) (y : D),SizeOf.sizeOf y ≤ n → TyI C.P 34 [y] → ∃ t : List Brc,y = .sl (brcs t)
 | 0,y,hn,h=>by cases y <;> simp at hn
 | n + 1,y,hn,h=>by
  obtain ⟨els,he,h1,h2⟩:=h.slI Tryz.underlying34
  obtain rfl : y = .sl els:=by cases he; rfl
  obtain ⟨l,hl⟩:=map_of (f:=Brc.cells) (l:=els) fun y hy=>by
   obtain ⟨c1,c2⟩:=(h2 y hy).structI Tryz.underlying91
   rw [cells_brc] at c1
   simp only [List.mem_cons,List.not_mem_nil,or_false,forall_eq_or_imp,forall_eq] at c2
   obtain ⟨a0,a1,a2,a3⟩:=c2
   obtain ⟨m,hm⟩:=mtT a0
   rw [cells_mt] at hm
   obtain ⟨n1,b1⟩:=at_int a1
   obtain ⟨n2,b2⟩:=at_int a2
   rw [cells_brs] at a3
   obtain ⟨z,hz⟩ : ∃ z,(y.drop 4).take 1 = [z]:=by
    match y,c1 with
    | [_,_,_,_,z],_=>exact ⟨z,rfl⟩
   rw [hz] at a3
   have hzy : z ∈ y:=List.mem_of_mem_drop (List.mem_of_mem_take (by rw [hz]; exact List.mem_singleton.2 rfl))
   have s1:=List.sizeOf_lt_of_mem hzy
   have s2:=List.sizeOf_lt_of_mem hy
   simp only [D.sl.sizeOf_spec] at hn
   obtain ⟨t,rfl⟩:=brcsT n z (by omega) a3
   refine ⟨.mk m n1 n2 t,?_⟩
   have b3:=at_one hz
   rw [List.drop_zero] at hm
   have g0 : y[0]? = some (DI m.home):=by
    have:=congrArg (fun l=>l[0]?) hm
    simpa [Mt.cells] using this
   have g1 : y[1]? = some (DI m.away):=by
    have:=congrArg (fun l=>l[1]?) hm
    simpa [Mt.cells] using this
   apply List.ext_getElem?
   intro i
   match i with
   | 0=>exact g0
   | 1=>exact g1
   | 2=>exact b1
   | 3=>exact b2
   | 4=>exact b3
   | i + 5=>rw [List.getElem?_eq_none (by omega)]; rfl
  exact ⟨l,by rw [hl,brcs_map]⟩
theorem refT {xs : List D} (h : TyI C.P 36 xs) (hs : ∀ y ∈ xs,Dsm reachBytes y) : ∃ r : List Int × List Brc,xs = [ints r.1,.sl (brcs r.2)] ∧ r.1.length ≤ 140737488355328:=by
 obtain ⟨h1,h2⟩:=h.structI Tryz.underlying36
 rw [cells_ref] at h1
 simp only [List.mem_cons,List.not_mem_nil,or_false,forall_eq_or_imp,forall_eq] at h2
 obtain ⟨a0,a1⟩:=h2
 obtain ⟨l,hl,hb⟩:=intsT a0 fun y hy=>hs y (List.mem_of_mem_drop (List.mem_of_mem_take hy))
 rw [cells_ints] at hl
 have b0:=at_one hl
 rw [cells_brs] at a1
 match xs,h1,b0,a1 with
 | [x,z],_,b0,a1 =>
  obtain ⟨t,rfl⟩:=brcsT _ z (w21 _) a1
  cases b0
  exact ⟨(l,t),rfl,hb⟩
theorem few_small33 {p : Pl} (h : FewQ p) : Small [] p:=by
 obtain ⟨h1,h2,h3⟩:=h
 refine ⟨by decide,by simp,by rcases h2 with h | h <;> omega,fun d hd=>?_,by omega⟩
 obtain ⟨i,hi,rfl⟩:=List.getElem_of_mem hd
 have:=h1 i hi; omega
mutual
theorem brs_size (p : Pl) (bud : Nat) : ∀ (n : Nat) (l : Lst) (sp : Nat) (us : List Int) (sp' : Nat) (us' : List Int) (t : List Brc),brs p bud n l sp us = .go sp' us' t → sp + brSize t = sp'
 | 0,l,sp,us,sp',us',t,h=>by cases h; rfl
 | n + 1,l,sp,us,sp',us',t,h=>brLoop_size p bud n l (chE l p) sp us [] sp' us' t h
theorem brLoop_size (p : Pl) (bud : Nat) (n : Nat) (l : Lst) : ∀ (ms : List Mt) (sp : Nat) (us : List Int) (t : List Brc) (sp' : Nat) (us' : List Int) (t' : List Brc),brLoop (brs p bud n) l p bud ms sp us t = .go sp' us' t' → sp + brSize t' = sp' + brSize t
 | [],sp,us,t,sp',us',t',h=>by cases h; rfl
 | m :: ms,sp,us,t,sp',us',t',h=>by
  have ap : ∀ (t : List Brc) (x : Brc),brSize (t ++ [x]) = brSize t + x.size:=by
   intro t x
   induction t with
   | nil=>simp [brSize]
   | cons y t ih=>simp only [List.cons_append,brSize,ih]; omega
  simp only [brLoop] at h
  split at h
  ·cases h
  ·split at h
   ·have h1:=brLoop_size p bud n l ms (sp + 1) _ _ _ _ _ h
    rw [ap] at h1
    simp only [Brc.size,brSize] at h1; omega
   ·split at h
    ·cases h
    ·split at h
     ·rename_i sp2 us2 t2 h2
      have k1:=brs_size p bud n _ (sp + 1) us _ _ _ h2
      have h1:=brLoop_size p bud n l ms sp2 _ _ _ _ _ h
      rw [ap] at h1
      simp only [Brc.size] at h1; omega
     ·cases h
end
theorem proveT_size (p : Pl) (bud : Int) : brSize (proveT p bud) ≤ bud.toNat:=by
 unfold proveT
 split
 ·split
  ·rename_i sp us t ho
   have h1:=brs_size p _ _ _ _ _ _ _ _ ho
   have h2:=(brs_keep p _ _ _ _ _ (w22 _) _ _ _ ho).1
   omega
  ·exact Nat.zero_le _
 ·exact Nat.zero_le _
theorem proveT_le (p : Pl) (bud : Int) : brSize (proveT p bud) ≤ 1073741824:=by
 by_cases hA : argE p bud = 0
 ·have:=argE_zero hA
  have:=proveT_size p bud
  omega
 ·unfold proveT; rw [if_neg hA]; exact Nat.zero_le _
theorem proveU_le (p : Pl) (bud : Int) : (proveU p bud).length ≤ 1073741824:=by
 unfold proveU
 split
 ·rename_i hA
  split
  ·rename_i sp us t ho
   obtain ⟨h0,h1,h2⟩:=argE_zero hA
   obtain ⟨hu1,hu2,hu3⟩:=brs_us p _ h0 _ _ _ _ (part_nil p) (w22 _) List.nodup_nil _ _ _ ho
   have h2:=(brs_keep p _ _ _ _ _ (w22 _) _ _ _ ho).1
   unfold sortI; rw [List.length_mergeSort]; omega
  ·exact Nat.zero_le _
 ·exact Nat.zero_le _
end Go.Proofs.YtndlggbljkhfbaaGreat
namespace Go.Proofs.YtndlggbljkhfbaaGreat
open Go.Tidy
theorem dmA_m1 {l : Lst} {p : Pl} (h : dmA l p < 0) : dmA l p = -1:=by
 unfold dmA at *
 split at h
 ·rename_i hc
  rw [if_pos hc]
  rcases doomL_head (pR l p) p with h1 | h1
  ·exact h1.1
  ·obtain ⟨a,ha,e,_⟩:=doomL_mem.1 h1
   omega
 ·omega
theorem keep_doom {x : Lst} {p : Pl} {us : List Int} {u : Int} (h0 : checkP p = 0) (hP : PartP x p) (hw : IndP p.demands.length us) (hu : u ∈ us) (h : dmB x p u = true) : 0 ≤ dmA x (keepP p us):=by
 have hr:=ind_range hw u hu
 have h1:=ind_one hr
 obtain ⟨ke,kx⟩:=keep_ok h0 h1
 have h:=of_decide_eq_true h
 rw [kx] at h
 refine Int.not_lt.1 fun hn=>?_
 obtain ⟨_,_,hd⟩:=dmA_neg.1 hn
 have : dmA x (keepP p [u]) < 0:=dmA_neg.2 ⟨keepP_check h0 h1,hP,fun d hdm=>by
  obtain ⟨v,hv,rfl⟩:=List.mem_map.1 hdm
  obtain rfl:=List.mem_singleton.1 hv
  exact hd _ (List.mem_map.2 ⟨_,hu,rfl⟩)⟩
 omega
theorem dm_hit {x : Lst} {p : Pl} (h0 : checkP p = 0) (hP : PartP x p) (h : 0 ≤ dmA x p) : dmB x p (dmA x p) = true:=by
 obtain ⟨a,ha,e,hx⟩:=dmA_pos h0 hP h
 have hr : 0 ≤ dmA x p ∧ dmA x p < (p.demands.length : Int):=by omega
 have h1:=ind_one hr
 obtain ⟨ke,kx⟩:=keep_ok h0 h1
 refine w19 (Int.not_lt.1 fun hn=>?_)
 rw [kx] at hn
 obtain ⟨_,_,hd⟩:=dmA_neg.1 hn
 have hg : getD p (dmA x p) = p.demands[a]:=by unfold getD; rw [e,Int.toNat_natCast,List.getElem?_eq_getElem ha]; rfl
 have:=hd (getD p (dmA x p)) (List.mem_map.2 ⟨_,List.mem_singleton.2 rfl,rfl⟩)
 rw [hg] at this
 exact absurd (this.symm.trans hx) (by decide)
theorem okBr_hit {f : Lst → List Brc → Bool} {l : Lst} {p : Pl} {us : List Int} {m : Mt} {b : Int} (h1 : ¬ b = -1) (h2 : b ∈ us) (h3 : dmB (extL l p m) p b = true) : okBr f l p us m (.mk m (atN l p) b []) = true:=by
 show (decide (m = m) && decide ((atN l p : Int) = (atN l p : Int)) && (if b = -1 then _ else (decide (b ∈ us) && true && dmB (extL l p m) p b))) = true
 rw [if_neg h1,decide_eq_true rfl,decide_eq_true rfl,decide_eq_true h2,h3]; rfl
theorem okBr_on {f : Lst → List Brc → Bool} {l : Lst} {p : Pl} {us : List Int} {m : Mt} {b : Int} {t : List Brc} (h1 : b = -1) (h2 : fullC (extL l p m) p = false) (h3 : f (extL l p m) t = true) : okBr f l p us m (.mk m (atN l p) b t) = true:=by
 show (decide (m = m) && decide ((atN l p : Int) = (atN l p : Int)) && (if b = -1 then (!fullC (extL l p m) p && f (extL l p m) t) else _)) = true
 rw [if_pos h1,decide_eq_true rfl,decide_eq_true rfl,h2,h3]; rfl
theorem brs_chk {p : Pl} {bud : Nat} (h0 : checkP p = 0) : ∀ (n : Nat) (l : Lst) (sp : Nat) (us : List Int),PartP l p → roundsN p * halfN p < l.flatten.length + n → ∀ (sp' : Nat) (us' : List Int) (t : List Brc),brs p bud n l sp us = .go sp' us' t →
  (∀ u ∈ us,u ∈ us') ∧ ∀ us2 : List Int,(∀ u ∈ us',u ∈ us2) → chk p us2 n l t = true
 | 0,l,sp,us,hP,hfu,_,_,_,_=>by have:=part_total hP; omega
 | n + 1,l,sp,us,hP,hfu,sp',us',t,h=>by
  have key : ∀ (ms : List Mt) (sp : Nat) (us : List Int) (t : List Brc),(∀ m ∈ ms,PartP (extL l p m) p) → ∀ (sp' : Nat) (us' : List Int) (t' : List Brc),brLoop (brs p bud n) l p bud ms sp us t = .go sp' us' t' →
    (∀ u ∈ us,u ∈ us') ∧ ∃ bs,t' = t ++ bs ∧ ms.length = bs.length ∧ ∀ us2 : List Int,(∀ u ∈ us',u ∈ us2) → ((ms.zip bs).all fun q=>okBr (chk p us2 n) l p us2 q.1 q.2) = true:=by
   intro ms
   induction ms with
   | nil=>intro sp us t _ sp' us' t' h; cases h; exact ⟨fun u h=>h,[],by simp,rfl,fun us2 _=>rfl⟩
   | cons m ms ih =>
    intro sp us t hm sp' us' t' h
    have hPx:=hm m (by simp)
    have hm' : ∀ m ∈ ms,PartP (extL l p m) p:=fun m h=>hm m (by simp [h])
    simp only [brLoop] at h
    split at h
    ·cases h
    ·split at h
     ·rename_i hd
      obtain ⟨h1,bs,h2,h3,h4⟩:=ih _ _ _ hm' _ _ _ h
      refine ⟨fun u hu=>h1 u (by split <;> simp [hu]),_ :: bs,by rw [h2,List.append_assoc]; rfl,by simp [h3],fun us2 hs=>?_⟩
      rw [List.zip_cons_cons,List.all_cons,h4 us2 hs,Bool.and_true]
      have hmem : dmA (extL l p m) p ∈ us2:=hs _ (h1 _ (by split <;> simp_all))
      have hne : ¬ dmA (extL l p m) p = -1:=by omega
      have hh:=dm_hit h0 hPx hd
      exact okBr_hit hne hmem hh
     ·rename_i hd
      have hd1:=dmA_m1 (Int.not_le.1 hd)
      split at h
      ·cases h
      ·rename_i hf
       split at h
       ·rename_i sp2 us2 t2 h2
        have hfl : roundsN p * halfN p < (extL l p m).flatten.length + n:=by rw [extL_flat,List.length_append]; simp only [List.length_singleton]; omega
        obtain ⟨k1,k2⟩:=brs_chk h0 n _ (sp + 1) us hPx hfl _ _ _ h2
        obtain ⟨h1,bs,h2,h3,h4⟩:=ih _ _ _ hm' _ _ _ h
        refine ⟨fun u hu=>h1 u (k1 u hu),_ :: bs,by rw [h2,List.append_assoc]; rfl,by simp [h3],fun us3 hs=>?_⟩
        rw [List.zip_cons_cons,List.all_cons,h4 us3 hs,Bool.and_true]
        have hk:=k2 us3 fun u hu=>hs u (h1 u hu)
        exact okBr_on hd1 (eq_false_of_ne_true hf) hk
       ·cases h
  obtain ⟨h1,bs,h2,h3,h4⟩:=key _ _ _ _ (chE_part h0 hP) _ _ _ h
  refine ⟨h1,fun us2 hs=>?_⟩
  rw [List.nil_append] at h2
  subst h2
  unfold chk
  rw [decide_eq_true h3,h4 us2 hs]; rfl
theorem prove_chk {p : Pl} {bud : Int} (hA : argE p bud = 0) (he : proveE p bud = 0) : IndP p.demands.length (proveU p bud) ∧ chk p (proveU p bud) (fuelN p) [] (proveT p bud) = true:=by
 obtain ⟨h0,hb1,hb2⟩:=argE_zero hA
 unfold proveE at he
 unfold proveU proveT
 rw [if_pos hA] at he ⊢
 rw [if_pos hA]
 cases ho : proveO p bud with
 | stop e=>rw [ho] at he; exact absurd he (by
   have hs:=brs_sim (p:=p) (bud:=bud.toNat) (fuelN p) [] 0 [] h0 (part_nil p) (full_nil p) (by unfold fuelN; simp)
   have ho' : brs p bud.toNat (fuelN p) [] 0 [] = .stop e:=ho
   rw [ho'] at hs
   cases h2 : examP p bud.toNat false (fuelN p) [] 0 [] with
   | go a b=>rw [h2] at hs; exact hs.elim
   | stop a b c=>rw [h2] at hs; rcases hs with ⟨rfl,_⟩ | ⟨rfl,_⟩ <;> decide)
 | go sp us t =>
  obtain ⟨hu1,hu2,hu3⟩:=brs_us p _ h0 _ _ _ _ (part_nil p) (w22 _) List.nodup_nil _ _ _ ho
  obtain ⟨k1,k2⟩:=brs_chk h0 _ _ _ _ (part_nil p) (by unfold fuelN; simp) _ _ _ ho
  have hr : ∀ u ∈ us,0 ≤ u ∧ u < (p.demands.length : Int):=fun u hu=>by
   rcases hu3 u hu with h | h
   ·cases h
   ·exact h
  refine ⟨?_,k2 _ fun u hu=>by unfold sortI; exact List.mem_mergeSort.2 hu⟩
  show IndP p.demands.length (sortI us)
  have hsf:=sort_filter hu2 hr
  have hpw : (sortI us).Pairwise (· < ·):=by rw [hsf]; exact (allN_pair _).filter (p:=fun x=>decide (x ∈ us))
  intro i hi
  refine ⟨?_,fun h=>?_⟩
  ·have : (sortI us)[i] ∈ sortI us:=List.getElem_mem hi
   unfold sortI at this
   exact hr _ (List.mem_mergeSort.1 this)
  ·exact List.pairwise_iff_getElem.1 hpw (i - 1) i (by omega) hi (by omega)
theorem prove_chkE {p : Pl} {bud : Int} (hA : argE p bud = 0) (he : proveE p bud = 0) : chkE p (proveU p bud) (proveT p bud) = 0:=by
 obtain ⟨h1,h2⟩:=prove_chk hA he
 unfold chkE
 rw [if_pos (argE_zero hA).1,if_pos h1,if_pos h2]
end Go.Proofs.YtndlggbljkhfbaaGreat
namespace Go.Proofs.YtndlggbljkhfbaaGreat
open Go.Tidy
theorem checkP_vals (p : Pl) : checkP p = 0 ∨ checkP p = 310 ∨ checkP p = 2 ∨ checkP p = 1:=by
 unfold checkP
 split
 ·split
  ·split
   ·exact .inl rfl
   ·exact .inr (.inl rfl)
  ·exact .inr (.inr (.inl rfl))
 ·exact .inr (.inr (.inr rfl))
theorem prove_stop {p : Pl} {n e : Int} (hA : argE p n = 0) (h : proveO p n = .stop e) : proveE p n = e ∧ proveT p n = [] ∧ proveU p n = []:=by
 unfold proveE proveT proveU
 rw [if_pos hA,if_pos hA,if_pos hA,h]
 exact ⟨rfl,rfl,rfl⟩
theorem outcome {p : Pl} {n : Int} (h1 : 0 ≤ n) (h2 : n ≤ 1073741824) :
  (∃ (x : Lst) (j : Nat),checkP p = 0 ∧ x ∈ fulls (trP p) ∧ planF p n = ⟨x,j,0⟩ ∧ proveE p n = 300 ∧ proveT p n = []) ∨
  (checkP p = 0 ∧ argE p n = 0 ∧ fulls (trP p) = [] ∧ planF p n = ⟨[],0,320⟩ ∧ proveE p n = 0) ∨
  (∃ e : Int,e ≠ 0 ∧ e ≠ 320 ∧ planF p n = ⟨[],0,e⟩ ∧ proveE p n = e ∧ proveT p n = []):=by
 by_cases h0 : checkP p = 0
 ·have hA:=argE_of h0 h1 h2
  obtain ⟨q1,q2⟩:=prov_tr n.toNat h0
  obtain ⟨p1,p2⟩:=plan_tr h0 h1 h2
  cases hT : fulls (trP p) with
  | nil =>
   by_cases ht : (ticks (trP p) : Int) ≤ n
   ·obtain ⟨sp,us,t,ho⟩:=(q1 hT).1 (by omega)
    refine .inr (.inl ⟨h0,hA,rfl,(p1 hT).1 ht,?_⟩)
    have ho' : proveO p n = .go sp us t:=ho
    unfold proveE; rw [if_pos hA,ho']
   ·have ho : proveO p n = .stop 3:=(q1 hT).2 (by omega)
    obtain ⟨e1,e2,_⟩:=prove_stop hA ho
    exact .inr (.inr ⟨3,by decide,by decide,(p1 hT).2 (by omega),e1,e2⟩)
  | cons x r =>
   by_cases ht : (firstAtE (trP p) : Int) ≤ n
   ·have ho : proveO p n = .stop 300:=(q2 x r hT).1 (by omega)
    obtain ⟨e1,e2,_⟩:=prove_stop hA ho
    exact .inl ⟨x,_,h0,List.mem_cons_self ..,(p2 x r hT).1 ht,e1,e2⟩
   ·have ho : proveO p n = .stop 3:=(q2 x r hT).2 (by omega)
    obtain ⟨e1,e2,_⟩:=prove_stop hA ho
    exact .inr (.inr ⟨3,by decide,by decide,(p2 x r hT).2 (by omega),e1,e2⟩)
 ·have hA : argE p n = checkP p:=by unfold argE; rw [if_neg h0]
  have hA0 : ¬ argE p n = 0:=by rw [hA]; exact h0
  refine .inr (.inr ⟨checkP p,h0,by have:=checkP_vals p; omega,?_,?_,?_⟩)
  ·unfold planF; rw [if_neg hA0,hA]
  ·unfold proveE; rw [if_neg hA0,hA]
  ·unfold proveT; rw [if_neg hA0]
end Go.Proofs.YtndlggbljkhfbaaGreat
namespace Go.Proofs.YtndlggbljkhfbaaGreat
open Go.Tidy
theorem chk_none {p : Pl} {us : List Int} (h0 : checkP p = 0) (hus : IndP p.demands.length us) : ∀ (n : Nat) (l : Lst) (t : List Brc),PartP l p → fullC l p = false → chk p us n l t = true →
  fulls (trace (fun l=>fullC l p) (fun l m=>extL l p m) (fun l=>chs l p) (okD (keepP p us)) n l) = []
 | 0,l,t,hP,hf,h=>rfl
 | n + 1,l,t,hP,hf,h=>by
  have hch : chE l p = chs l p:=by unfold chE; rw [if_pos (dmE_of h0 hP)]
  unfold chk at h
  rw [Bool.and_eq_true] at h
  obtain ⟨hl,ha⟩:=h
  have hl:=of_decide_eq_true hl
  rw [hch] at hl ha
  have hpart:=chE_part h0 hP
  rw [hch] at hpart
  unfold trace
  rw [if_neg (by rw [hf]; decide)]
  have key : ∀ (ms : List Mt) (t : List Brc),(∀ m ∈ ms,PartP (extL l p m) p) → ms.length = t.length → ((ms.zip t).all fun q=>okBr (chk p us n) l p us q.1 q.2) = true →
    fulls (ms.flatMap fun m=>.tick :: if okD (keepP p us) (extL l p m) = true then trace (fun l=>fullC l p) (fun l m=>extL l p m) (fun l=>chs l p) (okD (keepP p us)) n (extL l p m) else []) = []:=by
   intro ms
   induction ms with
   | nil=>intro t _ _ _; rfl
   | cons m ms ih =>
    intro t hm hlt hall
    match t,hlt with
    | b :: t,hlt =>
     rw [List.zip_cons_cons,List.all_cons,Bool.and_eq_true] at hall
     have hPx:=hm m (by simp)
     rw [List.flatMap_cons,fulls_append,ih t (fun m h=>hm m (by simp [h])) (by simpa using hlt) hall.2,List.append_nil]
     show fulls (if _ then _ else _) = []
     split
     ·rename_i hok
      have hb:=hall.1
      simp only [okBr,Bool.and_eq_true] at hb
      obtain ⟨_,hb⟩:=hb
      split at hb
      ·rw [Bool.and_eq_true] at hb
       exact chk_none h0 hus n _ _ hPx (by simpa using hb.1) hb.2
      ·simp only [Bool.and_eq_true] at hb
       have hk:=keep_doom h0 hPx hus (of_decide_eq_true hb.1.1) hb.2
       have hok:=of_decide_eq_true hok
       omega
     ·rfl
  exact key _ _ hpart hl ha
theorem chk_fulls {p : Pl} {us : List Int} {t : List Brc} (h : chkE p us t = 0) : checkP p = 0 ∧ IndP p.demands.length us ∧ fulls (trP (keepP p us)) = [] ∧ fulls (trP p) = []:=by
 unfold chkE at h
 split at h
 ·rename_i h0
  split at h
  ·rename_i hus
   split at h
   ·rename_i hc
    have h1 : fulls (trP (keepP p us)) = []:=chk_none h0 hus (fuelN p) [] t (part_nil p) (full_nil p) hc
    refine ⟨h0,hus,h1,?_⟩
    have:=fulls_sub (tr_fewer (p:=p) (ds:=us.map (getD p)) (keepP_check h0 hus) fun d hd=>by
     obtain ⟨u,hu,rfl⟩:=List.mem_map.1 hd
     exact getD_mem (ind_range hus u hu))
    have h2 : fulls (trP ⟨p.clubs,p.double,us.map (getD p)⟩) = []:=h1
    rw [h2] at this
    exact List.sublist_nil.1 this
   ·cases h
  ·cases h
 ·contradiction
theorem last_step {p : Pl} {x : Lst} (h0 : checkP p = 0) (hP : PartP x p) (hx : x ≠ []) : ∃ (A : Lst) (m : Mt),PartP A p ∧ m ∈ chs A p ∧ extL A p m = x ∧ Beg A x ∧ A.flatten.length + 1 = x.flatten.length:=by
 obtain ⟨bf,w,rfl⟩ : ∃ bf w,x = bf ++ [w]:=⟨x.dropLast,x.getLast hx,(List.dropLast_concat_getLast hx).symm⟩
 obtain ⟨hn,hb,hw⟩:=PartP_snoc.1 hP
 have hw0 : w ≠ []:=fun e=>hw.1 (by rw [e]; rfl)
 obtain ⟨rd,m,rfl⟩ : ∃ rd m,w = rd ++ [m]:=⟨w.dropLast,w.getLast hw0,(List.dropLast_concat_getLast hw0).symm⟩
 have hwl : rd.length + 1 ≤ halfN p:=by have:=hw.2.1; rw [List.length_append] at this; exact this
 have hok : OkQ p bf.flatten rd m:=by
  have h:=hw.2.2.2.1 rd.length (by rw [List.length_append]; exact Nat.lt_succ_self _)
  rwa [List.take_left,List.getElem_append_right (Nat.le_refl _),show (([m] : List Mt)[rd.length - rd.length]'(by simp)) = m by simp] at h
 have hso:=sorted_of h0
 have hpr : m ∈ prs p.clubs:=by
  obtain ⟨h1,h2,h3,_⟩:=hok
  rcases Int.lt_or_gt_of_ne h1 with h | h
  ·exact (mem_prs hso h2 h3 h).1
  ·exact (mem_prs hso h3 h2 h).2
 have fin : ∀ A : Lst,Beg A (bf ++ [rd ++ [m]]) → (nxR A p).2.2 = true → extL A p m = bf ++ [rd ++ [m]] → A.flatten.length + 1 = (bf ++ [rd ++ [m]]).flatten.length →
   ∃ (A : Lst) (m' : Mt),PartP A p ∧ m' ∈ chs A p ∧ extL A p m' = bf ++ [rd ++ [m]] ∧ Beg A (bf ++ [rd ++ [m]]) ∧ A.flatten.length + 1 = (bf ++ [rd ++ [m]]).flatten.length:=fun A hA hnx he hl=>by
  have hPA:=beg_part hA h0 hP
  refine ⟨A,m,hPA,?_,he,hA,hl⟩
  rw [chs_eq h0 hPA]
  unfold rchs
  rw [if_pos hnx,List.mem_filter]
  refine ⟨hpr,decide_eq_true ?_⟩
  rw [ext_eq hnx,he]
  exact (PartP_iff _ _ (checkP_field h0)).1 hP
 by_cases hrd : rd = []
 ·subst hrd
  have hop : openR bf p = ([],true,decide (bf.length < roundsN p)):=by
   unfold openR
   split
   ·rename_i r hr
    rw [List.getLast?_eq_getElem?] at hr
    have hlt:=lt_of_get hr
    rw [List.getElem?_eq_getElem hlt] at hr
    have:=(hb _ hlt).2.2.1 trivial
    rw [Option.some.inj hr] at this
    rw [if_neg (by omega)]
   ·rfl
  refine fin bf ?_ ?_ ?_ ?_
  ·have:=beg_take bf.length (bf ++ [[] ++ [m]])
   rwa [List.take_left] at this
  ·unfold nxR; rw [hop]; simp only [Bool.true_eq_false,if_false]; rw [if_pos (by omega)]
  ·unfold extL; rw [hop]; rfl
  ·simp
 ·have hlt : rd.length < halfN p:=by omega
  have hop : openR (bf ++ [rd]) p = (rd,false,true):=by
   unfold openR
   rw [List.getLast?_append]
   simp only [List.getLast?_singleton,Option.some_or]
   rw [if_pos hlt]
  refine fin (bf ++ [rd]) ?_ ?_ ?_ ?_
  ·have:=beg_take1 bf.length (bf ++ [rd ++ [m]]) (by simp) rd.length (List.length_pos_iff.2 hrd)
   rwa [List.take_left,List.getElem_append_right (Nat.le_refl _),show (([rd ++ [m]] : Lst)[bf.length - bf.length]'(by simp)) = rd ++ [m] by simp,List.take_left] at this
  ·unfold nxR; rw [hop]; rfl
  ·unfold extL; rw [hop]; simp
  ·simp; omega
inductive Path (p : Pl) (ok : Lst → Bool) : Lst → Lst → Prop
 | refl (x : Lst) : Path p ok x x
 | step {l : Lst} {m : Mt} {x : Lst} (hm : m ∈ chs l p) (hok : ok (extL l p m) = true) (h : Path p ok (extL l p m) x) : Path p ok l x
theorem Path.snoc {p : Pl} {ok : Lst → Bool} {l A : Lst} {m : Mt} (h : Path p ok l A) (hm : m ∈ chs A p) (hok : ok (extL A p m) = true) : Path p ok l (extL A p m):=by
 induction h with
 | refl=>exact .step hm hok (.refl _)
 | step hm' hok' _ ih=>exact .step hm' hok' (ih hm hok)
theorem path_of {p : Pl} {ok : Lst → Bool} (h0 : checkP p = 0) (hm : ∀ A x,Beg A x → PartP x p → ok x = true → ok A = true) : ∀ (n : Nat) (x : Lst),x.flatten.length ≤ n → PartP x p → ok x = true → Path p ok [] x
 | 0,x,hn,hP,hok=>by
  by_cases hx : x = []
  ·subst hx; exact .refl _
  ·obtain ⟨A,m,h1,h2,h3,h4,h5⟩:=last_step h0 hP hx
   omega
 | n + 1,x,hn,hP,hok=>by
  by_cases hx : x = []
  ·subst hx; exact .refl _
  ·obtain ⟨A,m,h1,h2,rfl,h4,h5⟩:=last_step h0 hP hx
   exact (path_of h0 hm n A (by omega) h1 (hm _ _ h4 hP hok)).snoc h2 hok
theorem part_small0 {p : Pl} {x : Lst} (hs : Small [] p) (h0 : checkP p = 0) (hP : PartP x p) : Small x p:=by
 have hlen : p.clubs.length ≤ 1000:=by
  have hf:=checkP_field h0
  simp only [fieldOk,Bool.and_eq_true,decide_eq_true_eq] at hf; omega
 exact (part_small hs hlen hP ⟨0,0⟩).1
theorem okD_mono {p : Pl} (hs : Small [] p) (h0 : checkP p = 0) (A x : Lst) (hb : Beg A x) (hP : PartP x p) (h : okD p x = true) : okD p A = true:=by
 have hsx:=part_small0 hs h0 hP
 obtain ⟨_,_,hd⟩:=dmA_neg.1 (of_decide_eq_true h)
 refine w19 (dmA_neg.2 ⟨h0,beg_part hb h0 hP,fun d hdm=>?_⟩)
 have:=hd d hdm
 cases hc : doomsF (pR A p) d with
 | false=>rfl
 | true =>
  obtain ⟨a,ha,rfl⟩:=List.getElem_of_mem hdm
  obtain ⟨b,hb',e,hx⟩:=doomL_mem.1 (beg_dooms hb hsx h0 hP (doomL_mem.2 ⟨a,ha,rfl,hc⟩))
  have hab : a = b:=by omega
  subst hab
  rw [this] at hx; cases hx
theorem path_fulls {p : Pl} {ok : Lst → Bool} {x : Lst} (h0 : checkP p = 0) (hf : fullC x p = true) (hP0 : PartP x p) : ∀ (n : Nat) (l : Lst),PartP l p → roundsN p * halfN p < l.flatten.length + n → Path p ok l x → x ∈ fulls (trace (fun l=>fullC l p) (fun l m=>extL l p m) (fun l=>chs l p) ok n l)
 | 0,l,hP,hfu,h=>by have:=part_total hP; omega
 | n + 1,l,hP,hfu,h=>by
  unfold trace
  cases h with
  | refl=>rw [if_pos hf]; exact List.mem_cons_self ..
  | step hm hok h =>
   rename_i m
   have hnf : ¬ fullC l p = true:=fun hfl=>by
    have:=full_chs h0 hP (fullB_part h0 hP hfl)
    rw [this] at hm; cases hm
   rw [if_neg hnf]
   have hPx:=ch_mem h0 hP hm
   have ih:=path_fulls h0 hf hP0 n (extL l p m) hPx (by rw [extL_flat,List.length_append]; simp only [List.length_singleton]; omega) h
   have key : ∀ ms : List Mt,m ∈ ms → x ∈ fulls (ms.flatMap fun m=>.tick :: if ok (extL l p m) = true then trace (fun l=>fullC l p) (fun l m=>extL l p m) (fun l=>chs l p) ok n (extL l p m) else []):=by
    intro ms
    induction ms with
    | nil=>intro h; cases h
    | cons y ms ihm =>
     intro hy
     rw [List.flatMap_cons,fulls_append,List.mem_append]
     rcases List.mem_cons.1 hy with rfl | hy
     ·refine .inl ?_
      rw [if_pos hok]; exact ih
     ·exact .inr (ihm hy)
   exact key _ hm
theorem full_mem {p : Pl} {x : Lst} (hs : Small [] p) (h0 : checkP p = 0) (hF : FullP x p) (hd : brkL x p = []) : x ∈ fulls (trP p):=by
 have hfc : fullC x p = true:=by
  obtain ⟨h1,h2,h3⟩:=hF
  unfold fullC
  rw [decide_eq_true h2,Bool.true_and]
  cases hl : x.getLast? with
  | none =>
   rw [List.getLast?_eq_none_iff] at hl
   subst hl
   have hf:=checkP_field h0
   simp only [fieldOk,Bool.and_eq_true,decide_eq_true_eq] at hf
   have h2 : 0 = roundsN p:=h2
   unfold roundsN at h2; split at h2 <;> omega
  | some r =>
   have h4:=h3 r hl
   rw [List.getLast?_eq_getElem?] at hl
   have hlt:=lt_of_get hl
   rw [List.getElem?_eq_getElem hlt] at hl
   have:=h1.len hlt
   rw [Option.some.inj hl] at this
   exact decide_eq_true (by omega)
 have hok : okD p x = true:=by
  refine w19 (dmA_neg.2 ⟨h0,hF.1,fun d hdm=>?_⟩)
  cases hc : doomsF (pR x p) d with
  | false=>rfl
  | true =>
   obtain ⟨a,ha,rfl⟩:=List.getElem_of_mem hdm
   have : (a : Int) ∈ brkL x p:=by unfold brkL; rw [if_pos ⟨h0,hF⟩]; exact doomL_mem.2 ⟨a,ha,rfl,hc⟩
   rw [hd] at this; cases this
 exact path_fulls h0 hfc hF.1 (fuelN p) [] (part_nil p) (by unfold fuelN; simp) (path_of h0 (okD_mono hs h0) _ x (Nat.le_refl _) hF.1 hok)
end Go.Proofs.YtndlggbljkhfbaaGreat
namespace Go.Proofs.YtndlggbljkhfbaaGreat
open Go.Tidy
variable {L : List Blk} {k : V → List Blk → Prop}
def sW : Lst → Int → Int
 | [],n=>n
 | r :: l,n=>sW l (IntKind.i64.wrap (n + (r.length : Int)))
theorem sW_snoc (r : List Mt) : ∀ (l : Lst) (n : Int),sW (l ++ [r]) n = IntKind.i64.wrap (sW l n + (r.length : Int))
 | [],n=>rfl
 | x :: l,n=>by rw [List.cons_append,sW,sW_snoc r l]; rfl
def shortB (l : Lst) : Bool:=if l.length ≤ 50 then decide (sW l 0 ≤ 160) else false
theorem shortB_len {l : Lst} (h : shortB l = true) : l.length ≤ 50:=by
 unfold shortB at h; split at h
 ·assumption
 ·cases h
theorem short_c (l : Lst) (hl : l.length ≤ 140737488355328) (h : k (B (shortB l)) L) : CallP C 32 [lisV l] L k:=by
 refine CallP.pure ?_ rfl (fun _=>rfl) h
 clear h
 refine callP_of C_ok Tryz.func32 rfl rfl (n:=_) rfl (w18 rfl) (rs:=_) rfl ?_
 conv=>whnf
 refine LoopP.inv (fun i=>i ≤ l.length) (fun i=>⟨[(1,.ptr 0 0),(2,B false),(3,I (sW (l.take i) 0)),(4,I i)],Tryz.f32.ntmps,[.cells [.d (lisD l)]],[],none⟩) (fun i=>l.length - i) 0 (w22 _) ?_ ?_
 ·exact Weak.by ⟨rfl,rfl,rfl,rfl,trivial⟩
 intro i hi
 by_cases hi' : i < l.length
 ·have hlt : (i : Int) < ((l.map fun r=>[mts r]).length : Int):=by rw [List.length_map]; omega
  have hw : IntKind.i64.wrap ((i : Int) + 1) = ((i + 1 : Nat) : Int):=by rw [wrap_in (by omega)]; omega
  have hnx : IntKind.i64.wrap (sW (l.take i) 0 + ((l[i].map Mt.cells).length : Int)) = sW (l.take (i + 1)) 0:=by rw [List.length_map,take_next hi',sW_snoc]
  repeat' ((conv=>whnf); first|refine w8 (w19 hlt) ?_|refine w11 i rfl hi' ?_|refine w0 ?_|refine w1 ?_|refine w2 (fun h=>?_) (fun h=>?_)|refine w3 ?_|refine w4 (fun h=>?_) (fun h=>?_)|refine w5 _ rfl ?_|refine w6 rfl ?_|refine w7 mixed rfl ?_)
  conv=>whnf
  exact ⟨i + 1,hi',by omega,Weak.to 1 rfl (w22 _) (w18 rfl) ⟨rfl,rfl,congrArg I hnx,congrArg I hw,trivial⟩⟩
 ·have hlt : ¬ (i : Int) < ((l.map fun r=>[mts r]).length : Int):=by rw [List.length_map]; omega
  have hit : l.take i = l:=List.take_of_length_le (by omega)
  rw [hit]
  by_cases h5 : l.length ≤ 50
  ·have h5' : ((l.map fun r=>[mts r]).length : Int) ≤ 50:=by rw [List.length_map]; omega
   repeat' ((conv=>whnf); first|refine w9 (w20 hlt) ?_|refine w8 (w19 h5') ?_|refine w0 ?_|refine w1 ?_|refine w2 (fun h=>?_) (fun h=>?_)|refine w3 ?_|refine w4 (fun h=>?_) (fun h=>?_)|refine w5 _ rfl ?_|refine w6 rfl ?_|refine w7 mixed rfl ?_)
   conv=>whnf
   exact FinP.drop (n:=0) rfl (Nat.le_refl 0) rfl rfl ⟨rfl,by unfold shortB; rw [if_pos h5]; rfl⟩
  ·have h5' : ¬ ((l.map fun r=>[mts r]).length : Int) ≤ 50:=by rw [List.length_map]; omega
   repeat' ((conv=>whnf); first|refine w9 (w20 hlt) ?_|refine w9 (w20 h5') ?_|refine w0 ?_|refine w1 ?_|refine w2 (fun h=>?_) (fun h=>?_)|refine w3 ?_|refine w4 (fun h=>?_) (fun h=>?_)|refine w5 _ rfl ?_|refine w6 rfl ?_|refine w7 mixed rfl ?_)
   conv=>whnf
   exact FinP.drop (n:=0) rfl (Nat.le_refl 0) rfl rfl ⟨rfl,by unfold shortB; rw [if_neg h5]; rfl⟩
end Go.Proofs.YtndlggbljkhfbaaGreat
namespace Go.Proofs.YtndlggbljkhfbaaGreat
open Go.Tidy
theorem prs_length : ∀ cs : List Int,(prs cs).length = cs.length * (cs.length - 1)
 | []=>rfl
 | c :: cs=>by
  rw [prs,List.length_append,prIn_len,prs_length cs,List.length_cons,Nat.add_sub_cancel]
  cases h : cs.length with
  | zero=>rfl
  | succ n=>rw [Nat.add_sub_cancel]; simp only [Nat.add_mul,Nat.mul_add]; omega
theorem chs_sub {l : Lst} {p : Pl} (h0 : checkP p = 0) {m : Mt} (hm : m ∈ chs l p) : m ∈ prs p.clubs ∧ m ∉ takenOf l p:=by
 have hinc:=sorted_of h0
 unfold chs at hm
 split at hm
 ·rw [chOut_eq _ _ _ _ _ hinc] at hm
  obtain ⟨h1,h2⟩:=List.mem_filter.1 hm
  obtain ⟨_,_,h3,_⟩:=of_decide_eq_true h2
  exact ⟨h1,h3⟩
 ·cases hm
def cP (p : Pl) : Nat:=if p.double then 1 else 2
theorem taken_ok {p : Pl} (h0 : checkP p = 0) : ∀ (n : Nat) (x : Lst),x.flatten.length ≤ n → PartP x p → (takenOf x p).Nodup ∧ ∀ m ∈ takenOf x p,m ∈ prs p.clubs
 | 0,x,hn,hP=>by
  by_cases hx : x = []
  ·subst hx; exact ⟨.nil,fun m h=>by cases h⟩
  ·obtain ⟨A,m,h1,h2,h3,h4,h5⟩:=last_step h0 hP hx
   omega
 | n + 1,x,hn,hP=>by
  by_cases hx : x = []
  ·subst hx; exact ⟨.nil,fun m h=>by cases h⟩
  ·obtain ⟨A,m,h1,h2,rfl,h4,h5⟩:=last_step h0 hP hx
   obtain ⟨i1,i2⟩:=taken_ok h0 n A (by omega) h1
   obtain ⟨k1,k2⟩:=chs_sub h0 h2
   obtain ⟨a,b,ha,hb,hab,_,hm⟩:=prs_mem (sorted_of h0) k1
   obtain ⟨e1,e2⟩:=mem_prs (sorted_of h0) ha hb hab
   have hne : m ≠ m.swap:=by
    rcases hm with rfl | rfl <;> (intro h; have:=congrArg Mt.home h; simp only [Mt.swap] at this; omega)
   have hr : m.swap ∈ prs p.clubs:=by rcases hm with rfl | rfl <;> assumption
   have et : takenOf (extL A p m) p = takenOf A p ++ tkM p m:=by unfold takenOf; rw [extL_flat,List.flatMap_append]; simp
   obtain ⟨f1,f2⟩:=mem_taken.1 k2
   rw [et]
   have hin : ∀ y ∈ tkM p m,y ∈ prs p.clubs ∧ y ∉ takenOf A p:=by
    intro y hy
    unfold tkM at hy
    cases hd : p.double with
    | true =>
     rw [hd,if_pos rfl] at hy
     rw [List.mem_singleton.1 hy]; exact ⟨k1,k2⟩
    | false =>
     rw [hd,if_neg (by decide)] at hy
     have k3 : m.swap ∉ takenOf A p:=mem_taken.2 ⟨f2 hd,fun _=>f1⟩
     simp only [List.mem_cons,List.not_mem_nil,or_false] at hy
     rcases hy with rfl | rfl
     ·exact ⟨k1,k2⟩
     ·exact ⟨hr,k3⟩
   have hnd : (tkM p m).Nodup:=by
    unfold tkM
    split
    ·simp
    ·simp [hne]
   refine ⟨List.nodup_append.2 ⟨i1,hnd,fun y hy z hz e=>?_⟩,fun y hy=>?_⟩
   ·subst e; exact (hin _ hz).2 hy
   ·rcases List.mem_append.1 hy with h | h
    ·exact i2 y h
    ·exact (hin y h).1
theorem tk_len (p : Pl) (m : Mt) : (tkM p m).length = cP p:=by unfold tkM cP; split <;> rfl
theorem taken_ext (l : Lst) (p : Pl) (m : Mt) : (takenOf (extL l p m) p).length = (takenOf l p).length + cP p:=by
 unfold takenOf; rw [extL_flat,List.flatMap_append,List.length_append]; simp [tk_len]
theorem chs_few {l : Lst} {p : Pl} (h0 : checkP p = 0) (hP : PartP l p) : (chs l p).length + (takenOf l p).length ≤ p.clubs.length * (p.clubs.length - 1):=by
 obtain ⟨h1,h2⟩:=taken_ok h0 _ l (w21 _) hP
 rw [← prs_length,← List.length_append]
 refine List.Nodup.length_le_of_subset (List.nodup_append.2 ⟨chs_nodup h0 hP,h1,fun y hy z hz e=>?_⟩) fun y hy=>?_
 ·subst e; exact (chs_sub h0 hy).2 hz
 ·rcases List.mem_append.1 hy with h | h
  ·exact (chs_sub h0 h).1
  ·exact h2 y h
def tb (c : Nat) : Nat → Nat → Nat
 | 0,_=>0
 | n + 1,a=>a * (1 + tb c n (a - c))
theorem tb_fuel (c : Nat) : ∀ (n m a : Nat),n ≤ m → tb c n a ≤ tb c m a
 | 0,_,_,_=>w22 _
 | n + 1,0,_,h=>by omega
 | n + 1,m + 1,a,h=>Nat.mul_le_mul_left _ (Nat.add_le_add_left (tb_fuel c n m _ (by omega)) 1)
theorem ticks_append : ∀ a b : List Ev,ticks (a ++ b) = ticks a + ticks b
 | [],b=>by simp [ticks]
 | .tick :: a,b=>by rw [List.cons_append,ticks,ticks,ticks_append a b]; omega
 | .found _ :: a,b=>by rw [List.cons_append,ticks,ticks,ticks_append a b]
theorem trace_ticks {p : Pl} {ok : Lst → Bool} (h0 : checkP p = 0) : ∀ (n : Nat) (l : Lst) (a : Nat),PartP l p → p.clubs.length * (p.clubs.length - 1) ≤ a + (takenOf l p).length →
  ticks (trace (fun l=>fullC l p) (fun l m=>extL l p m) (fun l=>chs l p) ok n l) ≤ tb (cP p) n a
 | 0,l,a,_,_=>w21 _
 | n + 1,l,a,hP,ha=>by
  have hf:=chs_few h0 hP
  unfold trace
  split
  ·exact Nat.zero_le _
  ·have key : ∀ ms : List Mt,(∀ m ∈ ms,PartP (extL l p m) p) → ticks (ms.flatMap fun m=>.tick :: if ok (extL l p m) = true then trace (fun l=>fullC l p) (fun l m=>extL l p m) (fun l=>chs l p) ok n (extL l p m) else []) ≤ ms.length * (1 + tb (cP p) n (a - cP p)):=by
    intro ms
    induction ms with
    | nil=>intro _; exact Nat.zero_le _
    | cons m ms ih =>
     intro hm
     rw [List.flatMap_cons,ticks_append,List.length_cons,Nat.add_mul,Nat.one_mul]
     have h1:=ih fun m h=>hm m (by simp [h])
     have h2 : ticks (Ev.tick :: if ok (extL l p m) = true then trace (fun l=>fullC l p) (fun l m=>extL l p m) (fun l=>chs l p) ok n (extL l p m) else []) ≤ 1 + tb (cP p) n (a - cP p):=by
      rw [ticks]
      split
      ·have:=trace_ticks (ok:=ok) h0 n (extL l p m) (a - cP p) (hm m (by simp)) (by rw [taken_ext]; omega)
       omega
      ·simp [ticks]
     omega
   exact Nat.le_trans (key _ fun m hm=>ch_mem h0 hP hm) (Nat.mul_le_mul_right _ (by omega))
theorem few_ticks {p : Pl} (h0 : checkP p = 0) (hn : p.clubs.length ≤ 3 ∨ p.clubs.length = 4 ∧ p.double = false) : ticks (trP p) ≤ 75972:=by
 have hf:=checkP_field h0
 simp only [fieldOk,Bool.and_eq_true,decide_eq_true_eq] at hf
 have h:=trace_ticks (ok:=okD p) h0 (fuelN p) [] (p.clubs.length * (p.clubs.length - 1)) (part_nil p) (Nat.le_add_right _ _)
 have hfu : fuelN p ≤ 7:=by
  unfold fuelN roundsN halfN
  rcases hn with h | ⟨h,hd⟩
  ·have : p.clubs.length = 2 ∨ p.clubs.length = 3:=by omega
   rcases this with e | e <;> rw [e] <;> split <;> decide
  ·rw [h,hd]; decide
 refine w23 h (w23 (tb_fuel _ _ 7 _ hfu) ?_)
 unfold cP
 rcases hn with h | ⟨h,hd⟩
 ·have : p.clubs.length = 2 ∨ p.clubs.length = 3:=by omega
  rcases this with e | e <;> rw [e] <;> split <;> decide
 ·rw [h,hd]; decide
end Go.Proofs.YtndlggbljkhfbaaGreat
namespace Go.Proofs.YtndlggbljkhfbaaGreat
open Go.Tidy
variable {L : List Blk} {k : V → List Blk → Prop}
theorem del_A (x : List Int) (i : Nat) : ((((x.map fun n=>[DI n]).drop 0).take (i - 0)).map fun y=>y.map V.d) = iR (x.take i):=by
 unfold iR; rw [List.drop_zero,Nat.sub_zero,← List.map_take,List.map_map]; rfl
theorem del_B (x : List Int) (i : Nat) : ((((x.map fun n=>[DI n]).drop (i + 1)).take (x.length - (i + 1))).map fun y=>y.map V.d) = iR (x.drop (i + 1)):=by
 unfold iR; rw [List.take_of_length_le (by simp),← List.map_drop,List.map_map]; rfl
theorem del_len1 {x : List Int} {i : Nat} : ((((x.map fun n=>[DI n]).drop 0).take (i - 0)).map fun y=>y.map V.d).length = min i x.length:=by rw [del_A]; unfold iR; simp
theorem del_len2 (x : List Int) (i : Nat) (h : i < x.length) : ((((x.map fun n=>[DI n]).drop (i + 1)).take (x.length - (i + 1))).map fun y=>y.map V.d).length = x.length - (i + 1):=by rw [del_B]; unfold iR; simp
theorem del_rows (x : List Int) (i : Nat) (h : i < x.length) : ((((((x.map fun n=>[DI n]).drop 0).take (i - 0)).map fun y=>y.map V.d).length |> fun a=>(([] : List (List V)).take 0 ++ ((((x.map fun n=>[DI n]).drop 0).take (i - 0)).map fun y=>y.map V.d)).take (0 + a) ++ ((((x.map fun n=>[DI n]).drop (i + 1)).take (x.length - (i + 1))).map fun y=>y.map V.d)).drop 0).take (0 + ((((x.map fun n=>[DI n]).drop 0).take (i - 0)).map fun y=>y.map V.d).length + ((((x.map fun n=>[DI n]).drop (i + 1)).take (x.length - (i + 1))).map fun y=>y.map V.d).length) = iR (delAt x i):=by
 simp only
 rw [del_A,del_B]
 have e : iR (x.take i) ++ iR (x.drop (i + 1)) = iR (delAt x i):=by unfold iR delAt; rw [List.map_append]
 rw [List.take_nil,List.nil_append,List.drop_zero,List.take_of_length_le (by omega : (iR (x.take i)).length ≤ 0 + (iR (x.take i)).length),e]
 exact List.take_of_length_le (by rw [← e,List.length_append]; omega)
end Go.Proofs.YtndlggbljkhfbaaGreat
namespace Go.Proofs.YtndlggbljkhfbaaGreat
open Go.Tidy
theorem ind_of {n : Nat} {w : List Int} (hr : ∀ u ∈ w,0 ≤ u ∧ u < (n : Int)) (hp : w.Pairwise (· < ·)) : IndP n w:=fun i hi =>
 ⟨hr _ (List.getElem_mem hi),fun h=>List.pairwise_iff_getElem.1 hp (i - 1) i (by omega) hi (by omega)⟩
theorem delAt_sub (x : List Int) (i : Nat) : (delAt x i).Sublist x:=by
 unfold delAt
 conv=>rhs; rw [← List.take_append_drop i x]
 refine List.Sublist.append (List.Sublist.refl _) ?_
 rw [← List.drop_drop (i:=1)]
 exact List.drop_sublist _ _
theorem ind_del {n : Nat} {w : List Int} (h : IndP n w) (i : Nat) : IndP n (delAt w i) :=
 ind_of (fun u hu=>ind_range h u ((delAt_sub w i).subset hu)) ((ind_pair h).sublist (delAt_sub w i))
theorem delAt_eq (x : List Int) (i : Nat) : delAt x i = x.eraseIdx i:=by unfold delAt; rw [List.eraseIdx_eq_take_drop_succ]
theorem del_del (x : List Int) {i j : Nat} (h : i ≤ j) : delAt (delAt x i) j = delAt (delAt x (j + 1)) i:=by
 apply List.ext_getElem?
 intro k
 simp only [delAt_eq,List.getElem?_eraseIdx]
 by_cases h1 : k < i
 ·have h2 : k < j:=by omega
  have h3 : k < j + 1:=by omega
  simp [h1,h2,h3]
 ·by_cases h2 : k < j
  ·have h3 : k + 1 < j + 1:=by omega
   simp [h1,h2,h3]
  ·have h3 : ¬ k + 1 < i:=by omega
   have h4 : ¬ k + 1 < j + 1:=by omega
   simp [h1,h2,h3,h4]
theorem keep_all (p : Pl) : keepP p (allN p.demands.length) = p:=by
 unfold keepP allN
 rw [List.map_map]
 have : (List.range p.demands.length).map (getD p ∘ fun (i : Nat)=>(i : Int)) = p.demands:=by
  apply List.ext_getElem (by simp)
  intro i h1 h2
  simp [getD,h2]
 rw [this]
theorem ind_all (n : Nat) : IndP n (allN n):=ind_of (fun u hu=>by
 unfold allN at hu
 obtain ⟨i,hi,rfl⟩:=List.mem_map.1 hu
 have:=List.mem_range.1 hi
 omega) (allN_pair n)
theorem fulls_more {p : Pl} {w v : List Int} (h0 : checkP p = 0) (hw : IndP p.demands.length w) (hv : IndP p.demands.length v) (hs : ∀ u ∈ v,u ∈ w) (h : fulls (trP (keepP p w)) ≠ []) : fulls (trP (keepP p v)) ≠ []:=fun hn=>by
 have h1:=fulls_sub (tr_fewer (p:=keepP p w) (ds:=v.map (getD p)) (keepP_check h0 hv) fun d hd=>by
  obtain ⟨u,hu,rfl⟩:=List.mem_map.1 hd
  exact List.mem_map.2 ⟨u,hs u hu,rfl⟩)
 have h2 : fulls (trP ⟨(keepP p w).clubs,(keepP p w).double,v.map (getD p)⟩) = []:=hn
 rw [h2] at h1
 exact h (List.sublist_nil.1 h1)
theorem plan_none {p : Pl} {n : Int} (h : (planF p n).e = 320) : checkP p = 0 ∧ 0 ≤ n ∧ n ≤ 1073741824:=by
 by_cases hA : argE p n = 0
 ·exact argE_zero hA
 ·exfalso
  unfold planF at h
  rw [if_neg hA] at h
  have h : argE p n = 320:=h
  unfold argE at h
  split at h
  ·split at h <;> omega
  ·have:=checkP_vals p; omega
theorem plan_some {p : Pl} {n : Int} (h0 : checkP p = 0) (h1 : 0 ≤ n) (h2 : n ≤ 1073741824) (h : (planF p n).e = 0) : fulls (trP p) ≠ []:=fun hn=>by
 obtain ⟨p1,p2⟩:=plan_tr h0 h1 h2
 by_cases ht : (ticks (trP p) : Int) ≤ n
 ·rw [(p1 hn).1 ht] at h; cases h
 ·rw [(p1 hn).2 (by omega)] at h; cases h
theorem leastGo_ok {p : Pl} {n : Int} (h0 : checkP p = 0) (h1 : 0 ≤ n) (h2 : n ≤ 1073741824) : ∀ (i : Nat) (x : List Int),i ≤ x.length → IndP p.demands.length x → (planF (keepP p x) n).e = 320 → (∀ j,i ≤ j → j < x.length → fulls (trP (keepP p (delAt x j))) ≠ []) →
  ∀ (y : List Int) (e : Int),leastGo p n i x = (y,e) → (e ≠ 0 → y = []) ∧ (e = 0 → IndP p.demands.length y ∧ (planF (keepP p y) n).e = 320 ∧ ∀ j,j < y.length → fulls (trP (keepP p (delAt y j))) ≠ [])
 | 0,x,hi,hx,hpl,hm,y,e,h=>by
  cases h
  exact ⟨fun h=>absurd rfl h,fun _=>⟨hx,hpl,fun j hj=>hm j (w22 _) hj⟩⟩
 | i + 1,x,hi,hx,hpl,hm,y,e,h=>by
  have hd:=ind_del hx i
  obtain ⟨_,kx⟩:=keep_ok h0 hd
  simp only [leastGo] at h
  rw [kx] at h
  split at h
  ·rename_i he
   refine leastGo_ok h0 h1 h2 i x (by omega) hx hpl (fun j hj hjl=>?_) y e h
   by_cases e2 : i = j
   ·subst e2; exact plan_some (keepP_check h0 hd) h1 h2 he
   ·exact hm j (by omega) hjl
  ·split at h
   ·rename_i he
    have hl:=delAt_len (x:=x) (i:=i) (by omega)
    refine leastGo_ok h0 h1 h2 i (delAt x i) (by omega) hd he (fun j hj hjl=>?_) y e h
    rw [del_del x hj]
    exact fulls_more h0 (ind_del hx (j + 1)) (ind_del (ind_del hx (j + 1)) i) (fun u hu=>(delAt_sub _ _).subset hu) (hm (j + 1) (by omega) (by omega))
   ·rename_i hne _
    cases h
    exact ⟨fun _=>rfl,fun h=>absurd h hne⟩
theorem least_ok {p : Pl} {n : Int} {y : List Int} {e : Int} (h : leastF p n = (y,e)) : (e ≠ 0 → y = []) ∧ (e = 0 → checkP p = 0 ∧ 0 ≤ n ∧ n ≤ 1073741824 ∧ IndP p.demands.length y ∧ (planF (keepP p y) n).e = 320 ∧ ∀ j,j < y.length → fulls (trP (keepP p (delAt y j))) ≠ []):=by
 unfold leastF at h
 split at h
 ·cases h; exact ⟨fun _=>rfl,fun h=>by cases h⟩
 ·split at h
  ·rename_i hn
   obtain ⟨h0,h1,h2⟩:=plan_none hn
   have hk : (planF (keepP p (allN p.demands.length)) n).e = 320:=by rw [keep_all]; exact hn
   obtain ⟨a,b⟩:=leastGo_ok h0 h1 h2 p.demands.length (allN p.demands.length) (by rw [allN_len]; exact Nat.le_refl _) (ind_all _) hk (fun j hj hjl=>by rw [allN_len] at hjl; omega) y e h
   exact ⟨a,fun he=>⟨h0,h1,h2,b he⟩⟩
  ·rename_i hne _
   cases h; exact ⟨fun _=>rfl,fun h=>absurd h hne⟩
theorem plan_found {p : Pl} {n : Int} (h0 : checkP p = 0) (h1 : 75972 ≤ n) (h2 : n ≤ 1073741824) (hn : p.clubs.length ≤ 3 ∨ p.clubs.length = 4 ∧ p.double = false) (h : fulls (trP p) ≠ []) : (planF p n).e = 0:=by
 obtain ⟨p1,p2⟩:=plan_tr h0 (by omega) h2
 cases hf : fulls (trP p) with
 | nil=>exact absurd hf h
 | cons x r =>
  have:=few_ticks h0 hn
  have:=first_le (trP p)
  rw [(p2 x r hf).1 (by omega)]
end Go.Proofs.YtndlggbljkhfbaaGreat
namespace Go.Proofs.YtndlggbljkhfbaaGreat
open Go.Tidy
theorem more_getD {p : Pl} {ds : List Dm} {u : Int} (h : 0 ≤ u ∧ u < (p.demands.length : Int)) : getD ⟨p.clubs,p.double,p.demands ++ ds⟩ u = getD p u:=by
 unfold getD
 rw [List.getElem?_append_left (show u.toNat < p.demands.length by omega)]
theorem more_dmB {p : Pl} {ds : List Dm} {u : Int} (x : Lst) (h0 : checkP p = 0) (hq : checkP ⟨p.clubs,p.double,p.demands ++ ds⟩ = 0) (h : 0 ≤ u ∧ u < (p.demands.length : Int)) : dmB x ⟨p.clubs,p.double,p.demands ++ ds⟩ u = dmB x p u:=by
 have h2 : 0 ≤ u ∧ u < ((p.demands ++ ds).length : Int):=by rw [List.length_append]; omega
 unfold dmB
 rw [(keep_ok h0 (ind_one h)).2,(keep_ok hq (ind_one h2)).2]
 unfold keepP
 simp only [List.map_cons,List.map_nil]
 rw [more_getD h]
theorem more_chE {p : Pl} {ds : List Dm} (l : Lst) (h0 : checkP p = 0) (hq : checkP ⟨p.clubs,p.double,p.demands ++ ds⟩ = 0) : chE l ⟨p.clubs,p.double,p.demands ++ ds⟩ = chE l p:=by
 unfold chE dmE
 rw [if_pos h0,if_pos hq]; rfl
theorem more_chk {p : Pl} {ds : List Dm} {us : List Int} (h0 : checkP p = 0) (hq : checkP ⟨p.clubs,p.double,p.demands ++ ds⟩ = 0) (hu : ∀ u ∈ us,0 ≤ u ∧ u < (p.demands.length : Int)) : ∀ (n : Nat) (l : Lst) (t : List Brc),chk p us n l t = true → chk ⟨p.clubs,p.double,p.demands ++ ds⟩ us n l t = true
 | 0,l,t,h=>by cases h
 | n + 1,l,t,h=>by
  unfold chk at h ⊢
  rw [more_chE l h0 hq]
  rw [Bool.and_eq_true] at h ⊢
  refine ⟨h.1,List.all_eq_true.2 fun q hm=>?_⟩
  have hb:=List.all_eq_true.1 h.2 q hm
  unfold okBr at hb ⊢
  rw [Bool.and_eq_true] at hb ⊢
  refine ⟨hb.1,?_⟩
  have hb:=hb.2
  split at hb
  ·rename_i e
   rw [if_pos e]
   rw [Bool.and_eq_true] at hb ⊢
   exact ⟨hb.1,more_chk h0 hq hu n _ _ hb.2⟩
  ·rename_i e
   rw [if_neg e]
   simp only [Bool.and_eq_true] at hb ⊢
   refine ⟨hb.1,?_⟩
   have hm:=of_decide_eq_true hb.1.1
   exact (more_dmB _ h0 hq (hu _ hm)).trans hb.2
theorem more_ind {n m : Nat} {us : List Int} (h : IndP n us) (hnm : n ≤ m) : IndP m us:=ind_of (fun u hu=>by have:=ind_range h u hu; omega) (ind_pair h)
mutual
def Brc.nms : Brc → List Int
 | .mk _ _ b t=>b :: nmsT t
def nmsT : List Brc → List Int
 | []=>[]
 | x :: t=>x.nms ++ nmsT t
end
theorem nmsT_append : ∀ a b : List Brc,nmsT (a ++ b) = nmsT a ++ nmsT b
 | [],b=>rfl
 | x :: a,b=>by rw [List.cons_append,nmsT,nmsT,nmsT_append a b,List.append_assoc]
theorem nmsT_mem {u : Int} : ∀ {t : List Brc},u ∈ nmsT t → ∃ b ∈ t,u ∈ b.nms
 | x :: t,h=>by
  rw [nmsT,List.mem_append] at h
  rcases h with h | h
  ·exact ⟨x,by simp,h⟩
  ·obtain ⟨b,hb,hu⟩:=nmsT_mem h
   exact ⟨b,by simp [hb],hu⟩
theorem chk_nms {p : Pl} {us : List Int} {u : Int} : ∀ (n : Nat) (l : Lst) (t : List Brc),chk p us n l t = true → u ∈ nmsT t → u = -1 ∨ u ∈ us
 | 0,l,t,h,_=>by cases h
 | n + 1,l,t,h,hu=>by
  obtain ⟨b,hb,hub⟩:=nmsT_mem hu
  unfold chk at h
  rw [Bool.and_eq_true] at h
  have hl:=of_decide_eq_true h.1
  obtain ⟨i,hi,hib⟩:=List.getElem_of_mem hb
  have hm : ((chE l p)[i]'(by omega),b) ∈ (chE l p).zip t:=List.mem_of_getElem? (i:=i) (by
   rw [List.getElem?_zip_eq_some]
   exact ⟨List.getElem?_eq_getElem _,by rw [List.getElem?_eq_getElem hi,hib]⟩)
  have ho:=List.all_eq_true.1 h.2 _ hm
  unfold okBr at ho
  rw [Bool.and_eq_true] at ho
  have ho:=ho.2
  cases b with
  | mk m r d t' =>
   rw [Brc.nms,List.mem_cons] at hub
   split at ho
   ·rename_i e
    rcases hub with rfl | hub
    ·exact .inl e
    ·rw [Bool.and_eq_true] at ho
     exact chk_nms n _ _ ho.2 hub
   ·simp only [Bool.and_eq_true] at ho
    rcases hub with rfl | hub
    ·exact .inr (of_decide_eq_true ho.1.1)
    ·have ht : t' = []:=List.isEmpty_iff.1 ho.1.2
     rw [ht] at hub; cases hub
mutual
theorem brs_nms (p : Pl) (bud : Nat) : ∀ (n : Nat) (l : Lst) (sp : Nat) (us : List Int) (sp' : Nat) (us' : List Int) (t : List Brc),brs p bud n l sp us = .go sp' us' t → ∀ u ∈ us',u ∈ us ∨ u ∈ nmsT t
 | 0,l,sp,us,sp',us',t,h=>by cases h; exact fun u hu=>.inl hu
 | n + 1,l,sp,us,sp',us',t,h=>fun u hu=>by
  rcases brLoop_nms p bud n l (chE l p) sp us [] sp' us' t h u hu with h | h
  ·exact .inl h
  ·exact .inr h
theorem brLoop_nms (p : Pl) (bud : Nat) (n : Nat) (l : Lst) : ∀ (ms : List Mt) (sp : Nat) (us : List Int) (t : List Brc) (sp' : Nat) (us' : List Int) (t' : List Brc),brLoop (brs p bud n) l p bud ms sp us t = .go sp' us' t' → ∀ u ∈ us',u ∈ us ∨ u ∈ nmsT t'
 | [],sp,us,t,sp',us',t',h=>by cases h; exact fun u hu=>.inl hu
 | m :: ms,sp,us,t,sp',us',t',h=>fun u hu=>by
  simp only [brLoop] at h
  split at h
  ·cases h
  ·split at h
   ·have hsub:=brLoop_grow p bud n l ms _ _ _ _ _ _ h
    rcases brLoop_nms p bud n l ms _ _ _ _ _ _ h u hu with h1 | h1
    ·split at h1
     ·exact .inl h1
     ·rcases List.mem_append.1 h1 with h1 | h1
      ·exact .inl h1
      ·obtain ⟨r,rfl⟩:=hsub
       rw [List.mem_singleton.1 h1]
       refine .inr ?_
       rw [nmsT_append,nmsT_append]
       simp [nmsT,Brc.nms]
    ·exact .inr h1
   ·split at h
    ·cases h
    ·split at h
     ·rename_i sp2 us2 t2 h2
      obtain ⟨r,rfl⟩:=brLoop_grow p bud n l ms _ _ _ _ _ _ h
      rcases brLoop_nms p bud n l ms _ _ _ _ _ _ h u hu with h1 | h1
      ·rcases brs_nms p bud n _ _ _ _ _ _ h2 u h1 with h3 | h3
       ·exact .inl h3
       ·refine .inr ?_
        rw [nmsT_append,nmsT_append]
        simp [nmsT,Brc.nms,h3]
      ·exact .inr h1
     ·cases h
theorem brLoop_grow (p : Pl) (bud : Nat) (n : Nat) (l : Lst) : ∀ (ms : List Mt) (sp : Nat) (us : List Int) (t : List Brc) (sp' : Nat) (us' : List Int) (t' : List Brc),brLoop (brs p bud n) l p bud ms sp us t = .go sp' us' t' → ∃ r,t' = t ++ r
 | [],sp,us,t,sp',us',t',h=>by cases h; exact ⟨[],by simp⟩
 | m :: ms,sp,us,t,sp',us',t',h=>by
  simp only [brLoop] at h
  split at h
  ·cases h
  ·split at h
   ·obtain ⟨r,rfl⟩:=brLoop_grow p bud n l ms _ _ _ _ _ _ h
    exact ⟨_ :: r,by rw [List.append_assoc]; rfl⟩
   ·split at h
    ·cases h
    ·split at h
     ·obtain ⟨r,rfl⟩:=brLoop_grow p bud n l ms _ _ _ _ _ _ h
      exact ⟨_ :: r,by rw [List.append_assoc]; rfl⟩
     ·cases h
end
end Go.Proofs.YtndlggbljkhfbaaGreat
namespace Go.Proofs.YtndlggbljkhfbaaGreat
open Go.Tidy
theorem full_RQ {l : Lst} {p : Pl} (hl : l.length = roundsN p) (h : ∀ (i : Nat) (hi : i < l.length),RQ p l[i] (l.take i).flatten True) : FullP l p:=by
 refine ⟨⟨Nat.le_of_eq hl,fun i hi=>(RoundP_Q hi).2 ?_⟩,hl,fun r hr=>?_⟩
 ·obtain ⟨a,b,c,d,e⟩:=h i hi
  exact ⟨a,b,fun _=>c trivial,d,e⟩
 ·rw [List.getLast?_eq_getElem?] at hr
  have hlt:=lt_of_get hr
  rw [List.getElem?_eq_getElem hlt] at hr
  rw [← Option.some.inj hr]
  exact (h _ hlt).2.2.1 trivial
theorem some_full {p : Pl} (h0 : checkP p = 0) (hn : p.clubs.length ≤ 3 ∨ p.clubs.length = 4 ∧ p.double = false) : ∃ x,FullP x p:=by
 have hf:=checkP_field h0
 have hso:=sorted_of h0
 simp only [fieldOk,Bool.and_eq_true,decide_eq_true_eq] at hf
 have hlen : p.clubs.length = 2 ∨ p.clubs.length = 3 ∨ p.clubs.length = 4 ∧ p.double = false:=by
  rcases hn with h | h
  ·have : p.clubs.length = 2 ∨ p.clubs.length = 3:=by omega
   rcases this with e | e
   ·exact .inl e
   ·exact .inr (.inl e)
  ·exact .inr (.inr h)
 obtain ⟨cl,db,ds⟩:=p
 simp only at hlen hso hn
 clear hf h0 hn
 rcases hlen with h | h | ⟨h,rfl⟩
 ·match cl,h with
  | [a,b],_ =>
   have hab : a < b:=by simpa using hso
   have row : ∀ (db : Bool) (m : Mt) (met : List Mt),(m = ⟨a,b⟩ ∨ m = ⟨b,a⟩) → m ∉ met → (db = false → m.swap ∉ met) → RQ ⟨[a,b],db,ds⟩ [m] met True:=fun db m met hm h1 h2=>by
    refine ⟨by simp,by simp [halfN],by simp [halfN],fun k hk=>?_,?_⟩
    ·match k,hk with
     | 0,_=>rcases hm with rfl | rfl <;> simp [OkQ,busyL] <;> exact ⟨by omega,h1,h2⟩
    ·rcases hm with rfl | rfl <;> simp [leftGo,lastM,firstM,busyL] <;> omega
   cases db with
   | false=>exact ⟨[[⟨a,b⟩]],full_RQ (by simp [roundsN]) fun i hi=>match i,hi with
     | 0,_=>row _ _ _ (.inl rfl) (by simp) (by simp)⟩
   | true=>exact ⟨[[⟨a,b⟩],[⟨b,a⟩]],full_RQ (by simp [roundsN]) fun i hi=>match i,hi with
     | 0,_=>row _ _ _ (.inl rfl) (by simp) (by simp)
     | 1,_=>row _ _ _ (.inr rfl) (by simp; omega) (by simp)⟩
 ·match cl,h with
  | [a,b,c],_ =>
   have hab : a < b ∧ a < c ∧ b < c:=by simp at hso; omega
   have row : ∀ (db : Bool) (m : Mt) (met : List Mt),(m = ⟨a,b⟩ ∨ m = ⟨b,a⟩ ∨ m = ⟨a,c⟩ ∨ m = ⟨c,a⟩ ∨ m = ⟨b,c⟩ ∨ m = ⟨c,b⟩) → m ∉ met → (db = false → m.swap ∉ met) → RQ ⟨[a,b,c],db,ds⟩ [m] met True:=fun db m met hm h1 h2=>by
    refine ⟨by simp,by simp [halfN],by simp [halfN],fun k hk=>?_,?_⟩
    ·match k,hk with
     | 0,_=>rcases hm with rfl | rfl | rfl | rfl | rfl | rfl <;> simp [OkQ,busyL] <;> exact ⟨by omega,h1,h2⟩
    ·rcases hm with rfl | rfl | rfl | rfl | rfl | rfl <;> simp [leftGo,lastM,firstM,busyL] <;> omega
   cases db with
   | false=>exact ⟨[[⟨a,b⟩],[⟨a,c⟩],[⟨b,c⟩]],full_RQ (by simp [roundsN]) fun i hi=>match i,hi with
     | 0,_=>row _ _ _ (by simp) (by simp) (by simp)
     | 1,_=>row _ _ _ (by simp) (by simp; omega) (by simp [Mt.swap]; omega)
     | 2,_=>row _ _ _ (by simp) (by simp; omega) (by simp [Mt.swap]; omega)⟩
   | true=>exact ⟨[[⟨a,b⟩],[⟨b,a⟩],[⟨a,c⟩],[⟨c,a⟩],[⟨b,c⟩],[⟨c,b⟩]],full_RQ (by simp [roundsN]) fun i hi=>match i,hi with
     | 0,_=>row _ _ _ (by simp) (by simp) (by simp)
     | 1,_=>row _ _ _ (by simp) (by simp; omega) (by simp)
     | 2,_=>row _ _ _ (by simp) (by simp; omega) (by simp)
     | 3,_=>row _ _ _ (by simp) (by simp; omega) (by simp)
     | 4,_=>row _ _ _ (by simp) (by simp; omega) (by simp)
     | 5,_=>row _ _ _ (by simp) (by simp; omega) (by simp)⟩
 ·match cl,h with
  | [a,b,c,d],_ =>
   have hab : a < b ∧ a < c ∧ a < d ∧ b < c ∧ b < d ∧ c < d:=by simp at hso; omega
   have row : ∀ (x y z w : Int) (met : List Mt),(x < y ∧ x < z ∧ z < w) → (x ∈ [a,b,c,d] ∧ y ∈ [a,b,c,d] ∧ z ∈ [a,b,c,d] ∧ w ∈ [a,b,c,d]) → y ≠ z → y ≠ w → ((⟨x,y⟩ : Mt) ∉ met ∧ (⟨y,x⟩ : Mt) ∉ met ∧ (⟨z,w⟩ : Mt) ∉ met ∧ (⟨w,z⟩ : Mt) ∉ met) → leftGo 0 z [x,y,z,w] [a,b,c,d] 0 = true → RQ ⟨[a,b,c,d],false,ds⟩ [⟨x,y⟩,⟨z,w⟩] met True:=fun x y z w met ho hc h1 h2 h3 h4=>by
    refine ⟨by simp,by simp [halfN],by simp [halfN],fun k hk=>?_,?_⟩
    ·match k,hk with
     | 0,_=>exact ⟨by simp; omega,hc.1,hc.2.1,by simp [busyL],by simp [busyL],by simpa using h3.1,fun _=>by simpa using h3.2.1,by simp⟩
     | 1,_ =>
      refine ⟨by simp; omega,hc.2.2.1,hc.2.2.2,by simp [busyL]; omega,by simp [busyL]; omega,?_,fun _=>?_,?_⟩
      ·simp; exact ⟨h3.2.2.1,by omega⟩
      ·simp; exact ⟨h3.2.2.2,by omega⟩
      ·intro m hm; simp at hm; subst hm; simp [firstM]; split <;> split <;> omega
    ·have e : lastM [⟨x,y⟩,⟨z,w⟩] = z:=by simp [lastM,firstM]; omega
     rw [e]; simpa [busyL] using h4
   exact ⟨[[⟨a,b⟩,⟨c,d⟩],[⟨a,c⟩,⟨b,d⟩],[⟨a,d⟩,⟨b,c⟩]],full_RQ (by simp [roundsN]) fun i hi=>match i,hi with
     | 0,_=>row _ _ _ _ _ (by omega) (by simp) (by omega) (by omega) (by simp) (by simp [leftGo] <;> omega)
     | 1,_=>row _ _ _ _ _ (by omega) (by simp) (by omega) (by omega) (by simp <;> omega) (by simp [leftGo] <;> omega)
     | 2,_=>row _ _ _ _ _ (by omega) (by simp) (by omega) (by omega) (by simp <;> omega) (by simp [leftGo] <;> omega)⟩
theorem keep_nil {p : Pl} (hs : Small [] p) (h0 : checkP p = 0) (hn : p.clubs.length ≤ 3 ∨ p.clubs.length = 4 ∧ p.double = false) : fulls (trP (keepP p [])) ≠ []:=fun h=>by
 have hi : IndP p.demands.length []:=fun i hi=>absurd hi (Nat.not_lt_zero i)
 have h1:=keepP_check h0 hi
 obtain ⟨x,hx⟩:=some_full h0 hn
 have hsk : Small [] (keepP p []):=by have:=small_keep hs (w:=[]) (by simp); rwa [(keep_ok h0 hi).2] at this
 have hb : brkL x (keepP p []) = []:=by
  unfold brkL
  split
  ·rfl
  ·rfl
 have:=full_mem hsk h1 hx hb
 rw [h] at this; cases this
theorem chk_need {p : Pl} {t : List Brc} (hs : Small [] p) (h0 : checkP p = 0) (hn : p.clubs.length ≤ 3 ∨ p.clubs.length = 4 ∧ p.double = false) : chk p [] (fuelN p) [] t = false:=by
 cases h : chk p [] (fuelN p) [] t with
 | false=>rfl
 | true =>
  have hi : IndP p.demands.length []:=fun i hi=>absurd hi (Nat.not_lt_zero i)
  exact absurd (chk_none h0 hi (fuelN p) [] t (part_nil p) (full_nil p) h) (keep_nil hs h0 hn)
theorem prove_some {p : Pl} {bud : Int} (hs : Small [] p) (hn : p.clubs.length ≤ 3 ∨ p.clubs.length = 4 ∧ p.double = false) (hA : argE p bud = 0) (he : proveE p bud = 0) : proveU p bud ≠ [] ∧ proveT p bud ≠ []:=by
 have h0:=(argE_zero hA).1
 obtain ⟨h1,h2⟩:=prove_chk hA he
 have key : ∀ us : List Int,chk p us (fuelN p) [] [] = true → chk p [] (fuelN p) [] [] = true:=fun us h=>by
  unfold fuelN chk at h ⊢
  rw [Bool.and_eq_true] at h ⊢
  refine ⟨h.1,?_⟩
  simp
 refine ⟨fun e=>?_,fun e=>?_⟩
 ·rw [e,chk_need hs h0 hn] at h2; cases h2
 ·rw [e] at h2
  have:=key _ h2
  rw [chk_need hs h0 hn] at this; cases this
theorem prove_named {p : Pl} {bud : Int} (hA : argE p bud = 0) (he : proveE p bud = 0) : ∀ u ∈ proveU p bud,u ∈ nmsT (proveT p bud):=by
 intro u hu
 unfold proveE at he
 unfold proveU at hu
 unfold proveT
 rw [if_pos hA] at he hu ⊢
 cases ho : proveO p bud with
 | stop e=>rw [ho] at hu; cases hu
 | go sp us t =>
  rw [ho] at hu
  have hu : u ∈ sortI us:=hu
  unfold sortI at hu
  rcases brs_nms p _ _ _ _ _ _ _ _ ho u (List.mem_mergeSort.1 hu) with h | h
  ·cases h
  ·exact h
theorem prove_fewer {p : Pl} {bud : Int} (hA : argE p bud = 0) (he : proveE p bud = 0) {j : Nat} (hj : j < (proveU p bud).length) : chkE p (delAt (proveU p bud) j) (proveT p bud) = 330:=by
 obtain ⟨h1,h2⟩:=prove_chk hA he
 have hn:=prove_named hA he
 have h0:=(argE_zero hA).1
 generalize proveU p bud = us at *
 generalize proveT p bud = t at *
 unfold chkE
 rw [if_pos h0,if_pos (ind_del h1 j),if_neg]
 intro h
 rcases chk_nms _ _ _ h (hn us[j] (List.getElem_mem hj)) with h3 | h3
 ·have:=ind_range h1 us[j] (List.getElem_mem hj); omega
 ·rw [delAt,List.mem_append] at h3
  have hp:=ind_pair h1
  rcases h3 with h3 | h3
  ·obtain ⟨i,hi,e⟩:=List.getElem_of_mem h3
   rw [List.length_take] at hi
   rw [List.getElem_take] at e
   have:=List.pairwise_iff_getElem.1 hp i j (by omega) hj (by omega)
   omega
  ·obtain ⟨i,hi,e⟩:=List.getElem_of_mem h3
   rw [List.length_drop] at hi
   rw [List.getElem_drop] at e
   have:=List.pairwise_iff_getElem.1 hp j (j + 1 + i) hj (by omega) (by omega)
   omega
theorem prove_less {p : Pl} {bud : Int} (hA : argE p bud = 0) (he : proveE p bud = 0) {t : List Brc} (ht : t.length ≠ (proveT p bud).length) : chkE p (proveU p bud) t = 330:=by
 obtain ⟨h1,h2⟩:=prove_chk hA he
 have h0:=(argE_zero hA).1
 unfold chkE
 rw [if_pos h0,if_pos h1,if_neg]
 intro h
 unfold fuelN chk at h h2
 rw [Bool.and_eq_true] at h h2
 have a:=of_decide_eq_true h.1
 have b:=of_decide_eq_true h2.1
 omega
theorem prove_more {p : Pl} {bud : Int} {ds : List Dm} (hA : argE p bud = 0) (he : proveE p bud = 0) (hq : checkP ⟨p.clubs,p.double,p.demands ++ ds⟩ = 0) : chkE ⟨p.clubs,p.double,p.demands ++ ds⟩ (proveU p bud) (proveT p bud) = 0:=by
 obtain ⟨h1,h2⟩:=prove_chk hA he
 have h0:=(argE_zero hA).1
 have h3 : IndP (p.demands ++ ds).length (proveU p bud):=more_ind h1 (by rw [List.length_append]; omega)
 unfold chkE
 rw [if_pos hq,if_pos h3,if_pos]
 exact more_chk h0 hq (ind_range h1) _ _ _ h2
theorem dd_A (els : List (List D)) (i : Nat) : (((els.drop 0).take (i - 0)).map fun y=>y.map V.d) = (els.take i).map fun y=>y.map V.d:=by rw [List.drop_zero,Nat.sub_zero]
theorem dd_B (els : List (List D)) (i n : Nat) (hn : n = els.length) : (((els.drop (i + 1)).take (n - (i + 1))).map fun y=>y.map V.d) = (els.drop (i + 1)).map fun y=>y.map V.d:=by rw [List.take_of_length_le (by simp; omega)]
theorem dd_len (els : List (List D)) (i n : Nat) (hn : n = els.length) (h : i < els.length) : 0 + (((els.drop 0).take (i - 0)).map fun y=>y.map V.d).length + (((els.drop (i + 1)).take (n - (i + 1))).map fun y=>y.map V.d).length = (els.take i ++ els.drop (i + 1)).length:=by
 rw [dd_A,dd_B els i n hn,List.length_append,List.length_map,List.length_map]; omega
theorem dd2_rows (x y : List (List D)) : ((((x.map fun y=>y.map V.d).length |> fun a=>(([] : List (List V)).take 0 ++ (x.map fun y=>y.map V.d)).take (0 + a) ++ (y.map fun y=>y.map V.d)).drop 0).take (0 + (x.map fun y=>y.map V.d).length + (y.map fun y=>y.map V.d).length)) = (x ++ y).map fun y=>y.map V.d:=by
 simp only
 rw [List.take_nil,List.nil_append,List.drop_zero,List.take_of_length_le (Nat.le_of_eq (Nat.zero_add _).symm),List.map_append]
 exact List.take_of_length_le (by rw [List.length_append]; omega)
theorem dd_cv {S : Nat → Prop} {L : List Blk} : ∀ els : List (List D),CvLL S L (els.map fun y=>y.map V.d) els
 | []=>.nil
 | y :: els=>.cons (CvL.data y) (dd_cv els)
theorem rnR_dd (ρ : Nat → Nat) : ∀ els : List (List D),rnR ρ (els.map fun y=>y.map V.d) = els.map fun y=>y.map V.d
 | []=>rfl
 | y :: els=>by rw [List.map_cons,rnR,V.rnL_d,rnR_dd ρ els]
theorem belR_dd (n : Nat) : ∀ els : List (List D),belR n (els.map fun y=>y.map V.d) = true
 | []=>rfl
 | y :: els=>by rw [List.map_cons,belR,V.belL_d,belR_dd n els]; rfl
theorem dd_row (els : List (List D)) (i n : Nat) (hn : n = els.length) : (((((els.drop 0).take (i - 0)).map fun y=>y.map V.d).length |> fun a=>(([] : List (List V)).take 0 ++ (((els.drop 0).take (i - 0)).map fun y=>y.map V.d)).take (0 + a) ++ (((els.drop (i + 1)).take (n - (i + 1))).map fun y=>y.map V.d))) = (els.take i ++ els.drop (i + 1)).map fun y=>y.map V.d:=by
 simp only
 rw [dd_A,dd_B els i n hn,List.take_nil,List.nil_append,List.take_of_length_le (Nat.le_of_eq (Nat.zero_add _).symm),List.map_append]
theorem brcs_del (t : List Brc) (k : Nat) : brcs (t.take k ++ t.drop (k + 1)) = (brcs t).take k ++ (brcs t).drop (k + 1):=by
 rw [brcs_map,brcs_map,List.map_append,List.map_take,List.map_drop]
theorem ints_del (x : List Int) (k : Nat) : ((delAt x k).map fun n=>[DI n]) = (x.map fun n=>[DI n]).take k ++ (x.map fun n=>[DI n]).drop (k + 1):=by
 unfold delAt; rw [List.map_append,List.map_take,List.map_drop]
end Go.Proofs.YtndlggbljkhfbaaGreat
