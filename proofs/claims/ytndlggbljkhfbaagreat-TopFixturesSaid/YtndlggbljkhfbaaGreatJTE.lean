import Derived.Test.YtndlggbljkhfbaaGreatJTD
import Derived.SizedLaws
import Derived.WalkKit
import Derived.ProofKit
import Derived.RecoverIn
set_option maxRecDepth 100000
set_option maxHeartbeats 0
set_option linter.unusedSimpArgs false
set_option linter.unusedVariables false
namespace Go.Proofs.YtndlggbljkhfbaaGreat
open Go.Tidy
variable {L : List Blk} {k : V → List Blk → Prop}
theorem half_e (p : Pl) (h : p.clubs.length ≤ 1000) : IntKind.i64.wrap (((p.clubs.map fun c=>[DI c]).length : Int).tdiv 2) = (halfN p : Int):=by
 rw [List.length_map]
 have e : ((p.clubs.length : Nat) : Int).tdiv 2 = ((p.clubs.length / 2 : Nat) : Int):=(Int.ofNat_tdiv _ _).symm
 rw [e,wrap_in (by omega)]; rfl
def hf (p : Pl) : V:=.d (.rptr [DI (halfN p)])
def pX (l : List (List Mt)) (p : Pl) : V:=.tup [.d (rndsD (if PartP l p then l.map (pRnd p) else [])),B (decide (PartP l p))]
def Out (l : List (List Mt)) (p : Pl) (i : Nat) : Prop:=i ≤ l.length ∧ ∀ (j : Nat) (hj : j < l.length),j < i → RoundP l p j hj
def pL (l : List (List Mt)) (p : Pl) (i : Nat) : List Blk:=[.cells [.d (lisD l)],.cells (p.cells.map .d),.map (esM (l.take i).flatten),.row i 2 ((l.take i).map fun r=>(pE p r).map .d)]
def Inn (p : Pl) (met r : List Mt) (k : Nat) : Prop:=k ≤ r.length ∧ ∀ (j : Nat) (hj : j < r.length),j < k → OkI p met r j hj
def qL (l : List (List Mt)) (p : Pl) (i : Nat) (r : List Mt) (k : Nat) : List Blk :=
 [.cells [.d (lisD l)],.cells (p.cells.map .d),.map (esM ((l.take i).flatten ++ r.take k)),.row i 2 ((l.take i).map fun r=>(pE p r).map .d),.cells [.d (mts r)],.map (esI (busyL (r.take k)))]
theorem esI_bel (n : Nat) : ∀ ks : List Int,belM n (esI ks) = true
 | []=>rfl
 | _ :: ks=>by simp only [esI,List.map_cons,belM,V.bel,Bool.true_and]; exact esI_bel n ks
theorem esM_bel (n : Nat) : ∀ ks : List Mt,belM n (esM ks) = true
 | []=>rfl
 | m :: ks=>by
  simp only [esM,List.map_cons,belM,V.bel,V.belL_d,Bool.true_and]; exact esM_bel n ks
theorem pE_bel (n : Nat) (p : Pl) : ∀ l : List (List Mt),belR n (l.map fun r=>(pE p r).map .d) = true
 | []=>rfl
 | r :: l=>by simp only [List.map_cons,belR,V.belL_d,Bool.true_and]; exact pE_bel n p l
theorem qL_bel (n : Nat) (l : List (List Mt)) (p : Pl) (i : Nat) (r : List Mt) (j : Nat) : belB n (qL l p i r j) = true:=by
 show (true && (V.belL n (p.cells.map .d) && (belM n (esM ((l.take i).flatten ++ r.take j)) && (belR n ((l.take i).map fun r=>(pE p r).map .d) && (true && (belM n (esI (busyL (r.take j))) && true)))))) = true
 rw [V.belL_d,esM_bel,esI_bel,pE_bel]; rfl
theorem qL_next (l : List (List Mt)) (p : Pl) (i : Nat) (r : List Mt) (k : Nat) (hk : k < r.length) : [Blk.cells [.d (lisD l)],.cells (p.cells.map .d),.map (esM ((l.take i).flatten ++ r.take k) ++ [(mtV r[k],B true)]),.row i 2 ((l.take i).map fun r=>(pE p r).map .d),.cells [.d (mts r)],
  .map (esI (busyL (r.take k)) ++ [(I r[k].home,B true)] ++ [(I r[k].away,B true)])] = qL l p i r (k + 1):=by
 have e1 : ∀ (A : List Mt) (x : Mt),esM (A ++ [x]) = esM A ++ [(mtV x,B true)]:=fun A x=>by unfold esM; rw [List.map_append]; rfl
 have e2 : ∀ (A : List Mt) (x : Mt),busyL (A ++ [x]) = busyL A ++ [x.home] ++ [x.away]:=fun A x=>by unfold busyL; rw [List.flatMap_append,List.append_assoc]; rfl
 have e3 : ∀ (A : List Int) (x : Int),esI (A ++ [x]) = esI A ++ [(I x,B true)]:=fun A x=>by unfold esI; rw [List.map_append]; rfl
 unfold qL
 rw [take_next hk,← List.append_assoc,e1,e2,e3,e3]
def eV (p : Pl) (r : List Mt) : List V:=[.d (mts r),.fn 105 [.ptr 4 0,hf p,.ptr 6 0]]
def rL (l : List (List Mt)) (p : Pl) (i : Nat) (r : List Mt) : List Blk:=[.cells [.d (lisD l)],.cells (p.cells.map .d),.map (esM (l.take (i + 1)).flatten),.row (i + 1) 2 ((l.take i).map (fun r=>(pE p r).map .d) ++ [eV p r]),.cells [.d (mts r)],.map (esI (busyL r)),.cells [I (lastM r)]]
theorem eR_bel (p : Pl) (r : List Mt) : ∀ l : List (List Mt),belR 7 (l.map (fun r=>(pE p r).map .d) ++ [eV p r]) = true
 | []=>rfl
 | _ :: l=>by simp only [List.map_cons,List.cons_append,belR,V.belL_d,Bool.true_and]; exact eR_bel p r l
theorem rL_bel (l : List (List Mt)) (p : Pl) (i : Nat) (r : List Mt) : belB 7 (rL l p i r) = true:=by
 show (true && (V.belL 7 (p.cells.map .d) && (belM 7 (esM (l.take (i + 1)).flatten) && (belR 7 ((l.take i).map (fun r=>(pE p r).map .d) ++ [eV p r]) && (true && (belM 7 (esI (busyL r)) && (true && true))))))) = true
 rw [V.belL_d,esM_bel,esI_bel,eR_bel]; rfl
noncomputable def oS (l : List (List Mt)) (p : Pl) (i : Nat) : TS:=⟨[(2,.ptr 0 0),(3,.ptr 1 0),(4,.own 3 i 0 i),(6,hf p),(7,.map 2),(30,.d (lisD l)),(31,I l.length),(32,I i)],Tryz.f47.ntmps,pL l p i,[],none⟩
def cF (l : List (List Mt)) (p : Pl) (i j : Nat) : List (Nat × V):=[(2,.ptr 0 0),(3,.ptr 1 0),(4,.own 3 (i + 1) 0 (i + 1)),(6,hf p),(7,.map 2),(30,.d (lisD l)),(31,I l.length),(32,I j)]
theorem cS_thaw (l : List (List Mt)) (p : Pl) (i : Nat) (hi : i < l.length) : Weak 0 ⟨cF l p i (i + 1),Tryz.f47.ntmps,rL l p i l[i],[],none⟩ (oS l p (i + 1)):=by
 refine Weak.thaw 4 (w22 _) (w18 rfl) rfl ?_ ?_
 ·exact ⟨.inl ⟨rfl,rfl⟩,.inl ⟨rfl,rfl⟩,.inl ⟨rfl,rfl⟩,.inl ⟨rfl,rfl⟩,.inl ⟨rfl,rfl⟩,.inl ⟨rfl,rfl⟩,.inl ⟨rfl,rfl⟩,.inl ⟨rfl,rfl⟩,trivial⟩
 ·intro b x y hx hy
  match b,hx,hy with
  | 0,hx,hy=>cases hx; cases hy; exact .inl ⟨rfl,rfl⟩
  | 1,hx,hy=>cases hx; cases hy; exact .inl ⟨rfl,by show V.belL 4 (p.cells.map .d) = true; rw [V.belL_d]⟩
  | 2,hx,hy=>cases hx; cases hy; exact .inl ⟨rfl,esM_bel 4 _⟩
  | 3,hx,hy =>
   cases hx; cases hy
   refine .inr (.inl ⟨i + 1,2,_,_,rfl,rfl,by simp; omega,fun e he=>?_,fun a b e e' u v h1 h2 h3 h4=>?_⟩)
   ·obtain ⟨x,_,rfl⟩:=List.mem_map.1 he; rfl
   ·by_cases ha : a < i
    ·rw [List.getElem?_append_left (by simp; omega),List.getElem?_map,List.getElem?_take,if_pos ha] at h1
     rw [List.getElem?_map,List.getElem?_take,if_pos (by omega)] at h2
     rw [h1] at h2
     cases h2
     rw [h3] at h4
     cases h4
     refine .inl ⟨rfl,?_⟩
     rw [List.getElem?_eq_getElem (by omega)] at h1
     cases h1
     exact V.belL_get (V.belL_d 4 _) h3
    ·have hai : a = i:=by
      have:=lt_of_get h2
      simp at this; omega
     subst hai
     rw [List.getElem?_append_right (by simp; omega)] at h1
     have e0 : a - (List.map (fun r=>List.map V.d (pE p r)) (List.take a l)).length = 0:=by simp; omega
     rw [e0] at h1
     simp only [List.getElem?_cons_zero,Option.some.injEq] at h1
     rw [List.getElem?_map,List.getElem?_take,if_pos (by omega),List.getElem?_eq_getElem hi] at h2
     simp only [Option.map_some,Option.some.injEq] at h2
     subst h1 h2
     match b,h3,h4 with
     | 0,h3,h4=>cases h3; cases h4; exact .inl ⟨rfl,rfl⟩
     | 1,h3,h4 =>
      cases h3; cases h4
      exact .inr (.d (.fnL (.cons (.ptrL (w21 4) rfl (.cons (.d _) .nil)) (.cons (.d _) (.cons (.ptrL (by decide) rfl (.cons (.d _) .nil)) .nil)))))
     | b + 2,h3,h4=>simp [eV] at h3
  | b + 4,hx,hy=>simp [oS,pL] at hy
theorem left_drop {odd : Nat} {last : Int} {busy cs : List Int} {c n : Nat} (hc : c < cs.length) : leftGo odd last busy (cs.drop c) n = if last ≤ cs[c] then true else if cs[c] ∈ busy then leftGo odd last busy (cs.drop (c + 1)) n else if odd < n + 1 then false else leftGo odd last busy (cs.drop (c + 1)) (n + 1):=by
 rw [List.drop_eq_getElem_cons hc,leftGo]
def Lft (p : Pl) (r : List Mt) (s : Nat × Nat) : Prop:=s.1 ≤ p.clubs.length ∧ s.2 ≤ s.1 ∧ leftGo (p.clubs.length % 2) (lastM r) (busyL r) p.clubs 0 = leftGo (p.clubs.length % 2) (lastM r) (busyL r) (p.clubs.drop s.1) s.2
theorem pE_rows {S : Nat → Prop} {L : List Blk} (p : Pl) : ∀ {l : List (List Mt)},(∀ r ∈ l,r.length ≤ 4611686018427387904) → CvLL S L ((((l.take l.length).map fun r=>(pE p r).map .d).drop 0).take l.length) ((l.map (pRnd p)).map Rnd.cells):=by
 intro l hr
 rw [List.take_length,List.drop_zero,List.take_of_length_le (by simp)]
 induction l with
 | nil=>exact .nil
 | cons r l ih =>
  simp only [List.map_cons]
  rw [pRnd_cells (hr r (by simp))]
  exact .cons (.cons (.d _) (.cons (.d _) .nil)) (ih fun r hr'=>hr r (by simp [hr']))
theorem pE_len (p : Pl) (l : List (List Mt)) : ∀ e ∈ (l.map (pRnd p)).map Rnd.cells,e.length = 2:=by
 intro e he
 obtain ⟨r,hr',rfl⟩:=List.mem_map.1 he
 rfl
theorem MapF.noI2 (ks : List Int) (h a : Int) {q : Option (Nat × V) → Prop} (hne : h ≠ a) (hn : a ∉ ks) (hq : q none) : MapF (.int .i64) (esI ks ++ [(I h,B true)]) (I a) q:=by
 have : esI ks ++ [(I h,B true)] = esI (ks ++ [h]):=by simp [esI]
 rw [this]
 exact MapF.memI _ a (fun hm=>absurd hm (by simp [hn]; exact fun e=>hne e.symm)) (fun _=>hq)
theorem partial_c (l : List (List Mt)) (p : Pl) (hp : fieldOk p.clubs 2 = true) (hl : l.length ≤ 1073741824) (hr : ∀ r ∈ l,r.length ≤ 4611686018427387904) (h : k (pX l p) L) : CallP C 47 [lisV l,plV p] L k:=by
 refine CallP.pure ?_ rfl (fun _=>rfl) h
 clear h
 refine callP_of C_ok Tryz.func47 rfl rfl (n:=_) rfl (w18 rfl) (rs:=_) rfl ?_
 have hlen : 1 ≤ p.clubs.length ∧ p.clubs.length ≤ 1000:=by
  simp only [fieldOk,Bool.and_eq_true,decide_eq_true_eq] at hp; omega
 have hno : ¬ PartP l p → pX l p = .tup [.d (.sl []),B false]:=fun h=>by unfold pX; rw [if_neg h,decide_eq_false h]; rfl
 repeat' ((conv=>whnf); first|refine w0 ?_|refine w1 ?_|refine w2 (fun h=>?_) (fun h=>?_)|refine w3 ?_|refine w4 (fun h=>?_) (fun h=>?_)|refine w5 _ rfl ?_|refine w6 rfl ?_|refine w7 mixed rfl ?_|refine w6 (show (2 : Int) ≠ 0 by decide) ?_|refine w12 _ (rounds_c p hlen ⟨rfl,rfl⟩) ?_)
 all_goals conv=>whnf
 ·have hn : ¬ PartP l p:=fun hp=>by
   have:=hp.1; simp only [List.length_map] at h; omega
  rw [hno hn]
  exact FinP.data (L':=[]) (.pair (.d .nil) (.d (.d _))) rfl rfl ⟨rfl,rfl⟩
 ·have hle : l.length ≤ roundsN p:=by simp only [List.length_map] at h; omega
  refine LoopP.inv (Out l p) (fun s=>⟨[(2,.ptr 0 0),(3,.ptr 1 0),(4,.own 3 s 0 s),(6,hf p),(7,.map 2),(30,.d (lisD l)),(31,I l.length),(32,I s)],Tryz.f47.ntmps,pL l p s,[],none⟩) (fun s=>l.length - s) 0 ⟨w22 _,fun j _ h=>absurd h (Nat.not_lt_zero j)⟩ ?_ ?_
  ·refine Weak.trans (σ':=⟨[(2,.ptr 0 0),(3,.ptr 1 0),(4,.own 3 0 0 0),(6,.ptr 4 0),(7,.map 2),(30,.d (lisD l)),(31,I l.length),(32,I 0)],Tryz.f47.ntmps,pL l p 0 ++ [.cells [I (halfN p)]],[],none⟩) ?_ ?_
   ·refine Weak.trans (Weak.nilOwn 4 2 rfl (by decide)) (Weak.re [0,1,3,4,2] ?_ ?_ (by decide) rfl)
    ·exact ⟨rfl,rfl,rfl,rfl,rfl,rfl,congrArg I (by simp),rfl,trivial⟩
    ·rw [← half_e p hlen.2]; rfl
   ·refine Weak.thaw 4 (w22 _) (w18 rfl) rfl ?_ ?_
    ·exact ⟨.inl ⟨rfl,rfl⟩,.inl ⟨rfl,rfl⟩,.inl ⟨rfl,rfl⟩,.inr (.d (.ptrL (w21 4) rfl (.cons (.d _) .nil))),.inl ⟨rfl,rfl⟩,.inl ⟨rfl,rfl⟩,.inl ⟨rfl,rfl⟩,.inl ⟨rfl,rfl⟩,trivial⟩
    ·intro b x y hx hy
     match b,hx,hy with
     | 0,hx,hy=>cases hx; cases hy; exact .inl ⟨rfl,rfl⟩
     | 1,hx,hy=>cases hx; cases hy; exact .inl ⟨rfl,rfl⟩
     | 2,hx,hy=>cases hx; cases hy; exact .inl ⟨rfl,rfl⟩
     | 3,hx,hy=>cases hx; cases hy; exact .inl ⟨rfl,rfl⟩
     | b + 4,hx,hy=>simp [pL] at hy
  rintro i ⟨hi,hok⟩
  conv=>whnf
  refine w2 (fun hb=>?_) (fun hb=>?_)
  ·have hi' : i < l.length:=by simpa using hb
   obtain ⟨r,hr1⟩ : ∃ r,r = l[i]:=⟨_,rfl⟩
   have hrl : r.length ≤ 4611686018427387904:=hr r (hr1 ▸ List.getElem_mem hi')
   have hw : IntKind.i64.wrap ((i : Int) + 1) = ((i + 1 : Nat) : Int):=by rw [wrap_in (by omega)]; omega
   have hfail : ¬ RoundP l p i hi' → pX l p = .tup [.d (.sl []),B false]:=fun h=>hno fun hp=>h (hp.2 i hi')
   have r1 : (l.map fun r=>[mts r])[i]? = some [mts r]:=by rw [List.getElem?_map,List.getElem?_eq_getElem hi',← hr1]; rfl
   repeat' ((conv=>whnf); first|refine w10 i _ rfl r1 ?_|refine w0 ?_|refine w1 ?_|refine w2 (fun h=>?_) (fun h=>?_)|refine w3 ?_|refine w4 (fun h=>?_) (fun h=>?_)|refine w5 _ rfl ?_|refine w6 rfl ?_|refine w7 mixed rfl ?_)
   all_goals conv=>whnf
   ·rw [hfail fun h0=>h0.1 (by rw [← hr1]; simp only [List.length_map] at h; omega)]
    exact FinP.data (L':=[]) (.pair (.d .nil) (.d (.d _))) rfl rfl ⟨rfl,rfl⟩
   ·rw [hfail fun h0=>by have:=h0.2.1; rw [← hr1] at this; simp only [List.length_map] at h; omega]
    exact FinP.data (L':=[]) (.pair (.d .nil) (.d (.d _))) rfl rfl ⟨rfl,rfl⟩
   ·rename_i h1
    rw [hfail fun h0=>by
     have:=h0.2.2.1 (by simp only [hw,List.length_map] at h1; omega)
     rw [← hr1] at this; simp only [List.length_map] at h; omega]
    exact FinP.data (L':=[]) (.pair (.d .nil) (.d (.d _))) rfl rfl ⟨rfl,rfl⟩
   all_goals
    have hsz : r.length ≠ 0 ∧ r.length ≤ halfN p ∧ (i + 1 < l.length → halfN p ≤ r.length):=by
     simp only [hw,List.length_map] at *
     omega
    refine LoopP.inv (Inn p (l.take i).flatten r) (fun s=>⟨[(2,.ptr 0 0),(3,.ptr 1 0),(4,.own 3 i 0 i),(6,hf p),(7,.map 2),(30,.d (lisD l)),(31,I l.length),(32,I i),(9,.ptr 4 0),(10,.map 5),(61,.d (mts r)),(62,I r.length),(63,I s)],Tryz.f47.ntmps,qL l p i r s,[],none⟩)
     (fun s=>r.length - s) 0 ⟨w22 _,fun j _ h=>absurd h (Nat.not_lt_zero j)⟩ ?_ ?_
    ·refine Weak.by ⟨rfl,rfl,rfl,rfl,rfl,rfl,rfl,rfl,rfl,rfl,rfl,congrArg I (by simp),rfl,trivial⟩ (hL:=Eq.trans (b:=pL l p i ++ [.cells [.d (mts r)],.map (esI (busyL (r.take 0)))]) rfl ?_)
     simp only [pL,qL,List.take_zero,List.append_nil,List.cons_append,List.nil_append]
    rintro kk ⟨hk,hkok⟩
    conv=>whnf
    refine w2 (fun hb2=>?_) (fun hb2=>?_)
    ·--<<
     have hk' : kk < r.length:=by simpa using hb2
     have hw2 : IntKind.i64.wrap ((kk : Int) + 1) = ((kk + 1 : Nat) : Int):=by rw [wrap_in (by omega)]; omega
     obtain ⟨m,hm⟩ : ∃ m,m = r[kk]:=⟨_,rfl⟩
     have r2 : (r.map Mt.cells)[kk]? = some m.cells:=by rw [List.getElem?_map,List.getElem?_eq_getElem hk',hm]; rfl
     have hO : RoundP l p i hi' → m.home ≠ m.away ∧ m.home ∈ p.clubs ∧ m.away ∈ p.clubs ∧ m.home ∉ busyL (r.take kk) ∧ m.away ∉ busyL (r.take kk) ∧ m ∉ (l.take i).flatten ++ r.take kk ∧ (p.double = false → (⟨m.away,m.home⟩ : Mt) ∉ (l.take i).flatten ++ r.take kk) ∧ (0 < kk → firstM (r[kk - 1]'(by omega)) < firstM m):=by
      subst hm hr1; exact fun h0=>h0.2.2.2.1 kk hk'
     have hO' : m.home ≠ m.away ∧ m.home ∈ p.clubs ∧ m.away ∈ p.clubs ∧ m.home ∉ busyL (r.take kk) ∧ m.away ∉ busyL (r.take kk) ∧ m ∉ (l.take i).flatten ++ r.take kk ∧ (p.double = false → (⟨m.away,m.home⟩ : Mt) ∉ (l.take i).flatten ++ r.take kk) ∧ (0 < kk → firstM (r[kk - 1]'(by omega)) < firstM m) → OkI p (l.take i).flatten r kk hk':=by
      subst hm; exact id
     have hbel : belB 6 (qL l p i r (kk + 1)) = true:=qL_bel 6 l p i r (kk + 1)
     have hL:=qL_next l p i r kk hk'
     rw [← hm] at hL
     have hnx : OkI p (l.take i).flatten r kk hk' → Inn p (l.take i).flatten r (kk + 1):=fun ho=>⟨hk',fun j hj hji=>by
      by_cases e : j = kk
      ·subst e; exact ho
      ·exact hkok j hj (by omega)⟩
     repeat' ((conv=>whnf); first|refine w10 kk _ rfl r2 ?_|refine w11 (kk - 1) (by rw [wrap_in] <;> omega) (by omega) ?_|refine contains_c p.clubs _ (by omega) ?_|refine first_c _ ?_|refine w12 _ (first_c _ ⟨rfl,rfl⟩) ?_|refine MapF.memI (busyL (r.take kk)) m.home (fun h=>absurd h (by assumption)) (fun _=>?_)|refine MapF.noI2 (busyL (r.take kk)) m.home m.away (by assumption) (by assumption) ?_|refine MapF.memM ((l.take i).flatten ++ r.take kk) m (fun h=>absurd h (by assumption)) (fun _=>?_)|refine MapF.memI (busyL (r.take kk)) m.home (fun h j=>?_) (fun h=>?_)|refine MapF.memI (busyL (r.take kk)) m.away (fun h j=>?_) (fun h=>?_)|refine MapF.memM ((l.take i).flatten ++ r.take kk) m (fun h j=>?_) (fun h=>?_)|refine MapF.memM ((l.take i).flatten ++ r.take kk) ⟨m.away,m.home⟩ (fun h j=>?_) (fun h=>?_)|refine w0 ?_|refine w1 ?_|refine w2 (fun h=>?_) (fun h=>?_)|refine w3 ?_|refine w4 (fun h=>?_) (fun h=>?_)|refine w5 _ rfl ?_|refine w6 rfl ?_|refine w7 mixed rfl ?_)
     all_goals conv=>whnf
     all_goals first
      | exact absurd ‹m.home = m.away› ‹¬ m.home = m.away›
      | (exfalso; exact Bool.noConfusion ((‹p.clubs.contains m.home = false›).symm.trans ‹p.clubs.contains m.home = true›))
      | (exfalso; exact Bool.noConfusion ((‹p.clubs.contains m.away = false›).symm.trans ‹p.clubs.contains m.away = true›))
      | exact FinP.data (L':=[]) (.pair (.d .nil) (.d (.d _))) rfl rfl ⟨rfl,(hfail fun h0=>(hO h0).1 ‹m.home = m.away›).symm⟩
      | exact FinP.data (L':=[]) (.pair (.d .nil) (.d (.d _))) rfl rfl ⟨rfl,(hfail fun h0=>Bool.noConfusion ((‹p.clubs.contains m.home = false›).symm.trans (List.contains_iff_mem.2 (hO h0).2.1))).symm⟩
      | exact FinP.data (L':=[]) (.pair (.d .nil) (.d (.d _))) rfl rfl ⟨rfl,(hfail fun h0=>Bool.noConfusion ((‹p.clubs.contains m.away = false›).symm.trans (List.contains_iff_mem.2 (hO h0).2.2.1))).symm⟩
      | exact FinP.data (L':=[]) (.pair (.d .nil) (.d (.d _))) rfl rfl ⟨rfl,(hfail fun h0=>(hO h0).2.2.2.1 ‹m.home ∈ busyL (r.take kk)›).symm⟩
      | exact FinP.data (L':=[]) (.pair (.d .nil) (.d (.d _))) rfl rfl ⟨rfl,(hfail fun h0=>(hO h0).2.2.2.2.1 ‹m.away ∈ busyL (r.take kk)›).symm⟩
      | exact FinP.data (L':=[]) (.pair (.d .nil) (.d (.d _))) rfl rfl ⟨rfl,(hfail fun h0=>(hO h0).2.2.2.2.2.1 ‹m ∈ (l.take i).flatten ++ r.take kk›).symm⟩
      | exact FinP.data (L':=[]) (.pair (.d .nil) (.d (.d _))) rfl rfl ⟨rfl,(hfail fun h0=>(hO h0).2.2.2.2.2.2.1 ‹p.double = false› ‹(⟨m.away,m.home⟩ : Mt) ∈ (l.take i).flatten ++ r.take kk›).symm⟩
      | exact FinP.data (L':=[]) (.pair (.d .nil) (.d (.d _))) rfl rfl ⟨rfl,(hfail fun h0=>by have:=(hO h0).2.2.2.2.2.2.2 (by omega); unfold firstM at this; omega).symm⟩
      | skip
     all_goals
      refine DrawP.por mixed [] [[(0,0),(1,0),(2,0),(3,0),(4,0),(5,3),(6,0),(7,3),(8,0),(9,0),(10,0)]] (by kernel_rfl) ?_
      repeat' ((conv=>whnf); first|refine MapF.memI (busyL (r.take kk)) m.home (fun h=>absurd h (by assumption)) (fun _=>?_)|refine MapF.noI2 (busyL (r.take kk)) m.home m.away (by assumption) (by assumption) ?_|refine MapF.memM ((l.take i).flatten ++ r.take kk) m (fun h=>absurd h (by assumption)) (fun _=>?_)|refine w0 ?_|refine w1 ?_|refine w2 (fun h=>?_) (fun h=>?_)|refine w3 ?_|refine w4 (fun h=>?_) (fun h=>?_)|refine w5 _ rfl ?_|refine w6 rfl ?_|refine w7 mixed rfl ?_)
     all_goals conv=>whnf
     all_goals exact ⟨kk + 1,hnx (hO' ⟨‹¬ m.home = m.away›,List.contains_iff_mem.1 ‹p.clubs.contains m.home = true›,List.contains_iff_mem.1 ‹p.clubs.contains m.away = true›,‹m.home ∉ busyL (r.take kk)›,‹m.away ∉ busyL (r.take kk)›,‹m ∉ (l.take i).flatten ++ r.take kk›,
       fun hd=>(by first | exact absurd (hd.symm.trans ‹p.double = true›) (by decide) | assumption),fun h0=>(by unfold firstM; omega)⟩),by omega,
      Weak.to 6 (Eq.trans (b:=[Blk.cells [.d (lisD l)],.cells (p.cells.map .d),.map (esM ((l.take i).flatten ++ r.take kk) ++ [(mtV m,B true)]),.row i 2 ((l.take i).map fun r=>(pE p r).map .d),.cells [.d (mts r)],.map (esI (busyL (r.take kk)) ++ [(I m.home,B true)] ++ [(I m.away,B true)])]) rfl hL) (w22 _) (w18 rfl)
      ⟨rfl,rfl,rfl,rfl,rfl,rfl,rfl,rfl,rfl,rfl,rfl,rfl,congrArg I hw2,trivial⟩ (hB:=hbel)⟩
     -->>
    ·have hke : kk = r.length:=by simp at hb2; omega
     subst hke
     have hlast : r[r.length - 1]'(by omega) = r.getLast (by intro e; rw [e] at hsz; exact hsz.1 rfl):=by rw [List.getLast_eq_getElem]
     have hlm : lastM r = firstM (r[r.length - 1]'(by omega)):=by unfold lastM; rw [List.getLast?_eq_getElem?,List.getElem?_eq_getElem (by omega)]
     have hfe : firstM (r[r.length - 1]'(by omega)) = if (r[r.length - 1]'(by omega)).away < (r[r.length - 1]'(by omega)).home then (r[r.length - 1]'(by omega)).away else (r[r.length - 1]'(by omega)).home:=rfl
     repeat' ((conv=>whnf); first|refine w0 ?_|refine w1 ?_|refine w2 (fun h=>?_) (fun h=>?_)|refine w3 ?_|refine w4 (fun h=>?_) (fun h=>?_)|refine w5 _ rfl ?_|refine w6 rfl ?_|refine w7 mixed rfl ?_|refine w11 (r.length - 1) (by rw [List.length_map,wrap_in] <;> omega) (by omega) ?_|refine first_c _ ?_|simp only [Nat.beq_refl,Bool.and_self]|refine w6 (by first|omega|(simp; omega)|(refine w23 (m:=4294967296) ?_ (apLim_ge _); first|omega|(simp; omega))) ?_)
     all_goals conv=>whnf
     all_goals
      have hdone : leftGo (p.clubs.length % 2) (lastM r) (busyL r) p.clubs 0 = true → Out l p (i + 1):=fun hg=>⟨hi',fun j hj hji=>by
       by_cases e : j = i
       ·subst e; subst hr1; exact ⟨hsz.1,hsz.2.1,hsz.2.2,fun a ha=>hkok a ha ha,hg⟩
       ·exact hok j hj (by omega)⟩
      have hth : Weak 0 ⟨cF l p i (i + 1),Tryz.f47.ntmps,rL l p i r,[],none⟩ (oS l p (i + 1)):=hr1 ▸ cS_thaw l p i hi'
      refine LoopP.inv (Lft p r) (fun s=>⟨cF l p i i ++ [(10,.map 5),(14,.ptr 6 0),(15,I s.2),(146,.d (ints p.clubs)),(147,I p.clubs.length),(148,I s.1)],Tryz.f47.ntmps,rL l p i r,[],none⟩) (fun s=>p.clubs.length - s.1) (0,0) ⟨w22 _,Nat.zero_le _,rfl⟩ ?_ ?_
      ·refine Weak.to 7 (Eq.trans (b:=[Blk.cells [.d (lisD l)],.cells (p.cells.map .d),.map (esM ((l.take i).flatten ++ r.take r.length)),.row (i + 1) 2 (((l.take i).map fun r=>(pE p r).map .d).take i ++ [eV p r]),.cells [.d (mts r)],.map (esI (busyL (r.take r.length))),.cells [I (lastM r)]]) ?_ ?_) (w22 _) (w18 rfl)
        ⟨rfl,rfl,rfl,rfl,rfl,rfl,rfl,rfl,rfl,rfl,rfl,rfl,congrArg I (by simp),rfl,trivial⟩ (hB:=rL_bel l p i r)
       ·rw [hlm,hfe]; rfl
       ·unfold rL
        rw [take_next hi',← hr1,List.take_of_length_le (Nat.le_refl r.length),List.take_of_length_le (l:=(l.take i).map _) (by simp; omega)]
        simp
      rintro ⟨c,n⟩ ⟨hc,hn,heq⟩
      simp only at hc hn heq
      conv=>whnf
      refine w2 (fun hb3=>?_) (fun hb3=>?_)
      ·have hc' : c < p.clubs.length:=by simpa using hb3
       rw [left_drop hc'] at heq
       have hw3 : IntKind.i64.wrap ((c : Int) + 1) = ((c + 1 : Nat) : Int):=by rw [wrap_in (by omega)]; omega
       have hw4 : IntKind.i64.wrap ((n : Int) + 1) = ((n + 1 : Nat) : Int):=by rw [wrap_in (by omega)]; omega
       have hmod : ((p.clubs.map fun n=>[DI n]).length : Int).tmod 2 = ((p.clubs.length % 2 : Nat) : Int):=by rw [List.length_map]; rfl
       repeat' ((conv=>whnf); first|refine w0 ?_|refine w1 ?_|refine w2 (fun h=>?_) (fun h=>?_)|refine w3 ?_|refine w4 (fun h=>?_) (fun h=>?_)|refine w5 _ rfl ?_|refine w6 rfl ?_|refine w7 mixed rfl ?_|refine w11 c rfl hc' ?_|refine MapF.memI (busyL r) _ (fun h j=>?_) (fun h=>?_)|refine w6 (show (2 : Int) ≠ 0 by decide) ?_)
       all_goals conv=>whnf
       ·rw [if_pos h] at heq
        exact ⟨i + 1,hdone heq,by omega,Weak.trans (σ':=⟨cF l p i (i + 1),Tryz.f47.ntmps,rL l p i r,[],none⟩) (Weak.to 7 rfl (w22 _) (w18 rfl) ⟨rfl,rfl,rfl,rfl,rfl,rfl,rfl,congrArg I hw,trivial⟩ (hB:=rL_bel l p i r)) hth⟩
       ·rename_i h1
        rw [if_neg h1,if_pos h] at heq
        exact ⟨(c + 1,n),⟨hc',Nat.le_succ_of_le hn,heq⟩,by simp only []; omega,Weak.to 7 rfl (Nat.zero_le _) (Nat.le_of_ble_eq_true rfl) ⟨rfl,rfl,rfl,rfl,rfl,rfl,rfl,rfl,rfl,rfl,rfl,rfl,rfl,congrArg I hw3,trivial⟩ (hB:=rL_bel l p i r)⟩
       ·rename_i h2 h1
        simp only [hmod,hw4] at h
        rw [if_neg h2,if_neg h1,if_pos (by omega)] at heq
        exact FinP.data (L':=[]) (.pair (.d .nil) (.d (.d _))) rfl rfl ⟨rfl,(hfail fun h0=>by
         have:=h0.2.2.2.2; rw [← hr1,heq] at this; cases this).symm⟩
       ·rename_i h2 h1
        simp only [hmod,hw4] at h
        rw [if_neg h2,if_neg h1,if_neg (by omega)] at heq
        exact ⟨(c + 1,n + 1),⟨hc',Nat.succ_le_succ hn,heq⟩,by simp only []; omega,Weak.to 7 rfl (Nat.zero_le _) (Nat.le_of_ble_eq_true rfl) ⟨rfl,rfl,rfl,rfl,rfl,rfl,rfl,rfl,rfl,rfl,congrArg I hw4,rfl,rfl,congrArg I hw3,trivial⟩ (hB:=rL_bel l p i r)⟩
      ·rw [List.drop_of_length_le (by simp only [] at hb3; omega),leftGo] at heq
       repeat' ((conv=>whnf); first|refine w0 ?_|refine w1 ?_|refine w2 (fun h=>?_) (fun h=>?_)|refine w3 ?_|refine w4 (fun h=>?_) (fun h=>?_)|refine w5 _ rfl ?_|refine w6 rfl ?_|refine w7 mixed rfl ?_)
       conv=>whnf
       exact ⟨i + 1,hdone heq,by omega,Weak.trans (σ':=⟨cF l p i (i + 1),Tryz.f47.ntmps,rL l p i r,[],none⟩) (Weak.to 7 rfl (w22 _) (w18 rfl) ⟨rfl,rfl,rfl,rfl,rfl,rfl,rfl,congrArg I hw,trivial⟩ (hB:=rL_bel l p i r)) hth⟩
  ·have hie : i = l.length:=by omega
   subst hie
   have hP : PartP l p:=⟨hle,fun j hj=>hok j hj hj⟩
   have hX : pX l p = .tup [.d (rndsD (l.map (pRnd p))),B true]:=by unfold pX; rw [if_pos hP,decide_eq_true hP]
   repeat' ((conv=>whnf); first|refine w0 ?_|refine w1 ?_|refine w2 (fun h=>?_) (fun h=>?_)|refine w3 ?_|refine w4 (fun h=>?_) (fun h=>?_)|refine w5 _ rfl ?_|refine w6 rfl ?_|refine w7 mixed rfl ?_)
   conv=>whnf
   exact FinP.data (L':=[]) (.pair (.d (.rowL (Nat.zero_le _) rfl (pE_rows p hr) (by simp) (pE_len p l))) (.d (.d _))) rfl rfl ⟨rfl,hX.symm⟩
end Go.Proofs.YtndlggbljkhfbaaGreat
namespace Go.Proofs.YtndlggbljkhfbaaGreat
open Go.Tidy
variable {L : List Blk} {k : V → List Blk → Prop}
def doomGo (R : List Rnd) : List Dm → Nat → List Nat
 | [],_=>[]
 | d :: ds,i=>if doomsF R d then i :: doomGo R ds (i + 1) else doomGo R ds (i + 1)
def doomL (R : List Rnd) (p : Pl) : List Int:=(doomGo R p.demands 0).map fun (i : Nat)=>(i : Int)
theorem doomed_c (R : List Rnd) (p : Pl) (h : k (.d (.fn 107 [.rptr p.cells,.rptr [rndsD R]])) L) : CallP C 50 [.d (rndsD R),plV p] L k:=by
 refine CallP.pure ?_ rfl (fun _=>rfl) h
 clear h
 refine callP_of C_ok Tryz.func50 rfl rfl (n:=_) rfl (w18 rfl) (rs:=_) rfl ?_
 repeat' ((conv=>whnf); first|refine w0 ?_|refine w1 ?_|refine w2 (fun h=>?_) (fun h=>?_)|refine w3 ?_|refine w4 (fun h=>?_) (fun h=>?_)|refine w5 _ rfl ?_|refine w6 rfl ?_|refine w7 mixed rfl ?_)
 conv=>whnf
 exact FinP.data (L':=[]) (.d (.fnL (.cons (.ptrL (w22 _) rfl (.data p.cells)) (.cons (.ptrL (w22 _) rfl (.cons (.d _) .nil)) .nil)))) rfl rfl ⟨rfl,rfl⟩
theorem belF_le {n m : Nat} (h : n ≤ m) : ∀ fr : List (Nat × V),belF n fr = true → belF m fr = true
 | [],_=>rfl
 | p :: r,hb=>by simp only [belF,Bool.and_eq_true] at hb ⊢; exact ⟨V.bel_le h _ hb.1,belF_le h r hb.2⟩
theorem belM_le {n m : Nat} (h : n ≤ m) : ∀ es : List (V × V),belM n es = true → belM m es = true
 | [],_=>rfl
 | p :: r,hb=>by simp only [belM,Bool.and_eq_true] at hb ⊢; exact ⟨⟨V.bel_le h _ hb.1.1,V.bel_le h _ hb.1.2⟩,belM_le h r hb.2⟩
theorem belR_le {n m : Nat} (h : n ≤ m) : ∀ es : List (List V),belR n es = true → belR m es = true
 | [],_=>rfl
 | p :: r,hb=>by simp only [belR,Bool.and_eq_true] at hb ⊢; exact ⟨V.belL_le h _ hb.1,belR_le h r hb.2⟩
theorem Blk.bel_le {n m : Nat} (h : n ≤ m) (k : Blk) (hb : k.bel n = true) : k.bel m = true:=by
 cases k with
 | cells cs=>exact V.belL_le h cs hb
 | row g sz els=>exact belR_le h els hb
 | map es=>exact belM_le h es hb
 | loop l =>
  simp only [Blk.bel,Bool.and_eq_true,decide_eq_true_eq] at hb ⊢
  exact ⟨belF_le h _ hb.1,by omega⟩
 | defr=>rfl
 | dead=>rfl
theorem belB_le {n m : Nat} (h : n ≤ m) : ∀ {l : List Blk},belB n l = true → belB m l = true
 | [],_=>rfl
 | k :: r,hb=>by simp only [belB,Bool.and_eq_true] at hb ⊢; exact ⟨Blk.bel_le h k hb.1,belB_le h hb.2⟩
theorem belB_append {n : Nat} : ∀ {l l' : List Blk},belB n l = true → belB n l' = true → belB n (l ++ l') = true
 | [],_,_,h=>h
 | k :: r,_,hb,h=>by simp only [List.cons_append,belB,Bool.and_eq_true] at hb ⊢; exact ⟨hb.1,belB_append hb.2 h⟩
theorem kindsMap_bel {n : Nat} : belB n [.map kindsMap] = true:=rfl
def DmI (R : List Rnd) (p : Pl) (P : Nat → Prop) (s : Nat × Nat) : Prop:=s.1 ≤ p.demands.length ∧ P s.2 ∧ ∃ pre,pre.length = s.2 ∧ doomL R p = pre ++ (doomGo R (p.demands.drop s.1) s.1).map fun (i : Nat)=>(i : Int)
theorem doomed1_it (R : List Rnd) (p : Pl) (hl : R.length ≤ 1073741824) (hD : p.demands.length ≤ 4611686018427387904) (hd : ∀ d ∈ p.demands,d.clubs.length ≤ 4611686018427387904) (hk : ∀ d ∈ p.demands,1 ≤ d.kind ∧ d.kind ≤ 10) :
  IterP C 107 [.rptr p.cells,.rptr [rndsD R]] ((doomL R p).map fun i=>[I i]):=by
 have len : ((doomL R p).map fun i=>[I i]).length = (doomL R p).length:=List.length_map ..
 intro b N P S k hS hbS hdS hb hy h0 hP
 obtain ⟨T,hT⟩ : ∃ T : Nat → List Blk,∀ c,T c = S c ++ [.map kindsMap]:=⟨_,fun _=>rfl⟩
 have lT : ∀ c,(T c).length = N + 1:=fun c=>by rw [hT,List.length_append,hS]; rfl
 have gT : ∀ c x,(T c ++ [x])[N + 1]? = some x:=fun c x=>getN (lT c) x
 have gT0 : ∀ c x,(T c ++ [x])[N]? = some (.map kindsMap):=fun c x=>by rw [List.getElem?_append_left (by rw [lT]; omega),hT]; exact getN (hS c) _
 have sT : ∀ c x y,(T c ++ [x]).set (N + 1) y = T c ++ [y]:=fun c x y=>setN (lT c) x y
 have hT' : ∀ c x,T c ++ [x] = S c ++ [.map kindsMap,x]:=fun c x=>by rw [hT,List.append_assoc]; rfl
 have bT : ∀ c,belB (N + 1) (T c) = true:=fun c=>by
  rw [hT]
  exact belB_append (belB_le (Nat.le_succ N) (hbS c)) kindsMap_bel
 refine callP_of C_ok Tryz.func107 rfl rfl (n:=_) rfl (w18 rfl) (rs:=_) rfl ?_
 repeat' ((conv=>whnf); first|refine w0 ?_|refine w1 ?_|refine w2 (fun h=>?_) (fun h=>?_)|refine w3 ?_|refine w4 (fun h=>?_) (fun h=>?_)|refine w5 _ rfl ?_|refine w6 rfl ?_|refine w7 mixed rfl ?_|refine kinds_L ?_|simp only [hS])
 all_goals conv=>whnf
 refine LoopP.inv (DmI R p P) (fun s=>⟨[(0,.yld b),(1,.d (.rptr p.cells)),(2,.d (.rptr [rndsD R])),(4,.map N),(9,.d (.sl (p.demands.map Dm.cells))),(10,I p.demands.length),(11,I s.1)],Tryz.f107.ntmps,T s.2,[],none⟩) (fun s=>p.demands.length - s.1) (0,0) ⟨w22 _,hP,[],rfl,rfl⟩ ?_ ?_
 ·exact Weak.by ⟨rfl,rfl,rfl,rfl,rfl,congrArg I (by simp),rfl,trivial⟩ (hL:=(hT 0).symm)
 rintro ⟨j,c⟩ ⟨hj,hPc,pre,hpre,heq⟩
 simp only at hj hPc hpre heq
 conv=>whnf
 refine w2 (fun hb1=>?_) (fun hb1=>?_)
 ·have hj' : j < p.demands.length:=by simpa using hb1
  obtain ⟨d,hdj⟩ : ∃ d,d = p.demands[j]:=⟨_,rfl⟩
  have hmem : d ∈ p.demands:=hdj ▸ List.getElem_mem hj'
  have r1 : (p.demands.map Dm.cells)[j]? = some d.cells:=by rw [List.getElem?_map,List.getElem?_eq_getElem hj',hdj]; rfl
  have hw : IntKind.i64.wrap ((j : Int) + 1) = ((j + 1 : Nat) : Int):=by rw [wrap_in (by omega)]; omega
  rw [List.drop_eq_getElem_cons hj',doomGo,← hdj] at heq
  obtain ⟨i,w,hi,⟨f,cc,hm,hok⟩ | ⟨f,hm,hok⟩⟩:=kind_entry R d hl (hd d hmem) (hk d hmem)
  all_goals
   repeat' ((conv=>whnf); first|refine w10 j _ rfl r1 ?_|simp only [lT,gT,gT0,sT]|refine MapF.at kindKs i _ rfl hi hm ?_|refine hok _ _ ?_|refine w12 _ (hok _ _ ⟨rfl,rfl⟩) ?_|refine w0 ?_|refine w1 ?_|refine w2 (fun h=>?_) (fun h=>?_)|refine w3 ?_|refine w4 (fun h=>?_) (fun h=>?_)|refine w5 _ rfl ?_|refine w6 rfl ?_|refine w7 mixed rfl ?_)
  all_goals conv=>whnf
  all_goals
   first
   | (have hdm : doomsF R d = false := h
      rw [if_neg (by rw [hdm]; decide)] at heq
      exact ⟨(j + 1,c),⟨hj',hPc,pre,hpre,heq⟩,by simp only []; omega,Weak.to (N + 1) (List.take_left' (lT c)) (Nat.le_succ N) (by simp [lT]) ⟨rfl,rfl,rfl,rfl,rfl,rfl,congrArg I hw,trivial⟩ (hf:=by simp [belF,V.bel]; omega) (hB:=bT c)⟩)
   | (have hdm : doomsF R d = true := h
      rw [if_pos hdm,List.map_cons] at heq
      have hlt : c < ((doomL R p).map fun i=>[I i]).length:=by rw [len,heq,List.length_append,List.length_cons]; omega
      have hxs : ((doomL R p).map fun i=>[I i])[c] = [I j]:=by
       rw [List.getElem_map]
       have : (doomL R p)[c]? = some (j : Int):=by rw [heq,List.getElem?_append_right (by omega),hpre,Nat.sub_self]; rfl
       rw [List.getElem?_eq_getElem (by rw [← len]; exact hlt)] at this
       exact congrArg (fun x=>[I x]) (Option.some.inj this)
      have hyc:=hy c hlt hPc
      rw [hxs] at hyc
      refine YieldP.conv (hT' c _) ?_
      refine YR.frame hyc (hS c) (hS _) (hbS c) (hbS _) (hdS c) hb rfl ?_ ?_
      ·intro M hM hP1
       replace hM:=hM.trans (hT' (c + 1) _).symm
       subst hM
       repeat' ((conv=>whnf); first|refine w0 ?_|refine w1 ?_|refine w2 (fun h=>?_) (fun h=>?_)|refine w3 ?_|refine w4 (fun h=>?_) (fun h=>?_)|refine w5 _ rfl ?_|refine w6 rfl ?_|refine w7 mixed rfl ?_|simp only [lT,gT,gT0,sT])
       conv=>whnf
       exact ⟨(j + 1,c + 1),⟨hj',hP1,pre ++ [(j : Int)],by simp [hpre],by rw [heq]; simp⟩,by simp only []; omega,Weak.to (N + 1) (List.take_left' (lT (c + 1))) (Nat.le_succ N) (by simp [lT]) ⟨rfl,rfl,rfl,rfl,rfl,rfl,congrArg I hw,trivial⟩ (hf:=by simp [belF,V.bel]; omega) (hB:=bT (c + 1))⟩
      ·rintro Z M rfl hz1 hz2 hz3
       repeat' ((conv=>whnf); first|refine w0 ?_|refine w1 ?_|refine w2 (fun h=>?_) (fun h=>?_)|refine w3 ?_|refine w4 (fun h=>?_) (fun h=>?_)|refine w5 _ rfl ?_|refine w6 rfl ?_|refine w7 mixed rfl ?_)
       conv=>whnf
       exact FinP.drop (n:=N) (List.take_left' hz1) (w21 _) rfl hz2 hz3)
 ·have hje : j = p.demands.length:=by simp only [] at hb1; omega
  subst hje
  rw [List.drop_length,doomGo,List.map_nil,List.append_nil] at heq
  have hce : c = ((doomL R p).map fun i=>[I i]).length:=by rw [len,heq,hpre]
  repeat' ((conv=>whnf); first|refine w0 ?_|refine w1 ?_|refine w2 (fun h=>?_) (fun h=>?_)|refine w3 ?_|refine w4 (fun h=>?_) (fun h=>?_)|refine w5 _ rfl ?_|refine w6 rfl ?_|refine w7 mixed rfl ?_)
  conv=>whnf
  refine w15 (n:=N) (L':=S c) ?_ (w21 _) rfl (hbS c) ?_
  ·rw [hT]; exact List.take_left' (hS c)
  ·subst hce; exact h0 hPc
def seqB (xs : List Int) (blk : Blk) (i : Nat) : List Blk:=[.cells [.own 1 i 0 i],.row i 1 ((xs.take i).map fun x=>[I x]),.defr,blk]
theorem intR_bel (n : Nat) : ∀ l : List Int,belR n (l.map fun x=>[I x]) = true
 | []=>rfl
 | _ :: l=>by simp only [List.map_cons,belR,V.belL,V.bel,Bool.true_and]; exact intR_bel n l
theorem seqB_bel {n : Nat} {xs : List Int} {blk : Blk} {i : Nat} (hn : 1 < n) (hb : blk.bel n = true) : belB n (seqB xs blk i) = true:=by
 show (V.belL n [.own 1 i 0 i] && (belR n ((xs.take i).map fun x=>[I x]) && (true && (blk.bel n && true)))) = true
 rw [intR_bel,hb]; simp [V.belL,V.bel,hn]
theorem intR_rows {S : Nat → Prop} {L : List Blk} : ∀ l : List Int,CvLL S L (l.map fun x=>[I x]) (l.map fun x=>[DI x])
 | []=>.nil
 | x :: l=>.cons (.cons (.d _) .nil) (intR_rows l)
theorem appendSeq_c (f : FuncId) (caps : List D) (xs : List Int) (hx : xs.length ≤ 4294967296) (hit : IterP C f caps (xs.map fun x=>[I x])) (h : k (.d (ints xs)) L) : CallP C 106 [.nil,.d (.fn f caps)] L k:=by
 refine CallP.pure ?_ rfl (fun _=>rfl) h
 clear h
 refine callP_cut (fun c=>match c with | .region 1 _ _=>true | _=>false) C_ok Tryz.func106 rfl rfl (n:=_) rfl (w18 rfl) (rs:=_) rfl ?_
 repeat' ((conv=>whnf); first|refine w0 ?_|refine w1 ?_|refine w2 (fun h=>?_) (fun h=>?_)|refine w3 ?_|refine w4 (fun h=>?_) (fun h=>?_)|refine w5 _ rfl ?_|refine w6 rfl ?_|refine w7 mixed rfl ?_)
 conv=>whnf
 refine CutP.intro (ι:=Unit) (fun _=>⟨[(2,.ptr 0 0),(4,.nil),(6,.d (.fn f caps))],Tryz.f106.ntmps,[.cells [.own 1 0 0 0],.row 0 1 []],[],none⟩) ?_ (fun _=>?_)
 ·repeat' (conv => whnf
           first|refine w0 ?_|refine w1 ?_|refine w2 (fun h=>?_) (fun h=>?_)|refine w3 ?_|refine w4 (fun h=>?_) (fun h=>?_)|refine w5 _ rfl ?_|refine w6 rfl ?_|refine w7 mixed rfl ?_)
  conv=>whnf
  exact ⟨(),Weak.nilCellTo 0 0 1 [.nil] rfl rfl (by decide) rfl ⟨rfl,rfl,rfl,trivial⟩⟩
 ·conv=>whnf
  refine CallP.conv (args':=.yld 3 :: caps.map .d) (L':=seqB xs (.loop _) 0) (by rfl) rfl ?_
  generalize hblk : Blk.loop _ = blk
  have hb4 : blk.bel 4 = true:=by rw [← hblk]; rfl
  have hb5 : blk.bel 5 = true:=by rw [← hblk]; rfl
  refine hit 3 4 (fun i=>True) (fun i=>seqB xs blk i) _ (fun _=>rfl) (fun i=>seqB_bel (by decide) hb4) (fun i=>by subst hblk; rfl) (by decide) ?_ ?_ trivial
  ·intro i hi _
   rw [List.length_map] at hi
   rw [List.getElem_map]
   subst hblk
   refine YieldP.round C_ok (fun _=>false) ?_
   repeat' ((conv=>whnf); first|refine w0 ?_|refine w1 ?_|refine w2 (fun h=>?_) (fun h=>?_)|refine w3 ?_|refine w4 (fun h=>?_) (fun h=>?_)|refine w5 _ rfl ?_|refine w6 rfl ?_|refine w7 mixed rfl ?_|simp only [Nat.beq_refl,Bool.and_self]|refine w6 (by first|omega|(simp; omega)|(refine w23 (m:=4294967296) ?_ (apLim_ge _); first|omega|(simp; omega))) ?_)
   conv=>whnf
   refine w15 (n:=4) (L':=seqB xs _ (i + 1)) ?_ (w21 4) rfl (seqB_bel (by decide) rfl) (.inl ⟨rfl,rfl,trivial⟩)
   unfold seqB
   rw [take_next hi,List.map_append]
   show [Blk.cells _,Blk.row (i + 1) 1 (((xs.take i).map fun x=>[I x]).take i ++ [[I xs[i]]]),Blk.defr,_] = _
   rw [List.take_of_length_le (l:=(xs.take i).map fun x=>[I x]) (by simp; omega)]; rfl
  ·intro _
   subst hblk
   repeat' ((conv=>whnf); first|refine w0 ?_|refine w1 ?_|refine w2 (fun h=>?_) (fun h=>?_)|refine w3 ?_|refine w4 (fun h=>?_) (fun h=>?_)|refine w5 _ rfl ?_|refine w6 rfl ?_|refine w7 mixed rfl ?_)
   conv=>whnf
   refine w16 (L':=[]) (.d (.rowL (w22 _) rfl ?_ (by simp) (by simp))) rfl rfl ⟨rfl,rfl⟩
   rw [List.length_map,List.take_length,List.drop_zero,List.take_of_length_le (by simp)]
   exact intR_rows xs
theorem collect_c (f : FuncId) (caps : List D) (xs : List Int) (hx : xs.length ≤ 4294967296) (hit : IterP C f caps (xs.map fun x=>[I x])) (h : k (.d (ints xs)) L) : CallP C 49 [.d (.fn f caps)] L k:=by
 refine CallP.pure ?_ rfl (fun _=>rfl) h
 clear h
 refine callP_of C_ok Tryz.func49 rfl rfl (n:=_) rfl (w18 rfl) (rs:=_) rfl ?_
 repeat' ((conv=>whnf); first|refine w0 ?_|refine w1 ?_|refine w2 (fun h=>?_) (fun h=>?_)|refine w3 ?_|refine w4 (fun h=>?_) (fun h=>?_)|refine w5 _ rfl ?_|refine w6 rfl ?_|refine w7 mixed rfl ?_|refine appendSeq_c f caps xs hx hit ?_)
 conv=>whnf
 exact FinP.drop (n:=0) rfl (w21 0) rfl rfl ⟨rfl,rfl⟩
end Go.Proofs.YtndlggbljkhfbaaGreat
namespace Go.Proofs.YtndlggbljkhfbaaGreat
open Go.Tidy
variable {L : List Blk} {k : V → List Blk → Prop}
theorem checkP_field {p : Pl} (h : checkP p = 0) : fieldOk p.clubs 2 = true:=by
 unfold checkP at h
 cases hf : fieldOk p.clubs 2 with
 | true=>rfl
 | false=>rw [hf] at h; cases h
theorem checkP_valid {p : Pl} (h : checkP p = 0) : ∀ d ∈ p.demands,validF p d = true:=by
 unfold checkP at h
 rw [if_pos (show fieldOk p.clubs 2 = true from checkP_field h)] at h
 split at h
 ·cases ha : p.demands.all (validF p) with
  | true=>exact List.all_eq_true.1 ha
  | false=>rw [ha] at h; cases h
 ·cases h
theorem valid_kind {p : Pl} {d : Dm} (h : validF p d = true) : 1 ≤ d.kind ∧ d.kind ≤ 10:=by
 unfold validF at h
 repeat' (split at h)
 all_goals first | (cases h; done) | omega
theorem doomGo_len (R : List Rnd) : ∀ (ds : List Dm) (i : Nat),(doomGo R ds i).length ≤ ds.length
 | [],_=>w21 _
 | d :: ds,i=>by
  unfold doomGo
  have:=doomGo_len R ds (i + 1)
  split
  ·simp only [List.length_cons]; omega
  ·simp only [List.length_cons]; omega
theorem doomL_len (R : List Rnd) (p : Pl) : (doomL R p).length ≤ p.demands.length:=by unfold doomL; rw [List.length_map]; exact doomGo_len R _ 0
def pR (l : List (List Mt)) (p : Pl) : List Rnd:=l.map (pRnd p)
def FullP (l : List (List Mt)) (p : Pl) : Prop:=PartP l p ∧ l.length = roundsN p ∧ ∀ r,l.getLast? = some r → halfN p ≤ r.length
instance (l : List (List Mt)) (p : Pl) : Decidable (FullP l p):=by
 unfold FullP
 cases l.getLast? with
 | none=>exact decidable_of_iff (PartP l p ∧ l.length = roundsN p) (by simp)
 | some r=>exact decidable_of_iff (PartP l p ∧ l.length = roundsN p ∧ halfN p ≤ r.length) (by simp)
def brkE (l : List (List Mt)) (p : Pl) : Int:=if checkP p = 0 then (if FullP l p then 0 else 300) else checkP p
def brkL (l : List (List Mt)) (p : Pl) : List Int:=if checkP p = 0 ∧ FullP l p then doomL (pR l p) p else []
abbrev brkV (l : List (List Mt)) (p : Pl) : V:=.tup [.d (ints (brkL l p)),I (brkE l p)]
structure Small (l : List (List Mt)) (p : Pl) : Prop where
 hl : l.length ≤ 1073741824
 hr : ∀ r ∈ l,r.length ≤ 4611686018427387904
 hc : p.clubs.length ≤ 4611686018427387904
 hd : ∀ d ∈ p.demands,d.clubs.length ≤ 4611686018427387904
 hD : p.demands.length ≤ 4294967296
theorem partial_t (l : List (List Mt)) (p : Pl) (hp : fieldOk p.clubs 2 = true) (hs : Small l p) (hP : PartP l p) (h : k (.tup [.d (rndsD (pR l p)),B true]) L) : CallP C 47 [lisV l,plV p] L k:=by
 refine partial_c l p hp hs.hl hs.hr ?_
 unfold pX; rw [if_pos hP,decide_eq_true hP]; exact h
theorem partial_f (l : List (List Mt)) (p : Pl) (hp : fieldOk p.clubs 2 = true) (hs : Small l p) (hP : ¬ PartP l p) (h : k (.tup [.d (rndsD []),B false]) L) : CallP C 47 [lisV l,plV p] L k:=by
 refine partial_c l p hp hs.hl hs.hr ?_
 unfold pX; rw [if_neg hP,decide_eq_false hP]; exact h
theorem pRnd_l {p : Pl} {r : List Mt} (h : r.length ≤ 4611686018427387904) : (pRnd p r).l = r:=by unfold pRnd; rw [dif_pos h]
theorem doomedIt (l : List (List Mt)) (p : Pl) (hs : Small l p) (h0 : checkP p = 0) : IterP C 107 [.rptr p.cells,.rptr [rndsD (pR l p)]] ((doomL (pR l p) p).map fun i=>[I i]) :=
 doomed1_it (pR l p) p (by unfold pR; rw [List.length_map]; exact hs.hl) (by have:=hs.hD; omega) hs.hd fun d hd=>valid_kind (checkP_valid h0 d hd)
theorem brk_c (l : List (List Mt)) (p : Pl) (hs : Small l p) (h : k (brkV l p) L) : CallP C 15 [lisV l,plV p] L k:=by
 have hD:=hs.hD
 refine CallP.pure ?_ rfl (fun _=>rfl) h
 clear h
 refine callP_of C_ok Tryz.func15 rfl rfl (n:=_) rfl (w18 rfl) (rs:=_) rfl ?_
 by_cases h0 : checkP p = 0
 ·have hf:=checkP_field h0
  have hlen : 1 ≤ p.clubs.length ∧ p.clubs.length ≤ 1000:=by simp only [fieldOk,Bool.and_eq_true,decide_eq_true_eq] at hf; omega
  have hr1 : 1 ≤ roundsN p:=by unfold roundsN; split <;> omega
  have hno : ¬ FullP l p → brkV l p = .tup [.d (.sl []),I 300]:=fun h=>by
   unfold brkV brkL brkE; rw [if_pos h0,if_neg h,if_neg (fun hh=>h hh.2)]; rfl
  have hyes : FullP l p → brkV l p = .tup [.d (ints (doomL (pR l p) p)),I 0]:=fun h=>by
   unfold brkV brkL brkE; rw [if_pos h0,if_pos h,if_pos ⟨h0,h⟩]
  by_cases hP : PartP l p
  ·have hlR : (pR l p).length = l.length:=List.length_map ..
   by_cases hl2 : l.length < roundsN p
   ·have hn:=hno fun hF=>by have:=hF.2.1; omega
    have hq : ((List.map Rnd.cells (pR l p)).length : Int) < (roundsN p : Int):=by rw [List.length_map,hlR]; omega
    repeat' ((conv=>whnf); first|refine w8 (w19 h0) ?_|refine w8 (w19 hq) ?_|refine check_c p hs.hc hs.hd (by omega) ?_|refine partial_t l p hf hs hP ?_|refine w12 _ (rounds_c p hlen ⟨rfl,rfl⟩) ?_|refine w0 ?_|refine w1 ?_|refine w2 (fun h=>?_) (fun h=>?_)|refine w3 ?_|refine w4 (fun h=>?_) (fun h=>?_)|refine w5 _ rfl ?_|refine w6 rfl ?_|refine w7 mixed rfl ?_)
    all_goals conv=>whnf
    exact FinP.data (L':=[]) (.pair (.d .nil) (.d (.d _))) rfl rfl ⟨rfl,hn.symm⟩
   ·have hq : ¬ ((List.map Rnd.cells (pR l p)).length : Int) < (roundsN p : Int):=by rw [List.length_map,hlR]; omega
    have hle:=hP.1
    have hlt : l.length - 1 < (pR l p).length:=by rw [hlR]; omega
    have hla : l[l.length - 1]'(by omega) ∈ l:=List.getElem_mem _
    have hll : ((pR l p)[l.length - 1]'hlt).l = l[l.length - 1]'(by omega):=by
     have e : (pR l p)[l.length - 1]'hlt = pRnd p (l[l.length - 1]'(by omega)):=List.getElem_map ..
     rw [e]; exact pRnd_l (hs.hr _ hla)
    have hl4:=hs.hl
    have hgl : l.getLast? = some (l[l.length - 1]'(by omega)):=by rw [List.getLast?_eq_getElem?,List.getElem?_eq_getElem (by omega)]
    have hhe:=half_e p hlen.2
    have hhe' : ((p.clubs.map fun c=>[DI c]).length : Int).tdiv 2 = (halfN p : Int):=by rw [List.length_map]; exact (Int.ofNat_tdiv _ _).symm
    repeat' ((conv=>whnf); first|refine w8 (w19 h0) ?_|refine w9 (w20 hq) ?_|refine w6 (show (2 : Int) ≠ 0 by decide) ?_|refine check_c p hs.hc hs.hd (by omega) ?_|refine partial_t l p hf hs hP ?_|refine w12 _ (rounds_c p hlen ⟨rfl,rfl⟩) ?_|refine w11 (l.length - 1) (by rw [List.length_map,hlR,wrap_in] <;> omega) hlt ?_|refine w0 ?_|refine w1 ?_|refine w2 (fun h=>?_) (fun h=>?_)|refine w3 ?_|refine w4 (fun h=>?_) (fun h=>?_)|refine w5 _ rfl ?_|refine w6 rfl ?_|refine w7 mixed rfl ?_)
    all_goals conv=>whnf
    ·have hn:=hno fun hF=>by
      have:=hF.2.2 _ hgl
      rw [hhe,List.length_map,hll] at h; omega
     exact FinP.data (L':=[]) (.pair (.d .nil) (.d (.d _))) rfl rfl ⟨rfl,hn.symm⟩
    ·have hF : FullP l p:=⟨hP,by omega,fun r hr=>by
      rw [hgl] at hr; cases hr
      rw [hhe,List.length_map,hll] at h; omega⟩
     have hy:=hyes hF
     have hdl:=doomL_len (pR l p) p
     repeat' ((conv=>whnf); first|refine doomed_c (pR l p) p ?_|refine w12 _ (doomed_c (pR l p) p ⟨rfl,rfl⟩) ?_|refine collect_c _ _ _ (by omega) (doomedIt l p hs h0) ?_|refine w0 ?_|refine w1 ?_|refine w2 (fun h=>?_) (fun h=>?_)|refine w3 ?_|refine w4 (fun h=>?_) (fun h=>?_)|refine w5 _ rfl ?_|refine w6 rfl ?_|refine w7 mixed rfl ?_)
     conv=>whnf
     exact FinP.data (L':=[]) (.pair (.d (.d _)) (.d (.d _))) rfl rfl ⟨rfl,hy.symm⟩
  ·have hn:=hno fun h=>hP h.1
   repeat' ((conv=>whnf); first|refine w8 (w19 h0) ?_|refine check_c p hs.hc hs.hd (by omega) ?_|refine partial_f l p hf hs hP ?_|refine w0 ?_|refine w1 ?_|refine w2 (fun h=>?_) (fun h=>?_)|refine w3 ?_|refine w4 (fun h=>?_) (fun h=>?_)|refine w5 _ rfl ?_|refine w6 rfl ?_|refine w7 mixed rfl ?_)
   conv=>whnf
   exact FinP.data (L':=[]) (.pair (.d .nil) (.d (.d _))) rfl rfl ⟨rfl,hn.symm⟩
 ·repeat' (conv => whnf
           first|refine w9 (w20 h0) ?_|refine check_c p hs.hc hs.hd (by omega) ?_|refine w0 ?_|refine w1 ?_|refine w2 (fun h=>?_) (fun h=>?_)|refine w3 ?_|refine w4 (fun h=>?_) (fun h=>?_)|refine w5 _ rfl ?_|refine w6 rfl ?_|refine w7 mixed rfl ?_)
  conv=>whnf
  refine w16 (L':=[]) (.pair (.d .nil) (.d (.d _))) rfl rfl ⟨rfl,?_⟩
  unfold brkV brkL brkE; rw [if_neg h0,if_neg (fun hh=>h0 hh.1)]; rfl
def dmE (l : List (List Mt)) (p : Pl) : Int:=if checkP p = 0 then (if PartP l p then 0 else 300) else checkP p
def dmA (l : List (List Mt)) (p : Pl) : Int:=if checkP p = 0 ∧ PartP l p then (doomL (pR l p) p).headD (-1) else 0
abbrev dmdV (l : List (List Mt)) (p : Pl) : V:=.tup [I (dmA l p),I (dmE l p)]
def dmM (l : List (List Mt)) (p : Pl) (a e : Int) (blk : Blk) : List Blk:=[.cells [.d (lisD l)],.cells (p.cells.map .d),.cells [I a],.cells [I e],.defr,blk]
theorem dmM_bel {n : Nat} {l : List (List Mt)} {p : Pl} {a e : Int} {blk : Blk} (hb : blk.bel n = true) : belB n (dmM l p a e blk) = true:=by
 show (true && (V.belL n (p.cells.map .d) && (true && (true && (true && (blk.bel n && true)))))) = true
 rw [hb,V.belL_d]; rfl
theorem headD_get : ∀ {l : List Int} (h : 0 < l.length) (d : Int),l.headD d = l[0]
 | _ :: _,_,_=>rfl
theorem dmd_c (l : List (List Mt)) (p : Pl) (hs : Small l p) (h : k (dmdV l p) L) : CallP C 43 [lisV l,plV p] L k:=by
 have hD:=hs.hD
 refine CallP.pure ?_ rfl (fun _=>rfl) h
 clear h
 refine callP_of C_ok Tryz.func43 rfl rfl (n:=_) rfl (w18 rfl) (rs:=_) rfl ?_
 by_cases h0 : checkP p = 0
 ·have hf:=checkP_field h0
  have hlen : 1 ≤ p.clubs.length ∧ p.clubs.length ≤ 1000:=by simp only [fieldOk,Bool.and_eq_true,decide_eq_true_eq] at hf; omega
  by_cases hP : PartP l p
  ·have hy : dmdV l p = .tup [I ((doomL (pR l p) p).headD (-1)),I 0]:=by unfold dmdV dmA dmE; rw [if_pos h0,if_pos hP,if_pos ⟨h0,hP⟩]
   repeat' ((conv=>whnf); first|refine w8 (w19 h0) ?_|refine check_c p hs.hc hs.hd (by omega) ?_|refine partial_t l p hf hs hP ?_|refine doomed_c (pR l p) p ?_|refine w12 _ (doomed_c (pR l p) p ⟨rfl,rfl⟩) ?_|refine w0 ?_|refine w1 ?_|refine w2 (fun h=>?_) (fun h=>?_)|refine w3 ?_|refine w4 (fun h=>?_) (fun h=>?_)|refine w5 _ rfl ?_|refine w6 rfl ?_|refine w7 mixed rfl ?_)
   conv=>whnf
   refine CallP.conv (args':=.yld 5 :: [D.rptr p.cells,.rptr [rndsD (pR l p)]].map .d) (L':=dmM l p 0 (checkP p) (.loop _)) rfl rfl ?_
   generalize hblk : Blk.loop _ = blk
   have hb6 : blk.bel 6 = true:=by rw [← hblk]; rfl
   refine doomedIt l p hs h0 5 6 (fun i=>i = 0) (fun i=>dmM l p 0 (checkP p) blk) _ (fun _=>rfl) (fun _=>dmM_bel hb6) (fun _=>by subst hblk; rfl) (by decide) ?_ ?_ rfl
   ·rintro i hi rfl
    rw [List.length_map] at hi
    rw [List.getElem_map]
    have hhd : (doomL (pR l p) p).headD (-1) = (doomL (pR l p) p)[0]:=headD_get hi _
    rw [hhd] at hy
    subst hblk
    refine YieldP.round C_ok (fun _=>false) ?_
    repeat' ((conv=>whnf); first|refine w0 ?_|refine w1 ?_|refine w2 (fun h=>?_) (fun h=>?_)|refine w3 ?_|refine w4 (fun h=>?_) (fun h=>?_)|refine w5 _ rfl ?_|refine w6 rfl ?_|refine w7 mixed rfl ?_)
    conv=>whnf
    refine w15 (n:=6) (L':=dmM l p (doomL (pR l p) p)[0] 0 _) rfl (w21 6) rfl (dmM_bel rfl) (.inr ⟨rfl,rfl,dmM_bel rfl,?_⟩)
    repeat' ((conv=>whnf); first|refine w0 ?_|refine w1 ?_|refine w2 (fun h=>?_) (fun h=>?_)|refine w3 ?_|refine w4 (fun h=>?_) (fun h=>?_)|refine w5 _ rfl ?_|refine w6 rfl ?_|refine w7 mixed rfl ?_)
    conv=>whnf
    exact FinP.data (L':=[]) (.pair (.d (.d _)) (.d (.d _))) rfl rfl ⟨rfl,hy.symm⟩
   ·intro hz
    have hnil : doomL (pR l p) p = []:=List.eq_nil_of_length_eq_zero (by rw [List.length_map] at hz; exact hz)
    rw [hnil] at hy
    subst hblk
    repeat' ((conv=>whnf); first|refine w0 ?_|refine w1 ?_|refine w2 (fun h=>?_) (fun h=>?_)|refine w3 ?_|refine w4 (fun h=>?_) (fun h=>?_)|refine w5 _ rfl ?_|refine w6 rfl ?_|refine w7 mixed rfl ?_)
    conv=>whnf
    exact FinP.data (L':=[]) (.pair (.d (.d _)) (.d (.d _))) rfl rfl ⟨rfl,hy.symm⟩
  ·have hn : dmdV l p = .tup [I 0,I 300]:=by unfold dmdV dmA dmE; rw [if_pos h0,if_neg hP,if_neg (fun hh=>hP hh.2)]
   repeat' ((conv=>whnf); first|refine w8 (w19 h0) ?_|refine check_c p hs.hc hs.hd (by omega) ?_|refine partial_f l p hf hs hP ?_|refine w0 ?_|refine w1 ?_|refine w2 (fun h=>?_) (fun h=>?_)|refine w3 ?_|refine w4 (fun h=>?_) (fun h=>?_)|refine w5 _ rfl ?_|refine w6 rfl ?_|refine w7 mixed rfl ?_)
   conv=>whnf
   exact FinP.data (L':=[]) (.pair (.d (.d _)) (.d (.d _))) rfl rfl ⟨rfl,hn.symm⟩
 ·repeat' (conv => whnf
           first|refine w9 (w20 h0) ?_|refine check_c p hs.hc hs.hd (by omega) ?_|refine w0 ?_|refine w1 ?_|refine w2 (fun h=>?_) (fun h=>?_)|refine w3 ?_|refine w4 (fun h=>?_) (fun h=>?_)|refine w5 _ rfl ?_|refine w6 rfl ?_|refine w7 mixed rfl ?_)
  conv=>whnf
  refine DrawP.por mixed [0] [[(0,2),(1,0),(2,0)],[(1,0),(0,2),(2,0)]] (by kernel_rfl) ?_
  conv=>whnf
  refine And.intro ?_ ?_
  all_goals
   repeat' ((conv=>whnf); first|refine w0 ?_|refine w1 ?_|refine w2 (fun h=>?_) (fun h=>?_)|refine w3 ?_|refine w4 (fun h=>?_) (fun h=>?_)|refine w5 _ rfl ?_|refine w6 rfl ?_|refine w7 mixed rfl ?_|refine w13 (I (checkP p)) _ ⟨rfl,rfl⟩ ?_)
  all_goals conv=>whnf
  all_goals refine w16 (L':=[]) (.pair (.d (.d _)) (.d (.d _))) rfl rfl ⟨rfl,?_⟩
  all_goals (unfold dmdV dmA dmE; rw [if_neg h0,if_neg (fun hh=>h0 hh.1)])
end Go.Proofs.YtndlggbljkhfbaaGreat
namespace Go.Proofs.YtndlggbljkhfbaaGreat
open Go.Tidy
variable {L : List Blk} {k : V → List Blk → Prop}
def playsM (m : Mt) (c : Int) : Bool:=decide (m.home = c) || decide (m.away = c)
def betwM (m : Mt) (a b : Int) : Bool:=(decide (m.home = a) && decide (m.away = b)) || (decide (m.home = b) && decide (m.away = a))
def busyB (r : List Mt) (c : Int) : Bool:=r.any fun m=>playsM m c
def OkR (cl : List Int) (r : List Mt) (i : Nat) (hi : i < r.length) : Prop :=
 r[i].home ≠ r[i].away ∧ r[i].home ∈ cl ∧ r[i].away ∈ cl ∧ (0 < i → firstM (r[i - 1]'(by omega)) < firstM r[i]) ∧ ∀ (j : Nat) (hj : j < r.length),j < i → playsM r[j] r[i].home = false ∧ playsM r[j] r[i].away = false
def leftR (cl : List Int) (r : List Mt) : Nat:=cl.countP fun c=>decide (c < lastM r) && !busyB r c
def RndR (cl : List Int) (r : List Mt) : Prop:=(∀ (i : Nat) (hi : i < r.length),OkR cl r i hi) ∧ r ≠ [] ∧ leftR cl r ≤ cl.length % 2
instance (cl : List Int) (r : List Mt) (i : Nat) (hi : i < r.length) : Decidable (OkR cl r i hi):=by unfold OkR; infer_instance
instance (cl : List Int) (r : List Mt) : Decidable (RndR cl r):=by unfold RndR; infer_instance
end Go.Proofs.YtndlggbljkhfbaaGreat
namespace Go.Proofs.YtndlggbljkhfbaaGreat
open Go.Tidy
variable {L : List Blk} {k : V → List Blk → Prop}
def mR (F : List Mt) : List (List V):=F.map fun m=>m.cells.map .d
def PairR (p : Pl) (a b : Mt) : Prop:=a ≠ b ∧ (p.double = false → betwM a b.home b.away = false)
instance (p : Pl) (a b : Mt) : Decidable (PairR p a b):=by unfold PairR; infer_instance
def RowR (l : List (List Mt)) (p : Pl) (i : Nat) (hi : i < l.length) : Prop:=RndR p.clubs l[i] ∧ (i + 1 < l.length → l[i].length = halfN p)
instance (l : List (List Mt)) (p : Pl) (i : Nat) (hi : i < l.length) : Decidable (RowR l p i hi):=by unfold RowR; infer_instance
def PartR (l : List (List Mt)) (p : Pl) : Prop:=l.length ≤ roundsN p ∧ (∀ (i : Nat) (hi : i < l.length),RowR l p i hi) ∧
 ∀ (i : Nat) (hi : i < l.flatten.length),∀ (j : Nat) (hj : j < i),PairR p l.flatten[i] (l.flatten[j]'(by omega))
instance (l : List (List Mt)) (p : Pl) : Decidable (PartR l p):=by unfold PartR; infer_instance
theorem mR_bel (n : Nat) : ∀ F : List Mt,belR n (mR F) = true
 | []=>rfl
 | m :: F=>by simp only [mR,List.map_cons,belR,V.belL_d,Bool.true_and]; exact mR_bel n F
theorem mR_get {F : List Mt} {i : Nat} (h : i < F.length) : (mR F)[0 + i]? = some (F[i].cells.map .d):=by
 rw [Nat.zero_add,mR,List.getElem?_map,List.getElem?_eq_getElem h]; rfl
def FullR (l : List (List Mt)) (p : Pl) : Prop:=PartR l p ∧ l.length = roundsN p ∧ ∀ r,l.getLast? = some r → r.length = halfN p
instance (l : List (List Mt)) (p : Pl) : Decidable (FullR l p):=by
 unfold FullR
 cases l.getLast? with
 | none=>exact decidable_of_iff (PartR l p ∧ l.length = roundsN p) (by simp)
 | some r=>exact decidable_of_iff (PartR l p ∧ l.length = roundsN p ∧ r.length = halfN p) (by simp)
end Go.Proofs.YtndlggbljkhfbaaGreat
namespace Go.Proofs.YtndlggbljkhfbaaGreat
open Go.Tidy
variable {L : List Blk} {k : V → List Blk → Prop}
structure VR where
 l : List Mt
 full : Bool
 free : Int
abbrev Vw:=List VR
def Vw.cells (v : Vw) : List D:=[.sl (v.map fun r=>[mts r.l]),.sl (v.map fun r=>[.bool r.full]),.sl (v.map fun r=>[DI r.free])]
def VR.kn (r : VR) (c : Int) : Bool:=r.full || decide (c < r.free)
def vState (v : Vw) (i c : Int) : Int:=if h : 0 ≤ i ∧ i < v.length then stateF (v[i.toNat]'(by omega)).l (v[i.toNat]'(by omega)).kn c else 2
def vMeet (v : Vw) (i a b : Int) : Bool:=if h : 0 ≤ i ∧ i < v.length then (v[i.toNat]'(by omega)).l.any fun m=>betwM m a b else false
def vHome (v : Vw) (i : Int) (cl : List Int) : Nat:=cl.countP fun c=>decide (vState v i c = 1)
structure DS where
 (sum last breaks met : Int) (known : Bool)
def dKnown (d : Dm) (v : Vw) (i : Nat) (s : DS) : DS:={ s with known:=s.known && !decide (vState v i d.club = 2) }
def dKind (d : Dm) (v : Vw) (i : Nat) (s : DS) : Option DS :=
 if d.kind = 6 then (if 1 < (vHome v i d.clubs : Int) then none else some s)
 else if d.kind = 7 then (if d.n < (vHome v i d.clubs : Int) then none else some s)
 else if d.kind = 8 then (if vMeet v i d.club d.other then (if 0 ≤ s.met ∧ (i : Int) - s.met < d.n then none else some { s with met:=i }) else some s)
 else if d.kind = 9 then (if vState v i d.club = 1 ∨ vState v i d.club = -1 then some { s with breaks:=if vState v i d.club = s.last then s.breaks + 1 else s.breaks,last:=vState v i d.club } else some s)
 else if d.kind = 10 then (if s.known then (if d.n < s.sum + vState v i d.club ∨ d.n < -(s.sum + vState v i d.club) then none else some { s with sum:=s.sum + vState v i d.club }) else some s)
 else some s
def dGo (d : Dm) (v : Vw) : Nat → Nat → DS → Bool
 | 0,_,s=>decide (d.kind = 9) && decide (d.n < s.breaks)
 | f + 1,i,s=>match dKind d v i (dKnown d v i s) with
  | none=>true
  | some s'=>dGo d v f (i + 1) s'
def ds0 : DS:=⟨0,0,0,-1,true⟩
def vDooms (v : Vw) (d : Dm) : Bool :=
 let s:=vState v d.round d.club
 if d.kind = 1 then !decide (s = 2) && !decide (s = 1) else if d.kind = 2 then !decide (s = 2) && !decide (s = -1) else if d.kind = 3 then !decide (s = 2) && !decide (s = 0)
 else if d.kind = 4 then !vMeet v d.round d.club d.other && (!decide (s = 2) || !decide (vState v d.round d.other = 2)) else if d.kind = 5 then vMeet v d.round d.club d.other
 else dGo d v v.length 0 ds0
structure DB (v : Vw) (d : Dm) (i : Nat) (s : DS) : Prop where
 sum : -2 * (i : Int) ≤ s.sum ∧ s.sum ≤ 2 * i
 brk : 0 ≤ s.breaks ∧ s.breaks ≤ i
 met : -1 ≤ s.met ∧ s.met ≤ i
 last : -2 ≤ s.last ∧ s.last ≤ 2
 eq : dGo d v (v.length - i) i s = dGo d v v.length 0 ds0
end Go.Proofs.YtndlggbljkhfbaaGreat
namespace Go.Proofs.YtndlggbljkhfbaaGreat
open Go.Tidy
variable {L : List Blk} {k : V → List Blk → Prop}
def seenR (p : Pl) (r : List Mt) : VR:=⟨r,decide (r.length = halfN p),lastM r⟩
def seenV (l : List (List Mt)) (p : Pl) : Vw:=l.map (seenR p)
structure SmallR (l : List (List Mt)) (p : Pl) : Prop extends Small l p where
 hF : l.flatten.length ≤ 4294967296
end Go.Proofs.YtndlggbljkhfbaaGreat
namespace Go.Proofs.YtndlggbljkhfbaaGreat
open Go.Tidy
variable {L : List Blk} {k : V → List Blk → Prop}
structure Fits (l : List (List Mt)) (p : Pl) : Prop where
 hl : l.length ≤ 140737488355328
 hr : ∀ r ∈ l,r.length ≤ 140737488355328
 hc : p.clubs.length ≤ 140737488355328
 hd : ∀ d ∈ p.demands,d.clubs.length ≤ 140737488355328
 hD : p.demands.length ≤ 140737488355328
def hV (l : List (List Mt)) : Vw:=l.map fun r=>⟨r,true,0⟩
end Go.Proofs.YtndlggbljkhfbaaGreat
namespace Go.Proofs.YtndlggbljkhfbaaGreat
open Go.Tidy
variable {L : List Blk} {k : V → List Blk → Prop}
def x0 : Pl:=⟨[],false,[]⟩
def d0 : Dm:=⟨0,0,0,0,0,[]⟩
def l2 : List (List Mt):=[[⟨2,1⟩]]
theorem brk_e {l : List (List Mt)} {p : Pl} {r : List Int} {e : Int} (hs : Small l p) (hr : brkL l p = r) (he : brkE l p = e) (h : k (.tup [.d (ints r),I e]) L) : CallP C 15 [lisV l,plV p] L k:=brk_c l p hs (by rw [← hr,← he] at h; exact h)
theorem len1 {l : List (List D)} (h : l.all (fun e=>decide (e.length = 1)) = true) : ∀ e ∈ l,e.length = 1:=fun e he=>by simpa using List.all_eq_true.1 h e he
end Go.Proofs.YtndlggbljkhfbaaGreat
namespace Go.Tidy
def slW : Nat:=1
theorem slW_pos : 1 ≤ slW:=by decide
inductive Dsm (n : Nat) : D → Prop
 | bool (b : Bool) : Dsm n (.bool b)
 | int (k : IntKind) (v : Int) : Dsm n (.int k v)
 | str (s : ByteArray) (h : s.size ≤ n) : Dsm n (.str s)
 | sl (els : List (List D)) (h : els.length * slW ≤ n) (he : ∀ e ∈ els,∀ x ∈ e,Dsm n x) : Dsm n (.sl els)
theorem Dsm.slI {n : Nat} {els : List (List D)} (h : Dsm n (.sl els)) : els.length ≤ n ∧ ∀ e ∈ els,∀ x ∈ e,Dsm n x:=by cases h with | sl _ h he=>exact ⟨w23 (Nat.le_mul_of_pos_right _ slW_pos) h,he⟩
def bytesB (P : Program) (l : List TypeId) : Bool:=l.all fun t=>match P.underlying t with
 | some (.slice e)=>Nat.ble slW (P.bytesOf e)
 | _=>true
section
variable {H : Type} {enc : TypeId × Value → H} {P : Program} {w : World} {T : TypeId → Prop}
theorem weightsAll_mem {e : TypeId} : ∀ {l : List (DataW H)} {d : DataW H} {m : Nat},d ∈ l → m ∈ d.weights P e → m ∈ DataW.weightsAll P e l
 | x :: l,d,m,hd,hm=>by
  simp only [DataW.weightsAll,List.mem_append]
  rcases List.mem_cons.1 hd with rfl | hd
  ·exact .inl hm
  ·exact .inr (weightsAll_mem hd hm)
theorem fields_rdB (cs : List Value) : ∀ (fl : List Field) (o : Nat),(∀ (j : Nat) f,fl[j]? = some f → f.offset = o + ((fl.take j).map fun f=>P.cellsOf f.type).sum) → (cs.drop o).length = (fl.map fun f=>P.cellsOf f.type).sum →
  (∀ f ∈ fl,∃ ys,RDL w ys ((cs.drop f.offset).take (P.cellsOf f.type)) ∧ TyI P f.type ys ∧ ∀ y ∈ ys,Dsm reachBytes y) →
  ∃ xs,RDL w xs (cs.drop o) ∧ (∀ f ∈ fl,o ≤ f.offset ∧ TyI P f.type ((xs.drop (f.offset - o)).take (P.cellsOf f.type))) ∧ ∀ y ∈ xs,Dsm reachBytes y
 | [],o,_,hl,_=>by
  have : cs.drop o = []:=List.eq_nil_of_length_eq_zero (by simpa using hl)
  rw [this]
  exact ⟨[],⟨rfl,fun j x v hx=>by simp at hx⟩,fun f hf=>(by simp at hf),fun y hy=>by simp at hy⟩
 | f :: fl,o,ho,hl,hf=>by
  have h0 : f.offset = o:=by simpa using ho 0 f rfl
  obtain ⟨ys,hy1,hy2,hy3⟩:=hf f (by simp)
  simp only [List.map_cons,List.sum_cons] at hl
  have hlen : ((cs.drop o).take (P.cellsOf f.type)).length = P.cellsOf f.type:=by rw [List.length_take]; omega
  rw [h0] at hy1
  have hyl : ys.length = P.cellsOf f.type:=hy1.1.trans hlen
  obtain ⟨xs,hx1,hx2,hx3⟩:=fields_rdB cs fl (o + P.cellsOf f.type) (fun j g hg=>by
   have:=ho (j + 1) g (by simpa using hg)
   simp only [List.take_succ_cons,List.map_cons,List.sum_cons] at this
   omega) (by
   rw [← List.drop_drop,List.length_drop]; omega) (fun g hg=>hf g (by simp [hg]))
  have hcs : cs.drop o = (cs.drop o).take (P.cellsOf f.type) ++ cs.drop (o + P.cellsOf f.type):=by
   rw [← List.drop_drop,List.take_append_drop]
  refine ⟨ys ++ xs,by rw [hcs]; exact hy1.append hx1,fun g hg=>?_,fun y hy=>(List.mem_append.1 hy).elim (hy3 y) (hx3 y)⟩
  rcases List.mem_cons.1 hg with rfl | hg
  ·refine ⟨by omega,?_⟩
   rw [h0,Nat.sub_self,List.drop_zero,List.take_append_of_le_length (by omega),List.take_of_length_le (by omega)]
   exact hy2
  ·obtain ⟨h1,h2⟩:=hx2 g hg
   refine ⟨by omega,?_⟩
   rw [List.drop_append,List.drop_eq_nil_of_le (by omega),List.nil_append,hyl,show g.offset - o - P.cellsOf f.type = g.offset - (o + P.cellsOf f.type) by omega]
   exact h2
theorem trod_rdB (K : Kids P (· < P.types.size)) {l : List TypeId} (hp : plainB P l = true) (hby : bytesB P l = true) (hl : ∀ t ∈ l,t < P.types.size) : ∀ (n : Nat) (t : TypeId) (cs : List Value) (x : DataW H × List MemPlace),t ∈ l →
  DataW.trod enc P w 0 (fun _=>true) true n t cs = some x → (∀ m ∈ x.1.weights P t,m ≤ reachBytes) → ∃ xs,RDL w xs cs ∧ TyI P t xs ∧ ∀ y ∈ xs,Dsm reachBytes y:=by
 intro n
 induction n with
 | zero=>intro t cs x _ h _; simp [DataW.trod] at h
 | succ n ih =>
  intro t cs x ht h hz
  have hpt:=hp
  unfold plainB at hpt
  rw [List.all_eq_true] at hpt
  have hpt:=hpt t ht
  cases hu : P.underlying t with
  | none=>rw [hu] at hpt; cases hpt
  | some d =>
   rw [hu] at hpt
   cases d
   all_goals first | (cases hpt; done) | skip
   case bool =>
    obtain ⟨b,rfl,_⟩:=DataW.trod_bool hu h
    exact ⟨[.bool b],RDL.one (.bool b),.bool hu b,fun y hy=>by rw [List.mem_singleton.1 hy]; exact .bool b⟩
   case int k =>
    obtain ⟨v,rfl,_,hw⟩:=DataW.trod_int hu h
    exact ⟨[.int k v],RDL.one (.int k v),.int hu v hw,fun y hy=>by rw [List.mem_singleton.1 hy]; exact .int k v⟩
   case string =>
    obtain ⟨s,rfl,rfl,hs⟩:=DataW.trod_string hu h
    exact ⟨[.str s],RDL.one (.str s),.str hu s hs,fun y hy=>by rw [List.mem_singleton.1 hy]; exact .str s (by have:=hz s.data.toList.length (by simp [DataW.weights]); simpa using this)⟩
   case slice e =>
    simp only [Bool.and_eq_true,List.contains_iff_mem,Nat.blt_eq] at hpt
    rcases DataW.trod_slice hu h with ⟨rfl,_⟩ | ⟨a,len,cap,elems,rest,m,hm,rfl,rfl,_,hlc,hcm,hlen,hel,_,_⟩
    ·exact ⟨[.sl []],RDL.one (.slNil _ _),.sl hu [] (Nat.zero_le _) (fun y hy=>by simp at hy) (fun y hy=>by simp at hy),fun y hy=>by rw [List.mem_singleton.1 hy]; exact .sl [] (by simp) (fun e he=>by simp at he)⟩
    ·obtain rfl : n = m:=by omega
     have hb1 : slW ≤ P.bytesOf e:=by
      have:=List.all_eq_true.1 hby t ht
      rw [hu] at this; exact Nat.le_of_ble_eq_true this
     have hzl : elems.length * slW ≤ reachBytes:=by
      have:=hz ((elems.length + rest.length) * P.bytesOf e) (by simp [DataW.weights,hu])
      exact Nat.le_trans (w23 (Nat.mul_le_mul_left _ hb1) (Nat.mul_le_mul_right _ (Nat.le_add_right _ _))) this
     have hze : ∀ i (hi : i < elems.length),∀ m ∈ (elems[i]).1.weights P e,m ≤ reachBytes:=fun i hi m hm=>hz m (by
      simp only [DataW.weights,hu,List.mem_cons,List.mem_append]
      exact .inr (.inl (weightsAll_mem (List.mem_map_of_mem (f:=(·.1)) (List.getElem_mem hi)) hm)))
     have each : ∀ i,i < len → ∃ (cs : Nat → Value) (ys : List D),(∀ j,j < P.cellsOf e → w.cell? ((a.add (i * P.cellsOf e)).add j) = some (cs j)) ∧ ys.length = P.cellsOf e ∧ (∀ (j : Nat) (x : D),ys[j]? = some x → RD (· < w.heap.size) w x (cs j)) ∧ TyI P e ys ∧ ∀ y ∈ ys,Dsm reachBytes y:=by
      intro i hi
      have h1:=hel i hi
      have h2 : elems[i]? = some elems[i]:=List.getElem?_eq_getElem (by omega)
      rw [h2] at h1
      rw [Option.bind_eq_some_iff] at h1
      obtain ⟨vs,h3,h4⟩:=h1
      obtain ⟨ys,h5,h6,h6b⟩:=ih e vs _ hpt.1 h4 (hze i (by omega))
      unfold World.cells? at h3
      rw [if_pos (Nat.zero_le _)] at h3
      obtain ⟨h7,h8⟩:=mapM_range h3
      refine ⟨fun j=>vs[j]?.getD default,ys,fun j hj=>?_,by rw [h5.1]; exact h7,fun j x hx=>?_,h6,h6b⟩
      ·rw [h8 j hj]; simp [List.getElem?_eq_getElem (show j < vs.length by omega)]
      ·have hj : j < vs.length:=by have:=lt_of_get hx; rw [h5.1] at this; exact this
       simp only [List.getElem?_eq_getElem hj,Option.getD_some]
       exact h5.2 j x _ hx (List.getElem?_eq_getElem hj)
     have hch : ∃ (f : Nat → Nat → Value) (g : Nat → List D),∀ i,i < len → (∀ j,j < P.cellsOf e → w.cell? ((a.add (i * P.cellsOf e)).add j) = some (f i j)) ∧ (g i).length = P.cellsOf e ∧ (∀ (j : Nat) (x : D),(g i)[j]? = some x → RD (· < w.heap.size) w x (f i j)) ∧ TyI P e (g i) ∧ ∀ y ∈ g i,Dsm reachBytes y:=by
      refine ⟨fun i=>if h : i < len then Classical.choose (each i h) else fun _=>default,fun i=>if h : i < len then Classical.choose (Classical.choose_spec (each i h)) else [],fun i hi=>?_⟩
      simp only [hi,dif_pos]
      exact Classical.choose_spec (Classical.choose_spec (each i hi))
     obtain ⟨f,g,hfg⟩:=hch
     have hels : ∀ y ∈ (List.range len).map g,∃ i,i < len ∧ y = g i:=fun y hy=>by
      obtain ⟨i,hi,rfl⟩:=List.mem_map.1 hy
      exact ⟨i,by simpa using hi,rfl⟩
     have hsz : ∀ y ∈ (List.range len).map g,y.length = P.cellsOf e:=fun y hy=>by obtain ⟨i,hi,rfl⟩:=hels y hy; exact (hfg i hi).2.1
     refine ⟨[.sl ((List.range len).map g)],RDL.one ?_,.sl hu _ (by simp; omega) hsz (fun y hy=>by obtain ⟨i,hi,rfl⟩:=hels y hy; exact (hfg i hi).2.2.2.1),fun y hy=>by
      rw [List.mem_singleton.1 hy]
      exact .sl _ (by rw [List.length_map,List.length_range,← hlen]; exact hzl) fun e he z hz=>by obtain ⟨i,hi,rfl⟩:=hels e he; exact (hfg i hi).2.2.2.2 z hz⟩
     by_cases h0 : len = 0
     ·subst h0; exact .slNil _ _
     ·have hadd : ∀ i j,(a.add (i * P.cellsOf e)).add j = a.add (i * P.cellsOf e + j):=fun i j=>Addr.add_add _ _ _
      have:=RD.sl (I:=(· < w.heap.size)) (w:=w) ((List.range len).map g) a cap (P.cellsOf e) f hsz (fun i j hi hj=>by
       rw [← hadd]; exact (hfg i (by simpa using hi)).1 j hj) (by
       have h1:=(hfg 0 (by omega)).1 0 hpt.2
       have:=cell_lt h1
       rwa [block_add,block_add] at this) (by simpa using hlc) (fun i j x hx=>by
       rw [List.getElem?_map] at hx
       cases hr : (List.range len)[i]? with
       | none=>rw [hr] at hx; cases hx
       | some i' =>
        have hi : i < len:=by have:=lt_of_get hr; simpa using this
        rw [List.getElem?_range hi] at hr
        cases hr
        rw [List.getElem?_range hi] at hx
        exact (hfg i hi).2.2.1 j x hx)
      simpa using this
   case struct fs =>
    obtain ⟨xs,m,hm,rfl,hlen,hxl,hfl⟩:=DataW.trod_struct hu h
    obtain rfl : n = m:=by omega
    simp only [List.all_eq_true,List.contains_iff_mem] at hpt
    obtain ⟨_,hk2,hk3⟩:=K.struct (hl t ht) hu
    have hzf : ∀ (i : Nat) (f : Field) (hi : i < xs.length),fs.toList[i]? = some f → ∀ m ∈ (xs[i]).1.weights P f.type,m ≤ reachBytes:=fun i f hi hf m hm=>hz m (by
     simp only [DataW.weights,hu]
     exact DataW.weights_mem_each (j:=i) (by rw [List.getElem?_map,hf]; rfl) (by rw [List.getElem?_map,List.getElem?_eq_getElem hi]; rfl) m hm)
    have each : ∀ f ∈ fs.toList,∃ ys,RDL w ys ((cs.drop f.offset).take (P.cellsOf f.type)) ∧ TyI P f.type ys ∧ ∀ y ∈ ys,Dsm reachBytes y:=fun f hf=>by
     obtain ⟨i,hi⟩:=List.mem_iff_getElem?.1 hf
     have hi' : fs[i]? = some f:=by simpa using hi
     have hlt : i < xs.length:=by rw [hxl]; exact (Array.getElem?_eq_some_iff.1 hi').1
     have:=hfl i f hi'
     rw [List.getElem?_eq_getElem hlt] at this
     exact ih f.type _ _ (hpt f hf) this (hzf i f hlt hi)
    obtain ⟨ys,h1,h2,h3⟩:=fields_rdB (P:=P) (w:=w) cs fs.toList 0 (fun j f hf=>by rw [Nat.zero_add]; exact hk3 j f hf) (by rw [List.drop_zero,hlen,hk2]) each
    rw [List.drop_zero] at h1
    exact ⟨ys,h1,.struct hu ys (h1.1.trans hlen) fun f hf=>by simpa using (h2 f hf).2,h3⟩
theorem args_rdB (K : Kids P (· < P.types.size)) {l : List TypeId} (hp : plainB P l = true) (hby : bytesB P l = true) (hl : ∀ t ∈ l,t < P.types.size) {base : Nat} : ∀ (ts : List TypeId) (vs : List Value) (ds : List (DataW H)) (ps : List MemPlace),(∀ t ∈ ts,t ∈ l) →
  (∀ (j : Nat) t v,ts[j]? = some t → vs[j]? = some v → Value.okWide P w .any base t v) → DataW.TrodAll enc P w 0 (fun _=>true) true ts vs ds ps → (∀ (j : Nat) t d,ts[j]? = some t → ds[j]? = some d → ∀ m ∈ d.weights P t,m ≤ reachBytes) →
  ds.length = ts.length ∧ ∃ xss,TyA P ts xss ∧ (∀ xs ∈ xss,∀ y ∈ xs,Dsm reachBytes y) ∧ ∀ (g : Gh) (L : List Blk),(∀ r,r < w.heap.size → g.I r) → (argVs P ts xss).length = vs.length ∧ ∀ (j : Nat) (x : V) (v : Value),(argVs P ts xss)[j]? = some x → vs[j]? = some v → RV g w L x v
 | [],[],[],ps,_,_,h,_=>⟨rfl,[],trivial,fun xs hx=>(by simp at hx),fun g L hI=>⟨rfl,fun j x v hx=>by simp [argVs] at hx⟩⟩
 | t :: ts,v :: vs,d :: ds,ps,ht,hok,⟨p,q,⟨n,hn⟩,h2,_⟩,hz=>by
  obtain ⟨xs,hx,hty,hsm⟩:=trod_rdB K hp hby hl n t _ _ (ht t (by simp)) hn (hz 0 t d rfl rfl)
  obtain ⟨hlen,xss,h3,h3b,h4⟩:=args_rdB K hp hby hl ts vs ds q (fun t ht'=>ht t (by simp [ht'])) (fun j t v hj hv=>hok (j + 1) t v (by simpa using hj) (by simpa using hv)) h2 (fun j t d hj hd=>hz (j + 1) t d (by simpa using hj) (by simpa using hd))
  refine ⟨by simp [hlen],xs :: xss,⟨hty,h3⟩,fun ys hys=>(List.mem_cons.1 hys).elim (fun e=>e ▸ hsm) (h3b ys),fun g L hI=>⟨by simp [argVs,(h4 g L hI).1],fun j x u hxj hu=>?_⟩⟩
  cases j with
  | zero =>
   simp [argVs] at hxj hu
   subst hxj hu
   exact argV_rv hx hty (hok 0 t v rfl rfl) g hI L
  | succ j=>exact (h4 g L hI).2 j x u (by simpa [argVs] using hxj) (by simpa using hu)
 | [],v :: vs,_,_,_,_,h,_=>by cases h
 | [],[],_ :: _,_,_,_,h,_=>by cases h
 | _ :: _,[],_,_,_,_,h,_=>by cases h
 | _ :: _,_ :: _,[],_,_,_,h,_=>by cases h
theorem law_ofB {C : Ctx} [Quiet C] {f : FuncId} {fn : Func} {s : ChangeSpec} {apart fresh handsOn again : Bool} {W : World} {base : Nat} {args : Array Value} {ds gs : List (DataW H)} {before : List MemPlace} {tb : TypeId} {l : List TypeId}
  (K : Kids C.P (· < C.P.types.size)) (hz : ∀ t e,t < C.P.types.size → C.P.underlying t = some (.slice e) → 0 < C.P.cellsOf e) (hp : plainB C.P l = true) (hby : bytesB C.P l = true) (hl : ∀ t ∈ l,t < C.P.types.size) (hpar : ∀ t ∈ fn.params.toList,t ∈ l)
  (hvars : s.vars = []) (hres : fn.resultTypes = #[tb]) (htb : C.P.underlying tb = some .bool)
  (hspec : ∀ ds : List (DataW H),ds.length = fn.params.toList.length → s.fn H ds = { results:=[.lit (.bool true)],args:=ds })
  (hcall : ∀ xss,TyA C.P fn.params.toList xss → (∀ xs ∈ xss,∀ y ∈ xs,Dsm reachBytes y) → CallP C f (argVs C.P fn.params.toList xss) [] fun X L=>L = [] ∧ X = .d (.bool true))
  (hval : ∀ (j : Nat) t v,fn.params[j]? = some t → args[j]? = some v → Value.okWide C.P W .any base t v)
  (hW : DataW.Whole enc C.P fn.params.toList s.vars apart W args.toList ds gs before)
  (hwt : (DataW.weightsEach C.P (fn.params.toList ++ s.plain.varTypes C.P) (ds ++ gs)).all (· ≤ reachBytes) = true)
  (hgl : GlobOK (fun r=>r < W.heap.size) W:=by intro p hp; cases hp) :
  Calls C.P f args W fun e W'=>∃ v,e = .returned v ∧ s.post enc C.P fn apart fresh handsOn again W args v W':=by
 have hW':=hW
 obtain ⟨p,q,hA,hV,hpq,hfz,hnd⟩:=hW
 rw [hvars] at hV
 obtain ⟨rfl,rfl⟩ : gs = [] ∧ q = []:=by
  cases gs with
  | nil=>exact ⟨rfl,hV⟩
  | cons _ _=>cases hV
 rw [List.append_nil] at hpq
 subst hpq
 have hwt' : ∀ (j : Nat) t d,fn.params.toList[j]? = some t → ds[j]? = some d → ∀ m ∈ d.weights C.P t,m ≤ reachBytes:=fun j t d hj hd m hm=>by
  have:=List.all_eq_true.1 hwt m (DataW.weights_mem_each (j:=j) (by rw [List.getElem?_append_left (lt_of_get hj)]; exact hj) (by rw [List.append_nil]; exact hd) m hm)
  simpa using this
 obtain ⟨hlen,xss,hty,hsm,hrv⟩:=args_rdB K hp hby hl fn.params.toList args.toList ds before hpar (fun j t v hj hv=>hval j t v (by simpa using hj) (by simpa using hv)) hA hwt'
 have hc:=hcall xss hty hsm
 rw [CallP_q] at hc
 obtain ⟨h1,h2⟩:=hrv { I:=fun r=>r < W.heap.size,m:=fun _=>none,cap:=fun _=>0 } [] (fun _ h=>h)
 have no : ∀ (g' : Gh) q,¬ owned g' ([] : List Blk) q:=fun g' q ⟨b,⟨k,hk,_⟩,_⟩=>by simp at hk
 refine (hc.2 { I:=fun r=>r < W.heap.size,m:=fun _=>none,cap:=fun _=>0 } W args ⟨?_,?_,fun r h=>h,?_,hgl⟩ ⟨by rw [h1]; simp,fun j x v hx hv=>h2 j x v hx (by simpa using hv)⟩).mono ?_
 ·rintro b b' r ⟨k,hk,_⟩; simp at hk
 ·exact fun r ho=>absurd ho (no _ r)
 ·intro b k hk; simp at hk
 rintro e W' ⟨v,X,L1,g1,rfl,⟨rfl,rfl⟩,hr,hg1,hprog⟩
 have hv : v = .bool true:=hr.bool_of
 subst hv
 refine ⟨_,rfl,?_⟩
 have heap : ∀ (r : Nat) (o : Obj),W.heap[r]? = some o → W'.heap[r]? = some o:=fun r o h=>hprog.kept r o h (no _ r)
 have heap' : ∀ r : Nat,r < W.heap.size → W'.heap[r]? = W.heap[r]?:=fun r h=>by
  rw [Array.getElem?_eq_getElem h]; exact heap r _ (Array.getElem?_eq_getElem h)
 have hlt : ∀ x ∈ before,x.block < W.heap.size:=fun x hx=>hW'.lt x hx
 have same : ∀ x ∈ before,W.sameAt W' x:=by
  intro x hx
  have:=hlt x hx
  cases x with
  | cell b off=>exact World.cell?_of_block (w:=W) (w':=W') (heap' b this)
  | map b=>exact heap' b this
 have hkept : W.keptBut W' (· ∈ before):=by
  refine ⟨hprog.env.2.1,hprog.env.2.2,fun i hi=>?_⟩
  rw [heap' i hi]
  cases W.heap[i]? with
  | none=>rfl
  | some o=>cases o <;> simp
 have carry : ∀ (ts : List TypeId) (vs : List Value) (ds : List (DataW H)) (ps : List MemPlace),(∀ x ∈ ps,W.sameAt W' x) → DataW.TrodAll enc C.P W 0 (fun _=>true) true ts vs ds ps → DataW.TrodAll enc C.P W' 0 (fun _=>true) true ts vs ds ps:=by
  intro ts
  induction ts with
  | nil=>intro vs ds ps _ h; cases vs <;> cases ds <;> first | exact h | cases h
  | cons t ts ih =>
   intro vs ds ps hs h
   cases vs with
   | nil=>cases h
   | cons v vs =>
    cases ds with
    | nil=>cases h
    | cons d ds =>
     obtain ⟨p,q,⟨n,hn⟩,h2,rfl⟩:=h
     exact ⟨p,q,⟨n,DataW.trod_carry n _ _ _ hn fun x hx=>hs x (List.mem_append_left _ hx)⟩,ih vs ds q (fun x hx=>hs x (List.mem_append_right _ hx)) h2,rfl⟩
 have hA':=carry _ _ _ _ same hA
 have hfn:=hspec ds hlen
 refine post_of_kept (pa:=before) (pv:=[]) hW' ?_ ?_ ?_ (by simp) hkept (fun a ha=>?_) ?_
 ·intro b sp hd
  rw [List.append_nil,hfn,hres]
  exact ⟨[],[],RowKit.shut_bool htb true,rfl,rfl⟩
 ·intro sp hsp
  rw [List.append_nil,hfn]
  exact hA'.respare K hz (fun t ht=>hl t (hpar t ht)) hsp
 ·intro sp hsp
  rw [List.append_nil,hfn,hvars]
  rfl
 ·exact World.frozen?_of_block (w:=W) (w':=W') (heap' _ ha)
 ·exact RowKit.ok_one hres rfl (RowKit.okWide_bool_mk htb true)
end
end Go.Tidy
namespace Go.Proofs.YtndlggbljkhfbaaGreat
open Go.Tidy Go.ChangeShapes Go.WideShapes Go.ChangeAt Go.RowKit
theorem own : ownKnob Tryz.prog.godebug = none:=by kernel_rfl
theorem kids : Kids Tryz.prog (· < Tryz.prog.types.size):=kids_rows (by kernel_rfl) (by kernel_rfl)
theorem full : ∀ t e,t < Tryz.prog.types.size → Tryz.prog.underlying t = some (.slice e) → 0 < Tryz.prog.cellsOf e:=slices_full_of Tryz.prog (by kernel_rfl)
def plainTys : List TypeId:=[3,4,171,22,67,65,29,31,91,34,36,56,5,64,23,25]
theorem plainOk : plainB Tryz.prog plainTys = true:=by kernel_rfl
theorem bytesOk : bytesB Tryz.prog plainTys = true:=by kernel_rfl
theorem plainLt : ∀ t ∈ plainTys,t < Tryz.prog.types.size:=by
 have : plainTys.all (fun t=>decide (t < Tryz.prog.types.size)) = true:=by kernel_rfl
 intro t ht
 simpa using List.all_eq_true.1 this t ht
theorem cells_int : C.P.cellsOf 3 = 1:=by kernel_rfl
theorem cells_bool : C.P.cellsOf 4 = 1:=by kernel_rfl
theorem cells_ints : C.P.cellsOf 22 = 1:=by kernel_rfl
theorem cells_dms : C.P.cellsOf 23 = 1:=by kernel_rfl
theorem cells_dm : C.P.cellsOf 64 = 6:=by kernel_rfl
theorem cells_pl : C.P.cellsOf 25 = 3:=by kernel_rfl
theorem at_one {xs : List D} {i : Nat} {y : D} (h : (xs.drop i).take 1 = [y]) : xs[i]? = some y:=by
 have:=congrArg (fun l=>l[0]?) h
 simpa using this
theorem at_int {xs : List D} {i : Nat} (h : TyI C.P 3 ((xs.drop i).take (C.P.cellsOf 3))) : ∃ n : Int,xs[i]? = some (DI n):=by
 obtain ⟨n,hn,_⟩:=h.intI Tryz.underlying3
 rw [cells_int] at hn
 exact ⟨n,at_one hn⟩
theorem at_bool {xs : List D} {i : Nat} (h : TyI C.P 4 ((xs.drop i).take (C.P.cellsOf 4))) : ∃ b : Bool,xs[i]? = some (.bool b):=by
 obtain ⟨b,hn⟩:=h.boolI Tryz.underlying4
 rw [cells_bool] at hn
 exact ⟨b,at_one hn⟩
theorem intsT {xs : List D} (h : TyI C.P 22 xs) (hs : ∀ y ∈ xs,Dsm reachBytes y) : ∃ l : List Int,xs = [ints l] ∧ l.length ≤ 140737488355328:=by
 obtain ⟨els,rfl,h1,h2⟩:=h.slI Tryz.underlying22
 have hb:=(hs (.sl els) (List.mem_singleton.2 rfl)).slI.1
 obtain ⟨l,rfl⟩:=map_of (f:=fun n : Int=>[DI n]) (l:=els) fun y hy=>by
  obtain ⟨n,hn,_⟩:=(h2 y hy).intI Tryz.underlying3
  exact ⟨n,hn⟩
 exact ⟨l,rfl,by rw [List.length_map] at hb; exact Nat.le_trans hb (by decide)⟩
theorem dmT {xs : List D} (h : TyI C.P 64 xs) (hs : ∀ y ∈ xs,Dsm reachBytes y) : ∃ d : Dm,xs = d.cells ∧ d.clubs.length ≤ 140737488355328:=by
 obtain ⟨h1,h2⟩:=h.structI Tryz.underlying64
 rw [cells_dm] at h1
 simp only [List.mem_cons,List.not_mem_nil,or_false,forall_eq_or_imp,forall_eq] at h2
 obtain ⟨a0,a1,a2,a3,a4,a5⟩:=h2
 obtain ⟨n0,b0⟩:=at_int a0
 obtain ⟨n1,b1⟩:=at_int a1
 obtain ⟨n2,b2⟩:=at_int a2
 obtain ⟨n3,b3⟩:=at_int a3
 obtain ⟨n4,b4⟩:=at_int a4
 obtain ⟨l,hl,hb⟩:=intsT a5 fun y hy=>hs y (List.mem_of_mem_drop (List.mem_of_mem_take hy))
 rw [cells_ints] at hl
 have b5:=at_one hl
 refine ⟨⟨n0,n1,n2,n3,n4,l⟩,?_,hb⟩
 apply List.ext_getElem?
 intro i
 match i with
 | 0=>exact b0
 | 1=>exact b1
 | 2=>exact b2
 | 3=>exact b3
 | 4=>exact b4
 | 5=>exact b5
 | i + 6=>rw [List.getElem?_eq_none (by omega)]; rfl
theorem dmsT {xs : List D} (h : TyI C.P 23 xs) (hs : ∀ y ∈ xs,Dsm reachBytes y) : ∃ l : List Dm,xs = [.sl (l.map Dm.cells)] ∧ l.length ≤ 140737488355328 ∧ ∀ d ∈ l,d.clubs.length ≤ 140737488355328:=by
 obtain ⟨els,rfl,h1,h2⟩:=h.slI Tryz.underlying23
 obtain ⟨hb,hb2⟩:=(hs (.sl els) (List.mem_singleton.2 rfl)).slI
 obtain ⟨l,rfl⟩:=map_of (f:=Dm.cells) (l:=els) fun y hy=>by
  obtain ⟨d,hd,_⟩:=dmT (h2 y hy) (hb2 y hy)
  exact ⟨d,hd⟩
 refine ⟨l,rfl,by rw [List.length_map] at hb; exact Nat.le_trans hb (by decide),fun d hd=>?_⟩
 have:=(hb2 d.cells (List.mem_map_of_mem (f:=Dm.cells) hd) (ints d.clubs) (by simp [Dm.cells])).slI.1
 rw [List.length_map] at this
 exact Nat.le_trans this (by decide)
structure PlB (p : Pl) : Prop where
 hc : p.clubs.length ≤ 140737488355328
 hd : ∀ d ∈ p.demands,d.clubs.length ≤ 140737488355328
 hD : p.demands.length ≤ 140737488355328
theorem plT {xs : List D} (h : TyI C.P 25 xs) (hs : ∀ y ∈ xs,Dsm reachBytes y) : ∃ p : Pl,xs = p.cells ∧ PlB p:=by
 obtain ⟨h1,h2⟩:=h.structI Tryz.underlying25
 rw [cells_pl] at h1
 simp only [List.mem_cons,List.not_mem_nil,or_false,forall_eq_or_imp,forall_eq] at h2
 obtain ⟨a0,a1,a2⟩:=h2
 obtain ⟨l,hl,hb⟩:=intsT a0 fun y hy=>hs y (List.mem_of_mem_drop (List.mem_of_mem_take hy))
 rw [cells_ints] at hl
 have b0:=at_one hl
 obtain ⟨b,b1⟩:=at_bool a1
 obtain ⟨ds,hds,hb2,hb3⟩:=dmsT a2 fun y hy=>hs y (List.mem_of_mem_drop (List.mem_of_mem_take hy))
 rw [cells_dms] at hds
 have b2:=at_one hds
 refine ⟨⟨l,b,ds⟩,?_,hb,hb3,hb2⟩
 apply List.ext_getElem?
 intro i
 match i with
 | 0=>exact b0
 | 1=>exact b1
 | 2=>exact b2
 | i + 3=>rw [List.getElem?_eq_none (by omega)]; rfl
end Go.Proofs.YtndlggbljkhfbaaGreat
namespace Go.Proofs.YtndlggbljkhfbaaGreat
open Go.Tidy
variable {L : List Blk} {k : V → List Blk → Prop}
def IndI (n : Nat) (l : List Int) (i : Nat) (hi : i < l.length) : Prop:=(0 ≤ l[i] ∧ l[i] < n) ∧ ∀ h : 0 < i,l[i - 1]'(by omega) < l[i]
instance (n : Nat) (l : List Int) (i : Nat) (hi : i < l.length) : Decidable (IndI n l i hi):=by unfold IndI; infer_instance
def IndP (n : Nat) (l : List Int) : Prop:=∀ (i : Nat) (hi : i < l.length),IndI n l i hi
instance (n : Nat) (l : List Int) : Decidable (IndP n l):=by unfold IndP; infer_instance
theorem ind_no {n : Nat} {l : List Int} {i : Nat} (hi : i < l.length) (h : ¬ IndI n l i hi) : B false = B (decide (IndP n l)):=congrArg B (w20 fun hp=>h (hp i hi)).symm
theorem ind_next {n : Nat} {l : List Int} {i : Nat} (hi : i < l.length) (h : IndI n l i hi) (ho : ∀ (j : Nat) (hj : j < l.length),j < i → IndI n l j hj) : ∀ (j : Nat) (hj : j < l.length),j < i + 1 → IndI n l j hj:=fun j hj hji=>by
 by_cases e : j = i
 ·subst e; exact h
 ·exact ho j hj (by omega)
theorem indices_c (p : Pl) (l : List Int) (hl : l.length ≤ 4611686018427387904) (h : k (B (decide (IndP p.demands.length l))) L) : CallP C 55 [plV p,.d (ints l)] L k:=by
 refine CallP.pure ?_ rfl (fun _=>rfl) h
 clear h
 refine callP_of C_ok Tryz.func55 rfl rfl (n:=_) rfl (w18 rfl) (rs:=_) rfl ?_
 conv=>whnf
 refine LoopP.inv (fun i=>i ≤ l.length ∧ ∀ (j : Nat) (hj : j < l.length),j < i → IndI p.demands.length l j hj) (fun i=>⟨[(1,.d (ints l)),(2,.ptr 0 0),(4,B false),(7,.d (ints l)),(8,I l.length),(9,I i)],Tryz.f55.ntmps,[.cells (p.cells.map .d)],[],none⟩) (fun i=>l.length - i) 0 ⟨w22 _,fun j _ h=>absurd h (Nat.not_lt_zero j)⟩ ?_ ?_
 ·exact Weak.by ⟨rfl,rfl,rfl,rfl,congrArg (fun n : Nat=>I n) (List.length_map ..),rfl,trivial⟩
 rintro i ⟨hi,hok⟩
 by_cases hi' : i < l.length
 ·have hlt : (i : Int) < (l.length : Int):=by omega
  have hw : IntKind.i64.wrap ((i : Int) + 1) = ((i + 1 : Nat) : Int):=by rw [wrap_in (by omega)]; omega
  repeat' ((conv=>whnf); first|refine w8 (w19 hlt) ?_|refine w11 i rfl hi' ?_|refine w11 (i - 1) (by rw [wrap_in (by omega)]; omega) (by omega) ?_|refine w0 ?_|refine w1 ?_|refine w2 (fun h=>?_) (fun h=>?_)|refine w3 ?_|refine w4 (fun h=>?_) (fun h=>?_)|refine w5 _ rfl ?_|refine w6 rfl ?_|refine w7 mixed rfl ?_)
  all_goals conv=>whnf
  all_goals simp only [List.length_map] at *
  all_goals first
  | exact ⟨i + 1,⟨hi',ind_next hi' ⟨by omega,fun h=>by omega⟩ hok⟩,by omega,Weak.by ⟨rfl,rfl,rfl,rfl,rfl,congrArg I hw,trivial⟩⟩
  | exact FinP.drop (n:=0) rfl (w21 0) rfl rfl ⟨rfl,ind_no hi' fun h=>by have h1:=h.1; omega⟩
  | exact FinP.drop (n:=0) rfl (w21 0) rfl rfl ⟨rfl,ind_no hi' fun h=>by have h1:=h.1; have h2:=h.2 (by omega); omega⟩
 ·have hlt : ¬ (i : Int) < (l.length : Int):=by omega
  repeat' ((conv=>whnf); first|refine w9 (w20 hlt) ?_|refine w0 ?_|refine w1 ?_|refine w2 (fun h=>?_) (fun h=>?_)|refine w3 ?_|refine w4 (fun h=>?_) (fun h=>?_)|refine w5 _ rfl ?_|refine w6 rfl ?_|refine w7 mixed rfl ?_)
  conv=>whnf
  exact FinP.drop (n:=0) rfl (w21 0) rfl rfl ⟨rfl,congrArg B (w19 fun j hj=>hok j hj (by omega)).symm⟩
def d0M : Dm:=⟨0,0,0,0,0,[]⟩
def getD (p : Pl) (i : Int) : Dm:=(p.demands[i.toNat]?).getD d0M
def keepP (p : Pl) (w : List Int) : Pl:=⟨p.clubs,p.double,w.map (getD p)⟩
def keepE (p : Pl) (w : List Int) : Int:=if checkP p = 0 then (if IndP p.demands.length w then 0 else 1) else checkP p
def keepX (p : Pl) (w : List Int) : Pl:=if keepE p w = 0 then keepP p w else ⟨[],false,[]⟩
def dR (xs : List Dm) : List (List V):=xs.map fun d=>d.cells.map .d
theorem dR_snoc (xs : List Dm) (d : Dm) : dR (xs ++ [d]) = dR xs ++ [d.cells.map .d]:=by unfold dR; rw [List.map_append]; rfl
theorem dR_len (xs : List Dm) : (dR xs).length = xs.length:=by unfold dR; rw [List.length_map]
theorem dR_bel (n : Nat) : ∀ xs : List Dm,belR n (dR xs) = true
 | []=>rfl
 | d :: xs=>by simp only [dR,List.map_cons,belR,V.belL_d,Bool.true_and]; exact dR_bel n xs
theorem dR_rows {S : Nat → Prop} {L : List Blk} : ∀ xs : List Dm,CvLL S L (dR xs) (xs.map Dm.cells)
 | []=>.nil
 | d :: xs=>.cons (.cons (.d _) (.cons (.d _) (.cons (.d _) (.cons (.d _) (.cons (.d _) (.cons (.d _) .nil)))))) (dR_rows xs)
theorem dms6 (xs : List Dm) : ∀ e ∈ xs.map Dm.cells,e.length = 6:=fun e he=>by obtain ⟨d,_,rfl⟩:=List.mem_map.1 he; rfl
def kpS (p : Pl) (xs : List Dm) : List Blk:=[.cells (p.cells.map .d),.cells [.d (ints p.clubs),B p.double,.own 2 xs.length 0 xs.length],.row xs.length 6 (dR xs)]
theorem kpS_bel (p : Pl) (xs : List Dm) : belB 3 (kpS p xs) = true:=by
 show (V.belL 3 (p.cells.map .d) && (true && (belR 3 (dR xs) && true))) = true
 rw [V.belL_d,dR_bel]; rfl
theorem kpS_next (p : Pl) (xs : List Dm) (d : Dm) : [Blk.cells (p.cells.map .d),.cells [.d (ints p.clubs),B p.double,.own 2 (xs.length + 1) 0 (xs.length + 1)],.row (xs.length + 1) 6 ((dR xs).take xs.length ++ [d.cells.map .d])] = kpS p (xs ++ [d]):=by
 unfold kpS
 rw [List.take_of_length_le (by rw [dR_len]; exact Nat.le_refl _),dR_snoc,List.length_append]; rfl
theorem keep_c (p : Pl) (w : List Int) (hs : p.clubs.length ≤ 4611686018427387904) (hd : ∀ d ∈ p.demands,d.clubs.length ≤ 4611686018427387904) (hD : p.demands.length ≤ 4611686018427387904) (hw : w.length ≤ 1073741824) (h : k (.tup [plV (keepX p w),I (keepE p w)]) L) :
  CallP C 20 [plV p,.d (ints w)] L k:=by
 refine CallP.pure ?_ rfl (fun _=>rfl) h
 clear h
 refine callP_of C_ok Tryz.func20 rfl rfl (n:=_) rfl (w18 rfl) (rs:=_) rfl ?_
 by_cases h0 : checkP p = 0
 ·by_cases hi : IndP p.demands.length w
  ·repeat' (conv => whnf
            first|refine check_c p hs hd hD ?_|refine w8 (w19 h0) ?_|refine indices_c p w (by omega) ?_|refine w8 (w19 hi) ?_|refine w0 ?_|refine w1 ?_|refine w2 (fun h=>?_) (fun h=>?_)|refine w3 ?_|refine w4 (fun h=>?_) (fun h=>?_)|refine w5 _ rfl ?_|refine w6 rfl ?_|refine w7 mixed rfl ?_)
   conv=>whnf
   refine LoopP.inv (fun i=>i ≤ w.length) (fun i=>⟨[(2,.ptr 0 0),(4,.ptr 1 0),(5,I 0),(25,.d (ints w)),(26,I w.length),(27,I i)],Tryz.f20.ntmps,kpS p ((w.take i).map (getD p)),[],none⟩) (fun i=>w.length - i) 0 (w22 _) ?_ ?_
   ·exact Weak.nilCellTo 1 2 6 _ rfl rfl (by decide) rfl ⟨rfl,rfl,rfl,rfl,congrArg (fun n : Nat=>I n) (List.length_map ..),rfl,trivial⟩
   intro i hi1
   obtain ⟨xs,hx⟩ : ∃ xs,(w.take i).map (getD p) = xs:=⟨_,rfl⟩
   have hxl : xs.length = i:=by rw [← hx,List.length_map,List.length_take,Nat.min_eq_left hi1]
   rw [hx]
   by_cases hi' : i < w.length
   ·have hlt : (i : Int) < (w.length : Int):=by omega
    have hww : IntKind.i64.wrap ((i : Int) + 1) = ((i + 1 : Nat) : Int):=by rw [wrap_in (by omega)]; omega
    have hin:=(hi i hi').1
    have hlt2 : w[i].toNat < p.demands.length:=by omega
    have r1 : (p.demands.map Dm.cells)[w[i].toNat]? = some (getD p w[i]).cells:=by
     rw [List.getElem?_map,List.getElem?_eq_getElem hlt2,getD,List.getElem?_eq_getElem hlt2]; rfl
    have hnx : (w.take (i + 1)).map (getD p) = xs ++ [getD p w[i]]:=by rw [take_next hi',List.map_append,hx]; rfl
    have hkn:=kpS_next p xs (getD p w[i])
    repeat' ((conv=>whnf); first|refine w8 (w19 hlt) ?_|refine w11 i rfl hi' ?_|refine w0 ?_|refine w1 ?_|refine w2 (fun h=>?_) (fun h=>?_)|refine w3 ?_|refine w4 (fun h=>?_) (fun h=>?_)|refine w5 _ rfl ?_|refine w6 rfl ?_|refine w7 mixed rfl ?_)
    conv=>whnf
    refine DrawP.por mixed [] [[(0,0),(1,3),(2,0),(3,0),(4,0),(5,0),(6,0),(7,0),(8,0),(9,0),(10,0)]] (by kernel_rfl) ?_
    all_goals
     repeat' ((conv=>whnf); first|refine w0 ?_|refine w1 ?_|refine w2 (fun h=>?_) (fun h=>?_)|refine w3 ?_|refine w4 (fun h=>?_) (fun h=>?_)|refine w5 _ rfl ?_|refine w6 rfl ?_|refine w7 mixed rfl ?_|refine w10 w[i].toNat _ (by omega) r1 ?_|simp only [Nat.beq_refl,Bool.and_self]|refine w6 (w23 (m:=4294967296) (show xs.length + 1 ≤ 4294967296 by omega) (apLim_ge _)) ?_)
    all_goals conv=>whnf
    all_goals exact ⟨i + 1,hi',by omega,Weak.to 3 (Eq.trans rfl (hkn.trans (congrArg (kpS p) hnx.symm))) (w22 _) (w18 rfl) ⟨rfl,rfl,rfl,rfl,rfl,congrArg I hww,trivial⟩ (hB:=kpS_bel p _)⟩
   ·have hlt : ¬ (i : Int) < (w.length : Int):=by omega
    repeat' ((conv=>whnf); first|refine w9 (w20 hlt) ?_|refine w0 ?_|refine w1 ?_|refine w2 (fun h=>?_) (fun h=>?_)|refine w3 ?_|refine w4 (fun h=>?_) (fun h=>?_)|refine w5 _ rfl ?_|refine w6 rfl ?_|refine w7 mixed rfl ?_)
    conv=>whnf
    refine w16 (L':=[]) (.pair (.aggL (.cons (.d _) (.cons (.d _) (.cons (.rowL (ds:=xs.map Dm.cells) (w22 _) rfl ?_ ?_ (dms6 _)) .nil)))) (.d (.d _))) rfl rfl ⟨rfl,?_⟩
    ·rw [List.drop_zero,List.take_of_length_le (by rw [dR_len]; exact Nat.le_refl _)]; exact dR_rows xs
    ·rw [List.length_map]
    ·have he : keepE p w = 0:=by unfold keepE; rw [if_pos h0,if_pos hi]
     have hxw : xs = w.map (getD p):=by rw [← hx,List.take_of_length_le (by omega)]
     unfold keepX; rw [he,if_pos rfl,hxw]; rfl
  ·repeat' (conv => whnf
            first|refine check_c p hs hd hD ?_|refine w8 (w19 h0) ?_|refine indices_c p w (by omega) ?_|refine w9 (w20 hi) ?_|refine w0 ?_|refine w1 ?_|refine w2 (fun h=>?_) (fun h=>?_)|refine w3 ?_|refine w4 (fun h=>?_) (fun h=>?_)|refine w5 _ rfl ?_|refine w6 rfl ?_|refine w7 mixed rfl ?_)
   conv=>whnf
   refine w16 (L':=[]) (.pair (.aggL (.cons .nil (.cons (.d _) (.cons .nil .nil)))) (.d (.d _))) rfl rfl ⟨rfl,?_⟩
   have he : keepE p w = 1:=by unfold keepE; rw [if_pos h0,if_neg hi]
   unfold keepX; rw [he]; rfl
 ·repeat' (conv => whnf
           first|refine check_c p hs hd hD ?_|refine w9 (w20 h0) ?_|refine w0 ?_|refine w1 ?_|refine w2 (fun h=>?_) (fun h=>?_)|refine w3 ?_|refine w4 (fun h=>?_) (fun h=>?_)|refine w5 _ rfl ?_|refine w6 rfl ?_|refine w7 mixed rfl ?_)
  conv=>whnf
  refine w16 (L':=[]) (.pair (.aggL (.cons .nil (.cons (.d _) (.cons .nil .nil)))) (.d (.d _))) rfl rfl ⟨rfl,?_⟩
  have he : keepE p w = checkP p:=by unfold keepE; rw [if_neg h0]
  unfold keepX; rw [he,if_neg h0]; rfl
end Go.Proofs.YtndlggbljkhfbaaGreat
namespace Go.Proofs.YtndlggbljkhfbaaGreat
open Go.Tidy
variable {L : List Blk} {k : V → List Blk → Prop}
def planD (p : Pl) : List D:=p.cells ++ [DI (roundsN p),DI (halfN p)]
theorem roundsC (n : Nat) (h : 1 ≤ n ∧ n ≤ 1000) : IntKind.i64.wrap (IntKind.i64.wrap ((n : Int) - 1) + (n : Int).tmod 2) = (((n - 1) / 2 * 2 + 1 : Nat) : Int):=by
 have e : (n : Int).tmod 2 = ((n % 2 : Nat) : Int):=(Int.ofNat_tmod _ _).symm
 rw [e,wrap_in (n:=(n : Int) - 1) (by omega),wrap_in (by omega)]
 omega
theorem newPlan_c (p : Pl) (h1 : 1 ≤ p.clubs.length ∧ p.clubs.length ≤ 1000) (h : k (.d (.rptr (planD p))) L) : CallP C 37 [plV p] L k:=by
 refine CallP.pure ?_ rfl (fun _=>rfl) h
 clear h
 refine callP_of C_ok Tryz.func37 rfl rfl (n:=_) rfl (w18 rfl) (rs:=_) rfl ?_
 have hh:=half_e p h1.2
 repeat' ((conv=>whnf); first|refine w0 ?_|refine w1 ?_|refine w2 (fun h=>?_) (fun h=>?_)|refine w3 ?_|refine w4 (fun h=>?_) (fun h=>?_)|refine w5 _ rfl ?_|refine w6 rfl ?_|refine w7 mixed rfl ?_|refine w6 (show (2 : Int) ≠ 0 by decide) ?_)
 all_goals conv=>whnf
 all_goals refine w16 (L':=[]) (.d (.ptrL (w22 _) rfl (.cons (.d _) (.cons (.d _) (.cons (.d _) (.cons (.d _) (.cons (.d _) .nil))))))) rfl rfl ⟨rfl,?_⟩
 ·refine congrArg (fun x=>V.d (.rptr x)) ?_
  show [_,_,_,_,_] = [_,_,_,_,_]
  rw [hh,List.length_map,roundsC _ h1,wrap_in (by omega),roundsN,h,if_pos rfl]
  refine congrArg (fun x=>[_,_,_,DI x,_]) ?_
  omega
 ·refine congrArg (fun x=>V.d (.rptr x)) ?_
  show [_,_,_,_,_] = [_,_,_,_,_]
  rw [hh,List.length_map,roundsC _ h1,roundsN,h,if_neg (by decide),Nat.one_mul]
def openR (l : List (List Mt)) (p : Pl) : List Mt × Bool × Bool :=
 match l.getLast? with
 | some r=>if r.length < halfN p then (r,false,true) else ([],true,decide (l.length < roundsN p))
 | none=>([],true,decide (l.length < roundsN p))
theorem last_of {α : Type} {l : List α} (h : 0 < l.length) : l.getLast? = some (l[l.length - 1]'(by omega)):=by
 rw [List.getLast?_eq_getElem?,List.getElem?_eq_getElem (by omega)]
theorem open_c (l : List (List Mt)) (p : Pl) (hl : l.length ≤ 1073741824) (h : k (.tup [.d (mts (openR l p).1),B (openR l p).2.1,B (openR l p).2.2]) L) : CallP C 94 [.d (.rptr (planD p)),lisV l] L k:=by
 have hx : (0 : Int) < ((l.map fun r=>[mts r]).length : Int) → IntKind.i64.wrap (((l.map fun r=>[mts r]).length : Int) - 1) = ((l.length - 1 : Nat) : Int):=fun h=>by
  rw [List.length_map] at h ⊢; rw [wrap_in (by omega)]; omega
 have hn : (0 : Int) < ((l.map fun r=>[mts r]).length : Int) → l.length - 1 < l.length:=fun h=>by
  rw [List.length_map] at h; omega
 refine CallP.pure ?_ rfl (fun _=>rfl) h
 clear h
 refine callP_of C_ok Tryz.func94 rfl rfl (n:=_) rfl (w18 rfl) (rs:=_) rfl ?_
 repeat' ((conv=>whnf); first|refine w0 ?_|refine w1 ?_|refine w2 (fun h=>?_) (fun h=>?_)|refine w3 ?_|refine w4 (fun h=>?_) (fun h=>?_)|refine w5 _ rfl ?_|refine w6 rfl ?_|refine w7 mixed rfl ?_|refine w11 (l.length - 1) (hx ‹_›) (hn ‹_›) ?_)
 all_goals conv=>whnf
 ·refine w15 (n:=0) rfl (w21 0) rfl rfl ⟨rfl,?_⟩
  unfold openR
  rename_i h1
  have h0:=hn h1
  have h2 : (l[l.length - 1]).length < halfN p:=by rw [List.length_map] at h; omega
  rw [last_of (by omega)]
  simp only [if_pos h2]
  rfl
 ·refine w16 (L':=[]) (.triple (.d .nil) (.d (.d _)) (.d (.d _))) rfl rfl ⟨rfl,?_⟩
  unfold openR
  rename_i h1
  have h0:=hn h1
  have h2 : ¬ (l[l.length - 1]).length < halfN p:=by rw [List.length_map] at h; omega
  rw [last_of (by omega)]
  simp only [if_neg h2]
  refine congrArg (fun b=>V.tup [.d (.sl []),B true,B b]) ?_
  simp only [List.length_map]
  exact decide_eq_decide.2 (by omega)
 ·refine w16 (L':=[]) (.triple (.d .nil) (.d (.d _)) (.d (.d _))) rfl rfl ⟨rfl,?_⟩
  unfold openR
  have h0 : l = []:=List.eq_nil_of_length_eq_zero (by rw [List.length_map] at h; omega)
  subst h0
  refine congrArg (fun b=>V.tup [.d (.sl []),B true,B b]) ?_
  exact decide_eq_decide.2 (by simp)
end Go.Proofs.YtndlggbljkhfbaaGreat
namespace Go.Proofs.YtndlggbljkhfbaaGreat
open Go.Tidy
variable {L : List Blk} {k : V → List Blk → Prop}
def boolM (ks : List V) : List (V × V):=ks.map fun x=>(x,B true)
theorem boolM_snoc (ks : List V) (x : V) : boolM ks ++ [(x,B true)] = boolM (ks ++ [x]):=by simp [boolM]
theorem firstIn {key : V} : ∀ {ks : List V},key ∈ ks → ∃ i : Nat,ks[i]? = some key ∧ ∀ j : Nat,j < i → ks[j]? ≠ some key
 | a :: ks,h=>by
  by_cases e : a = key
  ·exact ⟨0,by simp [e],fun j hj=>absurd hj (Nat.not_lt_zero j)⟩
  ·obtain ⟨i,h1,h2⟩:=firstIn (ks:=ks) ((List.mem_cons.1 h).resolve_left fun h=>e h.symm)
   refine ⟨i + 1,by simpa using h1,fun j hj=>?_⟩
   cases j with
   | zero=>simp [e]
   | succ j=>simpa using h2 j (by omega)
theorem MapF.set {tk : TK} {es : List (V × V)} {key : V} {κ : Option (Nat × V) → Prop} (ks : List V) (he : es = boolM ks) (hk : ∀ x ∈ ks,keyV tk x = true) (h1 : ∀ i,key ∈ ks → es.set i (key,B true) = boolM ks → κ (some (i,B true))) (h2 : key ∉ ks → κ none) : MapF tk es key κ:=by
 subst he
 have hall : ∀ kv ∈ boolM ks,keyV tk kv.1 = true:=fun kv hkv=>by
  obtain ⟨x,hx,rfl⟩:=List.mem_map.1 hkv; exact hk x hx
 by_cases hin : key ∈ ks
 ·obtain ⟨i,e1,e2⟩:=firstIn hin
  have hi : (boolM ks)[i]? = some (key,B true):=by rw [boolM,List.getElem?_map,e1]; rfl
  refine MapF.hit i (B true) hall hi (fun j kv hj hkv he=>?_) (h1 i hin ?_)
  ·rw [boolM,List.getElem?_map] at hkv
   cases hx : ks[j]? with
   | none=>rw [hx] at hkv; cases hkv
   | some x=>rw [hx] at hkv; cases hkv; exact e2 j hj (by rw [hx]; exact congrArg some he)
  ·have hlt:=lt_of_get hi
   rw [List.getElem?_eq_getElem hlt] at hi
   rw [← Option.some.inj hi,List.set_getElem_self]
 ·refine MapF.miss hall (fun kv hkv he=>?_) (h2 hin)
  obtain ⟨x,hx,rfl⟩:=List.mem_map.1 hkv
  exact hin (he ▸ hx)
def intK (l : List Int) : List V:=l.map fun n=>I n
def mtK (l : List Mt) : List V:=l.map mtV
theorem intK_ok (l : List Int) : ∀ x ∈ intK l,keyV (.int .i64) x = true:=fun x hx=>by
 obtain ⟨n,_,rfl⟩:=List.mem_map.1 hx; rfl
theorem mtK_ok (l : List Mt) : ∀ x ∈ mtK l,keyV (.keys [.i64,.i64]) x = true:=fun x hx=>by
 obtain ⟨n,_,rfl⟩:=List.mem_map.1 hx; rfl
theorem intK_mem (l : List Int) (n : Int) : I n ∈ intK l ↔ n ∈ l :=
 ⟨fun h=>by obtain ⟨m,hm,e⟩:=List.mem_map.1 h; cases e; exact hm,fun h=>List.mem_map.2 ⟨n,h,rfl⟩⟩
theorem mtK_mem (l : List Mt) (m : Mt) : mtV m ∈ mtK l ↔ m ∈ l :=
 ⟨fun h=>by obtain ⟨x,hx,e⟩:=List.mem_map.1 h; exact mtV_inj _ _ e ▸ hx,fun h=>List.mem_map.2 ⟨m,h,rfl⟩⟩
theorem intK_snoc (l : List Int) (n : Int) : intK l ++ [I n] = intK (l ++ [n]):=by simp [intK]
theorem mtK_snoc (l : List Mt) (m : Mt) : mtK l ++ [mtV m] = mtK (l ++ [m]):=by simp [mtK]
theorem intM_bel (n : Nat) : ∀ l : List Int,belM n (boolM (intK l)) = true
 | []=>rfl
 | _ :: l=>by simp only [boolM,intK,List.map_cons,belM,V.bel,Bool.true_and]; exact intM_bel n l
theorem mtM_bel (n : Nat) : ∀ l : List Mt,belM n (boolM (mtK l)) = true
 | []=>rfl
 | m :: l=>by
  simp only [boolM,mtK,List.map_cons,belM,V.bel,V.belL_d,Bool.true_and]; exact mtM_bel n l
theorem fewB_bel {n : Nat} {S X : List Blk} (hS : S.length = n) (hb : belB n S = true) (i : Nat) (hX : belB (n + i) X = true) : belB (n + i) (S ++ X) = true :=
 belB_append (belB_le (Nat.le_add_right n i) hb) hX
def Mt.swap (m : Mt) : Mt:=⟨m.away,m.home⟩
def clubsOf (r : List Mt) : List Int:=r.flatMap fun m=>[m.home,m.away]
def tkM (p : Pl) (m : Mt) : List Mt:=if p.double then [m] else [m,m.swap]
def takenOf (l : List (List Mt)) (p : Pl) : List Mt:=l.flatten.flatMap (tkM p)
theorem takenOf_snoc (l : List (List Mt)) (r : List Mt) (p : Pl) : takenOf (l ++ [r]) p = takenOf l p ++ r.flatMap (tkM p):=by
 rw [takenOf,List.flatten_append,List.flatMap_append,List.flatten_singleton]; rfl
def leastOf (r : List Mt) : Int:=match r.getLast? with
 | some m=>min m.home m.away
 | none=>-1
def chIn (bz : List Int) (tk : List Mt) (c : Int) : List Int → List Mt
 | []=>[]
 | o :: os=>if o ∈ bz then chIn bz tk c os else ([⟨c,o⟩,⟨o,c⟩] : List Mt).filter (fun m=>decide (m ∉ tk)) ++ chIn bz tk c os
def chOut (bz : List Int) (tk : List Mt) (least : Int) : Nat → List Int → List Mt
 | _,[]=>[]
 | may,c :: cs=>if c ∈ bz then chOut bz tk least may cs else
   (if least < c then chIn bz tk c cs else []) ++ (match may with
    | 0=>[]
    | may + 1=>chOut bz tk least may cs)
theorem chOut_cons (bz : List Int) (tk : List Mt) (least : Int) (may : Nat) (c : Int) (cs : List Int) : chOut bz tk least may (c :: cs) = if c ∈ bz then chOut bz tk least may cs else
  (if least < c then chIn bz tk c cs else []) ++ (if may = 0 then [] else chOut bz tk least (may - 1) cs):=by
 cases may with
 | zero=>rw [chOut,if_pos rfl]
 | succ may=>rw [chOut,if_neg (Nat.succ_ne_zero may)]; rfl
def chs (l : List (List Mt)) (p : Pl) : List Mt :=
 if (openR l p).2.2 then chOut (clubsOf (openR l p).1) (takenOf l p) (leastOf (openR l p).1) (p.clubs.length % 2) p.clubs else []
theorem choices_c (l : List (List Mt)) (p : Pl) (h : k (.d (.fn 132 [.rptr [.rptr (planD p)],.rptr [lisD l]])) L) : CallP C 95 [.d (.rptr (planD p)),lisV l] L k:=by
 refine CallP.pure ?_ rfl (fun _=>rfl) h
 clear h
 refine callP_of C_ok Tryz.func95 rfl rfl (n:=_) rfl (w18 rfl) (rs:=_) rfl ?_
 repeat' ((conv=>whnf); first|refine w0 ?_|refine w1 ?_|refine w2 (fun h=>?_) (fun h=>?_)|refine w3 ?_|refine w4 (fun h=>?_) (fun h=>?_)|refine w5 _ rfl ?_|refine w6 rfl ?_|refine w7 mixed rfl ?_)
 conv=>whnf
 exact FinP.data (L':=[]) (.d (.fnL (.cons (.ptrL (w22 _) rfl (.cons (.d _) .nil)) (.cons (.ptrL (w22 _) rfl (.cons (.d _) .nil)) .nil)))) rfl rfl ⟨rfl,rfl⟩
end Go.Proofs.YtndlggbljkhfbaaGreat
namespace Go.Proofs.YtndlggbljkhfbaaGreat
open Go.Tidy
theorem choices1_it (pn : Nat) (pan : V → List Blk → Prop) (l : List (List Mt)) (p : Pl) (hl : l.length ≤ 1073741824) (hr : ∀ r ∈ l,r.length ≤ 4611686018427387904) (hp : p.clubs.length ≤ 1000) :
  IterQ (C.wp pn pan) 132 [.rptr [.rptr (planD p)],.rptr [lisD l]] ((chs l p).map fun m=>[mtV m]):=by
 intro b N P S k hpn hS hbS hdS hb hy h0 hP
 have len : ((chs l p).map fun m=>[mtV m]).length = (chs l p).length:=List.length_map ..
 have hpn : (C.wp pn pan).pn ≤ (S 0).length:=by rw [hS]; exact hpn
 have a0 : ∀ c X,(S c ++ X).length = N + X.length:=fun c X=>pre_len _ _ (hS c)
 have a1 : ∀ c X i,(S c ++ X)[N + i]? = X[i]?:=fun c X i=>pre_get _ _ (hS c) i
 have a2 : ∀ c X,(S c ++ X)[N]? = X[0]?:=fun c X=>pre_get0 _ _ (hS c)
 have a3 : ∀ c X i y,(S c ++ X).set (N + i) y = S c ++ X.set i y:=fun c X i y=>pre_set _ _ (hS c) i y
 have a4 : ∀ c X y,(S c ++ X).set N y = S c ++ X.set 0 y:=fun c X y=>pre_set0 _ _ (hS c) y
 refine callP_of (C:=C.wp pn pan) (C_ok.wp pn pan) Tryz.func132 rfl rfl (n:=_) rfl (w18 rfl) (rs:=_) rfl ?_ hpn
 repeat' ((conv=>whnf); first|refine w0 ?_|refine w1 ?_|refine w2 (fun h=>?_) (fun h=>?_)|refine w3 ?_|refine w4 (fun h=>?_) (fun h=>?_)|refine w5 _ rfl ?_|refine w6 rfl ?_|refine w7 mixed rfl ?_|refine w14 (open_c l p hl ?_))
 all_goals conv=>whnf
 rotate_left 1
 ·refine w15 (n:=N) (L':=S 0) ?_ (Nat.le_of_eq (hS 0)) rfl (hbS 0) ?_
  ·exact List.take_of_length_le (Nat.le_of_eq (hS 0))
  ·have h1 : chs l p = []:=by rw [chs,if_neg]; rw [h]; decide
   have:=h0
   rw [h1] at this
   exact this hP
 obtain ⟨r,hrd⟩ : ∃ r,r = (openR l p).1:=⟨_,rfl⟩
 have hrl : r.length ≤ 4611686018427387904:=by
  rw [hrd,openR]
  split
  ·rename_i r0 hr0
   split
   ·exact hr r0 (List.mem_of_getLast? hr0)
   ·exact Nat.zero_le _
  ·exact Nat.zero_le _
 rw [← hrd]
 have hT : ∀ (ks' : List Int) (es2 : List (V × V)) (X : List Blk),X.take 1 = [.map es2] → es2 = boolM (intK ks') → (S 0 ++ X).take (N + 1) = S 0 ++ [.map (boolM (intK ks'))]:=fun ks' es2 X h1 h2=>by
  rw [pre_take _ _ (hS 0),h1,h2]
 have hk1 : (S 0).length ≤ N + 1:=by rw [hS]; exact Nat.le_succ N
 have hB1 : ∀ ks' : List Int,belB (N + 1) (S 0 ++ [.map (boolM (intK ks'))]) = true:=fun ks'=>fewB_bel (hS 0) (hbS 0) 1 (by show (belM _ _ && true) = true; rw [intM_bel]; rfl)
 refine LoopP.inv (fun s : Nat × List Int=>s.1 ≤ r.length ∧ ∀ n,n ∈ s.2 ↔ n ∈ clubsOf (r.take s.1)) (fun s=>⟨[(0,.yld b),(1,.d (.rptr [.rptr (planD p)])),(2,.d (.rptr [lisD l])),(4,.d (mts r)),(7,.map N),(34,.d (mts r)),(35,I r.length),(36,I s.1)],Tryz.f132.ntmps,S 0 ++ [.map (boolM (intK s.2))],[],none⟩) (fun s=>r.length - s.1) (0,[]) ⟨w22 _,fun n=>by simp [clubsOf]⟩ ?_ ?_
 ·exact Weak.by ⟨rfl,rfl,rfl,rfl,congrArg V.map (hS 0),rfl,congrArg I (by simp),rfl,trivial⟩ (hL:=rfl)
 rintro ⟨j,ks⟩ ⟨hj,hks⟩
 simp only at hj hks
 conv=>whnf
 refine w2 (fun hb1=>?_) (fun hb1=>?_)
 ·have hj' : j < r.length:=by simpa using hb1
  have hw : IntKind.i64.wrap ((j : Int) + 1) = ((j + 1 : Nat) : Int):=by rw [wrap_in (by omega)]; omega
  have hnx : clubsOf (r.take (j + 1)) = clubsOf (r.take j) ++ [r[j].home,r[j].away]:=by rw [take_next hj',clubsOf,List.flatMap_append]; simp [clubsOf]
  repeat' ((conv=>whnf); first|refine w11 j rfl hj' ?_|simp only [a0,a1,a2,a3,a4,List.append_assoc]|refine MapF.set (intK ks) rfl (intK_ok ks) (fun i hi he=>?_) (fun hi=>?_)|refine w0 ?_|refine w1 ?_|refine w2 (fun h=>?_) (fun h=>?_)|refine w3 ?_|refine w4 (fun h=>?_) (fun h=>?_)|refine w5 _ rfl ?_|refine w6 rfl ?_|refine w7 mixed rfl ?_)
  all_goals conv=>whnf
  have hsn : boolM (intK ks) ++ [(V.d (DI r[j].home),V.d (D.bool true))] = boolM (intK (ks ++ [r[j].home])):=(boolM_snoc _ _).trans (congrArg boolM (intK_snoc _ _))
  have hM : ∀ ks' : List Int,(∀ n,n ∈ ks' ↔ n ∈ ks ∨ n = r[j].home ∨ n = r[j].away) → ∀ n,n ∈ ks' ↔ n ∈ clubsOf (r.take (j + 1)):=fun ks' h n=>by
   rw [h,hnx,hks]; simp
  refine DrawP.por mixed [] [[(0,0),(1,0),(2,0),(3,0),(4,0),(5,3),(6,0),(7,0)]] (by kernel_rfl) ?_
  repeat' ((conv=>whnf); first|refine w11 j rfl hj' ?_|simp only [a0,a1,a2,a3,a4,List.append_assoc]|refine MapF.set (intK ks) rfl (intK_ok ks) (fun i hi he=>?_) (fun hi=>?_)|refine MapF.set (intK ks) ‹_› (intK_ok ks) (fun i hi he=>?_) (fun hi=>?_)|refine MapF.set (intK (ks ++ [r[j].home])) hsn (intK_ok _) (fun i hi he=>?_) (fun hi=>?_)|refine w0 ?_|refine w1 ?_|refine w2 (fun h=>?_) (fun h=>?_)|refine w3 ?_|refine w4 (fun h=>?_) (fun h=>?_)|refine w5 _ rfl ?_|refine w6 rfl ?_|refine w7 mixed rfl ?_)
  all_goals conv=>whnf
  ·rename_i hi1 he1
   exact ⟨(j + 1,ks),⟨hj',hM ks fun n=>⟨.inl,fun h=>h.elim id fun h=>h.elim (fun e=>e ▸ (intK_mem _ _).1 hi1) fun e=>e ▸ (intK_mem _ _).1 hi⟩⟩,by simp only []; omega,Weak.to (N + 1) (hT ks _ _ rfl he) hk1 (by simp [hS]) ⟨rfl,rfl,rfl,rfl,rfl,rfl,rfl,congrArg I hw,trivial⟩ (hf:=by simp [belF,V.bel]; omega) (hB:=hB1 ks)⟩
  ·rename_i hi1
   exact ⟨(j + 1,ks ++ [r[j].away]),⟨hj',hM _ fun n=>by
    have:=(intK_mem _ _).1 hi1
    simp only [List.mem_append,List.mem_singleton]
    exact ⟨fun h=>h.elim .inl fun h=>.inr (.inr h),fun h=>h.elim .inl fun h=>h.elim (fun e=>.inl (e ▸ this)) .inr⟩⟩,by simp only []; omega,Weak.to (N + 1) (hT (ks ++ [r[j].away]) _ _ rfl ((congrArg (· ++ [_]) he).trans ((boolM_snoc _ _).trans (congrArg boolM (intK_snoc _ _))))) hk1 (by simp [hS]) ⟨rfl,rfl,rfl,rfl,rfl,rfl,rfl,congrArg I hw,trivial⟩ (hf:=by simp [belF,V.bel]; omega) (hB:=hB1 _)⟩
  ·rename_i hi1
   exact ⟨(j + 1,ks ++ [r[j].home]),⟨hj',hM _ fun n=>by
    have:=(intK_mem _ _).1 hi
    simp only [List.mem_append,List.mem_singleton] at this ⊢
    exact ⟨fun h=>h.elim .inl fun h=>.inr (.inl h),fun h=>h.elim .inl fun h=>h.elim .inr fun e=>e ▸ this⟩⟩,by simp only []; omega,Weak.to (N + 1) (hT (ks ++ [r[j].home]) _ _ rfl he) hk1 (by simp [hS]) ⟨rfl,rfl,rfl,rfl,rfl,rfl,rfl,congrArg I hw,trivial⟩ (hf:=by simp [belF,V.bel]; omega) (hB:=hB1 _)⟩
  ·rename_i hi1
   exact ⟨(j + 1,ks ++ [r[j].home] ++ [r[j].away]),⟨hj',hM _ fun n=>by
    simp only [List.mem_append,List.mem_singleton,or_assoc]⟩,by simp only []; omega,Weak.to (N + 1) (hT (ks ++ [r[j].home] ++ [r[j].away]) _ _ rfl ((List.append_assoc _ _ _).symm.trans <| (congrArg (· ++ [_]) hsn).trans ((boolM_snoc _ _).trans (congrArg boolM (intK_snoc _ _))))) hk1 (by simp [hS]) ⟨rfl,rfl,rfl,rfl,rfl,rfl,rfl,congrArg I hw,trivial⟩ (hf:=by simp [belF,V.bel]; omega) (hB:=hB1 _)⟩
 have hje : j = r.length:=by simp only at hb1; omega
 subst hje
 rw [List.take_length] at hks
 repeat' ((conv=>whnf); first|refine w0 ?_|refine w1 ?_|refine w2 (fun h=>?_) (fun h=>?_)|refine w3 ?_|refine w4 (fun h=>?_) (fun h=>?_)|refine w5 _ rfl ?_|refine w6 rfl ?_|refine w7 mixed rfl ?_|simp only [a0,a1,a2,a3,a4,List.append_assoc])
 conv=>whnf
 have hT2 : ∀ (tk' : List Mt) (es2 : List (V × V)) (X : List Blk),X.take 2 = [.map (boolM (intK ks)),.map es2] → es2 = boolM (mtK tk') → (S 0 ++ X).take (N + 2) = S 0 ++ [.map (boolM (intK ks)),.map (boolM (mtK tk'))]:=fun tk' es2 X h1 h2=>by
  rw [pre_take _ _ (hS 0),h1,h2]
 have hk2 : (S 0).length ≤ N + 2:=by rw [hS]; omega
 have hB2 : ∀ tk' : List Mt,belB (N + 2) (S 0 ++ [.map (boolM (intK ks)),.map (boolM (mtK tk'))]) = true:=fun tk'=>fewB_bel (hS 0) (hbS 0) 2 (by show (belM _ _ && (belM _ _ && true)) = true; rw [intM_bel,mtM_bel]; rfl)
 refine LoopP.inv (fun s : Nat × List Mt=>s.1 ≤ l.length ∧ ∀ m,m ∈ s.2 ↔ m ∈ takenOf (l.take s.1) p) (fun s=>⟨[(0,.yld b),(1,.d (.rptr [.rptr (planD p)])),(2,.d (.rptr [lisD l])),(4,.d (mts r)),(7,.map N),(10,.map (N + 1)),(49,.d (lisD l)),(50,I l.length),(51,I s.1)],Tryz.f132.ntmps,S 0 ++ [.map (boolM (intK ks)),.map (boolM (mtK s.2))],[],none⟩) (fun s=>l.length - s.1) (0,[]) ⟨w22 _,fun n=>by simp [takenOf]⟩ ?_ ?_
 ·exact Weak.by ⟨rfl,rfl,rfl,rfl,rfl,congrArg V.map (by simp [hS]),rfl,congrArg I (by simp),rfl,trivial⟩ (hL:=by simp [boolM,mtK])
 rintro ⟨a,tk⟩ ⟨ha,htk⟩
 simp only at ha htk
 conv=>whnf
 refine w2 (fun hb1=>?_) (fun hb1=>?_)
 ·have ha' : a < l.length:=by simpa using hb1
  have hwa : IntKind.i64.wrap ((a : Int) + 1) = ((a + 1 : Nat) : Int):=by rw [wrap_in (by omega)]; omega
  have hrow : (l[a]).length ≤ 4611686018427387904:=hr _ (List.getElem_mem ha')
  repeat' ((conv=>whnf); first|refine w11 a rfl ha' ?_|simp only [a0,a1,a2,a3,a4,List.append_assoc]|refine w0 ?_|refine w1 ?_|refine w2 (fun h=>?_) (fun h=>?_)|refine w3 ?_|refine w4 (fun h=>?_) (fun h=>?_)|refine w5 _ rfl ?_|refine w6 rfl ?_|refine w7 mixed rfl ?_)
  conv=>whnf
  generalize hrow0 : l[a] = row at *
  refine LoopP.inv (fun s : Nat × List Mt=>s.1 ≤ row.length ∧ ∀ m,m ∈ s.2 ↔ m ∈ takenOf (l.take a) p ∨ m ∈ (row.take s.1).flatMap (tkM p)) (fun s=>⟨[(0,.yld b),(1,.d (.rptr [.rptr (planD p)])),(2,.d (.rptr [lisD l])),(4,.d (mts r)),(7,.map N),(10,.map (N + 1)),(49,.d (lisD l)),(50,I l.length),(51,I a),(55,.d (mts row)),(56,I row.length),(57,I s.1)],Tryz.f132.ntmps,S 0 ++ [.map (boolM (intK ks)),.map (boolM (mtK s.2))],[],none⟩) (fun s=>row.length - s.1) (0,tk) ⟨w22 _,fun n=>by simp [htk]⟩ ?_ ?_
  ·exact Weak.by ⟨rfl,rfl,rfl,rfl,rfl,rfl,rfl,rfl,rfl,rfl,congrArg I (by simp),rfl,trivial⟩ (hL:=rfl)
  rintro ⟨c,t2⟩ ⟨hc,ht2⟩
  simp only at hc ht2
  conv=>whnf
  refine w2 (fun hb2=>?_) (fun hb2=>?_)
  ·have hc' : c < row.length:=by simpa using hb2
   have hwc : IntKind.i64.wrap ((c : Int) + 1) = ((c + 1 : Nat) : Int):=by rw [wrap_in (by omega)]; omega
   have hM : ∀ t' : List Mt,(∀ n,n ∈ t' ↔ n ∈ t2 ∨ n ∈ tkM p row[c]) → ∀ n,n ∈ t' ↔ n ∈ takenOf (l.take a) p ∨ n ∈ (row.take (c + 1)).flatMap (tkM p):=fun t' h n=>by
    rw [h,ht2,take_next hc',List.flatMap_append,List.mem_append,or_assoc]; simp
   have hsn : boolM (mtK t2) ++ [(V.agg [V.d (DI row[c].home),V.d (DI row[c].away)],V.d (D.bool true))] = boolM (mtK (t2 ++ [row[c]])):=(boolM_snoc _ _).trans (congrArg boolM (mtK_snoc _ row[c]))
   repeat' ((conv=>whnf); first|refine w11 c rfl hc' ?_|simp only [a0,a1,a2,a3,a4,List.append_assoc]|refine MapF.set (mtK t2) rfl (mtK_ok t2) (fun i hi he=>?_) (fun hi=>?_)|refine MapF.set (mtK t2) ‹_› (mtK_ok t2) (fun i hi he=>?_) (fun hi=>?_)|refine MapF.set (mtK (t2 ++ [row[c]])) hsn (mtK_ok _) (fun i hi he=>?_) (fun hi=>?_)|refine w0 ?_|refine w1 ?_|refine w2 (fun h=>?_) (fun h=>?_)|refine w3 ?_|refine w4 (fun h=>?_) (fun h=>?_)|refine w5 _ rfl ?_|refine w6 rfl ?_|refine w7 mixed rfl ?_)
   all_goals conv=>whnf
   ·have e1:=(mtK_mem _ row[c]).1 hi
    exact ⟨(c + 1,t2),⟨hc',hM _ fun n=>by
    rw [tkM,if_pos h]; simp only [List.mem_singleton]; exact ⟨.inl,fun h=>h.elim id fun e=>e ▸ e1⟩⟩,by simp only []; omega,Weak.to (N + 2) (hT2 (t2) _ _ rfl he) hk2 (by simp [hS]) ⟨rfl,rfl,rfl,rfl,rfl,rfl,rfl,rfl,rfl,rfl,rfl,congrArg I hwc,trivial⟩ (hf:=by simp [belF,V.bel]; omega) (hB:=hB2 _)⟩
   ·rename_i hi1 he1
    have e1:=(mtK_mem _ row[c]).1 hi1
    have e2:=(mtK_mem _ (Mt.swap row[c])).1 hi
    exact ⟨(c + 1,t2),⟨hc',hM _ fun n=>by
    rw [tkM,if_neg (by rw [h]; decide)]; simp only [List.mem_cons,List.not_mem_nil,or_false]; exact ⟨.inl,fun h=>h.elim id fun h=>h.elim (fun e=>e ▸ e1) fun e=>e ▸ e2⟩⟩,by simp only []; omega,Weak.to (N + 2) (hT2 (t2) _ _ rfl he) hk2 (by simp [hS]) ⟨rfl,rfl,rfl,rfl,rfl,rfl,rfl,rfl,rfl,rfl,rfl,congrArg I hwc,trivial⟩ (hf:=by simp [belF,V.bel]; omega) (hB:=hB2 _)⟩
   ·rename_i hi1
    have e1:=(mtK_mem _ row[c]).1 hi1
    exact ⟨(c + 1,t2 ++ [Mt.swap row[c]]),⟨hc',hM _ fun n=>by
    rw [tkM,if_neg (by rw [h]; decide)]; simp only [List.mem_cons,List.mem_append,List.not_mem_nil,or_false]; exact ⟨fun h=>h.elim .inl fun h=>.inr (.inr h),fun h=>h.elim .inl fun h=>h.elim (fun e=>.inl (e ▸ e1)) .inr⟩⟩,by simp only []; omega,Weak.to (N + 2) (hT2 (t2 ++ [Mt.swap row[c]]) _ _ rfl ((congrArg (· ++ [_]) he).trans ((boolM_snoc _ _).trans (congrArg boolM (mtK_snoc _ (Mt.swap row[c])))))) hk2 (by simp [hS]) ⟨rfl,rfl,rfl,rfl,rfl,rfl,rfl,rfl,rfl,rfl,rfl,congrArg I hwc,trivial⟩ (hf:=by simp [belF,V.bel]; omega) (hB:=hB2 _)⟩
   ·exact ⟨(c + 1,t2 ++ [row[c]]),⟨hc',hM _ fun n=>by
    rw [tkM,if_pos h]; simp only [List.mem_append]⟩,by simp only []; omega,Weak.to (N + 2) (hT2 (t2 ++ [row[c]]) _ _ rfl hsn) hk2 (by simp [hS]) ⟨rfl,rfl,rfl,rfl,rfl,rfl,rfl,rfl,rfl,rfl,rfl,congrArg I hwc,trivial⟩ (hf:=by simp [belF,V.bel]; omega) (hB:=hB2 _)⟩
   ·have e2:=(mtK_mem _ (Mt.swap row[c])).1 hi
    exact ⟨(c + 1,t2 ++ [row[c]]),⟨hc',hM _ fun n=>by
    rw [tkM,if_neg (by rw [h]; decide)]; simp only [List.mem_cons,List.mem_append,List.not_mem_nil,or_false] at e2 ⊢; exact ⟨fun h=>h.elim .inl fun h=>.inr (.inl h),fun h=>h.elim .inl fun h=>h.elim .inr fun e=>e ▸ e2⟩⟩,by simp only []; omega,Weak.to (N + 2) (hT2 (t2 ++ [row[c]]) _ _ rfl he) hk2 (by simp [hS]) ⟨rfl,rfl,rfl,rfl,rfl,rfl,rfl,rfl,rfl,rfl,rfl,congrArg I hwc,trivial⟩ (hf:=by simp [belF,V.bel]; omega) (hB:=hB2 _)⟩
   ·exact ⟨(c + 1,t2 ++ [row[c]] ++ [Mt.swap row[c]]),⟨hc',hM _ fun n=>by
    rw [tkM,if_neg (by rw [h]; decide)]; simp only [List.mem_cons,List.mem_append,List.not_mem_nil,or_false,or_assoc]⟩,by simp only []; omega,Weak.to (N + 2) (hT2 (t2 ++ [row[c]] ++ [Mt.swap row[c]]) _ _ rfl ((List.append_assoc _ _ _).symm.trans ((congrArg (· ++ [_]) hsn).trans ((boolM_snoc _ _).trans (congrArg boolM (mtK_snoc _ (Mt.swap row[c]))))))) hk2 (by simp [hS]) ⟨rfl,rfl,rfl,rfl,rfl,rfl,rfl,rfl,rfl,rfl,rfl,congrArg I hwc,trivial⟩ (hf:=by simp [belF,V.bel]; omega) (hB:=hB2 _)⟩
  ·have hce : c = row.length:=by simp only at hb2; omega
   subst hce
   rw [List.take_length] at ht2
   repeat' ((conv=>whnf); first|refine w0 ?_|refine w1 ?_|refine w2 (fun h=>?_) (fun h=>?_)|refine w3 ?_|refine w4 (fun h=>?_) (fun h=>?_)|refine w5 _ rfl ?_|refine w6 rfl ?_|refine w7 mixed rfl ?_)
   conv=>whnf
   exact ⟨(a + 1,t2),⟨ha',fun m=>by rw [ht2,take_next ha',takenOf_snoc,List.mem_append,hrow0]⟩,by simp only []; omega,Weak.by ⟨rfl,rfl,rfl,rfl,rfl,rfl,rfl,rfl,congrArg I hwa,trivial⟩⟩
 have hae : a = l.length:=by simp only at hb1; omega
 subst hae
 rw [List.take_length] at htk
 have hlast : (0 : Int) < ((r.map Mt.cells).length : Int) → IntKind.i64.wrap (((r.map Mt.cells).length : Int) - 1) = ((r.length - 1 : Nat) : Int):=fun h=>by
  rw [List.length_map] at h ⊢; rw [wrap_in (by omega)]; omega
 have hl1 : ∀ h : 0 < r.length,leastOf r = if (r[r.length - 1]'(by omega)).away < (r[r.length - 1]'(by omega)).home then (r[r.length - 1]'(by omega)).away else (r[r.length - 1]'(by omega)).home:=fun h=>by
  rw [leastOf,last_of h]
  show min _ _ = _
  split <;> omega
 have hl2 : r.length = 0 → leastOf r = -1:=fun h=>by rw [leastOf,List.eq_nil_of_length_eq_zero h]; rfl
 have hlast2 : (0 : Int) < ((r.map Mt.cells).length : Int) → r.length - 1 < r.length:=fun h=>by
  rw [List.length_map] at h; omega
 repeat' ((conv=>whnf); first|refine w0 ?_|refine w1 ?_|refine w2 (fun h=>?_) (fun h=>?_)|refine w3 ?_|refine w4 (fun h=>?_) (fun h=>?_)|refine w5 _ rfl ?_|refine w6 rfl ?_|refine w7 mixed rfl ?_|simp only [a0,a1,a2,a3,a4,List.append_assoc]|refine w11 (r.length - 1) (hlast ‹_›) (hlast2 ‹_›) ?_|refine w6 (show (2 : Int) ≠ 0 by decide) ?_)
 all_goals conv=>whnf
 all_goals
  obtain ⟨lst,hlst⟩ : ∃ x,x = leastOf r:=⟨_,rfl⟩
  have hmay : ((p.clubs.map fun c=>[DI c]).length : Int).tmod 2 = ((p.clubs.length % 2 : Nat) : Int):=by rw [List.length_map]; exact (Int.ofNat_tmod _ _).symm
  have hchs : chs l p = chOut (clubsOf r) (takenOf l p) lst (p.clubs.length % 2) p.clubs:=by rw [chs,if_pos ‹_›,hlst,hrd]
  refine LoopP.inv (fun s : Nat × Nat × Nat=>s.1 ≤ p.clubs.length ∧ s.2.1 ≤ 1 ∧ P s.2.2 ∧ ∃ pre : List Mt,pre.length = s.2.2 ∧ chs l p = pre ++ chOut (clubsOf r) (takenOf l p) lst s.2.1 (p.clubs.drop s.1)) (fun s=>⟨[(0,.yld b),(1,.d (.rptr [.rptr (planD p)])),(2,.d (.rptr [lisD l])),(7,.map N),(10,.map (N + 1)),(15,I lst),(17,I s.2.1),(105,.d (ints p.clubs)),(106,I p.clubs.length),(107,I s.1)],Tryz.f132.ntmps,S s.2.2 ++ [.map (boolM (intK ks)),.map (boolM (mtK tk))],[],none⟩) (fun s=>p.clubs.length - s.1) (0,p.clubs.length % 2,0) ⟨w22 _,by show p.clubs.length % 2 ≤ 1; omega,hP,[],rfl,hchs⟩ ?_ ?_
  ·refine Weak.by ⟨rfl,rfl,rfl,rfl,rfl,?_,congrArg I hmay,rfl,congrArg I (by simp),rfl,trivial⟩ (hL:=rfl)
   rw [hlst]
   first
   | exact congrArg I (hl1 (by have:=hlast2 h; omega)).symm
   | exact congrArg I (hl2 (by rw [List.length_map] at h; omega)).symm
  clear hlast hlast2 hl1 hl2
  rintro ⟨i,may,c⟩ ⟨hi,hm,hPc,pre,hpre,heq⟩
  simp only at hi hm hPc hpre heq
  conv=>whnf
  refine w2 (fun hb1=>?_) (fun hb1=>?_)
  ·have hi' : i < p.clubs.length:=by simpa using hb1
   have hwi : IntKind.i64.wrap ((i : Int) + 1) = ((i + 1 : Nat) : Int):=by rw [wrap_in (by omega)]; omega
   rw [List.drop_eq_getElem_cons hi',chOut_cons] at heq
   have hwm : IntKind.i64.wrap ((may : Int) - 1) = (may : Int) - 1:=wrap_in (by omega)
   have hend : ∀ c' : Nat,∀ pre' : List Mt,pre'.length = c' → P c' → chs l p = pre' → k (.tup []) (S c'):=fun c' pre' h1 h2 h3=>by
    have:=h0
    rw [len,h3,h1] at this
    exact this h2
   repeat' ((conv=>whnf); first|refine w11 i rfl hi' ?_|simp only [a0,a1,a2,a3,a4,List.append_assoc]|refine MapF.set (intK ks) rfl (intK_ok ks) (fun q hq he=>?_) (fun hq=>?_)|refine w0 ?_|refine w1 ?_|refine w2 (fun h=>?_) (fun h=>?_)|refine w3 ?_|refine w4 (fun h=>?_) (fun h=>?_)|refine w5 _ rfl ?_|refine w6 rfl ?_|refine w7 mixed rfl ?_)
   all_goals conv=>whnf
   ·have hbz : p.clubs[i] ∈ clubsOf r:=(hks _).1 ((intK_mem _ _).1 hq)
    rw [if_pos hbz] at heq
    exact ⟨(i + 1,may,c),⟨hi',hm,hPc,pre,hpre,heq⟩,by simp only []; omega,Weak.by ⟨rfl,rfl,rfl,rfl,rfl,rfl,rfl,rfl,rfl,congrArg I hwi,trivial⟩⟩
   ·have hbz : p.clubs[i] ∉ clubsOf r:=fun hh=>hq ((intK_mem _ _).2 ((hks _).2 hh))
    have hlt : lst < p.clubs[i]:=by omega
    rw [if_neg hbz,if_pos hlt] at heq
    obtain ⟨os,hos⟩ : ∃ os,os = p.clubs.drop (i + 1):=⟨_,rfl⟩
    obtain ⟨fi,hfi⟩ : ∃ fi,fi = p.clubs[i]:=⟨_,rfl⟩
    obtain ⟨rest,hrest⟩ : ∃ rest,rest = if may = 0 then [] else chOut (clubsOf r) (takenOf l p) lst (may - 1) os:=⟨_,rfl⟩
    have hosl : os.length = p.clubs.length - (i + 1):=by rw [hos,List.length_drop]
    rw [← hos,← hrest,← hfi] at heq
    have hsl : (((p.clubs.map fun n=>[DI n]).drop (i + 1)).take ((p.clubs.map fun n=>[DI n]).length - (i + 1))) = os.map fun n=>[DI n]:=by
     rw [hos,List.map_drop,List.take_of_length_le (by rw [List.length_drop]; exact Nat.le_refl _)]
    repeat' ((conv=>whnf); first|refine w6 (fun e he=>by obtain ⟨x,_,rfl⟩:=List.mem_map.1 he; rfl) ?_|refine SliceP.intro (i + 1) (p.clubs.map fun n=>[DI n]).length hwi rfl (by rw [List.length_map]; omega) (w21 _) ?_|simp only [hsl]|refine w0 ?_|refine w1 ?_|refine w2 (fun h=>?_) (fun h=>?_)|refine w3 ?_|refine w4 (fun h=>?_) (fun h=>?_)|refine w5 _ rfl ?_|refine w6 rfl ?_|refine w7 mixed rfl ?_)
    conv=>whnf
    refine LoopP.inv (fun s : Nat × Nat=>s.1 ≤ os.length ∧ P s.2 ∧ ∃ pre : List Mt,pre.length = s.2 ∧ chs l p = pre ++ (chIn (clubsOf r) (takenOf l p) fi (os.drop s.1) ++ rest)) (fun s=>⟨[(0,.yld b),(1,.d (.rptr [.rptr (planD p)])),(2,.d (.rptr [lisD l])),(7,.map N),(10,.map (N + 1)),(15,I lst),(17,I may),(19,I fi),(105,.d (ints p.clubs)),(106,I p.clubs.length),(107,I i),(125,.d (ints os)),(126,I os.length),(127,I s.1)],Tryz.f132.ntmps,S s.2 ++ [.map (boolM (intK ks)),.map (boolM (mtK tk))],[],none⟩) (fun s=>os.length - s.1) (0,c) ⟨w22 _,hPc,pre,hpre,heq⟩ ?_ ?_
    ·exact Weak.by ⟨rfl,rfl,rfl,rfl,rfl,rfl,rfl,congrArg I hfi.symm,rfl,rfl,rfl,rfl,congrArg I (by rw [List.length_map]),rfl,trivial⟩ (hL:=rfl)
    rintro ⟨q,c2⟩ ⟨hq2,hPc2,pre2,hpre2,heq2⟩
    simp only at hq2 hPc2 hpre2 heq2
    conv=>whnf
    refine w2 (fun hb2=>?_) (fun hb2=>?_)
    ·have hq2' : q < os.length:=by simpa using hb2
     have hwq : IntKind.i64.wrap ((q : Int) + 1) = ((q + 1 : Nat) : Int):=by rw [wrap_in (by omega)]; omega
     obtain ⟨o,ho⟩ : ∃ o,o = os[q]:=⟨_,rfl⟩
     rw [List.drop_eq_getElem_cons hq2',← ho,chIn] at heq2
     repeat' ((conv=>whnf); first|refine w11 q rfl hq2' ?_|simp only [a0,a1,a2,a3,a4,List.append_assoc]|refine MapF.set (intK ks) rfl (intK_ok ks) (fun z hz he=>?_) (fun hz=>?_)|refine w0 ?_|refine w1 ?_|refine w2 (fun h=>?_) (fun h=>?_)|refine w3 ?_|refine w4 (fun h=>?_) (fun h=>?_)|refine w5 _ rfl ?_|refine w6 rfl ?_|refine w7 mixed rfl ?_)
     all_goals conv=>whnf
     ·have hbo : o ∈ clubsOf r:=ho ▸ (hks _).1 ((intK_mem _ _).1 hz)
      rw [if_pos hbo] at heq2
      exact ⟨(q + 1,c2),⟨hq2',hPc2,pre2,hpre2,heq2⟩,by simp only []; omega,Weak.by ⟨rfl,rfl,rfl,rfl,rfl,rfl,rfl,rfl,rfl,rfl,rfl,rfl,rfl,congrArg I hwq,trivial⟩⟩
     ·have hbo : o ∉ clubsOf r:=fun hh=>hz ((intK_mem _ _).2 ((hks _).2 (ho ▸ hh)))
      rw [if_neg hbo,List.append_assoc] at heq2
      obtain ⟨rest2,hrest2⟩ : ∃ x,x = chIn (clubsOf r) (takenOf l p) fi (os.drop (q + 1)) ++ rest:=⟨_,rfl⟩
      obtain ⟨two,htwo⟩ : ∃ two : List Mt,two = [⟨fi,o⟩,⟨o,fi⟩]:=⟨_,rfl⟩
      have htl : two.length = 2:=by rw [htwo]; rfl
      rw [← hrest2,← htwo] at heq2
      refine LoopP.inv (fun s : Nat × Nat=>s.1 ≤ 2 ∧ P s.2 ∧ ∃ pre : List Mt,pre.length = s.2 ∧ chs l p = pre ++ ((two.drop s.1).filter (fun m=>decide (m ∉ takenOf l p)) ++ rest2)) (fun s=>⟨[(0,.yld b),(1,.d (.rptr [.rptr (planD p)])),(2,.d (.rptr [lisD l])),(7,.map N),(10,.map (N + 1)),(15,I lst),(17,I may),(19,I fi),(21,I o),(105,.d (ints p.clubs)),(106,I p.clubs.length),(107,I i),(125,.d (ints os)),(126,I os.length),(127,I q),(140,.own (N + 2) 0 0 2),(141,I 2),(142,I s.1)],Tryz.f132.ntmps,S s.2 ++ [.map (boolM (intK ks)),.map (boolM (mtK tk)),.row 0 2 (mR two)],[],none⟩) (fun s=>2 - s.1) (0,c2) ⟨w22 _,hPc2,pre2,hpre2,heq2⟩ ?_ ?_
      ·exact Weak.by ⟨rfl,rfl,rfl,rfl,rfl,rfl,rfl,rfl,congrArg I ho.symm,rfl,rfl,rfl,rfl,rfl,rfl,rfl,rfl,rfl,trivial⟩ (hL:=by subst htwo; subst ho; rfl)
      rintro ⟨z,c3⟩ ⟨hz2,hPc3,pre3,hpre3,heq3⟩
      simp only at hz2 hPc3 hpre3 heq3
      conv=>whnf
      refine w2 (fun hb3=>?_) (fun hb3=>?_)
      ·have hz' : z < 2:=by simp only at hb3; omega
       have hwz : IntKind.i64.wrap ((z : Int) + 1) = ((z + 1 : Nat) : Int):=by rw [wrap_in (by omega)]; omega
       have hzt : z < two.length:=by omega
       have hgz:=mR_get hzt
       repeat' ((conv=>whnf); first|refine IdxN.intro z rfl hz' ?_|refine w5 _ hgz ?_|simp only [a0,a1,a2,a3,a4,List.append_assoc]|refine MapF.set (mtK tk) rfl (mtK_ok tk) (fun y hy2 he=>?_) (fun hy2=>?_)|refine w0 ?_|refine w1 ?_|refine w2 (fun h=>?_) (fun h=>?_)|refine w3 ?_|refine w4 (fun h=>?_) (fun h=>?_)|refine w5 _ rfl ?_|refine w6 rfl ?_|refine w7 mixed rfl ?_)
       all_goals conv=>whnf
       ·have htz : two[z] ∈ takenOf l p:=(htk _).1 ((mtK_mem _ two[z]).1 hy2)
        rw [List.drop_eq_getElem_cons hzt,List.filter_cons_of_neg (by simpa using htz)] at heq3
        exact ⟨(z + 1,c3),⟨hz',hPc3,pre3,hpre3,heq3⟩,by simp only []; omega,Weak.to (N + 3) (pre_take _ _ (hS c3) 3) (by rw [hS]; omega) (by simp [hS]) ⟨rfl,rfl,rfl,rfl,rfl,rfl,rfl,rfl,rfl,rfl,rfl,rfl,rfl,rfl,rfl,rfl,rfl,congrArg I hwz,trivial⟩ (hf:=by simp [belF,V.bel]; omega) (hB:=fewB_bel (hS c3) (hbS c3) 3 (by show (belM _ _ && (belM _ _ && (belR _ _ && true))) = true; rw [intM_bel,mtM_bel,mR_bel]; rfl))⟩
       ·have htz : two[z] ∉ takenOf l p:=fun hh=>hy2 ((mtK_mem _ two[z]).2 ((htk _).2 hh))
        rw [List.drop_eq_getElem_cons hzt,List.filter_cons_of_pos (by simpa using htz),List.cons_append] at heq3
        have hlt3 : c3 < ((chs l p).map fun m=>[mtV m]).length:=by rw [len,heq3,List.length_append,List.length_cons]; omega
        have hxs : ((chs l p).map fun m=>[mtV m])[c3] = [mtV two[z]]:=by
         rw [List.getElem_map]
         have : (chs l p)[c3]? = some two[z]:=by rw [heq3,List.getElem?_append_right (by omega),hpre3,Nat.sub_self]; rfl
         rw [List.getElem?_eq_getElem (by rw [← len]; exact hlt3)] at this
         exact congrArg (fun x=>[mtV x]) (Option.some.inj this)
        have hyc:=hy c3 hlt3 hPc3
        rw [hxs] at hyc
        refine YR.frameP ‹_› hyc (hS c3) (hS _) (hbS c3) (hbS _) (hdS c3) hb rfl ?_ ?_
        ·intro M hM hP1
         subst hM
         repeat' ((conv=>whnf); first|refine w0 ?_|refine w1 ?_|refine w2 (fun h=>?_) (fun h=>?_)|refine w3 ?_|refine w4 (fun h=>?_) (fun h=>?_)|refine w5 _ rfl ?_|refine w6 rfl ?_|refine w7 mixed rfl ?_|simp only [a0,a1,a2,a3,a4,List.append_assoc])
         conv=>whnf
         exact ⟨(z + 1,c3 + 1),⟨hz',hP1,pre3 ++ [two[z]],by simp [hpre3],by rw [heq3]; simp⟩,by simp only []; omega,Weak.to (N + 3) (pre_take _ _ (hS (c3 + 1)) 3) (by rw [hS]; omega) (by simp [hS]) ⟨rfl,rfl,rfl,rfl,rfl,rfl,rfl,rfl,rfl,rfl,rfl,rfl,rfl,rfl,rfl,rfl,rfl,congrArg I hwz,trivial⟩ (hf:=by simp [belF,V.bel]; omega) (hB:=fewB_bel (hS (c3 + 1)) (hbS (c3 + 1)) 3 (by show (belM _ _ && (belM _ _ && (belR _ _ && true))) = true; rw [intM_bel,mtM_bel,mR_bel]; rfl))⟩
        ·rintro Z M rfl hz1 hz2 hz3
         repeat' ((conv=>whnf); first|refine w0 ?_|refine w1 ?_|refine w2 (fun h=>?_) (fun h=>?_)|refine w3 ?_|refine w4 (fun h=>?_) (fun h=>?_)|refine w5 _ rfl ?_|refine w6 rfl ?_|refine w7 mixed rfl ?_)
         conv=>whnf
         exact FinP.drop (n:=N) (List.take_left' hz1) (Nat.le_of_eq (hS 0)) rfl hz2 hz3
      ·have hze : z = 2:=by simp only at hb3; omega
       subst hze
       have hd2 : two.drop 2 = []:=List.drop_of_length_le (by omega)
       rw [hd2,List.filter_nil,List.nil_append,hrest2] at heq3
       repeat' ((conv=>whnf); first|refine w0 ?_|refine w1 ?_|refine w2 (fun h=>?_) (fun h=>?_)|refine w3 ?_|refine w4 (fun h=>?_) (fun h=>?_)|refine w5 _ rfl ?_|refine w6 rfl ?_|refine w7 mixed rfl ?_)
       conv=>whnf
       exact ⟨(q + 1,c3),⟨hq2',hPc3,pre3,hpre3,heq3⟩,by simp only []; omega,Weak.to (N + 2) (pre_take _ _ (hS c3) 2) (by rw [hS]; omega) (by simp [hS]) ⟨rfl,rfl,rfl,rfl,rfl,rfl,rfl,rfl,rfl,rfl,rfl,rfl,rfl,congrArg I hwq,trivial⟩ (hf:=by simp [belF,V.bel]; omega) (hB:=fewB_bel (hS c3) (hbS c3) 2 (by show (belM _ _ && (belM _ _ && true)) = true; rw [intM_bel,mtM_bel]; rfl))⟩
    ·have hqe : q = os.length:=by simp only at hb2; omega
     subst hqe
     rw [List.drop_length,chIn,List.nil_append] at heq2
     repeat' ((conv=>whnf); first|refine w0 ?_|refine w1 ?_|refine w2 (fun h=>?_) (fun h=>?_)|refine w3 ?_|refine w4 (fun h=>?_) (fun h=>?_)|refine w5 _ rfl ?_|refine w6 rfl ?_|refine w7 mixed rfl ?_)
     all_goals conv=>whnf
     ·have hm0 : may = 0:=by rw [hwm] at h; omega
      rw [hrest,if_pos hm0,List.append_nil] at heq2
      exact FinP.drop (n:=N) (L':=S c2) (List.take_left' (hS c2)) (Nat.le_of_eq (hS 0)) rfl (hbS c2) (hend c2 pre2 hpre2 hPc2 heq2)
     ·have hm0 : may ≠ 0:=by rw [hwm] at h; omega
      rw [hrest,if_neg hm0,hos] at heq2
      exact ⟨(i + 1,may - 1,c2),⟨hi',by simp only []; omega,hPc2,pre2,hpre2,heq2⟩,by simp only []; omega,Weak.by ⟨rfl,rfl,rfl,rfl,rfl,rfl,congrArg I (hwm.trans (by show (may : Int) - 1 = ((may - 1 : Nat) : Int); omega)),rfl,rfl,congrArg I hwi,trivial⟩⟩
   ·have hbz : p.clubs[i] ∉ clubsOf r:=fun hh=>hq ((intK_mem _ _).2 ((hks _).2 hh))
    have hlt : ¬ lst < p.clubs[i]:=by omega
    have hm0 : may = 0:=by rw [hwm] at h; omega
    rw [if_neg hbz,if_neg hlt,if_pos hm0,List.append_nil,List.append_nil] at heq
    exact FinP.drop (n:=N) (L':=S c) (List.take_left' (hS c)) (Nat.le_of_eq (hS 0)) rfl (hbS c) (hend c pre hpre hPc heq)
   ·have hbz : p.clubs[i] ∉ clubsOf r:=fun hh=>hq ((intK_mem _ _).2 ((hks _).2 hh))
    have hlt : ¬ lst < p.clubs[i]:=by omega
    have hm0 : may ≠ 0:=by rw [hwm] at h; omega
    rw [if_neg hbz,if_neg hlt,if_neg hm0,List.nil_append] at heq
    exact ⟨(i + 1,may - 1,c),⟨hi',by simp only []; omega,hPc,pre,hpre,heq⟩,by simp only []; omega,Weak.by ⟨rfl,rfl,rfl,rfl,rfl,rfl,congrArg I (hwm.trans (by show (may : Int) - 1 = ((may - 1 : Nat) : Int); omega)),rfl,rfl,congrArg I hwi,trivial⟩⟩
  ·have hie : i = p.clubs.length:=by simp only at hb1; omega
   subst hie
   rw [List.drop_length] at heq
   repeat' ((conv=>whnf); first|refine w0 ?_|refine w1 ?_|refine w2 (fun h=>?_) (fun h=>?_)|refine w3 ?_|refine w4 (fun h=>?_) (fun h=>?_)|refine w5 _ rfl ?_|refine w6 rfl ?_|refine w7 mixed rfl ?_)
   conv=>whnf
   refine w15 (n:=N) (L':=S c) (List.take_left' (hS c)) (Nat.le_of_eq (hS 0)) rfl (hbS c) ?_
   have:=h0
   rw [len,heq,chOut,List.append_nil,hpre] at this
   exact this hPc
end Go.Proofs.YtndlggbljkhfbaaGreat
namespace Go.Tidy
def modeOf : Option Value → FrameMode
 | none=>.returning
 | some v=>.panicking [{ v,recovered:=false }]
def modeAfter : Option Value → FrameMode
 | none=>.returning
 | some v=>.panicking [{ v,recovered:=true }]
def recV : Option V → V
 | none=>.d .niliface
 | some x=>x
theorem settle_after : ∀ ov : Option Value,settle (modeAfter ov) = .returning
 | none=>rfl
 | some _=>rfl
@[irreducible] def DefP (C : Ctx) (f : FuncId) (caps : List V) (X : Option V) (L : List Blk) (k : List Blk → Prop) : Prop :=
 (∃ fn, C.P.funcs[f]? = some fn ∧ fn.body.isSome = true ∧ (fn.name == "runtime.NumGoroutine") = false) ∧
 ∀ (g : Gh) (w : World) (vs : Array Value) (ov : Option Value),Good g w L → RVs g w L caps vs → RO g w L X ov →
  CallsDIn Fence.wide 0 C.P f vs (modeOf ov) w fun e u' w'=>(∃ v,e = .returned v) ∧ u' = modeAfter ov ∧ ∃ L' g',k L' ∧ Good g' w' L' ∧ Prog L.length g w L g' w' L'
section
variable {C : Ctx} {g : Gh} {w : World} {L : List Blk}
theorem recoverD_of (c : Frame) (cs : List Frame) (ov : Option Value) (h : c.mode = modeOf ov) :
  recoverD (c :: cs) = match ov with
   | none=>none
   | some v=>some (v,{ c with mode:=modeAfter (some v) } :: cs):=by
 cases ov with
 | none=>simp only [recoverD]; rw [h]; rfl
 | some v=>simp only [recoverD]; rw [h]; rfl
def vEndD (k0 : Nat) (k : List Blk → Prop) (e : Exit) (σ : TS) : Prop :=
 match e with
 | .normal | .ret=>match σ.df with
  | []=>FinP k0 (.tup []) σ.L (fun _ L'=>k L')
  | _=>False
 | _=>False
theorem defP_of [Quiet C] (hC : C.OK) (cut : Code → Bool) {f : FuncId} {fn : Func} {id : Nat} {o0 o1 : Oper} {rest : Code} {caps : List V} {X : Option V} {k : List Blk → Prop}
  (hf : C.P.funcs[f]? = some fn) (hb : fn.body = some (.seq (.region id #[o0, o1] false) rest)) (hname : (fn.name == "runtime.NumGoroutine") = false) {n : Nat} (hn : fn.ntmps = n) (ha : caps.length ≤ n) (hres : fn.results.toList = [])
  {d0 d1 : Nat} (h0 : o0.op = .call { callee:=.builtin .recover,args:=#[],argTypes:=#[] }) (hg0 : o0.guard = none) (hd0 : o0.dst = some d0) (h1 : o1.op = .assign (.tmp d0)) (hg1 : o1.guard = none) (hd1 : o1.dst = some d1)
  (hl0 : d0 < n) (hl1 : d1 < n) (hpn : C.pn ≤ L.length)
  (h : vc C cut L.length rest ⟨(d1,recV X) :: (d0,recV X) :: initFr 0 caps,n,L,[],none⟩ (vEndD L.length k)) : DefP C f caps X L k:=by
 unfold DefP
 refine ⟨⟨fn,hf,by rw [hb]; rfl,hname⟩,fun g w vs ov hg hvs hX=>?_⟩
 refine ⟨trivial,fun c cs hm _=>?_⟩
 obtain ⟨b,hbd⟩ : ∃ b : Frame,b = { (default : Frame) with fn:=f,kind:=.deferred,roundOf:=none }:=⟨_,rfl⟩
 have hbf : b.fn = f:=by rw [hbd]
 have hbk : b.kind = .deferred:=by rw [hbd]
 have hbr : b.roundOf = none:=by rw [hbd]
 obtain ⟨a0,ha0⟩ : ∃ a0 : Act,a0 = { tmps:=vs ++ Array.replicate (fn.ntmps - vs.size) undef,defers:=[] }:=⟨_,rfl⟩
 have hsz : a0.tmps.size = n:=by have:=hvs.1; rw [ha0]; simp [hn]; omega
 have henter : Frame.enter C.P f vs .deferred = b.atR a0 [.code (.seq (.region id #[o0,o1] false) rest)]:=by
  rw [hbd,ha0]; simp [Frame.enter,Frame.atR,hf,hb]
 obtain ⟨rv,hrv⟩ : ∃ rv : Value,rv = (match ov with | none=>.nilIface | some v=>v):=⟨_,rfl⟩
 have hrX : RV g w L (recV X) rv:=by
  rw [hrv]
  cases X with
  | none=>cases ov with
   | none=>exact .d _ _ .niliface
   | some v=>exact hX.elim
  | some x=>cases ov with
   | none=>exact hX.elim
   | some v=>exact hX
 obtain ⟨a1,ha1⟩ : ∃ a1 : Act,a1 = (a0.put (some d0) rv).put (some d1) rv:=⟨_,rfl⟩
 have hc' : ({ c with mode:=modeOf ov } : Frame) = c:=by rw [← hm]
 have hregion : wpOpsSIn Fence.wide 0 C.P #[o0,o1] (fun e a' cs' w'=>e = .normal ∧ a' = a1 ∧ cs' = { c with mode:=modeAfter ov } :: cs ∧ w' = w) (List.range 2) a0 (c :: cs) w:=by
  have hab : ∀ (o : Oper) (a : Act),∀ f,o.about C.P w a.eval = some f → Fence.wide.fn f:=fun _ _ _ _=>trivial
  have w0 : ∀ y,Region.wanted o0 y = true:=fun y=>by simp [Region.wanted,hg0]
  have w1 : ∀ y,Region.wanted o1 y = true:=fun y=>by simp [Region.wanted,hg1]
  have e0 : (execOp a0.eval o0).run C.P w = .ok .recover w:=by
   simp [execOp,h0,resolve,invoke,builtin]
  have e1 : ∀ a : Act,(execOp a.eval o1).run C.P w = .ok (.value (a.eval (.tmp d0))) w:=fun a=>by
   simp [execOp,h1]
  have hev : (a0.put (some d0) rv).eval (.tmp d0) = rv:=by
   simp [Act.eval,Act.put,hsz,hl0]
  rw [show List.range 2 = [0,1] from rfl]
  have g0 : (#[o0,o1] : Array Oper)[0]? = some o0:=rfl
  have g1 : (#[o0,o1] : Array Oper)[1]? = some o1:=rfl
  simp only [wpOpsSIn,g0,g1,w0,w1,if_true,e0,recoverD_of c cs ov hm]
  refine ⟨hab o0 a0,?_⟩
  cases ov with
  | none =>
   simp only at hrv ⊢
   rw [hd0,← hrv]
   refine ⟨hab _ _,?_⟩
   rw [e1,hev,hd1]
   exact ⟨trivial,ha1.symm,by rw [show modeAfter none = modeOf none from rfl,hc'],rfl⟩
  | some v =>
   simp only at hrv ⊢
   rw [hd0,← hrv]
   refine ⟨hab _ _,?_⟩
   rw [e1,hev,hd1]
   exact ⟨trivial,ha1.symm,trivial,rfl⟩
 obtain ⟨e,a',cs',w',-,⟨rfl,rfl,rfl,rfl⟩,s1⟩:=wp_opsSIn (List.range 2) a0 (c :: cs) w hregion b [.code rest] hbk hbr trivial (room_wide _)
 have wide : ∀ {m m' : Machine},StepsIn (Machine.fenced C.P (Fx none)) C.P m m' → StepsIn (Machine.fenced C.P Fence.wide) C.P m m':=fun s=>stepsIn_wide.2 s.steps
 have s0 : StepsIn (Machine.fenced C.P Fence.wide) C.P (lone (Frame.enter C.P f vs .deferred) (c :: cs) w') (lone (b.atR a0 (.inRegion #[o0,o1] (List.range 2) :: [.code rest])) (c :: cs) w'):=by
  rw [henter]
  exact wide ((StepsIn.one (fenced_Fx C.P _) stepR_seq).trans (.one (fenced_Fx C.P _) stepR_region))
 have s01 : StepsIn (Machine.fenced C.P Fence.wide) C.P (lone (Frame.enter C.P f vs .deferred) (c :: cs) w') (lone (b.atR a' [.code rest]) ({ c with mode:=modeAfter ov } :: cs) w'):=s0.trans s1
 -- the rest
 have hfr0 : ∀ i,RV g w' L (look (initFr 0 caps) i) (a0.tmps.getD i undef):=by
  rw [ha0,hn]; exact init_frame hvs n
 have put : ∀ (fr : List (Nat × V)) (a : Act) (d : Nat),a.tmps.size = n → d < n → (∀ i,RV g w' L (look fr i) (a.tmps.getD i undef)) → (a.put (some d) rv).tmps.size = n ∧ ∀ i,RV g w' L (look ((d,recV X) :: fr) i) ((a.put (some d) rv).tmps.getD i undef):=by
  intro fr a d hs hd hfr
  refine ⟨by simp [Act.put,hs],fun i=>?_⟩
  rw [look_cons]
  simp only [Act.put]
  by_cases e : d = i
  ·subst e
   rw [if_pos rfl]
   simp [Array.getD,hs,hd]
   exact hrX
  ·rw [if_neg e]
   have : (a.tmps.setIfInBounds d rv).getD i undef = a.tmps.getD i undef:=by
    simp only [Array.getD_eq_getD_getElem?,Array.getElem?_setIfInBounds_ne e]
   rw [this]; exact hfr i
 obtain ⟨p1,p2⟩:=put _ a0 d0 hsz hl0 hfr0
 obtain ⟨q1,q2⟩:=put _ _ d1 p1 hl1 p2
 have hs : St L.length none g ⟨(d1,recV X) :: (d0,recV X) :: initFr 0 caps,n,L,[],none⟩ a' w':=by
  rw [ha1]
  refine ⟨q1,q2,hg,Nat.le_refl _,by rw [ha0]; rfl,fun i b d hb _=>(by simp at hb),fun lb h=>(by cases h),fun _=>rfl⟩
 obtain ⟨e2,a2,w2,hq,s2⟩:=vc_ok (r:=none) hC hpn rest _ _ g a' w' h hs b [] ({ c with mode:=modeAfter ov } :: cs) hbr ⟨fn,by rw [hbf]; exact hf⟩
 obtain ⟨⟨σ2,g2,hq2,hs2,hp2⟩ | ⟨v,X',L',g',rfl,hS,hi⟩,-,-⟩:=hq
 rotate_left
 ·exact (Quiet.q X' L' hS.pan).elim
 have key : (e2 = .normal ∨ e2 = .ret) ∧ σ2.df = [] ∧ FinP L.length (.tup []) σ2.L (fun _ L'=>k L'):=by
  unfold vEndD at hq2
  split at hq2
  ·split at hq2
   ·exact ⟨.inl rfl,‹_›,hq2⟩
   ·exact hq2.elim
  ·split at hq2
   ·exact ⟨.inr rfl,‹_›,hq2⟩
   ·exact hq2.elim
  ·exact hq2.elim
 obtain ⟨he,hdf,hfin⟩:=key
 have hdef : a2.defers = []:=List.eq_nil_of_length_eq_zero (by rw [hs2.df,hdf]; rfl)
 unfold FinP at hfin
 obtain ⟨X',L',hW,hk⟩:=hfin
 obtain ⟨g3,t1,t2,t3⟩:=hW g2 w2 (.tuple #[]) hs2.good hs2.k (.tup [] #[] rfl (fun j x v hx=>by simp at hx))
 have hres' : (results fn a2.tmps).run C.P w2 = .ok (.tuple #[]) w2:=by
  obtain ⟨v,xs,r1,r2,r3⟩:=results_ok (C:=C) hC (fn:=fn) (tmps:=a2.tmps) hs2.fr hs2.good (k:=fun xs=>xs = []) (by rw [hres]; rfl)
  subst r2
  cases r3 with
  | tup _ vs hlen=>rw [r1]; congr 2; exact (Array.eq_empty_of_size_eq_zero (by simpa using hlen.symm))
 have hR : (∃ v,Ending.returned (.tuple #[]) = .returned v) ∧ modeAfter ov = modeAfter ov ∧ ∃ L' g',k L' ∧ Good g' w2 L' ∧ Prog L.length g w' L g' w2 L':=⟨⟨_,rfl⟩,rfl,L',g3,hk,t1,hp2.trans t3⟩
 have fin : ∀ (todo : List Item),StepsIn (Machine.fenced C.P (Fx none)) C.P (lone (b.atR a' [.code rest]) ({ c with mode:=modeAfter ov } :: cs) w') (lone { b.atR a2 todo with mode:=.returning } ({ c with mode:=modeAfter ov } :: cs) w2) →
   ∃ e u' w'' fr,((∃ v,e = Ending.returned v) ∧ u' = modeAfter ov ∧ ∃ L' g',k L' ∧ Good g' w'' L' ∧ Prog L.length g w' L g' w'' L') ∧ ComesIn (Machine.fenced C.P Fence.wide) C.P (lone (Frame.enter C.P f vs .deferred) (c :: cs) w') (lone fr ({ c with mode:=u' } :: cs) w'') e ∧ fr.kind = .deferred ∧ fr.fn = f ∧ fr.going C.P w'' e:=by
  intro todo s
  refine ⟨.returned (.tuple #[]),modeAfter ov,w2,{ b.atR a2 todo with mode:=.returning },hR,s01.trans (wide s),?_,?_,rfl,?_,fn,?_,hres'⟩
  ·simpa [Frame.atR] using hbk
  ·simpa [Frame.atR] using hbf
  ·simpa [Frame.atR] using hdef
  ·simpa [Frame.atR,hbf] using hf
 rcases he with rfl | rfl
 ·exact fin [] (StepsIn.trans s2 (.one (fenced_Fx C.P _) (stepR_end hbr)))
 ·obtain ⟨todo,s⟩:=s2.1 hbr
  exact fin todo s
theorem wpOpsIn_keep {F : Fence} {n : Nat} {P : Program} {ops : Array Oper} {Q : Exit → Act → World → Prop} {slots : List Nat} (hk : ∀ o ∈ ops,∀ d,o.dst = some d → d ∉ slots) (a0 : Act) : ∀ (l : List Nat) (a : Act) (w : World),
  (∀ i ∈ slots,a.tmps.getD i undef = a0.tmps.getD i undef) → wpOpsIn F n P ops Q l a w → wpOpsIn F n P ops (fun e a' w'=>Q e a' w' ∧ ((e = .normal ∨ ∃ ch,e = .panic ch) → ∀ i ∈ slots,a'.tmps.getD i undef = a0.tmps.getD i undef)) l a w
 | [],a,w,ha,h=>⟨h,fun _=>ha⟩
 | i :: rest,a,w,ha,h=>by
  simp only [wpOpsIn] at h ⊢
  cases ho : ops[i]? with
  | none=>rw [ho] at h; exact wpOpsIn_keep hk a0 rest a w ha h
  | some o =>
   rw [ho] at h
   simp only at h ⊢
   have hput : ∀ {ds : List Deferred} v,∀ j ∈ slots,(({ tmps:=a.tmps,defers:=ds } : Act).put o.dst v).tmps.getD j undef = a0.tmps.getD j undef:=fun v j hj=>by
    cases hd : o.dst with
    | none=>exact ha j hj
    | some d =>
     have hne : d ≠ j:=fun e=>hk o (Array.mem_of_getElem? ho) d hd (e ▸ hj)
     simp only [Act.put]
     rw [show (a.tmps.setIfInBounds d v).getD j undef = a.tmps.getD j undef by simp only [Array.getD_eq_getD_getElem?,Array.getElem?_setIfInBounds_ne hne]]
     exact ha j hj
   split
   ·rename_i hw
    rw [if_pos hw] at h
    obtain ⟨h1,h2⟩:=h
    refine ⟨h1,?_⟩
    generalize hr : (o.semAt F.round a.eval).run P w = r at h2 ⊢
    unfold Oper.uponIn at h2 ⊢
    have outg : LetsOut Q → LetsOut (fun e a' w'=>Q e a' w' ∧ ((e = .normal ∨ ∃ ch,e = .panic ch) → ∀ i ∈ slots,a'.tmps.getD i undef = a0.tmps.getD i undef)):=fun ⟨x,y,hq⟩=>⟨x,y,hq,fun he=>he.elim (fun he=>by cases he) fun ⟨_,he⟩=>by cases he⟩
    split
    ·exact wpOpsIn_keep hk a0 rest _ _ (hput _) h2
    ·exact wpOpsIn_keep hk a0 rest _ _ (hput _) h2
    ·exact wpOpsIn_keep hk a0 rest _ _ (hput _) h2
    ·refine ⟨h2.1,CallsIn.mono h2.2 fun e w' he=>?_⟩
     cases e with
     | returned v=>exact wpOpsIn_keep hk a0 rest _ _ (hput _) he
     | panicked ch=>exact ⟨he,fun _=>ha⟩
     | outgrown=>exact outg he
    ·exact ⟨h2.1,RowsIn.mono h2.2 fun v w' hv=>wpOpsIn_keep hk a0 rest _ _ (hput _) hv⟩
    ·refine ⟨h2.1,RoundIn.mono h2.2 fun e w' he=>?_⟩
     cases e with
     | returned v=>exact wpOpsIn_keep hk a0 rest _ _ (hput _) he
     | panicked ch=>exact ⟨he,fun _=>ha⟩
     | outgrown=>exact outg he
    ·exact ⟨h2,fun _=>ha⟩
    ·split at h2 <;> first | exact h2.elim | (simp_all; done) | (exfalso; simp_all; rename_i hx; exact hx _ _ _ _ _ _ rfl rfl rfl rfl rfl rfl)
   ·rename_i hw
    rw [if_neg hw] at h
    exact ⟨h.1,wpOpsIn_keep hk a0 rest _ _ (hput _) h.2⟩
def slotsR : List ResultVar → List Nat
 | []=>[]
 | .cell i _ :: r=>i :: slotsR r
 | .tmp i :: r=>i :: slotsR r
def slotF (slots : List Nat) (fr : List (Nat × V)) : List (Nat × V):=slots.map fun i=>(i,look fr i)
def keepB (slots : List Nat) (ops : List Oper) : Bool:=ops.all fun o=>match o.dst with | some d=>slots.all fun i=>!Nat.beq d i | none=>true
theorem keepB_ok {slots : List Nat} {ops : Array Oper} (h : keepB slots ops.toList = true) : ∀ o ∈ ops,∀ d,o.dst = some d → d ∉ slots:=fun o ho d hd hs=>by
 have:=List.all_eq_true.1 h o (by simpa using ho)
 rw [hd] at this
 have:=List.all_eq_true.1 this d hs
 simp at this
theorem look_slotF {slots : List Nat} {fr : List (Nat × V)} : ∀ i,look (slotF slots fr) i = .poison ∨ i ∈ slots ∧ look (slotF slots fr) i = look fr i:=by
 intro i
 unfold slotF
 induction slots with
 | nil=>exact .inl rfl
 | cons s r ih =>
  rw [List.map_cons,look_cons]
  by_cases e : s = i
  ·subst e; rw [if_pos rfl]; exact .inr ⟨by simp,rfl⟩
  ·rw [if_neg e]
   rcases ih with h | ⟨h1,h2⟩
   ·exact .inl h
   ·exact .inr ⟨by simp [h1],h2⟩
theorem look_belF {n : Nat} : ∀ {fr : List (Nat × V)},belF n fr = true → ∀ i,(look fr i).bel n = true
 | [],_,_=>rfl
 | p :: r,h,i=>by
  simp only [belF,Bool.and_eq_true] at h
  rw [look_cons]
  by_cases e : p.1 = i
  ·rw [if_pos e]; exact h.1
  ·rw [if_neg e]; exact look_belF h.2 i
def vcDef (C : Ctx) (n : Nat) (all : List Oper) : List Oper → List (Nat × V) → List Blk → (FuncId → List V → List (Nat × V) → List Blk → Prop) → Prop
 | [],_,_,_=>False
 | [o],fr,L,K=>match o.op,o.guard,o.dst with
  | .defer c,none,none=>match c.callee,c.args.toList with
   | .value x,[]=>match ev fr x with
    | .fn f caps=>K f caps fr L
    | _=>False
   | _,_=>False
  | _,_,_=>False
 | o :: rest,fr,L,K=>vcOp1 C n all o fr L fun fr' L'=>vcDef C n all rest fr' L' K
def vcP (C : Ctx) (n : Nat) (slots : List Nat) : Code → List (Nat × V) → List Blk → (List (Nat × V) → List Blk → Prop) → Prop
 | .seq (.region _ ops dr) y,fr,L,K=>bif keepB slots ops.toList then Need (C.pn ≤ L.length) (match dr with
   | false=>vcOps C n ops.toList ops.toList fr L fun fr L=>vcP C n slots y fr L K
   | true=>DrawP C n ops fr L fun fr L=>vcP C n slots y fr L K) else False
 | .ret,fr,L,K=>K fr L
 | _,_,_,_=>False
@[irreducible] def DefR (pn k0 : Nat) (slots : List Nat) (caps : List V) (fr : List (Nat × V)) (L : List Blk) (A B : Prop) : Prop :=
 (pn ≤ L.length ∧ k0 ≤ pn ∧ belF pn (slotF slots fr) = true ∧ V.belL pn caps = true) ∧ A ∧ B
theorem DefR.intro {pn k0 : Nat} {slots : List Nat} {caps : List V} {fr : List (Nat × V)} {L : List Blk} {A B : Prop} (h1 : pn ≤ L.length) (h2 : k0 ≤ pn) (h3 : belF pn (slotF slots fr) = true) (h4 : V.belL pn caps = true) (hA : A) (hB : B) : DefR pn k0 slots caps fr L A B:=by
 unfold DefR; exact ⟨⟨h1,h2,h3,h4⟩,hA,hB⟩
def deferOps : Code → Option (Array Oper)
 | .region _ ops false=>match ops.toList.getLast? with
  | some o=>match o.op with
   | .defer _=>some ops
   | _=>none
  | none=>none
 | _=>none
def vEnd0 (C : Ctx) (k0 : Nat) (rs : List ResultVar) (k : V → List Blk → Prop) (σ : TS) : Prop :=
 match σ.df with
 | []=>vRet C k0 rs σ k
 | _=>False
def vcR (C : Ctx) (cut : Code → Bool) (k0 : Nat) (rs : List ResultVar) (pn : Nat) (pan : V → List Blk → Prop) (k : V → List Blk → Prop) : Code → TS → Prop
 | .seq x y,σ=>match deferOps x with
  | some ops=>match σ.df with
   | []=>vcDef C σ.n ops.toList ops.toList σ.fr σ.L fun f caps fr L=>DefR pn k0 (slotsR rs) caps fr L
     (∀ X L1,pan X L1 → DefP C f caps (some X) L1 fun L2=>vRet C k0 rs ⟨slotF (slotsR rs) fr,σ.n,L2,[],none⟩ k)
     (vcP (C.wp pn pan) σ.n (slotsR rs) y fr L fun fr' L'=>DefP C f caps none L' fun L2=>vRet C k0 rs ⟨fr',σ.n,L2,[],none⟩ k)
   | _=>False
  | none=>vc C cut k0 x σ fun e σ'=>match e with
   | .normal=>vcR C cut k0 rs pn pan k y σ'
   | .ret=>vEnd0 C k0 rs k σ'
   | _=>False
 | _,_=>False
theorem ret_ok (hC : C.OK) {fn : Func} {fr : List (Nat × V)} {tmps : Array Value} {k0 n : Nat} {rs : List ResultVar} {kk : V → List Blk → Prop} (hr : fn.results.toList = rs) (hfr : ∀ i,RV g w L (look fr i) (tmps.getD i undef)) (hg : Good g w L) (hk : k0 ≤ L.length)
  (h : vRet C k0 rs ⟨fr,n,L,[],none⟩ kk) : ∃ v X L' g',(results fn tmps).run C.P w = .ok v w ∧ kk X L' ∧ RV g' w L' X v ∧ Good g' w L' ∧ Prog k0 g w L g' w L':=by
 unfold vRet at h
 rw [← hr] at h
 obtain ⟨v,xs,r1,r2,r3⟩:=results_ok hC hfr (show Good g w (killAll [] L) from hg) h
 unfold FinP at r2
 obtain ⟨X',L',hW,hkk⟩:=r2
 obtain ⟨g3,t1,t2,t3⟩:=hW g w v hg hk r3
 exact ⟨v,X',L',g3,r1,hkk,t2,t1,t3⟩
theorem leave_ok {fn : Func} {tmps : Array Value} {R : Ending → World → Prop} {f : FuncId} {caps : List V} {X : Option V} {kd : List Blk → Prop} {vs : Array Value} {ov : Option Value} (h : DefP C f caps X L kd) (hg : Good g w L) (hvs : RVs g w L caps vs) (hX : RO g w L X ov)
  (hfin : ∀ g' w' L',kd L' → Good g' w' L' → Prog L.length g w L g' w' L' → ∃ v,(results fn tmps).run C.P w' = .ok v w' ∧ R (.returned v) w') :
  LeavesInM Fence.wide 0 C.P fn tmps R [{ target:=.fn (.func f) vs,args:=#[] }] (modeOf ov) w:=by
 unfold DefP at h
 obtain ⟨⟨F,h1,h2,h3⟩,h⟩:=h
 have h2' : F.body ≠ none:=by intro hb; rw [hb] at h2; cases h2
 have h3' : F.name ≠ "runtime.NumGoroutine" := by simpa using h3
 have hcf : (callFunc f (#[] ++ vs)).run C.P w = .ok (.enter f vs) w:=by simp [callFunc,h1,h2',h3']
 refine ⟨by cases ov <;> simp [modeOf],.inr ⟨fun h=>by simp [Fence.wide] at h,.func f,vs,f,vs,rfl,by simpa [invoke] using hcf,fun _ _=>trivial,CallsDIn.mono (h g w vs ov hg hvs hX) ?_⟩⟩
 rintro e u' w' ⟨⟨v,rfl⟩,rfl,L',g',hk,hg',hp⟩
 show LeavesInM Fence.wide 0 C.P fn tmps R [] (settle (modeAfter ov)) w'
 rw [settle_after]
 exact hfin g' w' L' hk hg' hp
theorem wpOps_nil {F : Fence} {P : Program} {ops : Array Oper} {Q : Exit → Act → World → Prop} {a : Act} {w : World} (hq : Q .normal a w) : ∀ {l : List Nat},(l.filterMap fun i=>ops[i]?) = [] → wpOpsIn F 0 P ops Q l a w
 | [],_=>hq
 | i :: l,h=>by
  cases ho : ops[i]? with
  | none =>
   rw [List.filterMap_cons,ho] at h
   simp only [wpOpsIn,ho]
   exact wpOps_nil hq h
  | some o=>rw [List.filterMap_cons,ho] at h; cases h
theorem vcDef_ok [Quiet C] (hC : C.OK) {n : Nat} {ops : Array Oper} {Q : Exit → Act → World → Prop} : ∀ (l : List Nat) (rem : List Oper) (fr : List (Nat × V)) (L : List Blk) (g : Gh) (a : Act) (w : World) (K : FuncId → List V → List (Nat × V) → List Blk → Prop),
  (l.filterMap fun i=>ops[i]?) = rem → vcDef C n ops.toList rem fr L K → At n g fr L a w →
  (∀ f caps fr' L' g' a' w' vs,K f caps fr' L' → At n g' fr' L' a' w' → a'.defers = { target:=.fn (.func f) vs,args:=#[] } :: a.defers → RVs g' w' L' caps vs → Prog L.length g w L g' w' L' → Q .normal a' w') → wpOpsIn (Fx none) 0 C.P ops Q l a w
 | [],rem,fr,L,g,a,w,K,hrem,h,hat,hQ=>by subst hrem; exact h.elim
 | i :: l,rem,fr,L,g,a,w,K,hrem,h,hat,hQ=>by
  cases ho : ops[i]? with
  | none =>
   rw [List.filterMap_cons,ho] at hrem
   simp only [wpOpsIn,ho]
   exact vcDef_ok hC l rem fr L g a w K hrem h hat hQ
  | some o =>
   rw [List.filterMap_cons,ho] at hrem
   simp only at hrem
   cases hl : (l.filterMap fun i=>ops[i]?) with
   | nil =>
    rw [hl] at hrem
    subst hrem
    simp only [vcDef] at h
    split at h
    case h_2=>exact h.elim
    rename_i c hop hgd hds
    split at h
    case h_2=>exact h.elim
    rename_i x hcx hca
    split at h
    case h_2=>exact h.elim
    rename_i f caps hev
    have hv:=ev_ok hat.good.gl hat.fr x
    rw [hev] at hv
    simp only [wpOpsIn,ho]
    have hw : Region.wanted o (yielded ops a.tmps) = true:=by simp [Region.wanted,hgd]
    rw [if_pos hw]
    refine ⟨fun _ _=>trivial,?_⟩
    rw [show (Fx none).round = none from rfl,Oper.semAt_none]
    generalize hval : a.eval x = v at hv
    cases hv with
    | fn _ _ vs hlen hrec =>
     have hargs : c.args = #[]:=by simpa using hca
     have hrun : (execOp a.eval o).run C.P w = .ok (.defer { target:=.fn (.func f) vs,args:=#[] }) w:=by
      simp [execOp,hop,resolve,hcx,hval,Deferred.ofValue,hargs]
     rw [hrun,Oper.uponIn_defer]
     refine wpOps_nil ?_ hl
     rw [hds]
     exact hQ f caps fr L g _ w vs h ⟨hat.n,hat.fr,hat.good⟩ rfl ⟨hlen,hrec⟩ (Prog.refl _ _ _ _)
   | cons o2 r2 =>
    rw [hl] at hrem
    subst hrem
    simp only [vcDef] at h
    refine vcOp1_ok (r:=none) hC i l fr g a w o ho _ h hat ?_ (fun v X L2 g2 a2 w2 _ hS=>(Quiet.q X L2 hS.pan).elim)
    intro fr' L' g' a' w' hk hat' hd' hp
    refine vcDef_ok hC l (o2 :: r2) fr' L' g' a' w' K hl hk hat' ?_
    intro f caps fr2 L2 g2 a2 w2 vs hK hat2 hd2 hv2 hp2
    exact hQ f caps fr2 L2 g2 a2 w2 vs hK hat2 (by rw [hd2,hd']) hv2 (hp.trans (hp2.le (hp.len (Nat.le_refl _)) (Nat.le_refl _)))
theorem vcP_ok (hC : C.OK) {n : Nat} {slots : List Nat} {Q : Exit → Act → World → Prop} : ∀ (c : Code) (fr : List (Nat × V)) (L : List Blk) (g : Gh) (a : Act) (w : World) (K : List (Nat × V) → List Blk → Prop),
  vcP C n slots c fr L K → At n g fr L a w →
  (∀ fr' L' g' a' w',K fr' L' → At n g' fr' L' a' w' → a'.defers = a.defers → Prog L.length g w L g' w' L' → Q .ret a' w') →
  (∀ v X L2 g2 a2 w2,a2.defers = a.defers → (∀ i ∈ slots,a2.tmps.getD i undef = a.tmps.getD i undef) → PanS C L.length g w L v X L2 g2 w2 → Q (.panic [{ v,recovered:=false }]) a2 w2) → wpV none C.P c Q a w:=by
 intro c
 induction c with
 | ret=>exact fun fr L g a w K h hat hQ _=>wpV.of (wpIn_ret (hQ fr L g a w h hat rfl (Prog.refl _ _ _ _)))
 | seq x y _ ihy =>
  intro fr L g a w K h hat hQ hP
  cases x with
  | region id ops dr =>
   simp only [vcP] at h
   cases hk : keepB slots ops.toList with
   | false=>simp [hk] at h
   | true =>
   simp only [hk,cond_true] at h
   obtain ⟨hpn,h⟩:=h.out
   have hkeep:=keepB_ok hk
   have cont : ∀ fr' L' g' a' w',(vcP C n slots y fr' L' K) → At n g' fr' L' a' w' → a'.defers = a.defers → (∀ i ∈ slots,a'.tmps.getD i undef = a.tmps.getD i undef) → Prog L.length g w L g' w' L' → wpV none C.P y Q a' w':=by
    intro fr' L' g' a' w' hK hat' hd hs hp
    refine ihy fr' L' g' a' w' K hK hat' (fun fr2 L2 g2 a2 w2 hK2 hat2 hd2 hp2=>hQ fr2 L2 g2 a2 w2 hK2 hat2 (hd2.trans hd) (hp.trans (hp2.le (hp.len (w21 _)) (w21 _)))) ?_
    intro v X L2 g2 a2 w2 hd2 hs2 hS
    exact hP v X L2 g2 a2 w2 (hd2.trans hd) (fun i hi=>(hs2 i hi).trans (hs i hi)) ((hS.less (hp.len (w21 _)) hpn).later (w21 _) hp)
   have fin : ∀ e a' w',(((e = .normal ∧ ∃ fr' L' g',vcP C n slots y fr' L' K ∧ At n g' fr' L' a' w' ∧ a'.defers = a.defers ∧ Prog L.length g w L g' w' L') ∨ ∃ v X L2 g2,e = .panic [{ v,recovered:=false }] ∧ a'.defers = a.defers ∧ PanS C L.length g w L v X L2 g2 w') ∧
     ((e = .normal ∨ ∃ ch,e = .panic ch) → ∀ i ∈ slots,a'.tmps.getD i undef = a.tmps.getD i undef)) → Exit.then (wpV none C.P y Q) Q e a' w':=by
    rintro e a' w' ⟨⟨rfl,fr',L',g',hK,hat',hd,hp⟩ | ⟨v,X,L2,g2,rfl,hd,hS⟩,hs⟩
    ·exact cont fr' L' g' a' w' hK hat' hd (hs (.inl rfl)) hp
    ·exact hP v X L2 g2 a' w' hd (hs (.inr ⟨_,rfl⟩)) hS
   cases dr with
   | false =>
    refine wpV_seq (wpV_mono (wpV.of (wpIn_region (wpOpsIn_keep (F:=Fx none) (n:=0) (P:=C.P) hkeep a (List.range ops.size) a w (fun _ _=>rfl)
     (vcOps_ok (r:=none) hC (List.range ops.size) fr L g a w _ (by rw [range_ops]; exact h) hat hpn (fun fr' L' g' a' w' hK hat' hd hp=>.inl ⟨rfl,fr',L',g',hK,hat',hd,hp⟩) (fun v X L2 g2 a2 w2 hd hS=>.inr ⟨v,X,L2,g2,rfl,hd,hS⟩))))) fin)
   | true =>
    simp only at h
    unfold DrawP at h
    have hmono : ∀ (x : V) (v : Value),RV g w L x v → RV g { w with drawn:=w.drawn + 1 } L x v:=fun x v hx=>RV.mono (g:=g) (g':=g) (w:=w) (w':={ w with drawn:=w.drawn + 1 }) (L:=L) (L':=L) (k:=L.length) (fun _ h=>h) (fun a v _ h=>h) (fun b _=>Keep.refl g L b) hx.bel hx
    have hg2 : Good g { w with drawn:=w.drawn + 1 } L:=⟨hat.good.inj,hat.good.dis,hat.good.lt,fun b k hb=>RB.mono' hmono rfl rfl (fun _ _ _ h=>h) (fun l _=>⟨rfl,fun h=>h⟩) (hat.good.blk b k hb),GlobOK.mono (w:=w) (w':={ w with drawn:=w.drawn + 1 }) (fun _ h=>h) (fun a v _ h=>h) hat.good.gl⟩
    have hp0 : Prog L.length g w L g { w with drawn:=w.drawn + 1 } L:=⟨⟨rfl,rfl,rfl⟩,Nat.le_refl _,fun _ _ h _=>h,fun _ h _=>h,fun _ h=>.inl h,fun _ h=>h,fun x v _ h=>hmono x v h,fun _ _ _ h h'=>⟨h,h'⟩,fun h=>h⟩
    refine wpV_seq (wpV_mono (wpV.of (wpIn_region_draw fun t=>wpOpsIn_keep (F:=Fx none) (n:=0) (P:=C.P) hkeep a _ a _ (fun _ _=>rfl)
     (vOpsC_ok (r:=none) hC _ fr L g a _ _ (h t) ⟨hat.n,fun i=>hmono _ _ (hat.fr i),hg2⟩ hpn (fun fr' L' g' a' w' hK hat' hd hp=>.inl ⟨rfl,fr',L',g',hK,hat',hd,hp0.trans hp⟩) (fun v X L2 g2 a2 w2 hd hS=>.inr ⟨v,X,L2,g2,rfl,hd,hS.later (w21 _) hp0⟩)))) fin)
  | _=>simp [vcP] at h
 | _=>intro fr L g a w K h; simp [vcP] at h
theorem callP_defer [Quiet C] (hC : C.OK) (cut : Code → Bool) (pn : Nat) (pan : V → List Blk → Prop) {f : FuncId} {fn : Func} {c : Code} {args : List V} {k : V → List Blk → Prop} (hf : C.P.funcs[f]? = some fn) (hb : fn.body = some c) (hname : (fn.name == "runtime.NumGoroutine") = false) {n : Nat} (hn : fn.ntmps = n) (ha : args.length ≤ n)
  {rs : List ResultVar} (hr : fn.results.toList = rs) (h : vcR C cut L.length rs pn pan k c ⟨initFr 0 args,n,L,[],none⟩) (hpn : C.pn ≤ L.length:=by exact Nat.zero_le _) : CallP C f args L k:=by
 unfold CallP
 refine ⟨⟨fn,hf,by rw [hb]; rfl,hname⟩,fun g w vs hg hv=>calls_of_wpV hf hb ?_⟩
 have hs : St L.length none g ⟨initFr 0 args,n,L,[],none⟩ { tmps:=vs ++ Array.replicate (fn.ntmps - vs.size) undef,defers:=[] } w:=by
  refine ⟨?_,by rw [hn]; exact init_frame hv n,hg,Nat.le_refl _,rfl,fun i b d hb _=>(by simp at hb),fun lb h=>(by cases h),fun _=>rfl⟩
  have:=hv.1
  simp [hn]; omega
 have main : ∀ (c : Code) (σ : TS) (g1 : Gh) (a1 : Act) (w1 : World),vcR C cut L.length rs pn pan k c σ → St L.length none g1 σ a1 w1 → Prog L.length g w L g1 w1 σ.L →
   wpV none C.P c (bodyPostM Fence.wide 0 C.P fn (fun e w'=>(∃ v X L' g',e = .returned v ∧ k X L' ∧ RV g' w' L' X v ∧ Good g' w' L' ∧ Prog L.length g w L g' w' L') ∨ PanO C g w L e w')) a1 w1:=by
  intro c
  induction c with
  | seq x y _ ihy =>
   intro σ g1 a1 w1 h hs hp1
   simp only [vcR] at h
   split at h
   ·rename_i ops hops
    split at h
    case h_2=>exact h.elim
    rename_i hdf
    have hx : ∃ id,x = .region id ops false:=by
     unfold deferOps at hops
     split at hops
     ·split at hops
      ·split at hops
       ·cases hops; exact ⟨_,rfl⟩
       ·cases hops
      ·cases hops
     ·cases hops
    obtain ⟨id,rfl⟩:=hx
    have hd0 : a1.defers = []:=List.eq_nil_of_length_eq_zero (by rw [hs.df,hdf]; rfl)
    refine wpV_seq (wpV.of (wpIn_region (vcDef_ok hC (List.range ops.size) ops.toList σ.fr σ.L g1 a1 w1 _ (range_ops ops) h hs.at ?_)))
    intro f caps fr2 L2 g2 a2 w2 us hK hat2 hd2 hus hp2
    have hp12 : Prog L.length g w L g2 w2 L2:=hp1.trans (hp2.le hs.k (w21 _))
    have hk2 : L.length ≤ L2.length:=hp12.len (w21 _)
    unfold DefR at hK
    obtain ⟨⟨b1,b2,b3,b4⟩,hA,hB⟩:=hK
    rw [hd0] at hd2
    refine vcP_ok (C:=C.wp pn pan) (hC.wp pn pan) y fr2 L2 g2 a2 w2 _ hB hat2 ?_ ?_
    ·intro fr3 L3 g3 a3 w3 hD hat3 hd3 hp3
     have hus3 : RVs g3 w3 L3 caps us:=⟨hus.1,fun j x v hx hv=>hp3.mono x v (V.bel_le b1 _ (V.belL_get b4 hx)) (hus.2 j x v hx hv)⟩
     show LeavesInM Fence.wide 0 C.P fn a3.tmps _ a3.defers .returning w3
     rw [hd3,hd2]
     refine leave_ok (ov:=none) hD hat3.good hus3 trivial ?_
     intro g4 w4 L4 hret hg4 hp4
     have hp14 : Prog L.length g w L g4 w4 L4:=hp12.trans ((hp3.le hk2 (w21 _)).trans (hp4.le ((hp3.le hk2 (w21 _)).len hk2) (w21 _)))
     obtain ⟨v,X,L5,g5,r1,r2,r3,r4,r5⟩:=ret_ok hC hr (fun i=>hp4.mono _ _ (hat3.fr i).bel (hat3.fr i)) hg4 (hp14.len (w21 _)) hret
     exact ⟨v,r1,.inl ⟨v,X,L5,g5,rfl,r2,r3,r4,hp14.trans r5⟩⟩
    ·intro v X L3 g3 a3 w3 hd3 hs3 hS
     have hpl3 : pn ≤ L3.length:=hS.prog.len b1
     have hprog : Prog pn g2 w2 L2 g3 w3 L3:=hS.prog
     have hus3 : RVs g3 w3 L3 caps us:=⟨hus.1,fun j x v hx hv=>hprog.mono x v (V.belL_get b4 hx) (hus.2 j x v hx hv)⟩
     show LeavesInM Fence.wide 0 C.P fn a3.tmps _ a3.defers (.panicking [{ v,recovered:=false }]) w3
     rw [hd3,hd2]
     refine leave_ok (ov:=some v) (hA X L3 hS.pan) hS.good hus3 hS.rv ?_
     intro g4 w4 L4 hret hg4 hp4
     have hp34 : Prog pn g2 w2 L2 g4 w4 L4:=hprog.trans (hp4.le hpl3 (w21 _))
     have hp14 : Prog L.length g w L g4 w4 L4:=hp12.trans (hp34.le b2 b1)
     have hfr : ∀ i,RV g4 w4 L4 (look (slotF (slotsR rs) fr2) i) (a3.tmps.getD i undef):=fun i=>by
      rcases look_slotF (slots:=slotsR rs) (fr:=fr2) i with h0 | ⟨hi,h0⟩
      ·rw [h0]; exact .poison _
      ·have hb:=look_belF b3 i
       rw [h0] at hb ⊢
       rw [hs3 i hi]
       exact hp34.mono _ _ hb (hat2.fr i)
     obtain ⟨u,X',L5,g5,r1,r2,r3,r4,r5⟩:=ret_ok hC hr hfr hg4 (hp14.len (w21 _)) hret
     exact ⟨u,r1,.inl ⟨u,X',L5,g5,rfl,r2,r3,r4,hp14.trans r5⟩⟩
   ·refine wpV_seq (wpV_mono (vc_ok (r:=none) hC hpn x _ _ g1 a1 w1 h hs) ?_)
    rintro e a2 w2 ⟨⟨σ2,g2,hq,hs2,hp2⟩ | ⟨v,X,L',g',rfl,hS,hi⟩,hnew,-⟩
    rotate_left
    ·exact (Quiet.q X L' hS.pan).elim
    cases e with
    | normal=>exact ihy σ2 g2 a2 w2 hq hs2 (hp1.trans hp2)
    | ret =>
     simp only [] at hq
     unfold vEnd0 at hq
     split at hq
     case h_2=>exact hq.elim
     rename_i hdf
     have hd0 : a2.defers = []:=List.eq_nil_of_length_eq_zero (by rw [hs2.df,hdf]; rfl)
     show LeavesInM Fence.wide 0 C.P fn a2.tmps _ a2.defers .returning w2
     rw [hd0]
     have hret : vRet C L.length rs ⟨σ2.fr,σ2.n,σ2.L,[],none⟩ k:=by
      unfold vRet at hq ⊢; rw [hdf] at hq; exact hq
     obtain ⟨v,X,L5,g5,r1,r2,r3,r4,r5⟩:=ret_ok hC hr hs2.fr hs2.good hs2.k hret
     exact ⟨v,r1,.inl ⟨v,X,L5,g5,rfl,r2,r3,r4,(hp1.trans hp2).trans r5⟩⟩
    | exit id=>exact hq.elim
    | goto l=>exact hq.elim
    | panic ch=>exact hq.elim
    | outgrown=>exact hq.elim
  | _=>intro σ g1 a1 w1 h; simp [vcR] at h
 exact main c _ g _ w h hs (Prog.refl _ _ _ _)
theorem CallP.freezeP {f : FuncId} {args dargs : List V} {L' : List Blk} {k : V → List Blk → Prop} (bs : List Nat) (hL : killB bs L = L') (hbs : plainBlk L bs = true) (hc : CwL (· ∈ bs) L args dargs) (h : CallP C f dargs L' k) : CallP C f args L k:=by
 subst hL
 unfold CallP at h ⊢
 refine ⟨h.1,fun g w vs hg hv=>?_⟩
 have hp : ∀ b ∈ bs,∃ k0,L[b]? = some k0 ∧ k0 ≠ .defr ∧ b < L.length:=fun b hb=>by
  have:=List.all_eq_true.1 hbs b hb
  split at this
  ·rename_i e; exact ⟨_,e,by simp,lt_of_get e⟩
  ·rename_i e; exact ⟨_,e,by simp,lt_of_get e⟩
  ·cases this
 let g' : Gh:={ g with I:=fun q=>g.I q ∨ ∃ b ∈ bs,live L b ∧ g.m b = some q }
 have hkeep : ∀ b,Keep g L g' (killB bs L) b:=by
  intro b
  by_cases hb : b ∈ bs
  ·obtain ⟨_,_,_,hlt⟩:=hp b hb
   have hd:=killB_in bs L b hb hlt
   exact ⟨fun _ _=>.inl hd,fun _ _ _ _=>.inl hd,fun _ _=>.inl hd,fun _ _=>.inl hd,fun _=>hd⟩
  ·exact Keep.same (killB_out bs L b hb) rfl rfl
 have mono : ∀ (x : V) (v : Value),RV g w L x v → RV g' w (killB bs L) x v:=fun x v hx=>RV.mono (g:=g) (g':=g') (k:=L.length) (fun q hq=>.inl hq) (fun a v _ h=>h) (fun b _=>hkeep b) hx.bel hx
 have lv : ∀ b,live (killB bs L) b → b ∉ bs ∧ live L b:=by
  rintro b ⟨k0,hk0,hd⟩
  by_cases hb : b ∈ bs
  ·obtain ⟨_,_,_,hlt⟩:=hp b hb
   rw [killB_in bs L b hb hlt] at hk0
   exact absurd (by cases hk0; rfl) hd
  ·rw [killB_out bs L b hb] at hk0
   exact ⟨hb,k0,hk0,hd⟩
 have hgood : Good g' w (killB bs L):=by
  refine ⟨fun b b' r h1 h2 m1 m2=>hg.inj b b' r (lv b h1).2 (lv b' h2).2 m1 m2,?_,?_,fun b k0 hk0=>?_,hg.gl.mono (fun q hq=>.inl hq) (fun a v _ h=>h)⟩
  ·rintro r ⟨b,hl,hm⟩ hI
   obtain ⟨hb,hl'⟩:=lv b hl
   rcases hI with hI | ⟨b',hb',hl2,hm2⟩
   ·exact hg.dis r ⟨b,hl',hm⟩ hI
   ·exact hb (hg.inj b b' r hl' hl2 hm hm2 ▸ hb')
  ·rintro r (hI | ⟨b',_,hl2,hm2⟩)
   ·exact hg.lt r hI
   ·exact hg.owned_lt ⟨b',hl2,hm2⟩
  ·by_cases hb : b ∈ bs
   ·obtain ⟨_,_,_,hlt⟩:=hp b hb
    rw [killB_in bs L b hb hlt] at hk0
    cases hk0; trivial
   ·rw [killB_out bs L b hb] at hk0
    refine RB.mono' mono rfl rfl (fun _ _ _ h=>h) (fun l hl=>⟨rfl,fun h=>?_⟩) (hg.blk b k0 hk0)
    by_cases hd : l.df ∈ bs
    ·obtain ⟨k1,e1,e2,_⟩:=hp _ hd
     rw [h] at e1; cases e1; exact absurd rfl e2
    ·rw [killB_out bs L _ hd]; exact h
 have hprog : Prog L.length g w L g' w (killB bs L):=by
  refine ⟨⟨rfl,rfl,rfl⟩,Nat.le_refl _,fun _ _ h _=>h,fun r ⟨b,hl,hm⟩ _=>⟨b,(lv b hl).2,hm⟩,?_,fun _ h=>.inl h,fun x v _ h=>mono x v h,fun b r _ h1 h2=>⟨?_,h2⟩,fun _=>by rw [killB_len]; exact Nat.le_refl _⟩
  ·rintro r (hI | ⟨b',_,hl2,hm2⟩)
   ·exact .inl hI
   ·exact .inr (.inr ⟨b',hl2,hm2⟩)
  ·by_cases hd : b ∈ bs
   ·obtain ⟨k1,e1,e2,_⟩:=hp _ hd
    rw [h1] at e1; cases e1; exact absurd rfl e2
   ·rw [killB_out bs L _ hd]; exact h1
 refine (h.2 g' w vs hgood ⟨hc.len ▸ hv.1,fun j y v hy hvj=>?_⟩).mono ?_
 ·exact hc.rvs hg (g':=g') (L':=killB bs L) (fun r hr=>.inl hr) (fun b r hb hl hm=>.inr ⟨b,hb,hl,hm⟩) (fun x u _ hu=>mono x u hu) vs.toList
   (fun j x v hx hv'=>hv.2 j x v hx (by simpa using hv')) j y v hy (by simpa using hvj)
 ·rintro e w' (⟨v,X,L1,g1,he,hX,hr,hg1,hp1⟩ | ⟨v,X,L1,g1,he,hS⟩)
  ·exact .inl ⟨v,X,L1,g1,he,hX,hr,hg1,hprog.trans (hp1.le (by rw [killB_len]; exact Nat.le_refl _) (Nat.le_refl _))⟩
  ·rw [killB_len] at hS
   exact .inr ⟨v,X,L1,g1,he,hS.later (w21 _) hprog⟩
end
end Go.Tidy
/-
 The base layer: what a round hands over is given up before.
-/
namespace Go.Tidy
section
variable {C : Ctx} {L : List Blk}
theorem freeze_world {args dargs : List V} {g : Gh} {w : World} {vs : Array Value} (bs : List Nat) (hbs : plainBlk L bs = true) (hc : CwL (· ∈ bs) L args dargs) (hg : Good g w L) (hv : RVs g w L args vs) :
  ∃ g' : Gh,Good g' w (killB bs L) ∧ RVs g' w (killB bs L) dargs vs ∧ Prog L.length g w L g' w (killB bs L) ∧ ∀ (x : V) (v : Value),RV g w L x v → RV g' w (killB bs L) x v:=by
 have hp : ∀ b ∈ bs,∃ k0,L[b]? = some k0 ∧ k0 ≠ .defr ∧ b < L.length:=fun b hb=>by
  have:=List.all_eq_true.1 hbs b hb
  split at this
  ·rename_i e; exact ⟨_,e,by simp,lt_of_get e⟩
  ·rename_i e; exact ⟨_,e,by simp,lt_of_get e⟩
  ·cases this
 let g' : Gh:={ g with I:=fun q=>g.I q ∨ ∃ b ∈ bs,live L b ∧ g.m b = some q }
 have hkeep : ∀ b,Keep g L g' (killB bs L) b:=by
  intro b
  by_cases hb : b ∈ bs
  ·obtain ⟨_,_,_,hlt⟩:=hp b hb
   have hd:=killB_in bs L b hb hlt
   exact ⟨fun _ _=>.inl hd,fun _ _ _ _=>.inl hd,fun _ _=>.inl hd,fun _ _=>.inl hd,fun _=>hd⟩
  ·exact Keep.same (killB_out bs L b hb) rfl rfl
 have mono : ∀ (x : V) (v : Value),RV g w L x v → RV g' w (killB bs L) x v:=fun x v hx=>RV.mono (g:=g) (g':=g') (k:=L.length) (fun q hq=>.inl hq) (fun a v _ h=>h) (fun b _=>hkeep b) hx.bel hx
 have lv : ∀ b,live (killB bs L) b → b ∉ bs ∧ live L b:=by
  rintro b ⟨k0,hk0,hd⟩
  by_cases hb : b ∈ bs
  ·obtain ⟨_,_,_,hlt⟩:=hp b hb
   rw [killB_in bs L b hb hlt] at hk0
   exact absurd (by cases hk0; rfl) hd
  ·rw [killB_out bs L b hb] at hk0
   exact ⟨hb,k0,hk0,hd⟩
 have hgood : Good g' w (killB bs L):=by
  refine ⟨fun b b' r h1 h2 m1 m2=>hg.inj b b' r (lv b h1).2 (lv b' h2).2 m1 m2,?_,?_,fun b k0 hk0=>?_,hg.gl.mono (fun q hq=>.inl hq) (fun a v _ h=>h)⟩
  ·rintro r ⟨b,hl,hm⟩ hI
   obtain ⟨hb,hl'⟩:=lv b hl
   rcases hI with hI | ⟨b',hb',hl2,hm2⟩
   ·exact hg.dis r ⟨b,hl',hm⟩ hI
   ·exact hb (hg.inj b b' r hl' hl2 hm hm2 ▸ hb')
  ·rintro r (hI | ⟨b',_,hl2,hm2⟩)
   ·exact hg.lt r hI
   ·exact hg.owned_lt ⟨b',hl2,hm2⟩
  ·by_cases hb : b ∈ bs
   ·obtain ⟨_,_,_,hlt⟩:=hp b hb
    rw [killB_in bs L b hb hlt] at hk0
    cases hk0; trivial
   ·rw [killB_out bs L b hb] at hk0
    refine RB.mono' mono rfl rfl (fun _ _ _ h=>h) (fun l hl=>⟨rfl,fun h=>?_⟩) (hg.blk b k0 hk0)
    by_cases hd : l.df ∈ bs
    ·obtain ⟨k1,e1,e2,_⟩:=hp _ hd
     rw [h] at e1; cases e1; exact absurd rfl e2
    ·rw [killB_out bs L _ hd]; exact h
 have hprog : Prog L.length g w L g' w (killB bs L):=by
  refine ⟨⟨rfl,rfl,rfl⟩,Nat.le_refl _,fun _ _ h _=>h,fun r ⟨b,hl,hm⟩ _=>⟨b,(lv b hl).2,hm⟩,?_,fun _ h=>.inl h,fun x v _ h=>mono x v h,fun b r _ h1 h2=>⟨?_,h2⟩,fun _=>by rw [killB_len]; exact Nat.le_refl _⟩
  ·rintro r (hI | ⟨b',_,hl2,hm2⟩)
   ·exact .inl hI
   ·exact .inr (.inr ⟨b',hl2,hm2⟩)
  ·by_cases hd : b ∈ bs
   ·obtain ⟨k1,e1,e2,_⟩:=hp _ hd
    rw [h1] at e1; cases e1; exact absurd rfl e2
   ·rw [killB_out bs L _ hd]; exact h1
 exact ⟨g',hgood,⟨hc.len ▸ hv.1,fun j y v hy hvj=>hc.rvs hg (g':=g') (L':=killB bs L) (fun r hr=>.inl hr) (fun b r hb hl hm=>.inr ⟨b,hb,hl,hm⟩) (fun x u _ hu=>mono x u hu) vs.toList
  (fun j x v hx hv'=>hv.2 j x v hx (by simpa using hv')) j y v hy (by simpa using hvj)⟩,hprog,mono⟩
theorem YieldP.freezeP {b : Nat} {args dargs : List V} {L' : List Blk} {k : V → List Blk → Prop} (bs : List Nat) (hL : killB bs L = L') (hbs : plainBlk L bs = true) (hc : CwL (· ∈ bs) L args dargs) (h : YieldP C b dargs L' k) : YieldP C b args L k:=by
 subst hL
 unfold YieldP at h ⊢
 intro g w vs l hg hv hy
 obtain ⟨g',h1,h2,h3,h4⟩:=freeze_world bs hbs hc hg hv
 obtain ⟨f,tmps,assign,body,r1,r2⟩:=h g' w vs l h1 h2 (h4 _ _ hy)
 refine ⟨f,tmps,assign,body,r1,r2.mono ?_⟩
 rintro e w' (⟨v,X,L1,g1,he,hX,hr,hg1,hp1⟩ | ⟨v,X,L1,g1,he,hS⟩)
 ·exact .inl ⟨v,X,L1,g1,he,hX,hr,hg1,h3.trans (hp1.le (by rw [killB_len]; exact Nat.le_refl _) (Nat.le_refl _))⟩
 ·rw [killB_len] at hS
  exact .inr ⟨v,X,L1,g1,he,hS.later (w21 _) h3⟩
end
end Go.Tidy
namespace Go.Tidy
theorem Weak.nilD {k : Nat} {σ : TS} (b j : Nat) (cs : List V) (hb : σ.L[b]? = some (.cells cs)) (hj : cs[j]? = some .nil) :
  Weak k σ { σ with L:=σ.L.set b (.cells (cs.set j (.d (.sl [])))) }:=by
 intro r g a w hs
 have hg:=hs.good
 have hbl:=lt_of_get hb
 have S : Step g w σ.L b (.cells (cs.set j (.d (.sl [])))) g w:=by
  refine ⟨hg,⟨_,hb,by simp⟩,by rw [hb]; simp,⟨rfl,rfl,rfl⟩,Nat.le_refl _,rfl,fun _ _=>rfl,fun _ _=>rfl,fun p o' hp hne=>hp,fun r hr=>.inl hr,?_⟩
  exact ⟨fun cs0 e=>.inr ⟨_,List.getElem?_set_self (by omega),rfl⟩,fun gen sz els e=>(by rw [hb] at e; cases e),fun es e=>(by rw [hb] at e; cases e),fun l0 e=>(by rw [hb] at e; cases e),fun e=>(by rw [hb] at e; cases e)⟩
 obtain ⟨q,cur,T,h1,h2,h3,h4,h5⟩:=hg.blk b _ hb
 have hg2:=S.good' ⟨q,cur,T,h1,h2,by simpa using h3,h4,fun i x v hx hv=>by
  rw [List.getElem?_set] at hx
  by_cases e : j = i
  ·subst e
   rw [if_pos rfl] at hx
   split at hx
   ·cases hx
    have hv':=h5 j .nil v hj hv
    cases hv' with
    | nil=>exact .d _ _ (.slNil _ _)
   ·cases hx
  ·rw [if_neg e] at hx
   exact S.mono (h5 i x v hx hv)⟩
 exact ⟨_,hs.prog S.prog hg2,S.prog.le hs.k (w21 _)⟩
theorem Weak.nilDTo {k : Nat} {σ σ' : TS} (b j : Nat) (cs : List V) (hb : σ.L[b]? = some (.cells cs)) (hj : cs[j]? = some .nil) (hL : σ.L.set b (.cells (cs.set j (.d (.sl [])))) = σ'.L)
  (hfr : SubF σ.fr σ'.fr) (h1 : σ'.n = σ.n:=by rfl) (h2 : σ'.df = σ.df:=by rfl) (h3 : σ'.ro = σ.ro:=by rfl) : Weak k σ σ':=by
 have h:=Weak.nilD (k:=k) (σ:=σ) b j cs hb hj
 rw [hL] at h
 exact h.trans (Weak.by hfr rfl h1 h2 h3)
theorem QCallW.rd {X : Ctx} {o : Oper} {fr : List (Nat × V)} {M : List Blk} {q : V → List Blk → Prop} (v : V) (h : vOpF X o fr M fun x N=>x = v ∧ N = M) (hk : q v M) : QCallW (fun k=>vOpF X o fr M k) q:=w13 v M h hk
end Go.Tidy
namespace Go.Proofs.YtndlggbljkhfbaaGreat
open Go.Tidy
theorem mem_busyL {l : List Mt} {c : Int} : c ∈ busyL l ↔ ∃ m ∈ l,m.home = c ∨ m.away = c:=by
 unfold busyL
 rw [List.mem_flatMap]
 constructor
 ·rintro ⟨m,hm,hc⟩
  refine ⟨m,hm,?_⟩
  simp only [List.mem_cons,List.not_mem_nil,or_false] at hc
  exact hc.elim (fun h=>.inl h.symm) (fun h=>.inr h.symm)
 ·rintro ⟨m,hm,hc⟩
  refine ⟨m,hm,?_⟩
  simp only [List.mem_cons,List.not_mem_nil,or_false]
  exact hc.elim (fun h=>.inl h.symm) (fun h=>.inr h.symm)
theorem playsM_iff {m : Mt} {c : Int} : playsM m c = true ↔ m.home = c ∨ m.away = c:=by unfold playsM; simp
theorem busyB_iff {r : List Mt} {c : Int} : busyB r c = true ↔ c ∈ busyL r:=by
 unfold busyB
 rw [List.any_eq_true,mem_busyL]
 exact ⟨fun ⟨m,hm,h⟩=>⟨m,hm,playsM_iff.1 h⟩,fun ⟨m,hm,h⟩=>⟨m,hm,playsM_iff.2 h⟩⟩
theorem not_busy_take {r : List Mt} {k : Nat} {c : Int} : c ∉ busyL (r.take k) ↔ ∀ (j : Nat) (hj : j < r.length),j < k → playsM r[j] c = false:=by
 rw [mem_busyL]
 constructor
 ·intro h j hj hjk
  cases e : playsM r[j] c with
  | false=>rfl
  | true=>exact absurd ⟨r[j],List.mem_take_iff_getElem.2 ⟨j,by omega,rfl⟩,playsM_iff.1 e⟩ h
 ·rintro h ⟨m,hm,hc⟩
  obtain ⟨j,hj,rfl⟩:=List.mem_take_iff_getElem.1 hm
  have:=h j (by omega) (by omega)
  rw [playsM_iff.2 hc] at this; cases this
theorem busyL_append (a b : List Mt) : busyL (a ++ b) = busyL a ++ busyL b:=List.flatMap_append ..
theorem busyL_len (r : List Mt) : (busyL r).length = 2 * r.length:=by
 induction r with
 | nil=>rfl
 | cons m r ih=>rw [show m :: r = [m] ++ r from rfl,busyL_append,List.length_append,ih,List.length_append]; simp [busyL]; omega
theorem busy_nodup {r : List Mt} (h : ∀ (k : Nat) (hk : k < r.length),r[k].home ≠ r[k].away ∧ r[k].home ∉ busyL (r.take k) ∧ r[k].away ∉ busyL (r.take k)) : ∀ k,k ≤ r.length → (busyL (r.take k)).Nodup:=by
 intro k
 induction k with
 | zero=>intro _; exact List.Pairwise.nil
 | succ k ih =>
  intro hk
  obtain ⟨h1,h2,h3⟩:=h k (by omega)
  rw [take_next (by omega),busyL_append,List.nodup_append]
  refine ⟨ih (by omega),by simp [busyL,h1],fun a ha b hb=>?_⟩
  simp only [busyL,List.flatMap_cons,List.flatMap_nil,List.append_nil,List.mem_cons,List.not_mem_nil,or_false] at hb
  rcases hb with rfl | rfl
  ·rintro rfl; exact h2 ha
  ·rintro rfl; exact h3 ha
theorem leftGo_eq {odd : Nat} {r : List Mt} {last : Int} : ∀ {cs : List Int} {n : Nat},cs.Pairwise (· < ·) → n ≤ odd → leftGo odd last (busyL r) cs n = decide (n + (cs.countP fun c=>decide (c < last) && !busyB r c) ≤ odd)
 | [],n,_,hn=>by simp [leftGo,hn]
 | c :: cs,n,hp,hn=>by
  obtain ⟨hc,hp⟩:=List.pairwise_cons.1 hp
  rw [leftGo]
  by_cases hl : last ≤ c
  ·rw [if_pos hl]
   have h0 : ((c :: cs).countP fun c=>decide (c < last) && !busyB r c) = 0:=by
    rw [List.countP_eq_zero]
    intro x hx
    have : last ≤ x:=by
     rcases List.mem_cons.1 hx with rfl | hx
     ·exact hl
     ·have:=hc x hx; omega
    rw [decide_eq_false (by omega)]; simp
   rw [h0]; exact (decide_eq_true hn).symm
  ·rw [if_neg hl,List.countP_cons]
   by_cases hb : c ∈ busyL r
   ·rw [if_pos hb,leftGo_eq hp hn,busyB_iff.2 hb]; simp
   ·have hbb : busyB r c = false:=by cases e : busyB r c with | false=>rfl | true=>exact absurd (busyB_iff.1 e) hb
    rw [if_neg hb,hbb,decide_eq_true (by omega : c < last)]
    simp only [Bool.not_false,Bool.and_self,if_true]
    by_cases ho : odd < n + 1
    ·rw [if_pos ho]; exact (decide_eq_false (by omega)).symm
    ·rw [if_neg ho,leftGo_eq hp (by omega)]
     exact decide_eq_decide.2 (by omega)
theorem betw_rev {a b : Mt} (h : a ≠ b) : betwM a b.home b.away = true ↔ (⟨a.away,a.home⟩ : Mt) = b:=by
 obtain ⟨ah,aa⟩:=a
 obtain ⟨bh,ba⟩:=b
 simp only [betwM,Bool.or_eq_true,Bool.and_eq_true,decide_eq_true_eq,Mt.mk.injEq,ne_eq] at h ⊢
 omega
theorem flat_at {l : List (List Mt)} {i k : Nat} (hi : i < l.length) (hk : k < l[i].length) : ∃ h : (l.take i).flatten.length + k < l.flatten.length,l.flatten[(l.take i).flatten.length + k] = l[i][k] ∧ l.flatten.take ((l.take i).flatten.length + k) = (l.take i).flatten ++ l[i].take k:=by
 have e : l.flatten = (l.take i).flatten ++ (l[i] ++ (l.drop (i + 1)).flatten):=by
  conv=>lhs; rw [← List.take_append_drop i l,List.drop_eq_getElem_cons hi]
  rw [List.flatten_append,List.flatten_cons]
 have hlt : (l.take i).flatten.length + k < l.flatten.length:=by
  rw [e,List.length_append,List.length_append]; omega
 refine ⟨hlt,?_,?_⟩
 ·have : l.flatten[(l.take i).flatten.length + k]? = some l[i][k]:=by
   rw [e,List.getElem?_append_right (by omega),Nat.add_sub_cancel_left,List.getElem?_append_left hk,List.getElem?_eq_getElem hk]
  rw [List.getElem?_eq_getElem hlt] at this
  exact Option.some.inj this
 ·rw [e,List.take_append,List.take_of_length_le (by omega),Nat.add_sub_cancel_left,List.take_append_of_le_length (by omega)]
theorem flat_in : ∀ {l : List (List Mt)} {a : Nat} (ha : a < l.flatten.length),∃ (i : Nat) (hi : i < l.length) (k : Nat) (hk : k < l[i].length),a = (l.take i).flatten.length + k
 | [],a,ha=>by simp at ha
 | r :: l,a,ha=>by
  by_cases hr : a < r.length
  ·exact ⟨0,by simp,a,hr,by simp⟩
  ·rw [List.flatten_cons,List.length_append] at ha
   obtain ⟨i,hi,k,hk,e⟩:=flat_in (l:=l) (a:=a - r.length) (by omega)
   exact ⟨i + 1,by simpa using hi,k,by simpa using hk,by rw [List.take_succ_cons,List.flatten_cons,List.length_append]; omega⟩
theorem mem_take_lt {F : List Mt} {a : Nat} (ha : a < F.length) {x : Mt} : x ∈ F.take a ↔ ∃ (b : Nat) (hb : b < a),F[b] = x:=by
 rw [List.mem_take_iff_getElem]
 exact ⟨fun ⟨j,hj,e⟩=>⟨j,by omega,e⟩,fun ⟨j,hj,e⟩=>⟨j,by omega,e⟩⟩
theorem pairs_iff (l : List (List Mt)) (p : Pl) : (∀ (i : Nat) (hi : i < l.flatten.length),∀ (j : Nat) (hj : j < i),PairR p l.flatten[i] (l.flatten[j]'(by omega))) ↔
  ∀ (i : Nat) (hi : i < l.length) (k : Nat) (hk : k < l[i].length),l[i][k] ∉ (l.take i).flatten ++ l[i].take k ∧ (p.double = false → (⟨l[i][k].away,l[i][k].home⟩ : Mt) ∉ (l.take i).flatten ++ l[i].take k):=by
 constructor
 ·intro h i hi k hk
  obtain ⟨hlt,e1,e2⟩:=flat_at hi hk
  have hne : ∀ (b : Nat) (hb : b < (l.take i).flatten.length + k),l[i][k] ≠ l.flatten[b]:=fun b hb=>by
   have:=(h _ hlt b hb).1; rw [e1] at this; exact this
  rw [← e2]
  refine ⟨fun hm=>?_,fun hd hm=>?_⟩
  ·obtain ⟨b,hb,e⟩:=(mem_take_lt hlt).1 hm
   exact hne b hb e.symm
  ·obtain ⟨b,hb,e⟩:=(mem_take_lt hlt).1 hm
   have:=(h _ hlt b hb).2 hd
   rw [e1] at this
   rw [(betw_rev (hne b hb)).2 e.symm] at this
   cases this
 ·intro h a ha b hb
  obtain ⟨i,hi,k,hk,rfl⟩:=flat_in ha
  obtain ⟨hlt,e1,e2⟩:=flat_at hi hk
  obtain ⟨h1,h2⟩:=h i hi k hk
  rw [← e2] at h1 h2
  have hne : l[i][k] ≠ l.flatten[b]:=fun e=>h1 ((mem_take_lt hlt).2 ⟨b,hb,e.symm⟩)
  rw [e1]
  refine ⟨hne,fun hd=>?_⟩
  cases e : betwM l[i][k] l.flatten[b].home l.flatten[b].away with
  | false=>rfl
  | true=>exact absurd ((mem_take_lt hlt).2 ⟨b,hb,((betw_rev hne).1 e).symm⟩) (h2 hd)
theorem PartP_iff (l : List (List Mt)) (p : Pl) (hp : fieldOk p.clubs 2 = true) : PartP l p ↔ PartR l p:=by
 have hinc : p.clubs.Pairwise (· < ·):=incr_lt (by simp only [fieldOk,Bool.and_eq_true] at hp; exact hp.1.1)
 have hleft : ∀ r : List Mt,leftGo (p.clubs.length % 2) (lastM r) (busyL r) p.clubs 0 = true ↔ leftR p.clubs r ≤ p.clubs.length % 2:=fun r=>by
  rw [leftGo_eq hinc (Nat.zero_le _),Nat.zero_add,decide_eq_true_eq]; rfl
 unfold PartP PartR
 rw [pairs_iff]
 constructor
 ·rintro ⟨h0,h⟩
  refine ⟨h0,fun i hi=>?_,fun i hi k hk=>?_⟩
  ·obtain ⟨h1,h2,h3,h4,h5⟩:=h i hi
   refine ⟨⟨fun k hk=>?_,fun e=>h1 (by rw [e]; rfl),(hleft _).1 h5⟩,fun hl=>by have:=h3 hl; omega⟩
   obtain ⟨a1,a2,a3,a4,a5,_,_,a8⟩:=h4 k hk
   exact ⟨a1,a2,a3,a8,fun j hj hjk=>⟨not_busy_take.1 a4 j hj hjk,not_busy_take.1 a5 j hj hjk⟩⟩
  ·obtain ⟨_,_,_,h4,_⟩:=h i hi
   obtain ⟨_,_,_,_,_,a6,a7,_⟩:=h4 k hk
   exact ⟨a6,a7⟩
 ·rintro ⟨h0,h,hq⟩
  refine ⟨h0,fun i hi=>?_⟩
  obtain ⟨⟨h1,h2,h3⟩,h4⟩:=h i hi
  have hb : ∀ (k : Nat) (hk : k < l[i].length),l[i][k].home ≠ l[i][k].away ∧ l[i][k].home ∉ busyL (l[i].take k) ∧ l[i][k].away ∉ busyL (l[i].take k):=fun k hk=>by
   obtain ⟨a1,a2,a3,a4,a5⟩:=h1 k hk
   exact ⟨a1,not_busy_take.2 fun j hj hjk=>(a5 j hj hjk).1,not_busy_take.2 fun j hj hjk=>(a5 j hj hjk).2⟩
  have hnd:=busy_nodup hb l[i].length (w21 _)
  rw [List.take_length] at hnd
  have hsub : busyL l[i] ⊆ p.clubs:=fun c hc=>by
   obtain ⟨m,hm,he⟩:=mem_busyL.1 hc
   obtain ⟨k,hk,rfl⟩:=List.getElem_of_mem hm
   obtain ⟨_,a2,a3,_⟩:=h1 k hk
   rcases he with rfl | rfl
   ·exact a2
   ·exact a3
  have hle:=hnd.length_le_of_subset hsub
  rw [busyL_len] at hle
  refine ⟨fun e=>h2 (List.eq_nil_of_length_eq_zero e),by unfold halfN; omega,fun hl=>by rw [h4 hl]; exact Nat.le_refl _,fun k hk=>?_,(hleft _).2 h3⟩
  obtain ⟨a1,a2,a3,a4,a5⟩:=h1 k hk
  obtain ⟨b1,b2⟩:=hq i hi k hk
  exact ⟨a1,a2,a3,(hb k hk).2.1,(hb k hk).2.2,b1,b2,a4⟩
theorem PartP.len {l : List (List Mt)} {p : Pl} (h : PartP l p) {i : Nat} (hi : i < l.length) : l[i].length ≤ halfN p:=(h.2 i hi).2.1
end Go.Proofs.YtndlggbljkhfbaaGreat
namespace Go.Proofs.YtndlggbljkhfbaaGreat
open Go.Tidy
structure SameV (R : List Rnd) (v : Vw) : Prop where
 len : R.length = v.length
 l : ∀ (i : Nat) (hi : i < R.length) (hj : i < v.length),R[i].l = v[i].l
 kn : ∀ (i : Nat) (hi : i < R.length) (hj : i < v.length),R[i].kn = v[i].kn
theorem SameV.state {R : List Rnd} {v : Vw} (h : SameV R v) (i c : Int) : stR (roundAt R i) c = vState v i c:=by
 unfold stR roundAt vState
 by_cases hi : 0 ≤ i ∧ i < R.length
 ·have hi' : 0 ≤ i ∧ i < v.length:=by rw [← h.len]; exact hi
  rw [dif_pos hi,dif_pos hi',h.l i.toNat (by omega) (by omega),h.kn i.toNat (by omega) (by omega)]
 ·have hi' : ¬ (0 ≤ i ∧ i < v.length):=by rw [← h.len]; exact hi
  rw [dif_neg hi,dif_neg hi']; rfl
theorem roundAt_nat {R : List Rnd} {i : Nat} (hi : i < R.length) : roundAt R i = R[i]:=by
 unfold roundAt; rw [dif_pos (by omega)]; rfl
theorem SameV.st {R : List Rnd} {v : Vw} (h : SameV R v) {i : Nat} (hi : i < R.length) (c : Int) : stR R[i] c = vState v i c:=by
 rw [← h.state,roundAt_nat hi]
theorem meetF_any (l : List Mt) (a b : Int) : meetF l a b = l.any fun m=>betwM m a b:=by
 unfold meetF
 rw [Bool.eq_iff_iff]
 simp only [Bool.or_eq_true,List.contains_iff_mem,List.any_eq_true,betwM,Bool.and_eq_true,decide_eq_true_eq]
 constructor
 ·rintro (h | h)
  ·exact ⟨_,h,.inl ⟨rfl,rfl⟩⟩
  ·exact ⟨_,h,.inr ⟨rfl,rfl⟩⟩
 ·rintro ⟨⟨x,y⟩,hm,⟨rfl,rfl⟩ | ⟨rfl,rfl⟩⟩
  ·exact .inl hm
  ·exact .inr hm
theorem SameV.meet {R : List Rnd} {v : Vw} (h : SameV R v) (i a b : Int) : meetF (roundAt R i).l a b = vMeet v i a b:=by
 rw [meetF_any]
 unfold roundAt vMeet
 by_cases hi : 0 ≤ i ∧ i < R.length
 ·have hi' : 0 ≤ i ∧ i < v.length:=by rw [← h.len]; exact hi
  rw [dif_pos hi,dif_pos hi',h.l i.toNat (by omega) (by omega)]
 ·have hi' : ¬ (0 ≤ i ∧ i < v.length):=by rw [← h.len]; exact hi
  rw [dif_neg hi,dif_neg hi']; rfl
theorem SameV.at {R : List Rnd} {v : Vw} (h : SameV R v) {i : Nat} (hi : i < R.length) (cl : List Int) : atF R[i] cl = vHome v i cl:=by
 unfold atF vHome
 refine List.countP_congr fun c _=>?_
 have : stateF R[i].l R[i].kn c = vState v i c:=h.st hi c
 rw [this]
section
variable {R : List Rnd} {v : Vw} {d : Dm}
theorem dGo_crowd (h : SameV R v) (hk : d.kind = 6 ∨ d.kind = 7) (m : Int) (hm : (d.kind = 6 ∧ m = 1) ∨ (d.kind = 7 ∧ m = d.n)) : ∀ (f i : Nat) (s : DS),i + f = R.length → dGo d v f i s = (R.drop i).any (overF d m)
 | 0,i,s,hi=>by
  have e9 : d.kind ≠ 9:=by omega
  rw [List.drop_of_length_le (by omega),dGo,decide_eq_false e9]; rfl
 | f + 1,i,s,hi=>by
  have hlt : i < R.length:=by omega
  rw [List.drop_eq_getElem_cons hlt,List.any_cons,dGo]
  have ho : overF d m R[i] = decide (m < (vHome v i d.clubs : Int)):=by unfold overF; rw [h.at hlt]
  rw [ho]
  rcases hm with ⟨h6,rfl⟩ | ⟨h7,rfl⟩
  ·by_cases hc : 1 < (vHome v i d.clubs : Int)
   ·simp only [dKind,if_pos h6,if_pos hc,decide_eq_true hc,Bool.true_or]
   ·simp only [dKind,if_pos h6,if_neg hc,decide_eq_false hc,Bool.false_or]
    exact dGo_crowd h hk 1 (.inl ⟨h6,rfl⟩) f (i + 1) _ (by omega)
  ·have h6 : d.kind ≠ 6:=by omega
   by_cases hc : d.n < (vHome v i d.clubs : Int)
   ·simp only [dKind,if_neg h6,if_pos h7,if_pos hc,decide_eq_true hc,Bool.true_or]
   ·simp only [dKind,if_neg h6,if_pos h7,if_neg hc,decide_eq_false hc,Bool.false_or]
    exact dGo_crowd h hk d.n (.inr ⟨h7,rfl⟩) f (i + 1) _ (by omega)
theorem dGo_close (h : SameV R v) (hk : d.kind = 8) : ∀ (f i : Nat) (s : DS) (last : Int) (met : Bool),i + f = R.length → (met = true → s.met = last ∧ 0 ≤ last) → (met = false → s.met = -1) → dGo d v f i s = closeGo d (R.drop i) i last met
 | 0,i,s,last,met,hi,_,_=>by
  have e9 : d.kind ≠ 9:=by omega
  rw [List.drop_of_length_le (by omega),dGo,decide_eq_false e9]; rfl
 | f + 1,i,s,last,met,hi,h1,h2=>by
  have hlt : i < R.length:=by omega
  have h6 : d.kind ≠ 6:=by omega
  have h7 : d.kind ≠ 7:=by omega
  have hmt : meetF R[i].l d.club d.other = vMeet v i d.club d.other:=by rw [← h.meet,roundAt_nat hlt]
  rw [List.drop_eq_getElem_cons hlt,closeGo,dGo,hmt]
  have ecast : (i : Int) + 1 = ((i + 1 : Nat) : Int):=by omega
  cases hv : vMeet v i d.club d.other with
  | false =>
   simp only [dKind,if_neg h6,if_neg h7,if_pos hk,hv]
   rw [if_neg (by decide),if_neg (by decide),ecast]
   exact dGo_close h hk f (i + 1) _ last met (by omega) h1 h2
  | true =>
   simp only [dKind,if_neg h6,if_neg h7,if_pos hk,hv,if_true]
   have hcond : (0 ≤ (dKnown d v i s).met ∧ (i : Int) - (dKnown d v i s).met < d.n) ↔ (met && decide ((i : Int) - last < d.n)) = true:=by
    have em : (dKnown d v i s).met = s.met:=rfl
    rw [em]
    cases met with
    | true=>have:=h1 rfl; simp only [Bool.true_and,decide_eq_true_eq]; omega
    | false=>have:=h2 rfl; simp only [Bool.false_and]; constructor <;> intro hh <;> first | omega | cases hh
   by_cases hc : 0 ≤ (dKnown d v i s).met ∧ (i : Int) - (dKnown d v i s).met < d.n
   ·rw [if_pos hc,if_pos (hcond.1 hc)]
   ·rw [if_neg hc,if_neg (fun e=>hc (hcond.2 e)),ecast]
    exact dGo_close h hk f (i + 1) _ i true (by omega) (fun _=>⟨rfl,by omega⟩) (fun e=>by cases e)
def brk2 (a : Int × Int) (s : Int) : Int × Int:=if s = 1 ∨ s = -1 then (s,if s = a.1 then a.2 + 1 else a.2) else a
theorem dGo_brk (h : SameV R v) (hk : d.kind = 9) : ∀ (f i : Nat) (s : DS),i + f = R.length → dGo d v f i s = decide (d.n < ((((R.drop i).map fun r=>stR r d.club)).foldl brk2 (s.last,s.breaks)).2)
 | 0,i,s,hi=>by
  rw [List.drop_of_length_le (by omega),dGo,decide_eq_true hk]; rfl
 | f + 1,i,s,hi=>by
  have hlt : i < R.length:=by omega
  have h6 : d.kind ≠ 6:=by omega
  have h7 : d.kind ≠ 7:=by omega
  have h8 : d.kind ≠ 8:=by omega
  rw [List.drop_eq_getElem_cons hlt,List.map_cons,List.foldl_cons,dGo,h.st hlt]
  simp only [dKind,if_neg h6,if_neg h7,if_neg h8,if_pos hk]
  by_cases hc : vState v i d.club = 1 ∨ vState v i d.club = -1
  ·have e : brk2 (s.last,s.breaks) (vState v i d.club) = (vState v i d.club,if vState v i d.club = s.last then s.breaks + 1 else s.breaks):=by unfold brk2; rw [if_pos hc]
   rw [if_pos hc,e]
   exact dGo_brk h hk f (i + 1) _ (by omega)
  ·have e : brk2 (s.last,s.breaks) (vState v i d.club) = (s.last,s.breaks):=by unfold brk2; rw [if_neg hc]
   rw [if_neg hc,e]
   exact dGo_brk h hk f (i + 1) _ (by omega)
theorem dGo_tilt (h : SameV R v) (hk : d.kind = 10) : ∀ (f i : Nat) (s : DS),i + f = R.length → dGo d v f i s = (s.known && tiltGo d.n (((R.drop i).map fun r=>stR r d.club).takeWhile fun s=>decide (s ≠ 2)) s.sum)
 | 0,i,s,hi=>by
  have e9 : d.kind ≠ 9:=by omega
  rw [List.drop_of_length_le (by omega),dGo,decide_eq_false e9]; simp [tiltGo]
 | f + 1,i,s,hi=>by
  have hlt : i < R.length:=by omega
  have h6 : d.kind ≠ 6:=by omega
  have h7 : d.kind ≠ 7:=by omega
  have h8 : d.kind ≠ 8:=by omega
  have h9 : d.kind ≠ 9:=by omega
  rw [List.drop_eq_getElem_cons hlt,List.map_cons,dGo,h.st hlt]
  simp only [dKind,if_neg h6,if_neg h7,if_neg h8,if_neg h9,if_pos hk]
  have ek : (dKnown d v i s).known = (s.known && !decide (vState v i d.club = 2)):=rfl
  have es : (dKnown d v i s).sum = s.sum:=rfl
  rw [ek,es]
  by_cases h2 : vState v i d.club = 2
  ·rw [h2,List.takeWhile_cons_of_neg (by decide)]
   simp only [decide_true,Bool.not_true,Bool.and_false,tiltGo]
   rw [if_neg (by decide)]
   show dGo d v f (i + 1) (dKnown d v i s) = false
   rw [dGo_tilt h hk f (i + 1) _ (by omega),ek,h2]
   simp
  ·rw [List.takeWhile_cons_of_pos (by simpa using h2),tiltGo,decide_eq_false h2]
   cases hkn : s.known with
   | false =>
    simp only [Bool.false_and]
    rw [if_neg (by decide)]
    show dGo d v f (i + 1) (dKnown d v i s) = false
    rw [dGo_tilt h hk f (i + 1) _ (by omega),ek,hkn]; rfl
   | true =>
    simp only [Bool.not_false,Bool.and_self,if_true,Bool.true_and]
    by_cases hc : d.n < s.sum + vState v i d.club ∨ d.n < -(s.sum + vState v i d.club)
    ·rw [if_pos hc,if_pos hc]
    ·rw [if_neg hc,if_neg hc]
     show dGo d v f (i + 1) ⟨s.sum + vState v i d.club,(dKnown d v i s).last,(dKnown d v i s).breaks,(dKnown d v i s).met,true⟩ = _
     rw [dGo_tilt h hk f (i + 1) _ (by omega)]; rfl
end
def LastU (R : List Rnd) : Prop:=∀ (i : Nat) (hi : i < R.length),i + 1 < R.length → ∀ c,stR R[i] c ≠ 2
theorem brk2_step {a : Int × Int} {s : Int} (h : -1 ≤ s ∧ s ≤ 2) (h2 : s ≠ 2) : brk2 a s = brkStep a s:=by
 unfold brk2 brkStep
 by_cases h0 : s = 0
 ·rw [if_neg (by omega),if_pos h0]
 ·rw [if_pos (by omega),if_neg h0]
theorem brk2_fold : ∀ (S : List Int) (a : Int × Int),(∀ s ∈ S,-1 ≤ s ∧ s ≤ 2) → (∀ (i : Nat) (hi : i < S.length),i + 1 < S.length → S[i] ≠ 2) → S.foldl brk2 a = (S.takeWhile fun s=>decide (s ≠ 2)).foldl brkStep a
 | [],a,_,_=>rfl
 | s :: S,a,hr,hl=>by
  by_cases h2 : s = 2
  ·have hS : S = []:=by
    cases S with
    | nil=>rfl
    | cons x S=>exact absurd h2 (hl 0 (by simp) (by simp))
   subst hS h2
   rw [List.takeWhile_cons_of_neg (by decide)]
   simp [brk2]
  ·rw [List.takeWhile_cons_of_pos (by simpa using h2),List.foldl_cons,List.foldl_cons,brk2_step (hr s (by simp)) h2]
   exact brk2_fold S _ (fun x hx=>hr x (by simp [hx])) fun i hi hi1=>by
    have:=hl (i + 1) (by simpa using hi) (by simpa using hi1)
    simpa using this
theorem dooms_eq {R : List Rnd} {v : Vw} {d : Dm} (h : SameV R v) (hu : LastU R) (hk : 1 ≤ d.kind ∧ d.kind ≤ 10) : doomsF R d = vDooms v d:=by
 have hst : stR (roundAt R d.round) d.club = vState v d.round d.club:=h.state _ _
 have hst2 : stR (roundAt R d.round) d.other = vState v d.round d.other:=h.state _ _
 have hmt : meets R d = vMeet v d.round d.club d.other:=h.meet _ _ _
 have hl : 0 + v.length = R.length:=by rw [h.len]; omega
 unfold doomsF vDooms
 by_cases k1 : d.kind = 1
 ·rw [if_pos k1,if_pos k1]; unfold doesF; rw [hst]
 by_cases k2 : d.kind = 2
 ·rw [if_neg k1,if_pos k2,if_neg k1,if_pos k2]; unfold doesF; rw [hst]
 by_cases k3 : d.kind = 3
 ·rw [if_neg k1,if_neg k2,if_pos k3,if_neg k1,if_neg k2,if_pos k3]; unfold doesF; rw [hst]
 by_cases k4 : d.kind = 4
 ·rw [if_neg k1,if_neg k2,if_neg k3,if_pos k4,if_neg k1,if_neg k2,if_neg k3,if_pos k4]; unfold k4F; rw [hmt,hst,hst2]
 by_cases k5 : d.kind = 5
 ·rw [if_neg k1,if_neg k2,if_neg k3,if_neg k4,if_pos k5,if_neg k1,if_neg k2,if_neg k3,if_neg k4,if_pos k5]; exact hmt
 rw [if_neg k1,if_neg k2,if_neg k3,if_neg k4,if_neg k5,if_neg k1,if_neg k2,if_neg k3,if_neg k4,if_neg k5]
 by_cases k6 : d.kind = 6
 ·rw [if_pos k6,dGo_crowd h (.inl k6) 1 (.inl ⟨k6,rfl⟩) _ 0 _ hl]; rfl
 by_cases k7 : d.kind = 7
 ·rw [if_neg k6,if_pos k7,dGo_crowd h (.inr k7) d.n (.inr ⟨k7,rfl⟩) _ 0 _ hl]; rfl
 by_cases k8 : d.kind = 8
 ·rw [if_neg k6,if_neg k7,if_pos k8,dGo_close h k8 _ 0 _ 0 false hl (fun e=>by cases e) (fun _=>rfl)]; rfl
 by_cases k9 : d.kind = 9
 ·rw [if_neg k6,if_neg k7,if_neg k8,if_pos k9,dGo_brk h k9 _ 0 _ hl]
  have:=brk2_fold (R.map fun r=>stR r d.club) (0,0) (fun s hs=>by obtain ⟨r,_,rfl⟩:=List.mem_map.1 hs; exact stR_range r _) (fun i hi hi1=>by
   rw [List.getElem_map]; exact hu i (by simpa using hi) (by simpa using hi1) _)
  show _ = decide (d.n < ((R.map fun r=>stR r d.club).foldl brk2 (0,0)).2)
  rw [this]; rfl
 ·have k10 : d.kind = 10:=by omega
  rw [if_neg k6,if_neg k7,if_neg k8,if_neg k9,dGo_tilt h k10 _ 0 _ hl]; rfl
theorem stateF_known {kn : Int → Bool} (hk : ∀ c,kn c = true) {c : Int} : ∀ l : List Mt,stateF l kn c ≠ 2
 | []=>by rw [stateF,hk c]; decide
 | m :: l=>by
  rw [stateF]
  split
  ·decide
  ·split
   ·decide
   ·exact stateF_known hk l
theorem hLast {l : List (List Mt)} (hr : ∀ r ∈ l,r.length ≤ 4611686018427387904) : LastU (l.map hRnd):=by
 intro i hi _ c
 have hil : i < l.length:=by simpa using hi
 have hri:=hr _ (List.getElem_mem hil)
 have e1 : (l.map hRnd)[i] = hRnd l[i]:=List.getElem_map ..
 rw [e1]
 unfold hRnd stR; rw [dif_pos hri]
 exact stateF_known (fun _=>rfl) _
theorem pSame {l : List (List Mt)} {p : Pl} (hr : ∀ r ∈ l,r.length ≤ 4611686018427387904) : SameV (pR l p) (seenV l p):=by
 refine ⟨by unfold pR seenV; rw [List.length_map,List.length_map],fun i hi hj=>?_,fun i hi hj=>?_⟩
 all_goals
  have hil : i < l.length:=by unfold pR at hi; simpa using hi
  have hri:=hr _ (List.getElem_mem hil)
  have e1 : (pR l p)[i] = pRnd p l[i]:=List.getElem_map ..
  have e2 : (seenV l p)[i] = seenR p l[i]:=List.getElem_map ..
  rw [e1,e2]
  unfold pRnd; rw [dif_pos hri]
 ·rfl
 ·funext c
  show (decide ((l[i].length : Int) = halfN p) || decide (c < lastM l[i])) = (decide (l[i].length = halfN p) || decide (c < lastM l[i]))
  rw [decide_eq_decide.2 (show ((l[i].length : Int) = halfN p) ↔ l[i].length = halfN p by omega)]
theorem pLast {l : List (List Mt)} {p : Pl} (hr : ∀ r ∈ l,r.length ≤ 4611686018427387904) (hP : PartP l p) : LastU (pR l p):=by
 intro i hi hi1 c
 have hil : i < l.length:=by unfold pR at hi; simpa using hi
 have hil1 : i + 1 < l.length:=by unfold pR at hi1; simpa using hi1
 have hri:=hr _ (List.getElem_mem hil)
 have e1 : (pR l p)[i] = pRnd p l[i]:=List.getElem_map ..
 have hh:=(hP.2 i hil).2.2.1 hil1
 have hh2:=(hP.2 i hil).2.1
 rw [e1]
 unfold pRnd stR; rw [dif_pos hri]
 exact stateF_known (fun c=>by simp only [Bool.or_eq_true,decide_eq_true_eq]; exact .inl (by omega)) _
end Go.Proofs.YtndlggbljkhfbaaGreat
namespace Go.Proofs.YtndlggbljkhfbaaGreat
open Go.Tidy
inductive Beg : List (List Mt) → List (List Mt) → Prop
 | nil (l : List (List Mt)) : Beg [] l
 | last (r : List Mt) (l : List (List Mt)) (m : Nat) (h : 0 < m) : Beg [r.take m] (r :: l)
 | cons (r : List Mt) {A l : List (List Mt)} (h : Beg A l) : Beg (r :: A) (r :: l)
theorem Beg.refl : ∀ l : List (List Mt),Beg l l
 | []=>.nil []
 | r :: l=>.cons r (Beg.refl l)
theorem Beg.len {A l : List (List Mt)} (h : Beg A l) : A.length ≤ l.length:=by
 induction h with
 | nil l=>exact Nat.zero_le _
 | last r l m h=>simp
 | cons r h ih=>simpa using ih
theorem Beg.get {A l : List (List Mt)} (h : Beg A l) : ∀ (i : Nat) (hi : i < A.length) (hj : i < l.length),∃ m,0 < m ∧ A[i] = l[i].take m ∧ (i + 1 < A.length → A[i] = l[i]):=by
 induction h with
 | nil l=>intro i hi; simp at hi
 | last r l m h =>
  intro i hi hj
  have : i = 0:=by simpa using hi
  subst this
  exact ⟨m,h,rfl,fun h=>by simp at h⟩
 | cons r h ih =>
  intro i hi hj
  cases i with
  | zero=>exact ⟨r.length + 1,by omega,by simp only [List.getElem_cons_zero]; exact (List.take_of_length_le (Nat.le_succ _)).symm,fun _=>rfl⟩
  | succ i =>
   obtain ⟨m,h1,h2,h3⟩:=ih i (by simpa using hi) (by simpa using hj)
   exact ⟨m,h1,h2,fun h=>h3 (by simpa using h)⟩
theorem Beg.flat {A l : List (List Mt)} (h : Beg A l) : ∃ t,l.flatten = A.flatten ++ t:=by
 induction h with
 | nil l=>exact ⟨l.flatten,rfl⟩
 | last r l m h=>exact ⟨r.drop m ++ l.flatten,by rw [List.flatten_cons,List.flatten_cons,List.flatten_nil,List.append_nil,← List.append_assoc,List.take_append_drop]⟩
 | cons r h ih=>obtain ⟨t,ht⟩:=ih; exact ⟨t,by rw [List.flatten_cons,List.flatten_cons,ht,List.append_assoc]⟩
section
variable {cl : List Int} {r : List Mt}
theorem first_mono (h : ∀ (i : Nat) (hi : i < r.length),OkR cl r i hi) : ∀ (j i : Nat) (hj : j < r.length) (hij : i < j),firstM (r[i]'(by omega)) < firstM r[j]:=by
 intro j
 induction j with
 | zero=>intro i hj hij; omega
 | succ j ih =>
  intro i hj hij
  have h1:=(h (j + 1) hj).2.2.2.1 (by omega)
  have e : j + 1 - 1 = j:=by omega
  simp only [e] at h1
  by_cases he : i = j
  ·subst he; exact h1
  ·have:=ih i (by omega) (by omega); omega
theorem lastM_get (hne : r ≠ []) : lastM r = firstM (r[r.length - 1]'(by have:=List.length_pos_iff.2 hne; omega)):=by
 have:=List.length_pos_iff.2 hne
 unfold lastM; rw [List.getLast?_eq_getElem?,List.getElem?_eq_getElem (by omega)]
theorem plays_first {m : Mt} {c : Int} (h : playsM m c = true) : firstM m ≤ c:=by
 rcases playsM_iff.1 h with rfl | rfl <;> unfold firstM <;> split <;> omega
theorem take_last (h : RndR cl r) {m : Nat} (hm : 0 < m) : r.take m ≠ [] ∧ lastM (r.take m) ≤ lastM r ∧ ∀ (j : Nat) (hj : j < r.length),m ≤ j → lastM (r.take m) < firstM r[j]:=by
 have hpos:=List.length_pos_iff.2 h.2.1
 have hlen : (r.take m).length = min m r.length:=List.length_take ..
 have hne : r.take m ≠ []:=fun e=>by rw [e] at hlen; simp at hlen; omega
 have hl : lastM (r.take m) = firstM (r[min m r.length - 1]'(by omega)):=by
  rw [lastM_get hne]; simp only [List.getElem_take,hlen]
 refine ⟨hne,?_,fun j hj hmj=>?_⟩
 ·rw [hl,lastM_get h.2.1]
  by_cases e : min m r.length - 1 = r.length - 1
  ·simp only [e]; exact Int.le_refl _
  ·exact Int.le_of_lt (first_mono h.1 (r.length - 1) (min m r.length - 1) (by omega) (by omega))
 ·rw [hl]; exact first_mono h.1 j _ hj (by omega)
theorem not_later (h : RndR cl r) {m : Nat} (hm : 0 < m) {c : Int} (hc : c < lastM (r.take m)) {j : Nat} (hj : j < r.length) (hp : playsM r[j] c = true) : j < m:=by
 refine Nat.lt_of_not_le fun hmj=>?_
 have:=(take_last h hm).2.2 j hj hmj
 have:=plays_first hp
 omega
theorem RndR.take (h : RndR cl r) {m : Nat} (hm : 0 < m) : RndR cl (r.take m):=by
 obtain ⟨h1,h2,h3⟩:=take_last h hm
 refine ⟨fun i hi=>?_,h1,?_⟩
 ·have hi' : i < m ∧ i < r.length:=by rw [List.length_take] at hi; omega
  obtain ⟨a1,a2,a3,a4,a5⟩:=h.1 i hi'.2
  have e : (r.take m)[i] = r[i]:=List.getElem_take ..
  unfold OkR
  rw [e]
  refine ⟨a1,a2,a3,fun h0=>?_,fun j hj hji=>?_⟩
  ·have e2 : (r.take m)[i - 1]'(by omega) = r[i - 1]'(by omega):=List.getElem_take ..
   rw [e2]; exact a4 h0
  ·have e2 : (r.take m)[j] = r[j]'(by omega):=List.getElem_take ..
   rw [e2]; exact a5 j (by omega) hji
 ·refine w23 (List.countP_mono_left fun c _ hc=>?_) h.2.2
  simp only [Bool.and_eq_true,decide_eq_true_eq,Bool.not_eq_true'] at hc ⊢
  refine ⟨by omega,?_⟩
  cases e : busyB r c with
  | false=>rfl
  | true =>
   obtain ⟨x,hx,hp⟩:=List.any_eq_true.1 e
   obtain ⟨j,hj,rfl⟩:=List.getElem_of_mem hx
   have hjm:=not_later h hm hc.1 hj hp
   have : busyB (r.take m) c = true:=List.any_eq_true.2 ⟨r[j],List.mem_take_iff_getElem.2 ⟨j,by omega,rfl⟩,hp⟩
   rw [hc.2] at this; cases this
end
theorem PartR.beg {A l : List (List Mt)} {p : Pl} (h : PartR l p) (hb : Beg A l) : PartR A p:=by
 obtain ⟨h1,h2,h3⟩:=h
 have hlen:=hb.len
 refine ⟨by omega,fun i hi=>?_,fun i hi j hj=>?_⟩
 ·obtain ⟨m,hm,e1,e2⟩:=hb.get i hi (by omega)
  obtain ⟨a1,a2⟩:=h2 i (by omega)
  refine ⟨by rw [e1]; exact a1.take hm,fun hi1=>?_⟩
  rw [e2 hi1]; exact a2 (by omega)
 ·obtain ⟨t,ht⟩:=hb.flat
  have hi' : i < l.flatten.length:=by rw [ht,List.length_append]; omega
  have:=h3 i hi' j hj
  have e1 : l.flatten[i] = A.flatten[i]:=by simp only [ht]; exact List.getElem_append_left hi
  have e2 : l.flatten[j]'(by omega) = A.flatten[j]'(by omega):=by simp only [ht]; exact List.getElem_append_left (by omega)
  rw [e1,e2] at this
  exact this
theorem stateF_append {kn kn' : Int → Bool} {c : Int} {b : List Mt} : ∀ {a : List Mt},(∃ m ∈ a,playsM m c = true) → stateF (a ++ b) kn c = stateF a kn' c
 | [],⟨m,hm,_⟩=>by simp at hm
 | x :: a,⟨m,hm,hp⟩=>by
  rw [List.cons_append,stateF,stateF]
  by_cases h1 : c = x.home
  ·rw [if_pos h1,if_pos h1]
  ·by_cases h2 : c = x.away
   ·rw [if_neg h1,if_neg h1,if_pos h2,if_pos h2]
   ·rw [if_neg h1,if_neg h1,if_neg h2,if_neg h2]
    refine stateF_append ⟨m,?_,hp⟩
    rcases List.mem_cons.1 hm with rfl | hm
    ·rcases playsM_iff.1 hp with e | e
     ·exact absurd e.symm h1
     ·exact absurd e.symm h2
    ·exact hm
theorem stateF_out {kn : Int → Bool} {c : Int} {a : List Mt} (h : ∀ m ∈ a,playsM m c = false) : stateF a kn c = if kn c then 0 else 2 :=
 stateF_none fun j hj=>by
  have:=h _ (List.getElem_mem hj)
  constructor
  ·intro e; rw [playsM_iff.2 (.inl e.symm)] at this; cases this
  ·intro e; rw [playsM_iff.2 (.inr e.symm)] at this; cases this
structure Kn (r' r : Rnd) : Prop where
 st : ∀ c,stR r' c ≠ 2 → stR r c = stR r' c
 pl : ∀ c,stR r' c ≠ 2 → ∀ m ∈ r.l,playsM m c = true → m ∈ r'.l
 sub : ∀ m ∈ r'.l,m ∈ r.l
theorem Kn.refl (r : Rnd) : Kn r r:=⟨fun _ _=>rfl,fun _ _ _ h _=>h,fun _ h=>h⟩
theorem kn_take {p : Pl} {r : List Mt} {m : Nat} (h : RndR p.clubs r) (hle : r.length ≤ halfN p) (hm : 0 < m) (hs : r.length ≤ 4611686018427387904) : Kn (pRnd p (r.take m)) (pRnd p r):=by
 have hs' : (r.take m).length ≤ 4611686018427387904:=by rw [List.length_take]; omega
 have hst : ∀ c,stR (pRnd p r) c = stateF r (fun c=>decide ((r.length : Int) = halfN p) || decide (c < lastM r)) c:=fun c=>by unfold stR pRnd; rw [dif_pos hs]
 have hst' : ∀ c,stR (pRnd p (r.take m)) c = stateF (r.take m) (fun c=>decide (((r.take m).length : Int) = halfN p) || decide (c < lastM (r.take m))) c:=fun c=>by unfold stR pRnd; rw [dif_pos hs']
 have hl : (pRnd p r).l = r:=pRnd_l hs
 have hl' : (pRnd p (r.take m)).l = r.take m:=pRnd_l hs'
 have hlast:=take_last h hm
 have uniq : ∀ c (i j : Nat) (hi : i < r.length) (hj : j < r.length),playsM r[i] c = true → playsM r[j] c = true → i = j:=by
  intro c i j hi hj h1 h2
  have key : ∀ (i j : Nat) (hi : i < r.length) (hj : j < r.length),i < j → playsM r[i] c = true → playsM r[j] c = true → False:=by
   intro i j hi hj hij h1 h2
   have:=(h.1 j hj).2.2.2.2 i hi hij
   rcases playsM_iff.1 h2 with e | e
   ·rw [e,h1] at this; cases this.1
   ·rw [e,h1] at this; cases this.2
  rcases Nat.lt_trichotomy i j with hlt | rfl | hlt
  ·exact (key i j hi hj hlt h1 h2).elim
  ·rfl
  ·exact (key j i hj hi hlt h2 h1).elim
 have main : ∀ c,stR (pRnd p (r.take m)) c ≠ 2 → stR (pRnd p r) c = stR (pRnd p (r.take m)) c ∧ ∀ x ∈ r,playsM x c = true → x ∈ r.take m:=by
  intro c hc
  rw [hst'] at hc
  rw [hst,hst']
  by_cases hin : ∃ x ∈ r.take m,playsM x c = true
  ·obtain ⟨x,hx,hp⟩:=hin
   refine ⟨?_,fun y hy hpy=>?_⟩
   ·conv=>lhs; rw [← List.take_append_drop m r]
    exact stateF_append ⟨x,hx,hp⟩
   ·obtain ⟨i,hi,rfl⟩:=List.mem_take_iff_getElem.1 hx
    obtain ⟨j,hj,rfl⟩:=List.getElem_of_mem hy
    have:=uniq c i j (by omega) hj hp hpy
    subst this
    exact hx
  ·have hout : ∀ x ∈ r.take m,playsM x c = false:=fun x hx=>by
    cases e : playsM x c with
    | false=>rfl
    | true=>exact absurd ⟨x,hx,e⟩ hin
   rw [stateF_out hout] at hc ⊢
   have hk : (decide (((r.take m).length : Int) = halfN p) || decide (c < lastM (r.take m))) = true:=by
    cases e : (decide (((r.take m).length : Int) = halfN p) || decide (c < lastM (r.take m))) with
    | true=>rfl
    | false=>simp only [e] at hc; exact absurd rfl hc
   rw [if_pos hk]
   have hout2 : ∀ x ∈ r,playsM x c = false:=fun x hx=>by
    cases e : playsM x c with
    | false=>rfl
    | true =>
     obtain ⟨j,hj,rfl⟩:=List.getElem_of_mem hx
     have hjm : j < m:=by
      simp only [Bool.or_eq_true,decide_eq_true_eq] at hk
      rcases hk with hk | hk
      ·rw [List.length_take] at hk; omega
      ·exact not_later h hm hk hj e
     exact absurd ⟨r[j],List.mem_take_iff_getElem.2 ⟨j,by omega,rfl⟩,e⟩ hin
   refine ⟨?_,fun x hx hp=>by rw [hout2 x hx] at hp; cases hp⟩
   rw [stateF_out hout2,if_pos]
   simp only [Bool.or_eq_true,decide_eq_true_eq] at hk ⊢
   rcases hk with hk | hk
   ·rw [List.length_take] at hk; left; omega
   ·right; omega
 refine ⟨fun c hc=>(main c hc).1,fun c hc x hx hp=>?_,fun x hx=>?_⟩
 ·rw [hl'] ; rw [hl] at hx; exact (main c hc).2 x hx hp
 ·rw [hl'] at hx; rw [hl]; exact List.mem_of_mem_take hx
inductive BegR : List Rnd → List Rnd → Prop
 | nil (l : List Rnd) : BegR [] l
 | last {r' r : Rnd} (l : List Rnd) (h : Kn r' r) : BegR [r'] (r :: l)
 | cons (r : Rnd) {A l : List Rnd} (h : BegR A l) : BegR (r :: A) (r :: l)
theorem Beg.rnds {p : Pl} {A l : List (List Mt)} (h : Beg A l) (hR : ∀ r ∈ l,RndR p.clubs r ∧ r.length ≤ halfN p ∧ r.length ≤ 4611686018427387904) : BegR (pR A p) (pR l p):=by
 induction h with
 | nil l=>exact .nil _
 | last r l m h =>
  obtain ⟨h1,h2,h3⟩:=hR r (by simp)
  exact .last _ (kn_take h1 h2 h h3)
 | cons r h ih=>exact .cons _ (ih fun x hx=>hR x (by simp [hx]))
theorem BegR.get {A l : List Rnd} (h : BegR A l) : A.length ≤ l.length ∧ ∀ (i : Nat) (hi : i < A.length) (hj : i < l.length),Kn A[i] l[i]:=by
 induction h with
 | nil l=>exact ⟨Nat.zero_le _,fun i hi=>by simp at hi⟩
 | last l h =>
  refine ⟨by simp,fun i hi hj=>?_⟩
  have : i = 0:=by simpa using hi
  subst this; exact h
 | cons r h ih =>
  refine ⟨by simpa using ih.1,fun i hi hj=>?_⟩
  cases i with
  | zero=>exact Kn.refl _
  | succ i=>exact ih.2 i (by simpa using hi) (by simpa using hj)
theorem Kn.none (r : Rnd) : Kn noRnd r:=⟨fun c hc=>absurd rfl hc,fun c hc=>absurd rfl hc,fun m hm=>by simp [noRnd] at hm⟩
theorem BegR.at {A l : List Rnd} (h : BegR A l) (i : Int) : Kn (roundAt A i) (roundAt l i):=by
 obtain ⟨h1,h2⟩:=h.get
 by_cases hi : 0 ≤ i ∧ i < A.length
 ·have hi' : 0 ≤ i ∧ i < l.length:=by omega
  unfold roundAt
  rw [dif_pos hi,dif_pos hi']
  exact h2 _ _ _
 ·have : roundAt A i = noRnd:=by unfold roundAt; rw [dif_neg hi]
  rw [this]; exact Kn.none _
theorem meetF_iff {l : List Mt} {a b : Int} : meetF l a b = true ↔ ∃ m ∈ l,betwM m a b = true:=by
 rw [meetF_any,List.any_eq_true]
theorem Kn.meet {r' r : Rnd} (h : Kn r' r) {a b : Int} (hm : meetF r'.l a b = true) : meetF r.l a b = true:=by
 obtain ⟨m,h1,h2⟩:=meetF_iff.1 hm
 exact meetF_iff.2 ⟨m,h.sub m h1,h2⟩
theorem betw_plays {m : Mt} {a b : Int} (h : betwM m a b = true) : playsM m a = true ∧ playsM m b = true:=by
 simp only [betwM,Bool.or_eq_true,Bool.and_eq_true,decide_eq_true_eq] at h
 rw [playsM_iff,playsM_iff]
 rcases h with ⟨h1,h2⟩ | ⟨h1,h2⟩
 ·exact ⟨.inl h1,.inr h2⟩
 ·exact ⟨.inr h2,.inl h1⟩
theorem Kn.at {r' r : Rnd} (h : Kn r' r) (cl : List Int) : atF r' cl ≤ atF r cl:=by
 unfold atF
 refine List.countP_mono_left fun c _ hc=>?_
 simp only [decide_eq_true_eq] at hc ⊢
 have:=h.st c (by unfold stR; rw [hc]; decide)
 unfold stR at this
 rw [this,hc]
theorem close_mono {d : Dm} {A l : List Rnd} (h : BegR A l) : ∀ (i last : Int) (met : Bool),closeGo d A i last met = true → closeGo d l i last met = true:=by
 induction h with
 | nil l=>intro i last met h; simp [closeGo] at h
 | last l h =>
  intro i last met hc
  rw [closeGo] at hc ⊢
  split at hc
  ·rename_i hm
   rw [if_pos (h.meet hm)]
   split at hc
   ·rename_i hq; rw [if_pos hq]
   ·simp [closeGo] at hc
  ·simp [closeGo] at hc
 | cons r h ih =>
  intro i last met hc
  rw [closeGo] at hc ⊢
  split
  ·rename_i hm
   rw [if_pos hm] at hc
   split
   ·rfl
   ·rename_i hq; rw [if_neg hq] at hc; exact ih _ _ _ hc
  ·rename_i hm
   rw [if_neg hm] at hc; exact ih _ _ _ hc
theorem kst_pre {A l : List Rnd} (h : BegR A l) (c : Int) : ∃ t,kst l c = kst A c ++ t:=by
 induction h with
 | nil l=>exact ⟨kst l c,rfl⟩
 | last l h =>
  rename_i r' r
  by_cases h2 : stR r' c = 2
  ·have e0 : kst [r'] c = []:=by unfold kst; rw [List.map_cons,List.takeWhile_cons_of_neg (by simpa using h2)]
   exact ⟨kst (r :: l) c,by rw [e0]; rfl⟩
  ·have e:=h.st c h2
   refine ⟨kst l c,?_⟩
   unfold kst
   rw [List.map_cons,List.map_cons,List.takeWhile_cons_of_pos (by simpa [e] using h2),List.takeWhile_cons_of_pos (by simpa using h2),e]; rfl
 | cons r h ih =>
  obtain ⟨t,ht⟩:=ih
  by_cases h2 : stR r c = 2
  ·exact ⟨[],by unfold kst; rw [List.map_cons,List.map_cons,List.takeWhile_cons_of_neg (by simpa using h2),List.takeWhile_cons_of_neg (by simpa using h2)]; rfl⟩
  ·refine ⟨t,?_⟩
   unfold kst at ht ⊢
   rw [List.map_cons,List.map_cons,List.takeWhile_cons_of_pos (by simpa using h2),List.takeWhile_cons_of_pos (by simpa using h2),ht]; rfl
theorem brk_mono (S T : List Int) : (brkF S).2 ≤ (brkF (S ++ T)).2:=by
 unfold brkF
 rw [List.foldl_append]
 generalize S.foldl brkStep (0,0) = a
 induction T generalizing a with
 | nil=>exact Int.le_refl _
 | cons s T ih =>
  have h2 : a.2 ≤ (brkStep a s).2:=by
   unfold brkStep; split
   ·exact Int.le_refl _
   ·simp only; split <;> omega
  exact Int.le_trans h2 (ih _)
theorem tilt_mono {n : Int} : ∀ {S T : List Int} {sum : Int},tiltGo n S sum = true → tiltGo n (S ++ T) sum = true
 | [],_,_,h=>by simp [tiltGo] at h
 | s :: S,T,sum,h=>by
  rw [List.cons_append,tiltGo]
  rw [tiltGo] at h
  split
  ·rfl
  ·rename_i hq; rw [if_neg hq] at h; exact tilt_mono h
theorem dooms_mono {A l : List Rnd} {d : Dm} (h : BegR A l) (hd : doomsF A d = true) : doomsF l d = true:=by
 have hat:=h.at d.round
 have does : ∀ w,doesF A w d = true → doesF l w d = true:=fun w hw=>by
  unfold doesF at hw ⊢
  simp only [Bool.and_eq_true,Bool.not_eq_true',decide_eq_false_iff_not] at hw ⊢
  rw [hat.st d.club hw.1]; exact hw
 unfold doomsF at hd ⊢
 by_cases k1 : d.kind = 1
 ·rw [if_pos k1] at hd ⊢; exact does _ hd
 by_cases k2 : d.kind = 2
 ·rw [if_neg k1,if_pos k2] at hd ⊢; exact does _ hd
 by_cases k3 : d.kind = 3
 ·rw [if_neg k1,if_neg k2,if_pos k3] at hd ⊢; exact does _ hd
 by_cases k4 : d.kind = 4
 ·rw [if_neg k1,if_neg k2,if_neg k3,if_pos k4] at hd ⊢
  unfold k4F meets at hd ⊢
  simp only [Bool.and_eq_true,Bool.or_eq_true,Bool.not_eq_true',decide_eq_false_iff_not] at hd ⊢
  obtain ⟨hm,hs⟩:=hd
  refine ⟨?_,hs.imp (fun h2=>by rw [hat.st _ h2]; exact h2) fun h2=>by rw [hat.st _ h2]; exact h2⟩
  cases e : meetF (roundAt l d.round).l d.club d.other with
  | false=>rfl
  | true =>
   obtain ⟨x,hx,hb⟩:=meetF_iff.1 e
   have hxin : x ∈ (roundAt A d.round).l:=by
    rcases hs with hs | hs
    ·exact hat.pl _ hs x hx (betw_plays hb).1
    ·exact hat.pl _ hs x hx (betw_plays hb).2
   rw [meetF_iff.2 ⟨x,hxin,hb⟩] at hm; cases hm
 by_cases k5 : d.kind = 5
 ·rw [if_neg k1,if_neg k2,if_neg k3,if_neg k4,if_pos k5] at hd ⊢; exact hat.meet hd
 have any : ∀ m,A.any (overF d m) = true → l.any (overF d m) = true:=fun m hm=>by
  obtain ⟨x,hx,ho⟩:=List.any_eq_true.1 hm
  obtain ⟨i,hi,rfl⟩:=List.getElem_of_mem hx
  obtain ⟨g1,g2⟩:=h.get
  have hj : i < l.length:=by omega
  refine List.any_eq_true.2 ⟨l[i],List.getElem_mem hj,?_⟩
  have:=(g2 i hi hj).at d.clubs
  unfold overF at ho ⊢
  simp only [decide_eq_true_eq] at ho ⊢
  omega
 rw [if_neg k1,if_neg k2,if_neg k3,if_neg k4,if_neg k5] at hd ⊢
 by_cases k6 : d.kind = 6
 ·rw [if_pos k6] at hd ⊢; exact any _ hd
 by_cases k7 : d.kind = 7
 ·rw [if_neg k6,if_pos k7] at hd ⊢; exact any _ hd
 by_cases k8 : d.kind = 8
 ·rw [if_neg k6,if_neg k7,if_pos k8] at hd ⊢; exact close_mono h _ _ _ hd
 obtain ⟨t,ht⟩:=kst_pre h d.club
 by_cases k9 : d.kind = 9
 ·rw [if_neg k6,if_neg k7,if_neg k8,if_pos k9] at hd ⊢
  simp only [decide_eq_true_eq] at hd ⊢
  have:=brk_mono (kst A d.club) t
  rw [ht]; omega
 ·rw [if_neg k6,if_neg k7,if_neg k8,if_neg k9] at hd ⊢
  rw [ht]; exact tilt_mono hd
end Go.Proofs.YtndlggbljkhfbaaGreat
namespace Go.Proofs.YtndlggbljkhfbaaGreat
open Go.Tidy
variable {L : List Blk} {k : V → List Blk → Prop}
def rdR (A : List (List Mt)) : List (List V):=A.map fun r=>[.d (mts r)]
theorem rdR_bel (n : Nat) : ∀ A : List (List Mt),belR n (rdR A) = true
 | []=>rfl
 | _ :: A=>by simp only [rdR,List.map_cons,belR,V.belL,V.bel,Bool.true_and]; exact rdR_bel n A
end Go.Proofs.YtndlggbljkhfbaaGreat
namespace Go.Proofs.YtndlggbljkhfbaaGreat
open Go.Tidy
theorem beg_take : ∀ (k : Nat) (l : List (List Mt)),Beg (l.take k) l
 | 0,l=>by rw [List.take_zero]; exact .nil l
 | _ + 1,[]=>by rw [List.take_nil]; exact .nil []
 | k + 1,r :: l=>by rw [List.take_succ_cons]; exact .cons r (beg_take k l)
theorem beg_take1 : ∀ (k : Nat) (l : List (List Mt)) (hk : k < l.length) (j : Nat),0 < j → Beg (l.take k ++ [l[k].take j]) l
 | _,[],hk,_,_=>by simp at hk
 | 0,r :: l,_,j,hj=>.last r l j hj
 | k + 1,r :: l,hk,j,hj=>by
  rw [List.take_succ_cons,List.cons_append]
  exact .cons r (beg_take1 k l (by simpa using hk) j hj)
theorem Beg.small {A l : List (List Mt)} {p : Pl} (h : Beg A l) (hs : Small l p) : Small A p:=by
 have:=h.len
 refine ⟨by have:=hs.hl; omega,fun r hr=>?_,hs.hc,hs.hd,hs.hD⟩
 obtain ⟨i,hi,rfl⟩:=List.getElem_of_mem hr
 obtain ⟨m,_,e,_⟩:=h.get i hi (by omega)
 have:=hs.hr _ (List.getElem_mem (show i < l.length by omega))
 rw [e,List.length_take]; omega
theorem doomGo_mem {R : List Rnd} {x : Nat} : ∀ {ds : List Dm} {i : Nat},x ∈ doomGo R ds i ↔ ∃ (a : Nat) (ha : a < ds.length),x = i + a ∧ doomsF R ds[a] = true
 | [],i=>by simp [doomGo]
 | d :: ds,i=>by
  have ih:=doomGo_mem (R:=R) (x:=x) (ds:=ds) (i:=i + 1)
  have key : (∃ (a : Nat) (ha : a < (d :: ds).length),x = i + a ∧ doomsF R (d :: ds)[a] = true) ↔ (x = i ∧ doomsF R d = true) ∨ x ∈ doomGo R ds (i + 1):=by
   rw [ih]
   constructor
   ·rintro ⟨a,ha,e,hd⟩
    cases a with
    | zero=>exact .inl ⟨e,hd⟩
    | succ a=>exact .inr ⟨a,by simpa using ha,by omega,hd⟩
   ·rintro (⟨e,hd⟩ | ⟨a,ha,e,hd⟩)
    ·exact ⟨0,by simp,e,hd⟩
    ·exact ⟨a + 1,by simpa using ha,by omega,hd⟩
  rw [key,doomGo]
  cases hd : doomsF R d with
  | true=>rw [if_pos rfl,List.mem_cons]; simp
  | false=>rw [if_neg (by simp)]; simp
theorem doomL_mem {R : List Rnd} {p : Pl} {x : Int} : x ∈ doomL R p ↔ ∃ (a : Nat) (ha : a < p.demands.length),x = (a : Int) ∧ doomsF R p.demands[a] = true:=by
 unfold doomL
 rw [List.mem_map]
 constructor
 ·rintro ⟨y,hy,rfl⟩
  obtain ⟨a,ha,e,hd⟩:=doomGo_mem.1 hy
  exact ⟨a,ha,by omega,hd⟩
 ·rintro ⟨a,ha,rfl,hd⟩
  exact ⟨a,doomGo_mem.2 ⟨a,ha,by omega,hd⟩,rfl⟩
theorem doomL_head (R : List Rnd) (p : Pl) : ((doomL R p).headD (-1) = -1 ∧ doomL R p = []) ∨ (doomL R p).headD (-1) ∈ doomL R p:=by
 cases doomL R p with
 | nil=>exact .inl ⟨rfl,rfl⟩
 | cons x l=>exact .inr (List.mem_cons_self ..)
theorem full_same {l : List (List Mt)} {p : Pl} (hr : ∀ r ∈ l,r.length ≤ 4611686018427387904) (hF : FullP l p) : SameV (l.map hRnd) (seenV l p):=by
 refine ⟨by unfold seenV; rw [List.length_map,List.length_map],fun i hi hj=>?_,fun i hi hj=>?_⟩
 all_goals
  have hil : i < l.length:=by simpa using hi
  have hri:=hr _ (List.getElem_mem hil)
  have e1 : (l.map hRnd)[i] = hRnd l[i]:=List.getElem_map ..
  have e2 : (seenV l p)[i] = seenR p l[i]:=List.getElem_map ..
  rw [e1,e2]
  unfold hRnd; rw [dif_pos hri]
 ·rfl
 ·funext c
  have h1:=(hF.1.2 i hil).2.1
  have h2 : halfN p ≤ l[i].length:=by
   by_cases hlt : i + 1 < l.length
   ·exact (hF.1.2 i hil).2.2.1 hlt
   ·refine hF.2.2 _ ?_
    rw [List.getLast?_eq_getElem?,show l.length - 1 = i by omega,List.getElem?_eq_getElem hil]
  show true = (decide (l[i].length = halfN p) || decide (c < lastM l[i]))
  rw [decide_eq_true (show l[i].length = halfN p by omega)]; rfl
theorem full_dooms {l : List (List Mt)} {p : Pl} {d : Dm} (hr : ∀ r ∈ l,r.length ≤ 4611686018427387904) (hF : FullP l p) (hk : 1 ≤ d.kind ∧ d.kind ≤ 10) : doomsF (l.map hRnd) d = doomsF (pR l p) d:=by
 rw [dooms_eq (full_same hr hF) (hLast hr) hk,dooms_eq (pSame hr) (pLast hr hF.1) hk]
theorem valid_round {p : Pl} {d : Dm} (h : validF p d = true) (hk : d.kind ≤ 4) : 0 ≤ d.round ∧ d.round < roundsN p:=by
 have hkk:=valid_kind h
 have hq : qRound p d = true:=by
  unfold validF at h
  by_cases h1 : d.kind = 1 ∨ d.kind = 2 ∨ d.kind = 3
  ·rw [if_pos h1] at h
   unfold v1 at h; simp only [Bool.and_eq_true] at h; exact h.1.2.1
  ·rw [if_neg h1,if_pos (by omega)] at h
   unfold v4 at h; simp only [Bool.and_eq_true] at h; exact h.1.2.2.1
 exact of_decide_eq_true hq
theorem full_holds {l : List (List Mt)} {p : Pl} {d : Dm} (hr : ∀ r ∈ l,r.length ≤ 4611686018427387904) (hF : FullP l p) (hv : validF p d = true) : holdsF l d = !doomsF (pR l p) d:=by
 have hk:=valid_kind hv
 unfold holdsF
 rw [decide_eq_true hk,full_dooms hr hF hk]
 by_cases h4 : d.kind ≤ 4
 ·obtain ⟨h1,h2⟩:=valid_round hv h4
  rw [decide_eq_false (show ¬ d.round < 0 by omega),decide_eq_false (show ¬ (l.length : Int) ≤ d.round by rw [hF.2.1]; omega)]
  simp
 ·rw [decide_eq_false h4]; simp
theorem part_rnds {l : List (List Mt)} {p : Pl} (hs : Small l p) (h0 : checkP p = 0) (hP : PartP l p) : ∀ r ∈ l,RndR p.clubs r ∧ r.length ≤ halfN p ∧ r.length ≤ 4611686018427387904:=fun r hr=>by
 have hR:=(PartP_iff l p (checkP_field h0)).1 hP
 have hs:=hs.hr r hr
 obtain ⟨i,hi,rfl⟩:=List.getElem_of_mem hr
 exact ⟨(hR.2.1 i hi).1,hP.len hi,hs⟩
theorem beg_part {A l : List (List Mt)} {p : Pl} (hb : Beg A l) (h0 : checkP p = 0) (hP : PartP l p) : PartP A p :=
 (PartP_iff A p (checkP_field h0)).2 (((PartP_iff l p (checkP_field h0)).1 hP).beg hb)
theorem beg_dooms {A l : List (List Mt)} {p : Pl} {x : Int} (hb : Beg A l) (hs : Small l p) (h0 : checkP p = 0) (hP : PartP l p) (hx : x ∈ doomL (pR A p) p) : x ∈ doomL (pR l p) p:=by
 obtain ⟨a,ha,e,hd⟩:=doomL_mem.1 hx
 exact doomL_mem.2 ⟨a,ha,e,dooms_mono (hb.rnds (part_rnds hs h0 hP)) hd⟩
end Go.Proofs.YtndlggbljkhfbaaGreat
namespace Go.Proofs.YtndlggbljkhfbaaGreat
open Go.Tidy
theorem dmE_zero {l : List (List Mt)} {p : Pl} (h : dmE l p = 0) : checkP p = 0 ∧ PartP l p:=by
 unfold dmE at h
 by_cases h0 : checkP p = 0
 ·rw [if_pos h0] at h
  by_cases hF : PartP l p
  ·exact ⟨h0,hF⟩
  ·rw [if_neg hF] at h; omega
 ·rw [if_neg h0] at h; exact absurd h h0
end Go.Proofs.YtndlggbljkhfbaaGreat
namespace Go.Proofs.YtndlggbljkhfbaaGreat
open Go.Tidy
variable {L : List Blk} {k : V → List Blk → Prop}
def seqM (xs : List Mt) (blk : Blk) (i : Nat) : List Blk:=[.cells [.own 1 i 0 i],.row i 2 (mR (xs.take i)),.defr,blk]
theorem seqM_bel {n : Nat} {xs : List Mt} {blk : Blk} {i : Nat} (hn : 1 < n) (hb : blk.bel n = true) : belB n (seqM xs blk i) = true:=by
 show (V.belL n [.own 1 i 0 i] && (belR n (mR (xs.take i)) && (true && (blk.bel n && true)))) = true
 rw [mR_bel,hb]; simp [V.belL,V.bel,hn]
theorem mR_rows {S : Nat → Prop} {L : List Blk} : ∀ l : List Mt,CvLL S L (mR l) (l.map Mt.cells)
 | []=>.nil
 | m :: l=>.cons (.cons (.d _) (.cons (.d _) .nil)) (mR_rows l)
theorem mR_snoc (l : List Mt) (m : Mt) : mR (l ++ [m]) = mR l ++ [m.cells.map .d]:=by unfold mR; rw [List.map_append]; rfl
theorem mR_len (l : List Mt) : (mR l).length = l.length:=by unfold mR; rw [List.length_map]
theorem mappendSeq_c (f : FuncId) (caps : List D) (xs : List Mt) (hx : xs.length ≤ 4294967296) (hit : IterP C f caps (xs.map fun x=>[mtV x])) (h : k (.d (mts xs)) L) : CallP C 154 [.nil,.d (.fn f caps)] L k:=by
 refine CallP.pure ?_ rfl (fun _=>rfl) h
 clear h
 refine callP_cut (fun c=>match c with | .region 1 _ _=>true | _=>false) C_ok Tryz.func154 rfl rfl (n:=_) rfl (w18 rfl) (rs:=_) rfl ?_
 repeat' ((conv=>whnf); first|refine w0 ?_|refine w1 ?_|refine w2 (fun h=>?_) (fun h=>?_)|refine w3 ?_|refine w4 (fun h=>?_) (fun h=>?_)|refine w5 _ rfl ?_|refine w6 rfl ?_|refine w7 mixed rfl ?_)
 conv=>whnf
 refine CutP.intro (ι:=Unit) (fun _=>⟨[(2,.ptr 0 0),(4,.nil),(6,.d (.fn f caps))],Tryz.f154.ntmps,[.cells [.own 1 0 0 0],.row 0 2 []],[],none⟩) ?_ (fun _=>?_)
 ·repeat' (conv => whnf
           first|refine w0 ?_|refine w1 ?_|refine w2 (fun h=>?_) (fun h=>?_)|refine w3 ?_|refine w4 (fun h=>?_) (fun h=>?_)|refine w5 _ rfl ?_|refine w6 rfl ?_|refine w7 mixed rfl ?_)
  conv=>whnf
  exact ⟨(),Weak.nilCellTo 0 0 2 [.nil] rfl rfl (by decide) rfl ⟨rfl,rfl,rfl,trivial⟩⟩
 ·conv=>whnf
  refine CallP.conv (args':=.yld 3 :: caps.map .d) (L':=seqM xs (.loop _) 0) (by rfl) rfl ?_
  generalize hblk : Blk.loop _ = blk
  have hb4 : blk.bel 4 = true:=by rw [← hblk]; rfl
  have hb5 : blk.bel 5 = true:=by rw [← hblk]; rfl
  refine hit 3 4 (fun i=>True) (fun i=>seqM xs blk i) _ (fun _=>rfl) (fun i=>seqM_bel (by decide) hb4) (fun i=>by subst hblk; rfl) (by decide) ?_ ?_ trivial
  ·intro i hi _
   rw [List.length_map] at hi
   rw [List.getElem_map]
   subst hblk
   refine YieldP.round C_ok (fun _=>false) ?_
   repeat' ((conv=>whnf); first|refine w0 ?_|refine w1 ?_|refine w2 (fun h=>?_) (fun h=>?_)|refine w3 ?_|refine w4 (fun h=>?_) (fun h=>?_)|refine w5 _ rfl ?_|refine w6 rfl ?_|refine w7 mixed rfl ?_|simp only [Nat.beq_refl,Bool.and_self]|refine w6 (by first|omega|(simp; omega)|(refine w23 (m:=4294967296) ?_ (apLim_ge _); first|omega|(simp; omega))) ?_)
   conv=>whnf
   refine w15 (n:=4) (L':=seqM xs _ (i + 1)) ?_ (w21 4) rfl (seqM_bel (by decide) rfl) (.inl ⟨rfl,rfl,trivial⟩)
   unfold seqM
   rw [take_next hi,mR_snoc]
   show [Blk.cells _,Blk.row (i + 1) 2 ((mR (xs.take i)).take i ++ [xs[i].cells.map .d]),Blk.defr,_] = _
   rw [List.take_of_length_le (l:=mR (xs.take i)) (by rw [mR_len]; simp; omega)]; rfl
  ·intro _
   subst hblk
   repeat' ((conv=>whnf); first|refine w0 ?_|refine w1 ?_|refine w2 (fun h=>?_) (fun h=>?_)|refine w3 ?_|refine w4 (fun h=>?_) (fun h=>?_)|refine w5 _ rfl ?_|refine w6 rfl ?_|refine w7 mixed rfl ?_)
   conv=>whnf
   refine w16 (L':=[]) (.d (.rowL (w22 _) rfl ?_ (by simp [mR_len]) (fun e he=>by obtain ⟨x,_,rfl⟩:=List.mem_map.1 he; rfl))) rfl rfl ⟨rfl,rfl⟩
   rw [List.length_map,List.take_length,List.drop_zero,List.take_of_length_le (by simp [mR_len])]
   exact mR_rows xs
theorem mcollect_c (f : FuncId) (caps : List D) (xs : List Mt) (hx : xs.length ≤ 4294967296) (hit : IterP C f caps (xs.map fun x=>[mtV x])) (h : k (.d (mts xs)) L) : CallP C 133 [.d (.fn f caps)] L k:=by
 refine CallP.pure ?_ rfl (fun _=>rfl) h
 clear h
 refine callP_of C_ok Tryz.func133 rfl rfl (n:=_) rfl (w18 rfl) (rs:=_) rfl ?_
 repeat' ((conv=>whnf); first|refine w0 ?_|refine w1 ?_|refine w2 (fun h=>?_) (fun h=>?_)|refine w3 ?_|refine w4 (fun h=>?_) (fun h=>?_)|refine w5 _ rfl ?_|refine w6 rfl ?_|refine w7 mixed rfl ?_|refine mappendSeq_c f caps xs hx hit ?_)
 conv=>whnf
 exact FinP.drop (n:=0) rfl (w21 0) rfl rfl ⟨rfl,rfl⟩
end Go.Proofs.YtndlggbljkhfbaaGreat
namespace Go.Proofs.YtndlggbljkhfbaaGreat
open Go.Tidy
variable {L : List Blk} {k : V → List Blk → Prop}
def enoughD (e : Int) : D:=.iface 81 true [DI e]
theorem search1_n (S X : List Blk) {N i : Nat} (hS : S.length = N) (hb : belB (S ++ X).length (S ++ X) = true) {kd : List Blk → Prop} (h : kd (S ++ X)) : DefP C 92 [.ptr (N + i) 0] none (S ++ X) kd:=by
 refine defP_of C_ok (fun _=>false) Tryz.func92 rfl rfl (n:=_) rfl (w18 rfl) rfl rfl rfl rfl rfl rfl rfl (by decide) (by decide) (w22 _) ?_
 repeat' ((conv=>whnf); first|refine w0 ?_|refine w1 ?_|refine w2 (fun h=>?_) (fun h=>?_)|refine w3 ?_|refine w4 (fun h=>?_) (fun h=>?_)|refine w5 _ rfl ?_|refine w6 rfl ?_|refine w7 mixed rfl ?_)
 conv=>whnf
 exact FinP.drop (n:=(S ++ X).length) (List.take_length ..) (w21 _) rfl hb h
theorem search1_p (S : List Blk) {N : Nat} (hS : S.length = N) (c0 c1 c2 c3 : Blk) (e x : Int) (hb : belB (N + 5) (S ++ [c0,c1,c2,c3,.cells [I e]]) = true) {kd : List Blk → Prop} (h : kd (S ++ [c0,c1,c2,c3,.cells [I e]])) :
  DefP C 92 [.ptr (N + 4) 0] (some (.d (enoughD e))) (S ++ [c0,c1,c2,c3,.cells [I x]]) kd:=by
 have a0 : ∀ X,(S ++ X).length = N + X.length:=fun X=>pre_len _ _ hS
 have a1 : ∀ X i,(S ++ X)[N + i]? = X[i]?:=fun X i=>pre_get _ _ hS i
 have a2 : ∀ X,(S ++ X)[N]? = X[0]?:=fun X=>pre_get0 _ _ hS
 have a3 : ∀ X i y,(S ++ X).set (N + i) y = S ++ X.set i y:=fun X i y=>pre_set _ _ hS i y
 have a4 : ∀ X y,(S ++ X).set N y = S ++ X.set 0 y:=fun X y=>pre_set0 _ _ hS y
 refine defP_of C_ok (fun _=>false) Tryz.func92 rfl rfl (n:=_) rfl (w18 rfl) rfl rfl rfl rfl rfl rfl rfl (by decide) (by decide) (w22 _) ?_
 repeat' ((conv=>whnf); first|refine w0 ?_|refine w1 ?_|refine w2 (fun h=>?_) (fun h=>?_)|refine w3 ?_|refine w4 (fun h=>?_) (fun h=>?_)|refine w5 _ rfl ?_|refine w6 rfl ?_|refine w7 mixed rfl ?_|simp only [a0,a1,a2,a3,a4,List.append_assoc])
 conv=>whnf
 refine w15 (n:=N + 5) (pre_take _ _ hS 5) (w21 _) rfl hb h
theorem shL_dd (n : Nat) : ∀ c : List D,V.shL n (c.map V.d) = c.map V.d
 | []=>rfl
 | x :: c=>by simp only [List.map_cons,V.shL,V.sh,shL_dd n c]
theorem shR_mR (n : Nat) : ∀ l : List Mt,shR n (mR l) = mR l
 | []=>rfl
 | r :: l=>by
  have:=shR_mR n l
  unfold mR at this ⊢
  simp only [List.map_cons,shR,this,shL_dd]
theorem mtsE (l : List Mt) : ∀ e ∈ l.map Mt.cells,e.length = 2:=fun e he=>by
 obtain ⟨x,_,rfl⟩:=List.mem_map.1 he; rfl
theorem mclone_0 (l : List Mt) (hl : l.length ≤ 4294967296) : CallP C 96 [.d (mts l)] [] fun X L'=>L' = [.row 1 2 (mR l)] ∧ X = .own 0 1 0 l.length:=by
 refine callP_of C_ok Tryz.func96 rfl rfl (n:=_) rfl (w18 rfl) (rs:=_) rfl ?_
 conv=>whnf
 refine NilP.intro (fun h0=>?_) ?_
 ·have hn : l = []:=List.eq_nil_of_length_eq_zero (by simpa using h0)
  subst hn
  repeat' ((conv=>whnf); first|refine w0 ?_|refine w1 ?_|refine w2 (fun h=>?_) (fun h=>?_)|refine w3 ?_|refine w4 (fun h=>?_) (fun h=>?_)|refine w5 _ rfl ?_|refine w6 rfl ?_|refine w7 mixed rfl ?_)
  conv=>whnf
  exact FinP.nilOwn (sz:=2) (gen:=1) (by decide) ⟨rfl,rfl⟩
 ·repeat' (conv => whnf
           first|refine w0 ?_|refine w1 ?_|refine w2 (fun h=>?_) (fun h=>?_)|refine w3 ?_|refine w4 (fun h=>?_) (fun h=>?_)|refine w5 _ rfl ?_|refine w6 rfl ?_|refine w7 mixed rfl ?_|refine w6 (mtsE _) ?_|refine w6 (by first | omega | (simp; omega) | (refine w23 (m:=4294967296) ?_ (apLim_ge _); first | omega | (simp; omega))) ?_)
  conv=>whnf
  refine w15 (n:=1) (L':=[.row 1 2 (mR l)]) (congrArg (fun e=>[Blk.row 1 2 e]) ?_) (w18 rfl) rfl ?_ ⟨rfl,congrArg (V.own 0 1 0) ?_⟩
  ·simp [mR]
  ·show (belR 1 (mR l) && true) = true
   rw [mR_bel]; rfl
  ·simp
theorem mclone_c (l : List Mt) (hl : l.length ≤ 4294967296) (h : k (.own L.length 1 0 l.length) (L ++ [.row 1 2 (mR l)])) : CallP C 96 [.d (mts l)] L k:=by
 refine (mclone_0 l hl).frame rfl fun X L' h'=>?_
 obtain ⟨rfl,rfl⟩:=h'
 simpa [V.sh,shB,Blk.sh,shR_mR] using h
theorem shR_rdR (n : Nat) : ∀ l : List (List Mt),shR n (rdR l) = rdR l
 | []=>rfl
 | r :: l=>by
  have:=shR_rdR n l
  unfold rdR at this ⊢
  simp only [List.map_cons,shR,this]; rfl
theorem lisE (l : List (List Mt)) : ∀ e ∈ l.map (fun r=>[mts r]),e.length = 1:=fun e he=>by
 obtain ⟨x,_,rfl⟩:=List.mem_map.1 he; rfl
theorem rclone_0 (l : List (List Mt)) (hl : l.length ≤ 4294967296) : CallP C 97 [.d (.sl (l.map fun r=>[mts r]))] [] fun X L'=>L' = [.row 1 1 (rdR l)] ∧ X = .own 0 1 0 l.length:=by
 refine callP_of C_ok Tryz.func97 rfl rfl (n:=_) rfl (w18 rfl) (rs:=_) rfl ?_
 conv=>whnf
 refine NilP.intro (fun h0=>?_) ?_
 ·have hn : l = []:=List.eq_nil_of_length_eq_zero (by simpa using h0)
  subst hn
  repeat' ((conv=>whnf); first|refine w0 ?_|refine w1 ?_|refine w2 (fun h=>?_) (fun h=>?_)|refine w3 ?_|refine w4 (fun h=>?_) (fun h=>?_)|refine w5 _ rfl ?_|refine w6 rfl ?_|refine w7 mixed rfl ?_)
  conv=>whnf
  exact FinP.nilOwn (sz:=1) (gen:=1) (by decide) ⟨rfl,rfl⟩
 ·repeat' (conv => whnf
           first|refine w0 ?_|refine w1 ?_|refine w2 (fun h=>?_) (fun h=>?_)|refine w3 ?_|refine w4 (fun h=>?_) (fun h=>?_)|refine w5 _ rfl ?_|refine w6 rfl ?_|refine w7 mixed rfl ?_|refine w6 (lisE _) ?_|refine w6 (by first | omega | (simp; omega) | (refine w23 (m:=4294967296) ?_ (apLim_ge _); first | omega | (simp; omega))) ?_)
  conv=>whnf
  refine w15 (n:=1) (L':=[.row 1 1 (rdR l)]) (congrArg (fun e=>[Blk.row 1 1 e]) ?_) (w18 rfl) rfl ?_ ⟨rfl,congrArg (V.own 0 1 0) ?_⟩
  ·simp [rdR]
  ·show (belR 1 (rdR l) && true) = true
   rw [rdR_bel]; rfl
  ·simp
theorem rclone_c (l : List (List Mt)) (hl : l.length ≤ 4294967296) (h : k (.own L.length 1 0 l.length) (L ++ [.row 1 1 (rdR l)])) : CallP C 97 [.d (.sl (l.map fun r=>[mts r]))] L k:=by
 refine (rclone_0 l hl).frame rfl fun X L' h'=>?_
 obtain ⟨rfl,rfl⟩:=h'
 simpa [V.sh,shB,Blk.sh,shR_rdR] using h
theorem chIn_len (bz : List Int) (tk : List Mt) (c : Int) : ∀ os : List Int,(chIn bz tk c os).length ≤ 2 * os.length
 | []=>w21 _
 | o :: os=>by
  have:=chIn_len bz tk c os
  unfold chIn
  split
  ·simp only [List.length_cons]; omega
  ·have:=List.length_filter_le (fun m=>decide (m ∉ tk)) ([⟨c,o⟩,⟨o,c⟩] : List Mt)
   simp only [List.length_append,List.length_cons,List.length_nil] at this ⊢; omega
theorem chOut_len (bz : List Int) (tk : List Mt) (least : Int) (n : Nat) : ∀ (cs : List Int) (may : Nat),cs.length ≤ n → (chOut bz tk least may cs).length ≤ cs.length * (2 * n)
 | [],_,_=>by simp [chOut]
 | c :: cs,may,h=>by
  rw [chOut_cons]
  simp only [List.length_cons] at h ⊢
  have h1:=chIn_len bz tk c cs
  have h2:=fun may=>chOut_len bz tk least n cs may (by omega)
  have e : (cs.length + 1) * (2 * n) = cs.length * (2 * n) + 2 * n:=by rw [Nat.add_mul,Nat.one_mul]
  rw [e]
  split
  ·have:=h2 may; omega
  ·rw [List.length_append]
   have a : (if least < c then chIn bz tk c cs else []).length ≤ 2 * n:=by
    split
    ·omega
    ·simp
   have b : (if may = 0 then [] else chOut bz tk least (may - 1) cs).length ≤ cs.length * (2 * n):=by
    split
    ·simp
    ·exact h2 _
   omega
theorem chs_len (l : List (List Mt)) (p : Pl) (hp : p.clubs.length ≤ 1000) : (chs l p).length ≤ 4294967296:=by
 unfold chs
 split
 ·have:=chOut_len (clubsOf (openR l p).1) (takenOf l p) (leastOf (openR l p).1) 1000 p.clubs (p.clubs.length % 2) hp
  omega
 ·simp
def chE (l : List (List Mt)) (p : Pl) : List Mt:=if dmE l p = 0 then chs l p else []
theorem dmE_len {l : List (List Mt)} {p : Pl} (h : dmE l p = 0) : 1 ≤ p.clubs.length ∧ p.clubs.length ≤ 1000:=by
 have hf:=checkP_field (dmE_zero h).1
 simp only [fieldOk,Bool.and_eq_true,decide_eq_true_eq] at hf; omega
theorem choices0_c (l : List (List Mt)) (p : Pl) (hs : Small l p) (h : k (.tup [.d (mts (chE l p)),I (dmE l p)]) L) : CallP C 99 [lisV l,plV p] L k:=by
 refine CallP.pure ?_ rfl (fun _=>rfl) h
 clear h
 refine callP_of C_ok Tryz.func99 rfl rfl (n:=_) rfl (w18 rfl) (rs:=_) rfl ?_
 by_cases hE : dmE l p = 0
 ·have hn:=dmE_len hE
  repeat' ((conv=>whnf); first|refine dmd_c l p hs ?_|refine w12 _ (newPlan_c p hn ⟨rfl,rfl⟩) ?_|refine w12 _ (choices_c l p ⟨rfl,rfl⟩) ?_|refine w12 _ (mcollect_c _ _ (chs l p) (chs_len l p hn.2) ((choices1_it 0 (fun _ _=>False) l p hs.hl hs.hr hn.2).p rfl) ⟨rfl,rfl⟩) ?_|refine w0 ?_|refine w1 ?_|refine w2 (fun h=>?_) (fun h=>?_)|refine w3 ?_|refine w4 (fun h=>?_) (fun h=>?_)|refine w5 _ rfl ?_|refine w6 rfl ?_|refine w7 mixed rfl ?_)
  all_goals first | exact absurd hE ‹¬ dmE l p = 0› | skip
  all_goals conv=>whnf
  refine w16 (L':=[]) (.pair (.d (.d _)) (.d (.d _))) rfl rfl ⟨rfl,?_⟩
  unfold chE; rw [if_pos hE,hE]
 ·repeat' (conv => whnf
           first|refine dmd_c l p hs ?_|refine w0 ?_|refine w1 ?_|refine w2 (fun h=>?_) (fun h=>?_)|refine w3 ?_|refine w4 (fun h=>?_) (fun h=>?_)|refine w5 _ rfl ?_|refine w6 rfl ?_|refine w7 mixed rfl ?_)
  all_goals first | exact absurd ‹dmE l p = 0› hE | skip
  conv=>whnf
  refine w16 (L':=[]) (.pair (.d .nil) (.d (.d _))) rfl rfl ⟨rfl,?_⟩
  unfold chE; rw [if_neg hE]; rfl
end Go.Proofs.YtndlggbljkhfbaaGreat
namespace Go.Proofs.YtndlggbljkhfbaaGreat
open Go.Tidy
abbrev Lst:=List (List Mt)
def extL (l : Lst) (p : Pl) (m : Mt) : Lst:=(if (openR l p).2.1 then l else l.dropLast) ++ [(openR l p).1 ++ [m]]
inductive Sr
 | go (sp : Nat) (fs : List Lst)
 | stop (e : Int) (sp : Nat) (fs : List Lst)
def exLoop (f : Lst → Nat → List Lst → Sr) (ext : Mt → Lst) (ok : Lst → Bool) (bud : Nat) : List Mt → Nat → List Lst → Sr
 | [],sp,fs=>.go sp fs
 | m :: ms, sp, fs => if sp = bud then .stop 3 sp fs else
     if ok (ext m) then (match f (ext m) (sp + 1) fs with
      | .go sp fs=>exLoop f ext ok bud ms sp fs
      | .stop e sp fs=>.stop e sp fs) else exLoop f ext ok bud ms (sp + 1) fs
def fullC (l : Lst) (p : Pl) : Bool:=decide (l.length = roundsN p) && (match l.getLast? with | some r=>decide (r.length = halfN p) | none=>false)
def exam (ch : Lst → List Mt) (ok : Lst → Bool) (p : Pl) (bud : Nat) (all : Bool) : Nat → Lst → Nat → List Lst → Sr
 | 0,_,sp,fs=>.go sp fs
 | n + 1,l,sp,fs=>if fullC l p then (if all then .go sp (fs ++ [l]) else .stop 0 sp (fs ++ [l])) else exLoop (exam ch ok p bud all n) (extL l p) ok bud (ch l) sp fs
theorem exLoop_append (f : Lst → Nat → List Lst → Sr) (ext : Mt → Lst) (ok : Lst → Bool) (bud : Nat) (ys : List Mt) : ∀ (xs : List Mt) (sp : Nat) (fs : List Lst),exLoop f ext ok bud (xs ++ ys) sp fs = match exLoop f ext ok bud xs sp fs with
  | .go sp fs=>exLoop f ext ok bud ys sp fs
  | .stop e sp fs=>.stop e sp fs
 | [],sp,fs=>rfl
 | m :: xs,sp,fs=>by
  simp only [List.cons_append,exLoop]
  split
  ·rfl
  ·split
   ·split
    ·exact exLoop_append f ext ok bud ys xs _ _
    ·rfl
   ·exact exLoop_append f ext ok bud ys xs _ _
theorem exLoop_next (f : Lst → Nat → List Lst → Sr) (ext : Mt → Lst) (ok : Lst → Bool) (bud : Nat) {ms : List Mt} {i : Nat} (hi : i < ms.length) {sp sp' : Nat} {fs fs' : List Lst} (h : exLoop f ext ok bud (ms.take i) sp fs = .go sp' fs') :
  exLoop f ext ok bud (ms.take (i + 1)) sp fs = exLoop f ext ok bud [ms[i]] sp' fs':=by
 rw [take_next hi,exLoop_append,h]
theorem exLoop_stop (f : Lst → Nat → List Lst → Sr) (ext : Mt → Lst) (ok : Lst → Bool) (bud : Nat) {ms : List Mt} {i : Nat} {sp sp' : Nat} {fs fs' : List Lst} {e : Int} (h : exLoop f ext ok bud (ms.take i) sp fs = .stop e sp' fs') :
  exLoop f ext ok bud ms sp fs = .stop e sp' fs':=by
 conv=>lhs; rw [← List.take_append_drop i ms]
 rw [exLoop_append,h]
theorem exam_keep (ch : Lst → List Mt) (ok : Lst → Bool) (p : Pl) (bud : Nat) (all : Bool) : ∀ (n : Nat) (l : Lst) (sp : Nat) (fs : List Lst),sp ≤ bud → (fullC l p = true → fs.length + 1 ≤ sp) → fs.length ≤ sp → ∀ sp' fs',exam ch ok p bud all n l sp fs = .go sp' fs' → sp' ≤ bud ∧ fs'.length ≤ sp' ∧ sp ≤ sp'
 | 0,l,sp,fs,h1,h2,h3,sp',fs',h=>by cases h; exact ⟨h1,h3,Nat.le_refl _⟩
 | n + 1,l,sp,fs,h1,h2,h3,sp',fs',h=>by
  unfold exam at h
  split at h
  ·rename_i hf
   split at h
   ·cases h; exact ⟨h1,by rw [List.length_append]; exact h2 hf,Nat.le_refl _⟩
   ·cases h
  ·revert h
   have key : ∀ (ms : List Mt) (sp : Nat) (fs : List Lst),sp ≤ bud → fs.length ≤ sp → exLoop (exam ch ok p bud all n) (extL l p) ok bud ms sp fs = .go sp' fs' → sp' ≤ bud ∧ fs'.length ≤ sp' ∧ sp ≤ sp':=by
    intro ms
    induction ms with
    | nil=>intro sp fs h1 h3 h; cases h; exact ⟨h1,h3,Nat.le_refl _⟩
    | cons m ms ih =>
     intro sp fs h1 h3 h
     simp only [exLoop] at h
     split at h
     ·cases h
     ·split at h
      ·split at h
       ·rename_i a b he
        obtain ⟨k1,k2,k3⟩:=exam_keep ch ok p bud all n _ (sp + 1) fs (by omega) (fun _=>by omega) (by omega) a b he
        obtain ⟨q1,q2,q3⟩:=ih a b k1 k2 h
        exact ⟨q1,q2,by omega⟩
       ·cases h
      ·obtain ⟨q1,q2,q3⟩:=ih (sp + 1) fs (by omega) (by omega) h
       exact ⟨q1,q2,by omega⟩
   exact key _ sp fs h1 h3
theorem exLoop_keep (ch : Lst → List Mt) (ok : Lst → Bool) (p : Pl) (bud : Nat) (all : Bool) (n : Nat) (ext : Mt → Lst) : ∀ (ms : List Mt) (sp : Nat) (fs : List Lst),sp ≤ bud → fs.length ≤ sp → ∀ sp' fs',exLoop (exam ch ok p bud all n) ext ok bud ms sp fs = .go sp' fs' → sp' ≤ bud ∧ fs'.length ≤ sp' ∧ sp ≤ sp'
 | [],sp,fs,h1,h3,sp',fs',h=>by cases h; exact ⟨h1,h3,Nat.le_refl _⟩
 | m :: ms,sp,fs,h1,h3,sp',fs',h=>by
  simp only [exLoop] at h
  split at h
  ·cases h
  ·split at h
   ·split at h
    ·rename_i a b he
     obtain ⟨k1,k2,k3⟩:=exam_keep ch ok p bud all n _ (sp + 1) fs (by omega) (fun _=>by omega) (by omega) a b he
     obtain ⟨q1,q2,q3⟩:=exLoop_keep ch ok p bud all n ext ms a b k1 k2 _ _ h
     exact ⟨q1,q2,by omega⟩
    ·cases h
   ·obtain ⟨q1,q2,q3⟩:=exLoop_keep ch ok p bud all n ext ms (sp + 1) fs (by omega) (by omega) _ _ h
    exact ⟨q1,q2,by omega⟩
theorem part_row {l : Lst} {p : Pl} (hP : PartP l p) {r : List Mt} (hr : r ∈ l) : r.length ≤ halfN p:=by
 obtain ⟨i,hi,rfl⟩:=List.getElem_of_mem hr
 exact (hP.2 i hi).2.1
theorem sum_len {m : Nat} : ∀ {l : Lst},(∀ r ∈ l,r.length ≤ m) → l.flatten.length ≤ l.length * m
 | [],_=>by simp
 | r :: l,h=>by
  have h1:=h r (by simp)
  have h2:=sum_len (l:=l) fun r hr=>h r (by simp [hr])
  rw [List.flatten_cons,List.length_append,List.length_cons,Nat.add_mul,Nat.one_mul]; omega
theorem part_total {l : Lst} {p : Pl} (hP : PartP l p) : l.flatten.length ≤ roundsN p * halfN p :=
 Nat.le_trans (sum_len fun r hr=>part_row hP hr) (Nat.mul_le_mul_right _ hP.1)
theorem openR_spec (l : Lst) (p : Pl) : ((openR l p).2.1 = true ∧ (openR l p).1 = []) ∨ ((openR l p).2.1 = false ∧ ∃ r,l.getLast? = some r ∧ (openR l p).1 = r ∧ r.length < halfN p ∧ l = l.dropLast ++ [r]):=by
 unfold openR
 cases h : l.getLast? with
 | none=>exact .inl ⟨rfl,rfl⟩
 | some r =>
  simp only
  split
  ·refine .inr ⟨rfl,r,rfl,rfl,‹_›,?_⟩
   have hne : l ≠ []:=fun e=>by rw [e] at h; cases h
   rw [List.getLast?_eq_some_getLast hne] at h
   have:=List.dropLast_concat_getLast hne
   rw [Option.some.inj h] at this
   exact this.symm
  ·exact .inl ⟨rfl,rfl⟩
theorem extL_flat (l : Lst) (p : Pl) (m : Mt) : (extL l p m).flatten = l.flatten ++ [m]:=by
 unfold extL
 rcases openR_spec l p with ⟨h1,h2⟩ | ⟨h1,r,h2,h3,h4,h5⟩
 ·rw [h1,h2,if_pos rfl]; simp
 ·rw [h1,h3]
  conv=>rhs; rw [h5]
  simp
theorem extL_len (l : Lst) (p : Pl) (m : Mt) : (extL l p m).length ≤ l.length + 1:=by
 unfold extL
 rw [List.length_append]
 split
 ·exact Nat.le_refl _
 ·rw [List.length_dropLast]; simp only [List.length_singleton]; omega
theorem extL_row {l : Lst} {p : Pl} {m : Mt} {r : List Mt} (hr : r ∈ extL l p m) : r ∈ l ∨ r.length ≤ halfN p + 1:=by
 unfold extL at hr
 rcases openR_spec l p with ⟨h1,h2⟩ | ⟨h1,r',h2,h3,h4,h5⟩
 ·rw [h1,h2,if_pos rfl,List.mem_append] at hr
  rcases hr with h | h
  ·exact .inl h
  ·right; rw [List.mem_singleton.1 h]; simp
 ·rw [h1,h3,List.mem_append] at hr
  rcases hr with h | h
  ·exact .inl (List.dropLast_subset _ h)
  ·right; rw [List.mem_singleton.1 h,List.length_append]; simp; omega
theorem dmA_part {l : Lst} {p : Pl} (h : dmA l p < 0) : checkP p = 0 ∧ PartP l p:=by
 unfold dmA at h
 split at h
 ·assumption
 ·omega
theorem roundsN_le {p : Pl} (h : p.clubs.length ≤ 1000) : roundsN p ≤ 2002:=by unfold roundsN; split <;> omega
theorem roundsN_pos (p : Pl) : 1 ≤ roundsN p:=by unfold roundsN; split <;> omega
theorem halfN_le {p : Pl} (h : p.clubs.length ≤ 1000) : halfN p ≤ 500:=by unfold halfN; omega
theorem part_small {l : Lst} {p : Pl} (hs : Small [] p) (h1 : p.clubs.length ≤ 1000) (hP : PartP l p) (m : Mt) : Small l p ∧ Small (extL l p m) p:=by
 have a:=roundsN_le h1
 have b:=halfN_le h1
 have c:=hP.1
 have d:=extL_len l p m
 refine ⟨⟨by omega,fun r hr=>?_,hs.hc,hs.hd,hs.hD⟩,⟨by omega,fun r hr=>?_,hs.hc,hs.hd,hs.hD⟩⟩
 ·have:=part_row hP hr; omega
 ·rcases extL_row hr with h | h
  ·have:=part_row hP h; omega
  ·omega
end Go.Proofs.YtndlggbljkhfbaaGreat
