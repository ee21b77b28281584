import Derived.Test.YtihibgcojdfndaaGreatDoorJGF
set_option maxRecDepth 100000
set_option maxHeartbeats 0
set_option linter.unusedSimpArgs false
set_option linter.unusedVariables false
namespace Go.Proofs.YtihibgcojdfndaaGreatDoor
open Go.Tidy
variable {L : List Blk} {k : V → List Blk → Prop}
theorem inner_no {l : List Nd} {x : Nd} (h : ¬ innerA l x) : false = innerB l x:=by unfold innerB; rw [decide_eq_false h]; rfl
theorem nds_at' {l : List Nd} {i : Nat} (h : i < l.length) : (l.map Nd.cells)[i]? = some [DI (ndA l i).var,DI (ndA l i).n,DI (ndA l i).yes,DI (ndA l i).no,ins (ndA l i).by_]:=by rw [nds_at h,ndA_get h]
theorem isInner_c (l : List Nd) (x : Nd) (h : k (B (innerB l x)) L) : CallP C 147 [.d (nds l),ndV x] L k:=by
 have hw1 : ∀ {L : List Blk} {k : V → List Blk → Prop},k (B (inI l.length x.yes)) L → CallP C 177 [I x.yes,.d (.rptr [nds l])] L k:=fun h=>within1_c l x.yes h
 have hw2 : ∀ {L : List Blk} {k : V → List Blk → Prop},k (B (inI l.length x.no)) L → CallP C 177 [I x.no,.d (.rptr [nds l])] L k:=fun h=>within1_c l x.no h
 have hlt : ∀ {L : List Blk} {k : V → List Blk → Prop} (y : Nd),k (B (ltr x.var y)) L → CallP C 178 [ndV y,.d (.rptr x.cells)] L k:=fun y h=>later2_c y x h
 refine zw25 ?_ rfl (fun _=>rfl) h
 clear h
 refine callP_cut (fun c=>match c with | .region 0 _ _=>true | _=>false) C_ok Tryz.func147 rfl rfl rfl (zw18 rfl) rfl ?_
 conv=>whnf
 refine CutP.intro (ι:=Unit) (fun _=>⟨[(2,.d (.rptr [nds l])),(3,.d (.rptr x.cells)),(4,B false)],Tryz.f147.ntmps,[],[],none⟩) ?_ (fun _=>?_)
 ·skip
  conv=>whnf
  exact ⟨(),Weak.thaw 0 (zw21 0) (zw22 _) rfl ⟨.inr (.d (.ptrL (zw22 _) rfl (.cons (.d _) .nil))),.inr (.d (.ptrL (zw22 _) rfl (.cons (.d _) (.cons (.d _) (.cons (.d _) (.cons (.d _) (.cons (.d _) .nil))))))),.inl ⟨rfl,rfl⟩,trivial⟩ (fun b x y hx hy=>by simp at hy)⟩
 by_cases c1 : x.var < 1
 ·repeat' (conv => whnf
           first|refine zw8 (zw19 c1) ?_)
  conv=>whnf
  exact FinP.zz rfl ⟨rfl,congrArg B (inner_no fun hA=>by have h1:=hA.1; have h2:=hA.2.1; have h3:=hA.2.2.1; have h4:=hA.2.2.2; omega)⟩
 by_cases c2 : 4 < x.var
 ·repeat' (conv => whnf
           first|refine zw9 (zw20 c1) ?_|refine zw8 (zw19 c2) ?_)
  conv=>whnf
  exact FinP.zz rfl ⟨rfl,congrArg B (inner_no fun hA=>by have h1:=hA.1; have h2:=hA.2.1; have h3:=hA.2.2.1; have h4:=hA.2.2.2; omega)⟩
 by_cases c3 : (0 : Int) < ((x.by_.map fun n=>[DI n]).length : Int)
 ·repeat' (conv => whnf
           first|refine zw9 (zw20 c1) ?_|refine zw9 (zw20 c2) ?_|refine zw8 (zw19 c3) ?_)
  conv=>whnf
  exact FinP.zz rfl ⟨rfl,congrArg B (inner_no fun hA=>by have h1:=hA.1; have h2:=hA.2.1; have h3:=hA.2.2.1; have h4:=hA.2.2.2; rw [h3] at c3; simp at c3)⟩
 by_cases c4 : x.n ≤ lo x.var
 ·repeat' (conv => whnf
           first|refine zw9 (zw20 c1) ?_|refine zw9 (zw20 c2) ?_|refine zw9 (zw20 c3) ?_|refine zw8 (zw19 c4) ?_|refine bounds_c x.var ?_)
  conv=>whnf
  exact FinP.zz rfl ⟨rfl,congrArg B (inner_no fun hA=>by have h1:=hA.1; have h2:=hA.2.1; have h3:=hA.2.2.1; have h4:=hA.2.2.2; omega)⟩
 by_cases c5 : hi x.var < x.n
 ·repeat' (conv => whnf
           first|refine zw9 (zw20 c1) ?_|refine zw9 (zw20 c2) ?_|refine zw9 (zw20 c3) ?_|refine zw9 (zw20 c4) ?_|refine zw8 (zw19 c5) ?_|refine bounds_c x.var ?_)
  conv=>whnf
  exact FinP.zz rfl ⟨rfl,congrArg B (inner_no fun hA=>by have h1:=hA.1; have h2:=hA.2.1; have h3:=hA.2.2.1; have h4:=hA.2.2.2; omega)⟩
 by_cases c6 : inI l.length x.yes = false
 ·repeat' (conv => whnf
           first|refine zw9 (zw20 c1) ?_|refine zw9 (zw20 c2) ?_|refine zw9 (zw20 c3) ?_|refine zw9 (zw20 c4) ?_|refine zw9 (zw20 c5) ?_|refine zw9 c6 ?_|refine bounds_c x.var ?_|refine hw1 ?_|refine zw3 ?_)
  conv=>whnf
  exact FinP.zz rfl ⟨rfl,congrArg B (inner_no fun hA=>by have h1:=hA.1; have h2:=hA.2.1; have h3:=hA.2.2.1; have h4:=hA.2.2.2; simp only [inI,Bool.and_eq_false_iff,decide_eq_false_iff_not] at c6; omega)⟩
 have c6' : inI l.length x.yes = true:=by simpa using c6
 by_cases c7 : inI l.length x.no = false
 ·repeat' (conv => whnf
           first|refine zw9 (zw20 c1) ?_|refine zw9 (zw20 c2) ?_|refine zw9 (zw20 c3) ?_|refine zw9 (zw20 c4) ?_|refine zw9 (zw20 c5) ?_|refine zw8 c6' ?_|refine zw9 c7 ?_|refine bounds_c x.var ?_|refine hw1 ?_|refine hw2 ?_|refine zw3 ?_)
  conv=>whnf
  exact FinP.zz rfl ⟨rfl,congrArg B (inner_no fun hA=>by have h1:=hA.1; have h2:=hA.2.1; have h3:=hA.2.2.1; have h4:=hA.2.2.2; simp only [inI,Bool.and_eq_false_iff,decide_eq_false_iff_not] at c7; omega)⟩
 have c7' : inI l.length x.no = true:=by simpa using c7
 by_cases c8 : x.yes = x.no
 ·repeat' (conv => whnf
           first|refine zw9 (zw20 c1) ?_|refine zw9 (zw20 c2) ?_|refine zw9 (zw20 c3) ?_|refine zw9 (zw20 c4) ?_|refine zw9 (zw20 c5) ?_|refine zw8 c6' ?_|refine zw8 c7' ?_|refine zw8 (zw19 c8) ?_|refine bounds_c x.var ?_|refine hw1 ?_|refine hw2 ?_|refine zw3 ?_)
  conv=>whnf
  exact FinP.zz rfl ⟨rfl,congrArg B (inner_no fun hA=>by have h1:=hA.1; have h2:=hA.2.1; have h3:=hA.2.2.1; have h4:=hA.2.2.2; omega)⟩
 simp only [inI,Bool.and_eq_true,decide_eq_true_eq] at c6' c7'
 have hA : innerA l x → True:=fun _=>trivial
 have hby : x.by_ = []:=by
  cases e : x.by_ with
  | nil=>rfl
  | cons a r=>rw [e] at c3; simp at c3
 have hA : innerA l x:=⟨by omega,by omega,hby,by omega,by omega,c6'.1,c6'.2,c7'.1,c7'.2,c8⟩
 have hz : x.z < l.length:=by unfold Nd.z; omega
 have hy : x.y < l.length:=by unfold Nd.y; omega
 have ez : x.no = (x.z : Nat):=by unfold Nd.z; omega
 have ey : x.yes = (x.y : Nat):=by unfold Nd.y; omega
 have hE : innerB l x = (ltr x.var (ndA l x.z) && (ltr x.var (ndA l x.y) || contB x (ndA l x.y))):=by unfold innerB; rw [decide_eq_true hA,Bool.true_and]
 rw [hE]
 have c6 : inI l.length x.yes = true:=by simp [inI]; omega
 have c7 : inI l.length x.no = true:=by simp [inI]; omega
 have r1:=nds_at' hz
 have r2:=nds_at' hy
 repeat' ((conv=>whnf); first|refine zw9 (zw20 c1) ?_|refine zw9 (zw20 c2) ?_|refine zw9 (zw20 c3) ?_|refine zw9 (zw20 c4) ?_|refine zw9 (zw20 c5) ?_|refine zw8 c6 ?_|refine zw8 c7 ?_|refine zw9 (zw20 c8) ?_|refine bounds_c x.var ?_|refine hw1 ?_|refine hw2 ?_|refine zw3 ?_)
 conv=>whnf
 refine DrawP.por mixed [] [[(0,3),(1,0),(2,3),(3,3),(4,3),(5,1),(6,0),(7,1),(8,1),(9,1),(10,0),(11,0),(12,0),(13,0)],[(0,3),(1,0),(2,3),(3,3),(4,3),(5,1),(6,0),(7,1),(8,1),(9,1),(11,0),(10,0),(12,0),(13,0)]] (by kernel_rfl) ?_
 conv=>whnf
 refine And.intro ?_ ?_
 all_goals
  repeat' ((conv=>whnf); first|refine zw10 x.z _ ez r1 ?_|refine zw10 x.y _ ey r2 ?_|refine hlt (ndA l x.z) ?_|refine hlt (ndA l x.y) ?_|refine zw2 (fun h=>?_) (fun h=>?_)|refine zw4 (fun h=>?_) (fun h=>?_)|refine zw6 rfl ?_)
 all_goals conv=>whnf
 all_goals refine FinP.zz rfl ⟨rfl,congrArg B ?_⟩
 all_goals clear hw1 hw2 hlt hE r1 r2 c1 c2 c3 c4 c5 c6' c7' hA hby hz hy ez ey c6 c7 c8
 all_goals first | (simp_all [contB]; done) | (simp_all [contB]; omega)
def natI (l : List Nat) : List Int:=l.map fun n : Nat=>(n : Int)
theorem natI_len (l : List Nat) : (natI l).length = l.length:=by unfold natI; simp
def metR (n : Nat) (m : List Nat) : List (List V):=(List.range n).map fun i=>[B (m.contains i)]
theorem metR_bel (k n : Nat) (m : List Nat) : belR k (metR n m) = true:=by
 unfold metR
 induction (List.range n) with
 | nil=>rfl
 | cons i r ih=>simp only [List.map_cons,belR,V.belL,V.bel,Bool.true_and]; exact ih
theorem metR_nil (n : Nat) : List.replicate n [B false] = metR n []:=by
 unfold metR
 apply List.ext_getElem
 ·simp
 ·intro i h1 h2; simp
theorem metR_at {n a : Nat} (m : List Nat) (h : a < n) : (metR n m)[0 + a]? = some [B (m.contains a)]:=by
 unfold metR; rw [Nat.zero_add,List.getElem?_map,List.getElem?_range h]; rfl
theorem metR_set {n a : Nat} (m : List Nat) (h : a < n) : (metR n m).set (0 + a) [B true] = metR n (m ++ [a]):=by
 rw [Nat.zero_add]
 unfold metR
 apply List.ext_getElem
 ·simp
 ·intro i h1 h2
  rw [List.getElem_set,List.getElem_map,List.getElem_map,List.getElem_range]
  by_cases e : a = i
  ·subst e; rw [if_pos rfl]; simp
  ·rw [if_neg e]
   congr 2
   simp only [List.contains_append,List.contains_cons,List.contains_nil,Bool.or_false]
   rw [show (i == a) = false by simp; omega,Bool.or_false]
def visB (n : Nat) (st m : List Nat) (jk : List Int) (g : Nat) : List Blk:=[.row 0 1 (metR n m),.row g 1 (rdI (natI st.reverse ++ jk)),.row m.length 1 (rdI (natI m))]
theorem visB_bel (n : Nat) (st m : List Nat) (jk : List Int) (g : Nat) : belB 3 (visB n st m jk g) = true:=by
 show (belR 3 (metR n m) && (belR 3 (rdI _) && (belR 3 (rdI _) && true))) = true
 rw [metR_bel,rdI_bel,rdI_bel]; rfl
theorem stk_at (a : Nat) (st : List Nat) (jk : List Int) : (rdI (natI (a :: st).reverse ++ jk))[0 + st.length]? = some [I a]:=by
 unfold rdI natI
 rw [Nat.zero_add,List.getElem?_map,List.getElem?_append_left (by simp),List.reverse_cons,List.map_append,List.getElem?_append_right (by simp)]
 simp
theorem stk_pop (a : Nat) (st : List Nat) (jk : List Int) : natI (a :: st).reverse ++ jk = natI st.reverse ++ ((a : Int) :: jk):=by
 unfold natI; simp
theorem stk_push (st : List Nat) (jk : List Int) (y z : Nat) : (rdI (natI st.reverse ++ jk)).take st.length ++ [[I z],[I y]] = rdI (natI (y :: z :: st).reverse ++ []):=by
 unfold rdI natI
 rw [List.map_append,List.take_append_of_le_length (by simp),List.take_of_length_le (by simp)]
 simp
theorem ord_push (m : List Nat) (a : Nat) : (rdI (natI m)).take m.length ++ [[I a]] = rdI (natI (m ++ [a])):=by
 unfold rdI natI
 rw [List.take_of_length_le (by simp)]
 simp
theorem visit_c (l : List Nd) (root : Nat) (hc : Closed l) (hr : root < l.length) (hl : l.length ≤ 1073741824) (hneg : ∀ x ∈ l,x.var ≠ 0 → 0 ≤ x.yes ∧ 0 ≤ x.no) (h : k (.d (ins (natI (visO l root)))) L) : CallP C 72 [.d (nds l),I root] L k:=by
 have hv:=visO_vis hc hr
 generalize visO l root = f at hv h
 refine zw25 ?_ rfl (fun _=>rfl) h
 clear h
 refine zw24 C_ok Tryz.func72 rfl rfl rfl (zw18 rfl) rfl ?_
 repeat' ((conv=>whnf); refine MakeP.intro l.length l.length (congrArg Nat.cast (List.length_map _)) (congrArg Nat.cast (List.length_map _)) (zw21 _) (zw23 hl (by decide)) ?_)
 conv=>whnf
 refine zw26 (α:=(List Nat × List Nat) × List Int × Nat) (fun s=>VisL l s.1.1 s.1.2 f ∧ (∀ a ∈ s.1.1,a < l.length) ∧ MetOk l.length s.1.2 ∧ s.1.1.length ≤ s.1.2.length + 1) (fun s=>⟨[(0,.d (nds l)),(4,.own 2 s.1.2.length 0 s.1.2.length),(5,.own 0 0 0 l.length),(6,.own 1 s.2.2 0 s.1.1.length)],Tryz.f72.ntmps,visB l.length s.1.1 s.1.2 s.2.1 s.2.2,[],none⟩) (fun s=>3 * unm l.length s.1.2 + s.1.1.length) (([root],[]),[],0) ⟨hv,fun a ha=>by rw [List.mem_singleton.1 ha]; exact hr,⟨List.nodup_nil,fun a ha=>by cases ha⟩,Nat.le_refl _⟩ ?_ ?_
 ·refine (Weak.nilOwn 4 1 rfl (by decide)).trans (zw28 3 (Eq.trans rfl (congrArg (fun r=>[Blk.row 0 1 r,.row 0 1 [[I root]],.row 0 1 []]) (metR_nil l.length))) (zw22 _) (zw18 rfl) ⟨rfl,rfl,rfl,rfl,trivial⟩ (hB:=visB_bel _ _ _ _ _))
 rintro ⟨⟨st,m⟩,jk,g⟩ ⟨hV,hs,hm,hsl⟩
 simp only at hV hs hm hsl ⊢
 cases st with
 | nil =>
  have hlt : ¬ (0 : Int) < ((0 : Nat) : Int):=by omega
  repeat' ((conv=>whnf); first|refine zw9 (zw20 hlt) ?_|simp only [Nat.beq_refl,Bool.and_self])
  conv=>whnf
  cases hV
  exact zw16 (L':=[]) (.d (.rowL (b:=2) (gen:=f.length) (lo:=0) (len:=f.length) (sz:=1) (els:=rdI (natI f)) (ds:=(natI f).map fun n=>[DI n]) (zw22 _) rfl (by have:=rdI_rows' (S:=(0 ≤ ·)) (L:=visB l.length [] f jk g) (natI f); rwa [natI_len] at this) (by rw [List.length_map,natI_len]) (rdI_e _))) rfl rfl ⟨rfl,rfl⟩
 | cons a st =>
  have ha:=hs a (by simp)
  have hst : ∀ b ∈ st,b < l.length:=fun b hb=>hs b (by simp [hb])
  have hml:=hm.len
  have hlt : (0 : Int) < ((st.length + 1 : Nat) : Int):=by omega
  have hw : IntKind.i64.wrap (((st.length + 1 : Nat) : Int) - 1) = (st.length : Int):=by
   simp only [List.length_cons] at hsl
   rw [wrap_in (by omega)]; omega
  have hgs : ∀ {k : List V → Prop},k [I a] → GetE (rdI (natI (a :: st).reverse ++ jk)) (0 + st.length) k:=fun h=>zw5 _ (stk_at a st jk) h
  have hgm : ∀ {k : List V → Prop},k [B (m.contains a)] → GetE (metR l.length m) (0 + a) k:=fun h=>zw5 _ (metR_at m ha) h
  by_cases hc1 : m.contains a = true
  ·have hV' : VisL l st m f:=by
    cases hV with
    | met _ h=>exact h
    | leaf h=>exact absurd (by simpa using hc1) h
    | node h=>exact absurd (by simpa using hc1) h
   repeat' ((conv=>whnf); first|refine zw8 (zw19 hlt) ?_|refine zw8 hc1 ?_|refine zw30 st.length hw (Nat.lt_succ_self _) ?_|refine zw30 a rfl ha ?_|refine hgs ?_|refine hgm ?_|refine SliceP.intro 0 st.length rfl hw (zw22 _) (Nat.le_succ _) ?_|simp only [Nat.beq_refl,Bool.and_self])
   conv=>whnf
   exact ⟨((st,m),(a : Int) :: jk,g),⟨hV',hst,hm,by simp only [List.length_cons] at hsl ⊢; omega⟩,by simp only [List.length_cons]; omega,Weak.to 3 (Eq.trans rfl (congrArg (fun r=>[Blk.row 0 1 (metR l.length m),.row g 1 (rdI r),.row m.length 1 (rdI (natI m))]) (stk_pop a st jk))) (zw22 _) (zw18 rfl) ⟨rfl,rfl,rfl,rfl,trivial⟩ (hB:=visB_bel _ _ _ _ _)⟩
  ·have hc1' : m.contains a = false:=eq_false_of_ne_true hc1
   have hma : a ∉ m:=fun h=>hc1 (by simpa using h)
   have hm':=hm.snoc hma ha
   have hml':=hm'.len
   rw [List.length_append,List.length_singleton] at hml'
   have hu:=unm_snoc hma ha
   have r1:=nds_at' (l:=l) ha
   have key : ∀ (jk' : List Int),[Blk.row 0 1 ((metR l.length m).set (0 + a) [B true]),.row g 1 (rdI (natI (a :: st).reverse ++ jk)),.row (m.length + 1) 1 ((rdI (natI m)).take m.length ++ [[I a]])] = visB l.length st (m ++ [a]) ((a : Int) :: jk) g:=fun _=>by
    rw [metR_set m ha,stk_pop,ord_push]; unfold visB; rw [List.length_append]; rfl
   have hap : ∀ {X : Prop},X → Need (m.length + 1 ≤ 4294967296) X:=fun h=>zw6 (by omega) h
   by_cases hv0 : (ndA l a).var = 0
   ·have hV' : VisL l st (m ++ [a]) f:=by
     cases hV with
     | met h=>exact absurd h hma
     | leaf _ _ h=>exact h
     | node _ h=>exact absurd hv0 h
    repeat' ((conv=>whnf); first|refine zw8 (zw19 hlt) ?_|refine zw9 hc1' ?_|refine zw3 ?_|refine zw8 (zw19 hv0) ?_|refine zw30 st.length hw (Nat.lt_succ_self _) ?_|refine zw30 a rfl ha ?_|refine zw10 a _ rfl r1 ?_|refine hgs ?_|refine hgm ?_|refine SliceP.intro 0 st.length rfl hw (zw22 _) (Nat.le_succ _) ?_|simp only [Nat.beq_refl,Bool.and_self]|refine hap ?_|refine zw6 rfl ?_)
    conv=>whnf
    have hln : (m ++ [a]).length = m.length + 1:=by rw [List.length_append]; rfl
    exact ⟨((st,m ++ [a]),(a : Int) :: jk,g),⟨hV',hst,hm',by simp only [List.length_cons] at hsl ⊢; omega⟩,by simp only [List.length_cons]; omega,Weak.to 3 (Eq.trans rfl (key [])) (zw22 _) (zw18 rfl) ⟨rfl,(by rw [hln]; rfl),rfl,rfl,trivial⟩ (hB:=visB_bel _ _ _ _ _)⟩
   ·have hV' : VisL l ((ndA l a).y :: (ndA l a).z :: st) (m ++ [a]) f:=by
     cases hV with
     | met h=>exact absurd h hma
     | leaf _ h=>exact absurd h hv0
     | node _ _ h=>exact h
    have hn0:=hneg _ (ndA_mem ha) hv0
    have ey : (ndA l a).yes = ((ndA l a).y : Int):=by unfold Nd.y; omega
    have ez : (ndA l a).no = ((ndA l a).z : Int):=by unfold Nd.z; omega
    have hap2 : ∀ {X : Prop},X → Need (st.length + 2 ≤ 4294967296) X:=fun h=>Need.intro (by simp only [List.length_cons] at hsl; omega) h
    repeat' ((conv=>whnf); first|refine zw8 (zw19 hlt) ?_|refine zw9 hc1' ?_|refine zw3 ?_|refine zw9 (zw20 hv0) ?_|refine zw30 st.length hw (Nat.lt_succ_self _) ?_|refine zw30 a rfl ha ?_|refine zw10 a _ rfl r1 ?_|refine hgs ?_|refine hgm ?_|refine SliceP.intro 0 st.length rfl hw (zw22 _) (Nat.le_succ _) ?_|simp only [Nat.beq_refl,Bool.and_self]|refine hap ?_|refine hap2 ?_|refine zw6 rfl ?_|refine zw7 mixed rfl ?_)
    conv=>whnf
    have hln : (m ++ [a]).length = m.length + 1:=by rw [List.length_append]; rfl
    have key2 : [Blk.row 0 1 ((metR l.length m).set (0 + a) [B true]),.row (g + 1) 1 ((rdI (natI (a :: st).reverse ++ jk)).take st.length ++ [[I (ndA l a).no],[I (ndA l a).yes]]),.row (m.length + 1) 1 ((rdI (natI m)).take m.length ++ [[I a]])] = visB l.length ((ndA l a).y :: (ndA l a).z :: st) (m ++ [a]) [] (g + 1):=by
     rw [metR_set m ha,stk_pop,ord_push,ey,ez,stk_push]; unfold visB; rw [List.length_append]; rfl
    exact ⟨(((ndA l a).y :: (ndA l a).z :: st,m ++ [a]),[],g + 1),⟨hV',fun b hb=>by
     rcases List.mem_cons.1 hb with rfl | hb
     ·exact hc.y a ha hv0
     rcases List.mem_cons.1 hb with rfl | hb
     ·exact hc.z a ha hv0
     ·exact hst b hb,hm',by simp only [List.length_cons] at hsl ⊢; omega⟩,by simp only [List.length_cons]; omega,Weak.to 3 (Eq.trans rfl key2) (zw22 _) (zw18 rfl) ⟨rfl,(by rw [hln]; rfl),rfl,rfl,trivial⟩ (hB:=visB_bel _ _ _ _ _)⟩
structure KyOk (x : Nd) : Prop where
 b : ∀ c ∈ x.by_,0 ≤ c ∧ c < 256
theorem byU_inj {a b : Int} (ha : 0 ≤ a ∧ a < 256) (hb : 0 ≤ b ∧ b < 256) (h : byU a = byU b) : a = b:=by
 have h1:=wrap_u8 a
 have h2:=wrap_u8 b
 rw [h] at h1
 have e1 : IntKind.u8.wrap a = a:=by show a % 256 = a; omega
 have e2 : IntKind.u8.wrap b = b:=by show b % 256 = b; omega
 omega
theorem byS_inj : ∀ {a b : List Int},(∀ c ∈ a,0 ≤ c ∧ c < 256) → (∀ c ∈ b,0 ≤ c ∧ c < 256) → a.map byU = b.map byU → a = b
 | [],[],_,_,_=>rfl
 | [],_ :: _,_,_,h=>by cases h
 | _ :: _,[],_,_,h=>by cases h
 | x :: a,y :: b,ha,hb,h=>by
  simp only [List.map_cons,List.cons.injEq] at h
  rw [byU_inj (ha x (by simp)) (hb y (by simp)) h.1,byS_inj (fun c hc=>ha c (by simp [hc])) (fun c hc=>hb c (by simp [hc])) h.2]
theorem keyV'_inj {x y : Nd} (hx : KyOk x) (hy : KyOk y) (h : keyV' x = keyV' y) : x = y:=by
 unfold keyV' byS at h
 simp only [V.agg.injEq,List.cons.injEq,V.d.injEq,D.int.injEq,D.str.injEq,ByteArray.mk.injEq,true_and,and_true] at h
 obtain ⟨h1,h2,h3,h4,h5⟩:=h
 have:=byS_inj hx.b hy.b (by simpa using congrArg Array.toList h5)
 cases x; cases y; simp_all
abbrev tkK : TK:=.keys [.int .i64,.int .i64,.int .i64,.int .i64,.str]
theorem MapF.kyG {es : List (V × V)} {ks : List Nd} (he : es.map (·.1) = ks.map keyV') {a : Nd} (ha : KyOk a) (hks : ∀ x ∈ ks,KyOk x) {q : Option (Nat × V) → Prop} (h1 : a ∈ ks → ∀ v,es[ks.idxOf a]? = some (keyV' a,v) → q (some (ks.idxOf a,v))) (h2 : a ∉ ks → q none) : MapF tkK es (keyV' a) q:=by
 have hlen : es.length = ks.length:=by simpa using congrArg List.length he
 have hat : ∀ (j : Nat) (hj : j < ks.length),∃ v,es[j]? = some (keyV' ks[j],v):=fun j hj=>by
  have h:=congrArg (fun l=>l[j]?) he
  simp only [List.getElem?_map,List.getElem?_eq_getElem hj,List.getElem?_eq_getElem (show j < es.length by omega),Option.map_some,Option.some.injEq] at h
  refine ⟨es[j].2,?_⟩
  rw [List.getElem?_eq_getElem (by omega),← h]
 have hall : ∀ kv ∈ es,keyV tkK kv.1 = true:=fun kv hkv=>by
  have : kv.1 ∈ ks.map keyV':=he ▸ List.mem_map_of_mem (f:=(·.1)) hkv
  obtain ⟨x,_,hx⟩:=List.mem_map.1 this
  rw [← hx]; rfl
 by_cases hm : a ∈ ks
 ·have hi:=List.idxOf_lt_length_of_mem hm
  have hia : ks[ks.idxOf a] = a:=List.getElem_idxOf hi
  obtain ⟨v,hv⟩:=hat _ hi
  rw [hia] at hv
  refine MapF.hit (ks.idxOf a) v hall hv (fun j kv hj hkv e=>?_) (h1 hm v hv)
  have hjl : j < ks.length:=by omega
  obtain ⟨u,hu⟩:=hat j hjl
  rw [hu] at hkv
  cases hkv
  have e2:=keyV'_inj (hks _ (List.getElem_mem hjl)) ha e
  have:=List.not_of_lt_findIdx (p:=(· == a)) (xs:=ks) hj
  simp at this
  exact this e2
 ·refine MapF.miss hall (fun kv hkv e=>?_) (h2 hm)
  have : kv.1 ∈ ks.map keyV':=he ▸ List.mem_map_of_mem (f:=(·.1)) hkv
  obtain ⟨x,hx,hxe⟩:=List.mem_map.1 this
  have:=keyV'_inj (hks x hx) ha (hxe.trans e)
  exact hm (this ▸ hx)
def esN (l : List Nd) : List (V × V):=l.map fun x=>(keyV' x,B true)
theorem esN_keys (l : List Nd) : (esN l).map (·.1) = l.map keyV':=by unfold esN; rw [List.map_map]; rfl
theorem esN_bel (n : Nat) : ∀ l : List Nd,belM n (esN l) = true
 | []=>rfl
 | x :: l=>by
  have:=esN_bel n l
  unfold esN at this ⊢
  simp only [List.map_cons,belM,keyV',V.bel,V.belL,Bool.and_true,Bool.true_and,Bool.and_self] at this ⊢
  exact this
theorem MapF.kyN {ks : List Nd} {a : Nd} (ha : KyOk a) (hks : ∀ x ∈ ks,KyOk x) {q : Option (Nat × V) → Prop} (h1 : a ∈ ks → ∀ i,q (some (i,B true))) (h2 : a ∉ ks → q none) : MapF tkK (esN ks) (keyV' a) q :=
 MapF.kyG (esN_keys ks) ha hks (fun hm v hv=>by
  have hi:=List.idxOf_lt_length_of_mem hm
  unfold esN at hv
  rw [List.getElem?_map,List.getElem?_eq_getElem hi] at hv
  simp only [Option.map_some,Option.some.injEq,Prod.mk.injEq] at hv
  rw [← hv.2]
  exact h1 hm _) h2
theorem isNaN_c (a : Int) (h : k (B false) L) : CallP C 162 [I a] L k:=by
 refine zw25 ?_ rfl (fun _=>rfl) h
 clear h
 refine zw24 C_ok Tryz.func162 rfl rfl rfl (zw18 rfl) rfl ?_
 skip
 conv=>whnf
 exact FinP.zz rfl ⟨rfl,congrArg B (by simp)⟩
theorem less_c (a b : Int) (h : k (B (decide (a < b))) L) : CallP C 141 [I a,I b] L k:=by
 refine zw25 ?_ rfl (fun _=>rfl) h
 clear h
 refine zw24 C_ok Tryz.func141 rfl rfl rfl (zw18 rfl) rfl ?_
 repeat' ((conv=>whnf); first|refine isNaN_c _ ?_|refine zw1 ?_)
 conv=>whnf
 exact FinP.zz rfl ⟨rfl,rfl⟩
def Srt (l : List Int) : Prop:=∀ j,j < l.length - 1 → l.getD j 0 ≤ l.getD (j + 1) 0
instance (l : List Int) : Decidable (Srt l):=by unfold Srt; infer_instance
theorem isSorted_c (l : List Int) (hp : 0 < l.length) (hl : l.length ≤ 4611686018427387904) (h : k (B (decide (Srt l))) L) : CallP C 148 [.d (ins l)] L k:=by
 refine zw25 ?_ rfl (fun _=>rfl) h
 clear h
 refine zw24 C_ok Tryz.func148 rfl rfl rfl (zw18 rfl) rfl ?_
 skip
 conv=>whnf
 refine zw26 (fun i=>i < l.length ∧ ∀ j,i ≤ j → j < l.length - 1 → l.getD j 0 ≤ l.getD (j + 1) 0) (fun i=>⟨[(0,.d (ins l)),(3,I i)],Tryz.f148.ntmps,[],[],none⟩) (fun i=>i) (l.length - 1) ⟨by omega,fun j h1 h2=>by omega⟩ ?_ ?_
 ·exact zw28 0 rfl (zw22 _) (zw22 _) ⟨rfl,congrArg I (by rw [List.length_map,wrap_in (by omega)]; omega),trivial⟩
 rintro i ⟨hi,hs⟩
 by_cases h0 : 0 < i
 ·have hlt : (0 : Int) < (i : Int):=by omega
  have hw : IntKind.i64.wrap ((i : Int) - 1) = ((i - 1 : Nat) : Int):=by rw [wrap_in (by omega)]; omega
  have r1 : (l.map fun n=>[DI n])[i]? = some [DI (l.getD i 0)]:=by rw [List.getElem?_map,List.getElem?_eq_getElem hi,getD_at hi]; rfl
  have r2 : (l.map fun n=>[DI n])[i - 1]? = some [DI (l.getD (i - 1) 0)]:=by rw [List.getElem?_map,List.getElem?_eq_getElem (show i - 1 < l.length by omega),getD_at (show i - 1 < l.length by omega)]; rfl
  by_cases hc : l.getD i 0 < l.getD (i - 1) 0
  ·have hno : ¬ Srt l:=fun h=>by have:=h (i - 1) (by omega); rw [show i - 1 + 1 = i by omega] at this; omega
   repeat' ((conv=>whnf); first|refine zw8 (zw19 hlt) ?_|refine zw8 (zw19 hc) ?_|refine zw10 i _ rfl r1 ?_|refine zw10 (i - 1) _ hw r2 ?_|refine zw12 _ (less_c (l.getD i 0) (l.getD (i - 1) 0) ⟨rfl,rfl⟩) ?_|refine zw6 rfl ?_|refine zw7 mixed rfl ?_)
   conv=>whnf
   exact FinP.zz rfl ⟨rfl,congrArg B (zw20 hno).symm⟩
  ·repeat' (conv => whnf
            first|refine zw8 (zw19 hlt) ?_|refine zw9 (zw20 hc) ?_|refine zw10 i _ rfl r1 ?_|refine zw10 (i - 1) _ hw r2 ?_|refine zw12 _ (less_c (l.getD i 0) (l.getD (i - 1) 0) ⟨rfl,rfl⟩) ?_|refine zw6 rfl ?_|refine zw7 mixed rfl ?_)
   conv=>whnf
   exact ⟨i - 1,⟨by omega,fun j h1 h2=>by
    by_cases e : j = i - 1
    ·subst e; rw [show i - 1 + 1 = i by omega]; omega
    ·exact hs j (by omega) h2⟩,by omega,Weak.by ⟨rfl,congrArg I hw,trivial⟩⟩
 ·have hlt : ¬ (0 : Int) < (i : Int):=by omega
  repeat' ((conv=>whnf); refine zw9 (zw20 hlt) ?_)
  conv=>whnf
  exact FinP.zz rfl ⟨rfl,congrArg B (zw19 (show Srt l from fun j h=>hs j (by omega) h)).symm⟩
theorem srt_range {n : Nat} {f : List Nat} (hm : MetOk n f) : (f.length = n ∧ Srt (natI f)) ↔ f = List.range n:=by
 constructor
 ·rintro ⟨h1,h2⟩
  have hstep : ∀ j,(hj : j + 1 < f.length) → f[j] < f[j + 1]:=fun j hj=>by
   have:=h2 j (by rw [natI_len]; omega)
   rw [getD_at (by rw [natI_len]; omega),getD_at (by rw [natI_len]; omega)] at this
   unfold natI at this
   rw [List.getElem_map,List.getElem_map] at this
   have hne : f[j] ≠ f[j + 1]:=fun e=>by have:=nd_inj hm.nd _ _ e; omega
   omega
  have hge : ∀ j,(hj : j < f.length) → j ≤ f[j]:=by
   intro j
   induction j with
   | zero=>intro hj; exact zw22 _
   | succ j ih=>intro hj; have:=ih (by omega); have:=hstep j hj; omega
  have hle : ∀ d,∀ j,(hj : j < f.length) → f.length - 1 - j = d → f[j] ≤ j:=by
   intro d
   induction d with
   | zero =>
    intro j hj hd
    have:=hm.lt _ (List.getElem_mem hj)
    omega
   | succ d ih =>
    intro j hj hd
    have:=ih (j + 1) (by omega) (by omega)
    have:=hstep j (by omega)
    omega
  refine List.ext_getElem (by simp [h1]) fun j h3 h4=>?_
  rw [List.getElem_range]
  have:=hge j h3
  have:=hle _ j h3 rfl
  omega
 ·rintro rfl
  refine ⟨by simp,fun j hj=>?_⟩
  rw [natI_len,List.length_range] at hj
  rw [getD_at (by rw [natI_len,List.length_range]; omega),getD_at (by rw [natI_len,List.length_range]; omega)]
  unfold natI
  rw [List.getElem_map,List.getElem_map,List.getElem_range,List.getElem_range]
  omega
theorem ndB_ky {l : List Nd} {x : Nd} (h : ndB l x = true) : KyOk x:=by
 unfold ndB at h
 rw [Bool.or_eq_true] at h
 rcases h with h | h
 ·unfold leafB at h
  rw [Bool.and_eq_true] at h
  have:=byB_iff.1 h.1
  exact ⟨fun c hc=>by have:=this.rg c hc; omega⟩
 ·have:=innerB_iff.1 h
  exact ⟨fun c hc=>by rw [this.by_] at hc; cases hc⟩
theorem check_bad {l : List Nd} (hl : l.length ≤ 4096) (h : ¬ (l.all (ndB l) && decide l.Nodup) = true) : checkT l = 160:=by
 unfold checkT
 rw [if_neg (by omega),if_neg h]
 split <;> rfl
def chB (l : List Nd) (i : Nat) : List Blk:=[.cells [.d (nds l)],.map (esN (l.take i))]
theorem chB_bel (l : List Nd) (i : Nat) : belB 2 (chB l i) = true:=by
 show (true && (belM 2 (esN _) && true)) = true
 rw [esN_bel]; rfl
structure TrSm (l : List Nd) : Prop where
 len : l.length ≤ 4096
 by_ : ∀ x ∈ l,x.by_.length ≤ 1073741824
theorem check16_c (l : List Nd) (hsm : TrSm l) (h : k (I (checkT l)) L) : CallP C 106 [treV l] L k:=by
 have hl:=hsm.len
 have hcl : ¬ (4096 : Int) < ((l.map Nd.cells).length : Int):=by rw [List.length_map]; omega
 refine zw25 ?_ rfl (fun _=>rfl) h
 clear h
 refine zw24 C_ok Tryz.func106 rfl rfl rfl (zw18 rfl) rfl ?_
 repeat' ((conv=>whnf); refine zw9 (zw20 hcl) ?_)
 conv=>whnf
 refine zw26 (fun i=>i ≤ l.length ∧ (∀ (j : Nat) (hj : j < l.length),j < i → ndB l l[j] = true) ∧ (l.take i).Nodup) (fun i=>⟨[(1,.ptr 0 0),(3,.map 1),(13,.d (nds l)),(14,I l.length),(15,I i)],Tryz.f106.ntmps,chB l i,[],none⟩) (fun i=>l.length - i) 0 ⟨zw22 _,fun j _ h=>absurd h (Nat.not_lt_zero j),List.nodup_nil⟩ ?_ ?_
 ·exact zw27 ⟨rfl,rfl,rfl,congrArg I (by simp),rfl,trivial⟩
 rintro i ⟨hi,hok,hnd⟩
 by_cases hi' : i < l.length
 ·have hlt : (i : Int) < (l.length : Int):=by omega
  have hw:=zwW i (by omega)
  have r1:=nds_at hi'
  have hxm : l[i] ∈ l:=List.getElem_mem hi'
  have hxb:=hsm.by_ _ hxm
  have hbad : ndB l l[i] = false → 160 = checkT l:=fun h=>(check_bad hl fun hc=>by
   rw [Bool.and_eq_true,List.all_eq_true] at hc
   have:=hc.1 _ hxm
   rw [h] at this; cases this).symm
  have hdup : l[i] ∈ l.take i → 160 = checkT l:=fun h=>(check_bad hl fun hc=>by
   rw [Bool.and_eq_true,decide_eq_true_eq] at hc
   obtain ⟨j,hj,e⟩:=List.getElem_of_mem h
   rw [List.length_take] at hj
   rw [List.getElem_take] at e
   have:=nd_inj hc.2 _ _ e
   omega).symm
  have hsnoc : l.take (i + 1) = l.take i ++ [l[i]]:=take_next hi'
  have htk : ∀ x ∈ l.take i,KyOk x:=fun x hx=>by
   obtain ⟨j,hj,rfl⟩:=List.getElem_of_mem hx
   rw [List.length_take] at hj
   rw [List.getElem_take]
   exact ndB_ky (hok j (by omega) (by omega))
  have hndb : ndB l l[i] = (leafB l[i] || innerB l l[i]):=rfl
  have hlf : ∀ {L : List Blk} {k : V → List Blk → Prop},k (B (leafB l[i])) L → CallP C 146 [.agg [I l[i].var,I l[i].n,I l[i].yes,I l[i].no,.d (ins l[i].by_)]] L k:=fun h=>isLeaf_c l[i] hxb h
  have hin : ∀ {L : List Blk} {k : V → List Blk → Prop},k (B (innerB l l[i])) L → CallP C 147 [.d (nds l),.agg [I l[i].var,I l[i].n,I l[i].yes,I l[i].no,.d (ins l[i].by_)]] L k:=fun h=>isInner_c l l[i] h
  have hky : ∀ {L : List Blk} {k : V → List Blk → Prop},k (keyV' l[i]) L → CallP C 104 [.agg [I l[i].var,I l[i].n,I l[i].yes,I l[i].no,.d (ins l[i].by_)]] L k:=fun h=>keyOf_c l[i] hxb h
  by_cases c0 : ndB l l[i] = true
  rotate_left
  ·have c0:=eq_false_of_ne_true c0
   have c1 : leafB l[i] = false:=by rw [c0] at hndb; exact (Bool.or_eq_false_iff.1 hndb.symm).1
   have c2 : innerB l l[i] = false:=by rw [c0] at hndb; exact (Bool.or_eq_false_iff.1 hndb.symm).2
   repeat' ((conv=>whnf); first|refine zw8 (zw19 hlt) ?_|refine zw9 c1 ?_|refine zw9 c2 ?_|refine zw10 i _ rfl r1 ?_|refine hlf ?_|refine hin ?_|refine zw3 ?_|refine zw6 rfl ?_)
   conv=>whnf
   exact FinP.zz rfl ⟨rfl,congrArg I (hbad c0)⟩
  ·have hkx:=ndB_ky c0
   by_cases hm : l[i] ∈ l.take i
   ·have hmap : ∀ {q : Option (Nat × V) → Prop},(∀ j,q (some (j,B true))) → MapF tkK (esN (l.take i)) (keyV' l[i]) q:=fun h=>MapF.kyN hkx htk (fun _ j=>h j) fun hn=>absurd hm hn
    by_cases c1 : leafB l[i] = true
    ·repeat' (conv => whnf
              first|refine zw8 (zw19 hlt) ?_|refine zw8 c1 ?_|refine zw10 i _ rfl r1 ?_|refine hlf ?_|refine hky ?_|refine hmap fun j=>?_|refine zw0 ?_|refine zw3 ?_|refine zw6 rfl ?_)
     conv=>whnf
     exact FinP.zz rfl ⟨rfl,congrArg I (hdup hm)⟩
    ·have c1:=eq_false_of_ne_true c1
     have c2 : innerB l l[i] = true:=by rw [c0,c1,Bool.false_or] at hndb; exact hndb.symm
     repeat' ((conv=>whnf); first|refine zw8 (zw19 hlt) ?_|refine zw9 c1 ?_|refine zw8 c2 ?_|refine zw10 i _ rfl r1 ?_|refine hlf ?_|refine hin ?_|refine hky ?_|refine hmap fun j=>?_|refine zw0 ?_|refine zw3 ?_|refine zw6 rfl ?_)
     conv=>whnf
     exact FinP.zz rfl ⟨rfl,congrArg I (hdup hm)⟩
   ·have hmap : ∀ {q : Option (Nat × V) → Prop},q none → MapF tkK (esN (l.take i)) (keyV' l[i]) q:=fun h=>MapF.kyN hkx htk (fun hn=>absurd hn hm) fun _=>h
    have hnx : i + 1 ≤ l.length ∧ (∀ (j : Nat) (hj : j < l.length),j < i + 1 → ndB l l[j] = true) ∧ (l.take (i + 1)).Nodup:=⟨hi',fun j hj hji=>by
     by_cases e : j = i
     ·subst e; exact c0
     ·exact hok j hj (by omega),by
     rw [hsnoc]
     exact List.nodup_append.2 ⟨hnd,by simp,fun a ha b hb e=>hm (by rw [List.mem_singleton.1 hb] at e; exact e ▸ ha)⟩⟩
    have hblk : [Blk.cells [.d (nds l)],.map (esN (l.take i) ++ [(keyV' l[i],B true)])] = chB l (i + 1):=by
     unfold chB esN; rw [hsnoc,List.map_append]; rfl
    by_cases c1 : leafB l[i] = true
    ·repeat' (conv => whnf
              first|refine zw8 (zw19 hlt) ?_|refine zw8 c1 ?_|refine zw10 i _ rfl r1 ?_|refine hlf ?_|refine hky ?_|refine hmap ?_|refine zw1 ?_|refine zw3 ?_|refine zw6 rfl ?_)
     conv=>whnf
     exact ⟨i + 1,hnx,by omega,Weak.to 2 (Eq.trans rfl hblk) (zw22 _) (zw18 rfl) ⟨rfl,rfl,rfl,rfl,congrArg I hw,trivial⟩ (hB:=chB_bel _ _)⟩
    ·have c1:=eq_false_of_ne_true c1
     have c2 : innerB l l[i] = true:=by rw [c0,c1,Bool.false_or] at hndb; exact hndb.symm
     repeat' ((conv=>whnf); first|refine zw8 (zw19 hlt) ?_|refine zw9 c1 ?_|refine zw8 c2 ?_|refine zw10 i _ rfl r1 ?_|refine hlf ?_|refine hin ?_|refine hky ?_|refine hmap ?_|refine zw1 ?_|refine zw3 ?_|refine zw6 rfl ?_)
     conv=>whnf
     exact ⟨i + 1,hnx,by omega,Weak.to 2 (Eq.trans rfl hblk) (zw22 _) (zw18 rfl) ⟨rfl,rfl,rfl,rfl,congrArg I hw,trivial⟩ (hB:=chB_bel _ _)⟩
 ·have hlt : ¬ (i : Int) < (l.length : Int):=by omega
  have hall : (l.all (ndB l) && decide l.Nodup) = true:=by
   rw [Bool.and_eq_true,List.all_eq_true,decide_eq_true_eq]
   refine ⟨fun x hx=>?_,by rwa [List.take_of_length_le (by omega)] at hnd⟩
   obtain ⟨j,hj,rfl⟩:=List.getElem_of_mem hx
   exact hok j hj (by omega)
  have hw:=Wf.of (Bool.and_eq_true_iff.1 hall).1
  by_cases h0 : ((l.map Nd.cells).length : Int) = 0
  ·have : checkT l = 160:=by unfold checkT; rw [if_neg (by omega),if_pos (by rw [List.length_map] at h0; omega)]
   repeat' ((conv=>whnf); first|refine zw9 (zw20 hlt) ?_|refine zw8 (zw19 h0) ?_)
   conv=>whnf
   exact FinP.zz rfl ⟨rfl,congrArg I this.symm⟩
  ·have hp : 0 < l.length:=by rw [List.length_map] at h0; omega
   have hV:=visO_vis hw.closed hp
   have hm : MetOk l.length (visO l 0):=hV.metok hw.closed (fun a ha=>by rw [List.mem_singleton.1 ha]; exact hp) ⟨List.nodup_nil,fun a ha=>by cases ha⟩
   have hvis : ∀ {L : List Blk} {k : V → List Blk → Prop},k (.d (ins (natI (visO l 0)))) L → CallP C 72 [.d (nds l),I 0] L k:=fun h=>visit_c l 0 hw.closed hp (by omega) (fun x hx hv=>by
    obtain ⟨j,hj,rfl⟩:=List.getElem_of_mem hx
    have hi:=hw.inn hj (by rw [ndA_get hj]; exact hv)
    rw [ndA_get hj] at hi
    exact ⟨hi.y.1,hi.z.1⟩) h
   have hck : checkT l = if visO l 0 = List.range l.length then 0 else 160:=by unfold checkT; rw [if_neg (by omega),if_neg (by omega),if_pos hall]
   have hrng:=srt_range hm
   obtain ⟨r,hr⟩:=hV.first
   have hpo : 0 < (natI (visO l 0)).length:=by rw [natI_len,hr]; simp
   have hlo : (natI (visO l 0)).length ≤ 4611686018427387904:=by rw [natI_len]; have:=hm.len; omega
   have hlen0 : (((natI (visO l 0)).map fun n=>[DI n]).length : Int) = ((l.map Nd.cells).length : Int) ↔ (visO l 0).length = l.length:=by rw [List.length_map,List.length_map,natI_len]; omega
   rw [hck]
   generalize visO l 0 = o at *
   by_cases c1 : ((((natI o).map fun n=>[DI n]).length : Int) = ((l.map Nd.cells).length : Int))
   ·by_cases c2 : Srt (natI o)
    ·repeat' (conv => whnf
              first|refine zw9 (zw20 hlt) ?_|refine zw9 (zw20 h0) ?_|refine zw3 ?_|refine zw8 (zw19 c1) ?_|refine zw8 (zw19 c2) ?_|refine hvis ?_|refine isSorted_c (natI o) hpo hlo ?_)
     conv=>whnf
     exact FinP.zz rfl ⟨rfl,congrArg I (if_pos (hrng.1 ⟨hlen0.1 c1,c2⟩)).symm⟩
    ·repeat' (conv => whnf
              first|refine zw9 (zw20 hlt) ?_|refine zw9 (zw20 h0) ?_|refine zw3 ?_|refine zw8 (zw19 c1) ?_|refine zw9 (zw20 c2) ?_|refine hvis ?_|refine isSorted_c (natI o) hpo hlo ?_)
     conv=>whnf
     exact FinP.zz rfl ⟨rfl,congrArg I (if_neg fun e=>c2 (hrng.2 e).2).symm⟩
   ·repeat' (conv => whnf
             first|refine zw9 (zw20 hlt) ?_|refine zw9 (zw20 h0) ?_|refine zw3 ?_|refine zw9 (zw20 c1) ?_|refine hvis ?_)
    conv=>whnf
    exact FinP.zz rfl ⟨rfl,congrArg I (if_neg fun e=>c1 (hlen0.2 (hrng.2 e).1)).symm⟩
def evalB (l : List Nd) (x : En) : List Int:=if checkT l = 0 ∧ envE x = 0 then (un l 0).ev x else []
def evalE (l : List Nd) (x : En) : Int:=if checkT l ≠ 0 then checkT l else envE x
theorem nxI_nat {l : List Nd} (h : Wf l) {x : En} {a : Nat} (ha : a < l.length) (hv : (ndA l a).var ≠ 0) : nxI (ndA l a) x = (nx l x a : Int):=by
 have hi:=h.inn ha hv
 unfold nxI nx
 split
 ·unfold Nd.y; have:=hi.y; omega
 ·unfold Nd.z; have:=hi.z; omega
theorem eval_c (l : List Nd) (x : En) (hsm : TrSm l) (h : k (.tup [.d (ins (evalB l x)),I (evalE l x)]) L) : CallP C 73 [treV l,enV x] L k:=by
 have hck : ∀ {L : List Blk} {k : V → List Blk → Prop},k (I (checkT l)) L → CallP C 106 [treV l] L k:=fun h=>check16_c l hsm h
 by_cases c1 : checkT l = 0
 rotate_left
 ·have e : evalB l x = [] ∧ evalE l x = checkT l:=by unfold evalB evalE; rw [if_neg (fun hn=>c1 hn.1),if_pos c1]; exact ⟨rfl,rfl⟩
  rw [e.1,e.2] at h
  refine zw25 ?_ rfl (fun _=>rfl) h
  clear h
  refine zw24 C_ok Tryz.func73 rfl rfl rfl (zw18 rfl) rfl ?_
  repeat' ((conv=>whnf); first|refine hck ?_|refine zw3 ?_|refine zw9 (zw20 c1) ?_)
  conv=>whnf
  exact zw16 (L':=[]) (.pair (.d .nil) (.d (.d _))) rfl rfl ⟨rfl,rfl⟩
 by_cases c2 : envE x = 0
 rotate_left
 ·have e : evalB l x = [] ∧ evalE l x = envE x:=by unfold evalB evalE; rw [if_neg (fun hn=>c2 hn.2),if_neg (fun hn=>hn c1)]; exact ⟨rfl,rfl⟩
  rw [e.1,e.2] at h
  refine zw25 ?_ rfl (fun _=>rfl) h
  clear h
  refine zw24 C_ok Tryz.func73 rfl rfl rfl (zw18 rfl) rfl ?_
  repeat' ((conv=>whnf); first|refine hck ?_|refine env_c x ?_|refine zw3 ?_|refine zw8 (zw19 c1) ?_|refine zw9 (zw20 c2) ?_)
  conv=>whnf
  exact zw16 (L':=[]) (.pair (.d .nil) (.d (.d _))) rfl rfl ⟨rfl,rfl⟩
 have e : evalB l x = (un l 0).ev x ∧ evalE l x = 0:=by unfold evalB evalE; rw [if_pos ⟨c1,c2⟩,if_neg (fun hn=>hn c1)]; exact ⟨rfl,c2⟩
 rw [e.1,e.2] at h
 have hV:=checkT_iff.1 c1
 have hw:=hV.wf
 have r0:=nds_at' (l:=l) hV.pos
 refine zw25 ?_ rfl (fun _=>rfl) h
 clear h
 refine zw24 C_ok Tryz.func73 rfl rfl rfl (zw18 rfl) rfl ?_
 repeat' ((conv=>whnf); first|refine hck ?_|refine env_c x ?_|refine zw3 ?_|refine zw8 (zw19 c1) ?_|refine zw8 (zw19 c2) ?_|refine zw10 0 _ rfl r0 ?_|refine zw6 rfl ?_)
 conv=>whnf
 refine zw26 (fun a=>a < l.length ∧ (un l a).ev x = (un l 0).ev x) (fun a=>⟨[(2,.ptr 0 0),(3,.ptr 1 0),(8,.ptr 2 0)],Tryz.f73.ntmps,[.cells [.d (nds l)],.cells (x.cells.map .d),.cells ((ndA l a).cells.map .d)],[],none⟩) (fun a=>rk (ndA l a)) 0 ⟨hV.pos,rfl⟩ ?_ ?_
 ·exact zw27 ⟨rfl,rfl,rfl,trivial⟩
 rintro a ⟨ha,hev⟩
 by_cases hv : (ndA l a).var = 0
 ·have hres : (ndA l a).by_ = (un l 0).ev x:=by rw [← hev,un_leaf hv]; rfl
  repeat' ((conv=>whnf); first|refine zw3 ?_|refine zw8 (zw19 hv) ?_)
  conv=>whnf
  exact FinP.zz rfl ⟨rfl,Eq.trans (b:=V.tup [.d (ins (ndA l a).by_),I 0]) rfl (by rw [hres])⟩
 ·have hi:=hw.inn ha hv
  have hn:=hw.nx_lt (x:=x) ha hv
  have r1:=nds_at' (l:=l) hn
  have hnx : ∀ {L : List Blk} {k : V → List Blk → Prop},k (I (nxI (ndA l a) x)) L → CallP C 107 [ndV (ndA l a),enV x] L k:=fun h=>next_c (ndA l a) x ⟨hi.v1,hi.v4⟩ h
  repeat' ((conv=>whnf); first|refine zw3 ?_|refine zw9 (zw20 hv) ?_|refine zw12 _ (hnx ⟨rfl,rfl⟩) ?_|refine zw10 (nx l x a) _ (nxI_nat hw ha hv) r1 ?_|refine zw6 rfl ?_|refine zw7 mixed rfl ?_)
  conv=>whnf
  exact ⟨nx l x a,⟨hn,by rw [← ev_node hw ha hv]; exact hev⟩,hw.rk_nx ha hv,Weak.to 3 rfl (zw22 _) (zw18 rfl) ⟨rfl,rfl,rfl,trivial⟩⟩
def gb (l : List Bool) (i : Nat) : Bool:=l.getD i false
abbrev Kw:=List Bool × List Bool
structure KwOk (l : List Nd) (node : Nat) (s : Kw) : Prop where
 l1 : s.1.length = l.length
 l2 : s.2.length = l.length
 ok : ∀ j,j < l.length → gb s.1 j = true → gb s.2 j = rch l node j
structure KwOp (l : List Nd) (node : Nat) (op : Nat → Prop) (s : Kw) : Prop where
 l1 : s.1.length = l.length
 l2 : s.2.length = l.length
 ok : ∀ j,j < l.length → gb s.1 j = true → op j ∨ gb s.2 j = rch l node j
mutual
def tcC : Co → List (Int × Int)
 | .mk k v n ps=>(if k = 1 ∧ lo v < n ∧ n ≤ hi v then [(v,n)] else []) ++ tcL ps
def tcL : List Co → List (Int × Int)
 | []=>[]
 | c :: cs=>tcC c ++ tcL cs
end
mutual
def tsS : Sp → List (Int × Int)
 | .mk _ _ c t e=>tcC c ++ tsL t ++ tsL e
def tsL : List Sp → List (Int × Int)
 | []=>[]
 | s :: ss=>tsS s ++ tsL ss
end
theorem tcL_map : ∀ l : List Co,tcL l = (l.map tcC).flatten
 | []=>rfl
 | c :: cs=>by rw [tcL,tcL_map cs]; rfl
theorem tsL_map : ∀ l : List Sp,tsL l = (l.map tsS).flatten
 | []=>rfl
 | c :: cs=>by rw [tsL,tsL_map cs]; rfl
theorem tcL_take {l : List Co} {i : Nat} (h : i < l.length) : tcL (l.take (i + 1)) = tcL (l.take i) ++ tcC l[i]:=by
 rw [tcL_map,tcL_map,take_next h,List.map_append,List.flatten_append]; simp
theorem tsL_take {l : List Sp} {i : Nat} (h : i < l.length) : tsL (l.take (i + 1)) = tsL (l.take i) ++ tsS l[i]:=by
 rw [tsL_map,tsL_map,take_next h,List.map_append,List.flatten_append]; simp
theorem tsS_eq (s : Sp) : tsS s = tcC s.cond ++ tsL s.thn ++ tsL s.els:=by cases s; rw [tsS]; rfl
structure Q4 where
 (a b c d : List Int)
 deriving Inhabited
def Q4.add (q : Q4) (p : Int × Int) : Q4:=if p.1 = 1 then { q with a:=q.a ++ [p.2] } else if p.1 = 2 then { q with b:=q.b ++ [p.2] } else if p.1 = 3 then { q with c:=q.c ++ [p.2] } else if p.1 = 4 then { q with d:=q.d ++ [p.2] } else q
def Q4.adds (q : Q4) (l : List (Int × Int)) : Q4:=l.foldl Q4.add q
theorem Q4.adds_app (q : Q4) (l m : List (Int × Int)) : q.adds (l ++ m) = (q.adds l).adds m:=List.foldl_append
def Q4.le (q : Q4) (n : Nat) : Prop:=q.a.length ≤ n ∧ q.b.length ≤ n ∧ q.c.length ≤ n ∧ q.d.length ≤ n
theorem Q4.le_add {q : Q4} {n : Nat} (h : q.le n) (p : Int × Int) : (q.add p).le (n + 1):=by
 obtain ⟨h1,h2,h3,h4⟩:=h
 unfold Q4.add Q4.le
 split
 ·simp; omega
 split
 ·simp; omega
 split
 ·simp; omega
 split
 ·simp; omega
 ·omega
theorem Q4.le_adds : ∀ {l : List (Int × Int)} {q : Q4} {n : Nat},q.le n → (q.adds l).le (n + l.length)
 | [],q,n,h=>h
 | p :: l,q,n,h=>by
  have:=Q4.le_adds (l:=l) (q.le_add h p |> fun h=>h)
  rw [List.length_cons,show n + (l.length + 1) = n + 1 + l.length by omega]
  exact this
def tA (q : Q4) : List Blk:=[.cells [.nil,.own 1 q.a.length 0 q.a.length,.own 2 q.b.length 0 q.b.length,.own 3 q.c.length 0 q.c.length,.own 4 q.d.length 0 q.d.length],.row q.a.length 1 (rdI q.a),.row q.b.length 1 (rdI q.b),.row q.c.length 1 (rdI q.c),.row q.d.length 1 (rdI q.d)]
def tB (q : Q4) : List Blk:=tA q ++ [.cells [.ptr 0 0],.cells [.fn 101 [.ptr 5 0,.ptr 6 0]]]
theorem tA_bel' (n : Nat) (q : Q4) (h : 5 ≤ n) : belB n (tA q) = true:=by
 have h1 : ∀ k,k < 5 → decide (k < n) = true:=fun k hk=>zw19 (by omega)
 unfold tA
 simp only [belB,Blk.bel,V.belL,V.bel,rdI_bel,h1 1 (by decide),h1 2 (by decide),h1 3 (by decide),h1 4 (by decide),Bool.and_true,Bool.true_and]
theorem tA_bel (q : Q4) : belB 5 (tA q) = true:=tA_bel' 5 q (zw21 5)
theorem tB_bel (q : Q4) : belB 7 (tB q) = true:=by
 have:=tA_bel' 7 q (by decide)
 unfold tA at this
 unfold tB tA
 simp only [belB,Blk.bel,V.belL,V.bel,List.cons_append,List.nil_append,rdI_bel,Bool.and_true,Bool.true_and] at this ⊢
 rfl
def TcCall (c : Co) : Prop:=∀ (q : Q4) (n : Nat),q.le n → n + (tcC c).length ≤ 1000000 → CallP C 101 [.agg (c.cells.map .d),.ptr 5 0,.ptr 6 0] (tB q) fun X L'=>X = .tup [] ∧ L' = tB (q.adds (tcC c))
theorem TcCall.sub {c : Co} (h : TcCall c) {q : Q4} {n : Nat} (hq : q.le n) (hn : n + (tcC c).length ≤ 1000000) {E : List Blk} {k : V → List Blk → Prop} (hk : k (.tup []) (tB (q.adds (tcC c)) ++ E)) :
  CallP C 101 [.agg (c.cells.map .d),.ptr 5 0,.ptr 6 0] (tB q ++ E) k :=
 CallP.pre (h q n hq hn) (tB_bel q) rfl (by rw [Co.cells_eq]; rfl) fun X L1 hX=>by
  obtain ⟨rfl,rfl⟩:=hX
  exact ⟨rfl,tB_bel _,rfl,hk⟩
theorem row_push (a : List Int) (n : Int) : (rdI a).take a.length ++ [[I n]] = rdI (a ++ [n]):=by
 unfold rdI; rw [List.take_of_length_le (by simp)]; simp
theorem tB_add1 (q : Q4) (n : Int) : [Blk.cells [V.nil,V.own 1 (q.a.length + 1) 0 (q.a.length + 1),V.own 2 q.b.length 0 q.b.length,V.own 3 q.c.length 0 q.c.length,V.own 4 q.d.length 0 q.d.length],.row (q.a.length + 1) 1 ((rdI q.a).take q.a.length ++ [[I n]]),.row q.b.length 1 (rdI q.b),.row q.c.length 1 (rdI q.c),.row q.d.length 1 (rdI q.d),.cells [.ptr 0 0],.cells [.fn 101 [.ptr 5 0,.ptr 6 0]]] = tB (q.add (1,n)):=by
 have e : q.add (1,n) = ⟨q.a ++ [n],q.b,q.c,q.d⟩:=rfl
 rw [row_push,e]
 unfold tB tA
 simp only [List.length_append,List.length_singleton]
 rfl
theorem tB_add2 (q : Q4) (n : Int) : [Blk.cells [V.nil,V.own 1 q.a.length 0 q.a.length,V.own 2 (q.b.length + 1) 0 (q.b.length + 1),V.own 3 q.c.length 0 q.c.length,V.own 4 q.d.length 0 q.d.length],.row q.a.length 1 (rdI q.a),.row (q.b.length + 1) 1 ((rdI q.b).take q.b.length ++ [[I n]]),.row q.c.length 1 (rdI q.c),.row q.d.length 1 (rdI q.d),.cells [.ptr 0 0],.cells [.fn 101 [.ptr 5 0,.ptr 6 0]]] = tB (q.add (2,n)):=by
 have e : q.add (2,n) = ⟨q.a,q.b ++ [n],q.c,q.d⟩:=rfl
 rw [row_push,e]
 unfold tB tA
 simp only [List.length_append,List.length_singleton]
 rfl
theorem tB_add3 (q : Q4) (n : Int) : [Blk.cells [V.nil,V.own 1 q.a.length 0 q.a.length,V.own 2 q.b.length 0 q.b.length,V.own 3 (q.c.length + 1) 0 (q.c.length + 1),V.own 4 q.d.length 0 q.d.length],.row q.a.length 1 (rdI q.a),.row q.b.length 1 (rdI q.b),.row (q.c.length + 1) 1 ((rdI q.c).take q.c.length ++ [[I n]]),.row q.d.length 1 (rdI q.d),.cells [.ptr 0 0],.cells [.fn 101 [.ptr 5 0,.ptr 6 0]]] = tB (q.add (3,n)):=by
 have e : q.add (3,n) = ⟨q.a,q.b,q.c ++ [n],q.d⟩:=rfl
 rw [row_push,e]
 unfold tB tA
 simp only [List.length_append,List.length_singleton]
 rfl
theorem tB_add4 (q : Q4) (n : Int) : [Blk.cells [V.nil,V.own 1 q.a.length 0 q.a.length,V.own 2 q.b.length 0 q.b.length,V.own 3 q.c.length 0 q.c.length,V.own 4 (q.d.length + 1) 0 (q.d.length + 1)],.row q.a.length 1 (rdI q.a),.row q.b.length 1 (rdI q.b),.row q.c.length 1 (rdI q.c),.row (q.d.length + 1) 1 ((rdI q.d).take q.d.length ++ [[I n]]),.cells [.ptr 0 0],.cells [.fn 101 [.ptr 5 0,.ptr 6 0]]] = tB (q.add (4,n)):=by
 have e : q.add (4,n) = ⟨q.a,q.b,q.c,q.d ++ [n]⟩:=rfl
 rw [row_push,e]
 unfold tB tA
 simp only [List.length_append,List.length_singleton]
 rfl
theorem tB_bel8 (q : Q4) (ds : List D) (n : Nat) (h : 7 ≤ n) : belB n (tB q ++ [.cells (ds.map .d)]) = true:=by
 have:=tA_bel' n q (by omega)
 have hd : V.belL n (ds.map .d) = true:=by
  induction ds with
  | nil=>rfl
  | cons d ds ih=>simp only [List.map_cons,V.belL,V.bel,ih,Bool.and_self]
 have h1 : ∀ k,k < 7 → decide (k < n) = true:=fun k hk=>zw19 (by omega)
 unfold tA at this
 unfold tB tA
 simp only [belB,Blk.bel,V.belL,V.bel,List.cons_append,List.nil_append,rdI_bel,Bool.and_true,Bool.true_and,hd,h1 0 (by decide),h1 5 (by decide),h1 6 (by decide)] at this ⊢
 exact this
theorem Q4.le.le_adds' {q : Q4} {n : Nat} (h : q.le n) (l : List (Int × Int)) : (q.adds l).le (n + l.length):=Q4.le_adds h
theorem tc_s : ∀ (m : Nat) (c : Co),SizeOf.sizeOf c ≤ m → vCo c = true ∨ isZ c = true → LCo c → TcCall c
 | 0,c,hz,_,_=>absurd hz (by cases c; simp)
 | m + 1,.mk kd v nn ps,hz,hvc,hlc=>by
  intro q n hq hn
  have hpl : ps.length ≤ 4398046511104:=hlc.len
  rw [Co.cells_eq]
  simp only [Co.kind,Co.var,Co.n,Co.parts]
  by_cases k1 : kd = 1
  ·subst k1
   have hvc : vCo (.mk 1 v nn ps) = true:=hvc.resolve_right fun h=>by
    unfold isZ at h
    rw [Bool.and_eq_true,Bool.and_eq_true,Bool.and_eq_true,decide_eq_true_eq] at h
    have h1 : (1 : Int) = 0:=h.1.1.1
    omega
   rw [vCo,if_pos rfl] at hvc
   simp only [Bool.and_eq_true,decide_eq_true_eq] at hvc
   have hps : ps = []:=by
    cases ps with
    | nil=>rfl
    | cons a r=>simp at hvc; omega
   subst hps
   have hlt : ¬ (0 : Int) < ((0 : Nat) : Int):=by omega
   by_cases h1 : lo v < nn
   ·by_cases h2 : nn ≤ hi v
    ·have he : tcC (.mk 1 v nn []) = [(v,nn)]:=by rw [tcC,if_pos ⟨rfl,h1,h2⟩,tcL]; rfl
     rw [he] at hn ⊢
     have hv4 : v = 1 ∨ v = 2 ∨ v = 3 ∨ v = 4:=by omega
     obtain ⟨q1,q2,q3,q4⟩:=hq
     simp only [List.length_singleton] at hn
     rcases hv4 with rfl | rfl | rfl | rfl
     ·have hap : ∀ {X : Prop},X → Need (q.a.length + 1 ≤ 4294967296) X:=fun h=>zw6 (by omega) h
      refine zw24 C_ok Tryz.func101 rfl rfl rfl (zw18 rfl) rfl ?_
      repeat' ((conv=>whnf); first|refine zw8 (zw19 (show (1 : Int) = 1 from rfl)) ?_|refine zw8 (zw19 h1) ?_|refine zw8 (zw19 h2) ?_|refine bounds_c _ ?_)
      conv=>whnf
      refine DrawP.por mixed [] [[(0,4),(1,0),(2,4),(3,3),(4,0),(5,3),(6,0),(7,3),(8,3),(9,0),(10,0),(11,0),(12,0),(13,0),(14,0),(15,0)]] (by kernel_rfl) ?_
      repeat' ((conv=>whnf); first|refine zw30 1 rfl (by decide) ?_|simp only [Nat.beq_refl,Bool.and_self]|refine hap ?_|refine LoopP.unroll ?_|refine zw9 (zw20 hlt) ?_)
      conv=>whnf
      exact zw15 (n:=7) (Eq.trans rfl (tB_add1 q nn)) (zw21 7) rfl (tB_bel _) ⟨rfl,rfl⟩
     ·have hap : ∀ {X : Prop},X → Need (q.b.length + 1 ≤ 4294967296) X:=fun h=>zw6 (by omega) h
      refine zw24 C_ok Tryz.func101 rfl rfl rfl (zw18 rfl) rfl ?_
      repeat' ((conv=>whnf); first|refine zw8 (zw19 (show (1 : Int) = 1 from rfl)) ?_|refine zw8 (zw19 h1) ?_|refine zw8 (zw19 h2) ?_|refine bounds_c _ ?_)
      conv=>whnf
      refine DrawP.por mixed [] [[(0,4),(1,0),(2,4),(3,3),(4,0),(5,3),(6,0),(7,3),(8,3),(9,0),(10,0),(11,0),(12,0),(13,0),(14,0),(15,0)]] (by kernel_rfl) ?_
      repeat' ((conv=>whnf); first|refine zw30 2 rfl (by decide) ?_|simp only [Nat.beq_refl,Bool.and_self]|refine hap ?_|refine LoopP.unroll ?_|refine zw9 (zw20 hlt) ?_)
      conv=>whnf
      exact zw15 (n:=7) (Eq.trans rfl (tB_add2 q nn)) (zw21 7) rfl (tB_bel _) ⟨rfl,rfl⟩
     ·have hap : ∀ {X : Prop},X → Need (q.c.length + 1 ≤ 4294967296) X:=fun h=>zw6 (by omega) h
      refine zw24 C_ok Tryz.func101 rfl rfl rfl (zw18 rfl) rfl ?_
      repeat' ((conv=>whnf); first|refine zw8 (zw19 (show (1 : Int) = 1 from rfl)) ?_|refine zw8 (zw19 h1) ?_|refine zw8 (zw19 h2) ?_|refine bounds_c _ ?_)
      conv=>whnf
      refine DrawP.por mixed [] [[(0,4),(1,0),(2,4),(3,3),(4,0),(5,3),(6,0),(7,3),(8,3),(9,0),(10,0),(11,0),(12,0),(13,0),(14,0),(15,0)]] (by kernel_rfl) ?_
      repeat' ((conv=>whnf); first|refine zw30 3 rfl (by decide) ?_|simp only [Nat.beq_refl,Bool.and_self]|refine hap ?_|refine LoopP.unroll ?_|refine zw9 (zw20 hlt) ?_)
      conv=>whnf
      exact zw15 (n:=7) (Eq.trans rfl (tB_add3 q nn)) (zw21 7) rfl (tB_bel _) ⟨rfl,rfl⟩
     ·have hap : ∀ {X : Prop},X → Need (q.d.length + 1 ≤ 4294967296) X:=fun h=>zw6 (by omega) h
      refine zw24 C_ok Tryz.func101 rfl rfl rfl (zw18 rfl) rfl ?_
      repeat' ((conv=>whnf); first|refine zw8 (zw19 (show (1 : Int) = 1 from rfl)) ?_|refine zw8 (zw19 h1) ?_|refine zw8 (zw19 h2) ?_|refine bounds_c _ ?_)
      conv=>whnf
      refine DrawP.por mixed [] [[(0,4),(1,0),(2,4),(3,3),(4,0),(5,3),(6,0),(7,3),(8,3),(9,0),(10,0),(11,0),(12,0),(13,0),(14,0),(15,0)]] (by kernel_rfl) ?_
      repeat' ((conv=>whnf); first|refine zw30 4 rfl (by decide) ?_|simp only [Nat.beq_refl,Bool.and_self]|refine hap ?_|refine LoopP.unroll ?_|refine zw9 (zw20 hlt) ?_)
      conv=>whnf
      exact zw15 (n:=7) (Eq.trans rfl (tB_add4 q nn)) (zw21 7) rfl (tB_bel _) ⟨rfl,rfl⟩
    ·have he : tcC (.mk 1 v nn []) = []:=by rw [tcC,if_neg (fun h=>h2 h.2.2),tcL]; rfl
     rw [he]
     refine zw24 C_ok Tryz.func101 rfl rfl rfl (zw18 rfl) rfl ?_
     repeat' ((conv=>whnf); first|refine zw8 (zw19 (show (1 : Int) = 1 from rfl)) ?_|refine zw8 (zw19 h1) ?_|refine zw9 (zw20 h2) ?_|refine bounds_c _ ?_|refine LoopP.unroll ?_|refine zw9 (zw20 hlt) ?_)
     conv=>whnf
     exact zw15 (n:=7) rfl (zw21 7) rfl (tB_bel q) ⟨rfl,rfl⟩
   ·have he : tcC (.mk 1 v nn []) = []:=by rw [tcC,if_neg (fun h=>h1 h.2.1),tcL]; rfl
    rw [he]
    refine zw24 C_ok Tryz.func101 rfl rfl rfl (zw18 rfl) rfl ?_
    repeat' ((conv=>whnf); first|refine zw8 (zw19 (show (1 : Int) = 1 from rfl)) ?_|refine zw9 (zw20 h1) ?_|refine bounds_c _ ?_|refine LoopP.unroll ?_|refine zw9 (zw20 hlt) ?_)
    conv=>whnf
    exact zw15 (n:=7) rfl (zw21 7) rfl (tB_bel q) ⟨rfl,rfl⟩
  ·have he : tcC (.mk kd v nn ps) = tcL ps:=by rw [tcC,if_neg (fun h=>k1 h.1)]; rfl
   rw [he] at hn ⊢
   have hvs : vCos ps = true:=by
    rcases hvc with hvc | hvc
    rotate_left
    ·unfold isZ at hvc
     rw [Bool.and_eq_true,decide_eq_true_eq (p:=(((Co.mk kd v nn ps).parts.length : Int) = 0))] at hvc
     have h1 : (ps.length : Int) = 0:=hvc.2
     have : ps = []:=List.length_eq_zero_iff.1 (by omega)
     rw [this]; rfl
    rw [vCo,if_neg k1] at hvc
    split at hvc
    ·simp only [Bool.and_eq_true] at hvc; exact hvc.2
    ·split at hvc
     ·simp only [Bool.and_eq_true] at hvc; exact hvc.2
     ·cases hvc
   refine zw24 C_ok Tryz.func101 rfl rfl rfl (zw18 rfl) rfl ?_
   repeat' ((conv=>whnf); refine zw9 (zw20 k1) ?_)
   conv=>whnf
   refine zw26 (fun i=>i ≤ ps.length) (fun i=>⟨[(2,.ptr 6 0),(43,.d (cos ps)),(44,I ps.length),(45,I i)],Tryz.f101.ntmps,tB (q.adds (tcL (ps.take i))) ++ [.cells ([DI kd,DI v,DI nn,cos ps].map .d)],[],none⟩) (fun i=>ps.length - i) 0 (zw22 _) ?_ ?_
   ·exact zw28 8 rfl (zw18 rfl) (zw18 rfl) ⟨rfl,rfl,congrArg I (by simp),rfl,trivial⟩ (hB:=tB_bel8 _ _ 8 (by decide))
   intro i hi
   by_cases hi' : i < ps.length
   ·have hlt : (i : Int) < (ps.length : Int):=by omega
    have hw:=zwW i (by omega)
    have r1 : (ps.map Co.cells)[i]? = some [DI ps[i].kind,DI ps[i].var,DI ps[i].n,cos ps[i].parts]:=by rw [List.getElem?_map,List.getElem?_eq_getElem hi',← Co.cells_eq]; rfl
    have hm : ps[i] ∈ ps:=List.getElem_mem hi'
    have hsz : SizeOf.sizeOf ps[i] < SizeOf.sizeOf ps:=List.sizeOf_lt_of_mem hm
    have htk:=tcL_take hi'
    have ih:=tc_s m ps[i] (by simp only [Co.mk.sizeOf_spec] at hz; omega) (.inl (vCos_mem hvs _ hm)) (hlc.sub _ hm)
    have hsum : (tcL (ps.take (i + 1))).length ≤ (tcL ps).length:=by
     rw [← List.take_append_drop (i + 1) ps]
     rw [List.take_append_drop,tcL_map ps,tcL_map]
     have : (ps.map tcC) = (ps.take (i + 1)).map tcC ++ (ps.drop (i + 1)).map tcC:=by rw [← List.map_append,List.take_append_drop]
     rw [this,List.flatten_append,List.length_append]; omega
    rw [htk,List.length_append] at hsum
    have hq':=hq.le_adds' (tcL (ps.take i))
    have hcall : ∀ {E : List Blk} {k : V → List Blk → Prop},k (.tup []) (tB (q.adds (tcL (ps.take (i + 1)))) ++ E) → CallP C 101 [.agg [I ps[i].kind,I ps[i].var,I ps[i].n,.d (cos ps[i].parts)],.ptr 5 0,.ptr 6 0] (tB (q.adds (tcL (ps.take i))) ++ E) k:=fun h=>by
     have:=ih.sub hq' (by omega) (by rw [← Q4.adds_app,← htk]; exact h)
     rw [Co.cells_eq] at this; exact this
    repeat' ((conv=>whnf); first|refine zw8 (zw19 hlt) ?_|refine zw10 i _ rfl r1 ?_|refine hcall ?_|refine zw6 rfl ?_)
    conv=>whnf
    exact ⟨i + 1,hi',by omega,Weak.to 8 rfl (zw18 rfl) (zw18 rfl) ⟨rfl,rfl,rfl,congrArg I hw,trivial⟩ (hB:=tB_bel8 _ _ 8 (by decide))⟩
   ·have hlt : ¬ (i : Int) < (ps.length : Int):=by omega
    rw [List.take_of_length_le (show ps.length ≤ i by omega)]
    repeat' ((conv=>whnf); refine zw9 (zw20 hlt) ?_)
    conv=>whnf
    exact zw15 (n:=7) rfl (zw21 7) rfl (tB_bel _) ⟨rfl,rfl⟩
def TsCall (l : List Sp) : Prop:=∀ (q : Q4) (n : Nat),q.le n → n + (tsL l).length ≤ 1000000 → CallP C 65 [.d (sps l),.ptr 0 0] (tA q) fun X L'=>X = .tup [] ∧ L' = tA (q.adds (tsL l))
theorem TsCall.sub {l : List Sp} (h : TsCall l) {q : Q4} {n : Nat} (hq : q.le n) (hn : n + (tsL l).length ≤ 1000000) {E : List Blk} {k : V → List Blk → Prop} (hk : k (.tup []) (tA (q.adds (tsL l)) ++ E)) :
  CallP C 65 [.d (sps l),.ptr 0 0] (tA q ++ E) k :=
 CallP.pre (h q n hq hn) (tA_bel q) rfl rfl fun X L1 hX=>by
  obtain ⟨rfl,rfl⟩:=hX
  exact ⟨rfl,tA_bel _,rfl,hk⟩
theorem tsL_sum {l : List Sp} {i : Nat} (h : i < l.length) : (tsL (l.take i)).length + (tcC l[i].cond).length + (tsL l[i].thn).length + (tsL l[i].els).length ≤ (tsL l).length:=by
 have h1:=tsL_take h
 have h2 : (tsL (l.take (i + 1))).length ≤ (tsL l).length:=by
  rw [tsL_map l,tsL_map]
  have : (l.map tsS) = (l.take (i + 1)).map tsS ++ (l.drop (i + 1)).map tsS:=by rw [← List.map_append,List.take_append_drop]
  rw [this,List.flatten_append,List.length_append]; omega
 rw [h1,tsS_eq] at h2
 simp only [List.length_append] at h2
 omega
theorem ts_s : ∀ (m : Nat) (l : List Sp),SizeOf.sizeOf l ≤ m → vSps l = true → LSs l → TsCall l
 | 0,l,hz,_,_=>absurd hz (by cases l <;> simp)
 | m + 1,l,hz,hv,hl=>by
  intro q n hq hn
  have hlen:=hl.len
  refine zw24 C_ok Tryz.func65 rfl rfl rfl (zw18 rfl) rfl ?_
  skip
  conv=>whnf
  refine zw26 (fun i=>i ≤ l.length) (fun i=>⟨[(3,.ptr 5 0),(4,.ptr 6 0),(8,.d (sps l)),(9,I l.length),(10,I i)],Tryz.f65.ntmps,tB (q.adds (tsL (l.take i))),[],none⟩) (fun i=>l.length - i) 0 (zw22 _) ?_ ?_
  ·exact zw28 7 rfl (zw18 rfl) (zw18 rfl) ⟨rfl,rfl,rfl,congrArg I (by simp),rfl,trivial⟩ (hB:=tB_bel _)
  intro i hi
  by_cases hi' : i < l.length
  ·have hlt : (i : Int) < (l.length : Int):=by omega
   have hw:=zwW i (by omega)
   have r1 : (l.map Sp.cells)[i]? = some [DI l[i].kind,DI l[i].by_,DI l[i].cond.kind,DI l[i].cond.var,DI l[i].cond.n,cos l[i].cond.parts,sps l[i].thn,sps l[i].els]:=by rw [List.getElem?_map,List.getElem?_eq_getElem hi',← Sp.cells_eq]; rfl
   have hm : l[i] ∈ l:=List.getElem_mem hi'
   have hsz : SizeOf.sizeOf l[i] < SizeOf.sizeOf l:=List.sizeOf_lt_of_mem hm
   have hsum:=tsL_sum hi'
   have htk:=tsL_take hi'
   rw [tsS_eq] at htk
   have hvs:=vSps_mem hv _ hm
   have hls:=hl.all _ hm
   have q1:=hq.le_adds' (tsL (l.take i))
   obtain ⟨s,hs⟩ : ∃ s,s = l[i]:=⟨_,rfl⟩
   rw [← hs] at r1 hsz hsum htk hvs hls
   have q2:=q1.le_adds' (tcC s.cond)
   have q3:=q2.le_adds' (tsL s.thn)
   have hfin : (((q.adds (tsL (l.take i))).adds (tcC s.cond)).adds (tsL s.thn)).adds (tsL s.els) = q.adds (tsL (l.take (i + 1))):=by
    rw [htk,← Q4.adds_app,← Q4.adds_app,← Q4.adds_app]; simp only [List.append_assoc]
   obtain ⟨h1,h2,hlc,ht,he⟩:=hls
   cases s with | mk kd b c t e =>
   simp only [Sp.mk.sizeOf_spec] at hsz
   simp only [Sp.cond,Sp.thn,Sp.els,Sp.kind,Sp.by_] at *
   have hok : (vCo c = true ∨ isZ c = true) ∧ vSps t = true ∧ vSps e = true:=by
    rw [vSp] at hvs
    split at hvs
    ·simp only [Bool.and_eq_true,decide_eq_true_eq] at hvs
     have t0 : t = []:=List.length_eq_zero_iff.1 (by omega)
     have e0 : e = []:=List.length_eq_zero_iff.1 (by omega)
     subst t0 e0
     exact ⟨.inr hvs.1.2,rfl,rfl⟩
    ·split at hvs
     ·simp only [Bool.and_eq_true,decide_eq_true_eq] at hvs
      exact ⟨.inl hvs.1.1.1.2,hvs.1.2,hvs.2⟩
     ·cases hvs
   have ic:=tc_s _ c (zw21 _) hok.1 hlc
   have i1:=ts_s m t (by omega) hok.2.1 ⟨h1,ht⟩
   have i2:=ts_s m e (by omega) hok.2.2 ⟨h2,he⟩
   generalize q.adds (tsL (l.take i)) = qa at *
   generalize hqb : qa.adds (tcC c) = qb at *
   generalize hqc : qb.adds (tsL t) = qc at *
   generalize hqd : qc.adds (tsL e) = qd at *
   have c1 : ∀ {E : List Blk} {k : V → List Blk → Prop},k (.tup []) (tB qb ++ E) → CallP C 101 [.agg [I c.kind,I c.var,I c.n,.d (cos c.parts)],.ptr 5 0,.ptr 6 0] (tB qa ++ E) k:=fun h=>by
    have:=ic.sub q1 (by omega) (by rw [hqb]; exact h)
    rw [Co.cells_eq] at this; exact this
   have c2 : ∀ {E : List Blk} {k : V → List Blk → Prop},k (.tup []) (tA qc ++ E) → CallP C 65 [.d (sps t),.ptr 0 0] (tA qb ++ E) k:=fun h=>i1.sub q2 (by omega) (by rw [hqc]; exact h)
   have c3 : ∀ {E : List Blk} {k : V → List Blk → Prop},k (.tup []) (tA qd ++ E) → CallP C 65 [.d (sps e),.ptr 0 0] (tA qc ++ E) k:=fun h=>i2.sub q3 (by omega) (by rw [hqd]; exact h)
   repeat' ((conv=>whnf); first|refine zw8 (zw19 hlt) ?_|refine zw10 i _ rfl r1 ?_|refine c1 ?_|refine c2 ?_|refine c3 ?_|refine zw6 rfl ?_)
   conv=>whnf
   exact ⟨i + 1,hi',by omega,Weak.to 7 (Eq.trans rfl (congrArg tB hfin)) (zw18 rfl) (zw18 rfl) ⟨rfl,rfl,rfl,rfl,congrArg I hw,trivial⟩ (hB:=tB_bel _)⟩
  ·have hlt : ¬ (i : Int) < (l.length : Int):=by omega
   rw [List.take_of_length_le (show l.length ≤ i by omega)]
   repeat' ((conv=>whnf); refine zw9 (zw20 hlt) ?_)
   conv=>whnf
   exact zw15 (n:=5) rfl (zw21 5) rfl (tA_bel _) ⟨rfl,rfl⟩
theorem backward_c (vs : List Int) (h : k (.d (.fn 105 [.rptr [ins vs]])) L) : CallP C 71 [.d (ins vs)] L k:=by
 refine zw25 ?_ rfl (fun _=>rfl) h
 clear h
 refine zw24 C_ok Tryz.func71 rfl rfl rfl (zw18 rfl) rfl ?_
 skip
 conv=>whnf
 exact zw16 (L':=[]) (.d (.fn _ _ _ rfl (CvL.get (.cons (.ptrL (zw22 _) rfl (.cons (.d _) .nil)) .nil)).2)) rfl rfl ⟨rfl,rfl⟩
def bkX (vs : List Int) : List (List V):=(List.range vs.length).map fun c : Nat=>[I ((vs.length : Int) - 1 - c),I (vs.getD (vs.length - 1 - c) 0)]
theorem backward1_it (vs : List Int) (hl : vs.length ≤ 1073741824) : IterP C 105 [.rptr [ins vs]] (bkX vs):=by
 intro b N P S k hS hbS hdS hb hy h0 hP
 have len : (bkX vs).length = vs.length:=by unfold bkX; simp
 refine zw24 C_ok Tryz.func105 rfl rfl rfl (zw18 rfl) rfl ?_
 skip
 conv=>whnf
 refine zw26 (fun c : Nat=>c ≤ vs.length ∧ P c) (fun c=>⟨[(0,.yld b),(1,.d (.rptr [ins vs])),(3,I ((vs.length : Int) - 1 - c))],Tryz.f105.ntmps,S c,[],none⟩) (fun c=>vs.length - c) 0 ⟨zw22 _,hP⟩ ?_ ?_
 ·exact zw27 ⟨rfl,rfl,congrArg I (by rw [List.length_map,wrap_in (by omega)]; omega),trivial⟩
 rintro c ⟨hc,hPc⟩
 by_cases hc' : c < vs.length
 ·have hge : (0 : Int) ≤ (vs.length : Int) - 1 - c:=by omega
  have hw : IntKind.i64.wrap ((vs.length : Int) - 1 - c - 1) = (vs.length : Int) - 1 - ((c + 1 : Nat) : Int):=by rw [wrap_in (by omega)]; omega
  have hix : (vs.length : Int) - 1 - c = ((vs.length - 1 - c : Nat) : Int):=by omega
  have r1 : (vs.map fun n=>[DI n])[vs.length - 1 - c]? = some [DI (vs.getD (vs.length - 1 - c) 0)]:=by rw [List.getElem?_map,List.getElem?_eq_getElem (show vs.length - 1 - c < vs.length by omega),getD_at (show vs.length - 1 - c < vs.length by omega)]; rfl
  have hyc:=hy c (by omega) hPc
  have hxs : (bkX vs)[c]'(by omega) = [I ((vs.length : Int) - 1 - c),I (vs.getD (vs.length - 1 - c) 0)]:=by unfold bkX; rw [List.getElem_map,List.getElem_range]
  rw [hxs] at hyc
  repeat' ((conv=>whnf); first|refine zw8 (zw19 hge) ?_|refine zw10 (vs.length - 1 - c) _ hix r1 ?_|refine zw6 rfl ?_)
  conv=>whnf
  refine YieldP.mono hyc ?_
  rintro X M (⟨rfl,rfl,hP1⟩ | ⟨rfl,hz1,hz2,hz3⟩)
  ·repeat' (conv => whnf
            first|refine zw1 ?_)
   conv=>whnf
   exact ⟨c + 1,⟨hc',hP1⟩,by omega,Weak.by ⟨rfl,rfl,congrArg I hw,trivial⟩⟩
  ·repeat' (conv => whnf
            first|refine zw0 ?_)
   conv=>whnf
   exact zw15 (n:=N) (List.take_of_length_le (Nat.le_of_eq hz1)) (Nat.le_of_eq (hS 0)) rfl hz2 hz3
 ·have hge : ¬ (0 : Int) ≤ (vs.length : Int) - 1 - c:=by omega
  have hcl : c = vs.length:=by omega
  subst hcl
  repeat' ((conv=>whnf); refine zw9 (zw20 hge) ?_)
  conv=>whnf
  exact zw15 (n:=N) (List.take_of_length_le (Nat.le_of_eq (hS _))) (Nat.le_of_eq (hS 0)) rfl (hbS _) (by have:=h0; rw [len] at this; exact this hPc)
def rdN (F : List Nd) : List (List V):=F.map fun x=>x.cells.map .d
theorem rdN_bel (n : Nat) : ∀ F : List Nd,belR n (rdN F) = true
 | []=>rfl
 | x :: F=>by
  have:=rdN_bel n F
  unfold rdN at this ⊢
  simp only [List.map_cons,belR,this,Bool.and_true]
  rfl
def esF (F : List Nd) : List (V × V):=(List.range F.length).map fun i=>(keyV' (ndA F i),I i)
theorem esF_keys (F : List Nd) : (esF F).map (·.1) = F.map keyV':=by
 unfold esF
 rw [List.map_map]
 refine List.ext_getElem (by simp) fun i h1 h2=>?_
 simp only [List.length_map,List.length_range] at h1
 rw [List.getElem_map,List.getElem_map,List.getElem_range,← ndA_get h1]; rfl
theorem esF_bel (n : Nat) (F : List Nd) : belM n (esF F) = true:=by
 unfold esF
 induction List.range F.length with
 | nil=>rfl
 | cons i r ih=>simp only [List.map_cons,belM,keyV',V.bel,V.belL,Bool.and_true,Bool.true_and,Bool.and_self]; exact ih
theorem esF_snoc (F : List Nd) (x : Nd) : esF F ++ [(keyV' x,I F.length)] = esF (F ++ [x]):=by
 unfold esF
 rw [List.length_append,List.length_singleton,List.range_succ,List.map_append]
 congr 1
 ·refine List.map_congr_left fun i hi=>?_
  rw [ndA_pre (List.prefix_append F [x]) (List.mem_range.1 hi)]
 ·simp only [List.map_cons,List.map_nil]
  rw [ndA_get (by simp)]
  simp
theorem MapF.kyF {F : List Nd} {a : Nd} (ha : KyOk a) (hks : ∀ x ∈ F,KyOk x) {q : Option (Nat × V) → Prop} (h1 : a ∈ F → q (some (F.idxOf a,I (F.idxOf a)))) (h2 : a ∉ F → q none) : MapF tkK (esF F) (keyV' a) q :=
 MapF.kyG (esF_keys F) ha hks (fun hm v hv=>by
  have hi:=List.idxOf_lt_length_of_mem hm
  unfold esF at hv
  rw [List.getElem?_map,List.getElem?_range hi] at hv
  simp only [Option.map_some,Option.some.injEq,Prod.mk.injEq] at hv
  rw [← hv.2]
  exact h1 hm) h2
def fS (F : List Nd) : List Blk:=[.cells [.own 1 F.length 0 F.length,.map 2],.row F.length 5 (rdN F),.map (esF F)]
theorem fS_bel' (n : Nat) (h : 3 ≤ n) (F : List Nd) : belB n (fS F) = true:=by
 unfold fS
 simp only [belB,Blk.bel,V.belL,V.bel,rdN_bel,esF_bel,decide_eq_true (show 1 < n by omega),decide_eq_true (show 2 < n by omega),Bool.and_true]
theorem fS_bel (F : List Nd) : belB 3 (fS F) = true:=fS_bel' 3 (zw21 3) F
theorem rdN_snoc (F : List Nd) (x : Nd) : (rdN F).take F.length ++ [x.cells.map .d] = rdN (F ++ [x]):=by
 unfold rdN
 rw [List.take_of_length_le (by simp),List.map_append]; rfl
theorem put_c (F : List Nd) (x : Nd) (hF : ∀ y ∈ F,KyOk y) (hx : KyOk x) (hl : x.by_.length ≤ 1073741824) (hFl : F.length ≤ 1000000) :
  CallP C 70 [.ptr 0 0,ndV x] (fS F) fun X L'=>L' = fS (put F x).1 ∧ X = I (put F x).2:=by
 have hky : ∀ {L : List Blk} {k : V → List Blk → Prop},k (keyV' x) L → CallP C 104 [ndV x] L k:=fun h=>keyOf_c x hl h
 by_cases hm : x ∈ F
 ·have e : put F x = (F,F.idxOf x):=by unfold put; rw [if_pos hm]
  rw [e]
  have hmap : ∀ {q : Option (Nat × V) → Prop},q (some (F.idxOf x,I (F.idxOf x))) → MapF tkK (esF F) (keyV' x) q:=fun h=>MapF.kyF hx hF (fun _=>h) fun hn=>absurd hm hn
  refine zw24 C_ok Tryz.func70 rfl rfl rfl (zw18 rfl) rfl ?_
  repeat' ((conv=>whnf); first|refine zw1 ?_|refine zw7 mixed rfl ?_|refine hky ?_|refine hmap ?_)
  conv=>whnf
  exact zw15 (n:=3) rfl (zw21 3) rfl (fS_bel F) ⟨rfl,rfl⟩
 ·have e : put F x = (F ++ [x],F.length):=by unfold put; rw [if_neg hm,List.idxOf_eq_length hm]
  rw [e]
  have hmap : ∀ {q : Option (Nat × V) → Prop},q none → MapF tkK (esF F) (keyV' x) q:=fun h=>MapF.kyF hx hF (fun hn=>absurd hn hm) fun _=>h
  have hap : ∀ {X : Prop},X → Need (F.length + 1 ≤ 4294967296) X:=fun h=>zw6 (by omega) h
  have hend : [Blk.cells [.own 1 (F.length + 1) 0 (F.length + 1),.map 2],.row (F.length + 1) 5 ((rdN F).take F.length ++ [x.cells.map .d]),.map (esF F ++ [(keyV' x,I F.length)])] = fS (F ++ [x]):=by
   rw [rdN_snoc,esF_snoc]; unfold fS; rw [List.length_append]; rfl
  refine zw24 C_ok Tryz.func70 rfl rfl rfl (zw18 rfl) rfl ?_
  repeat' ((conv=>whnf); first|refine hky ?_|simp only [Nat.beq_refl,Bool.and_self])
  conv=>whnf
  refine DrawP.por mixed [] [[(0,0),(1,0),(2,0),(3,0),(4,0),(5,0),(6,0),(7,0),(8,0),(9,0),(10,0)]] (by kernel_rfl) ?_
  repeat' ((conv=>whnf); first|refine zw0 ?_|refine hmap ?_|simp only [Nat.beq_refl,Bool.and_self])
  conv=>whnf
  refine DrawP.por mixed [] [[(0,0),(1,0),(2,0),(3,0),(4,0),(5,0),(6,0)]] (by kernel_rfl) ?_
  repeat' ((conv=>whnf); first|refine hmap ?_|simp only [Nat.beq_refl,Bool.and_self])
  conv=>whnf
  refine DrawP.por mixed [] [[(0,0),(1,0),(2,0),(3,0),(4,3),(5,0),(6,0),(7,0),(8,0),(9,0),(10,0)]] (by kernel_rfl) ?_
  repeat' ((conv=>whnf); first|simp only [Nat.beq_refl,Bool.and_self]|refine hap ?_)
  conv=>whnf
  exact zw15 (n:=3) (Eq.trans rfl hend) (zw21 3) rfl (fS_bel _) ⟨rfl,rfl⟩
def fin : List (Int × List Int) → En → En
 | [],e=>e
 | (v,vs) :: r,e=>vs.reverse.foldl (fun e n=>fin r (setE e v n)) e
inductive Rs : Int → List (Int × List Int) → Prop
 | nil : Rs 5 []
 | cons (v : Int) (vs : List Int) (r : List (Int × List Int)) (h : Rs (v + 1) r) (h1 : 1 ≤ v) (h4 : v ≤ 4) : Rs v ((v,vs) :: r)
def Agr (w : Int) (x y : En) : Prop:=∀ u,1 ≤ u → u < w → u ≤ 4 → valF u x = valF u y
theorem Agr.all {x y : En} (h : Agr 5 x y) : x = y:=by
 have h1:=h 1 (by decide) (by decide) (by decide)
 have h2:=h 2 (by decide) (by decide) (by decide)
 have h3:=h 3 (by decide) (by decide) (by decide)
 have h4:=h 4 (by decide) (by decide) (by decide)
 cases x; cases y
 simp [valF] at h1 h2 h3 h4
 subst h1 h2 h3 h4; rfl
theorem Agr.set {x y : En} {v : Int} (hv : 1 ≤ v ∧ v ≤ 4) (h : Agr v x y) (n : Int) : Agr (v + 1) (setE x v n) (setE y v n):=fun u h1 h2 h3=>by
 rw [val_set hv ⟨h1,h3⟩,val_set hv ⟨h1,h3⟩]
 split
 ·rfl
 ·exact h u h1 (by omega) h3
theorem Agr.trans {w : Int} {x y z : En} (h : Agr w x y) (h' : Agr w y z) : Agr w x z:=fun u h1 h2 h3=>(h u h1 h2 h3).trans (h' u h1 h2 h3)
theorem Agr.ref (w : Int) (x : En) : Agr w x x:=fun _ _ _ _=>rfl
theorem Agr.put {x : En} {v : Int} (hv : 1 ≤ v ∧ v ≤ 4) (n : Int) : Agr v x (setE x v n):=fun u h1 h2 h3=>by
 rw [val_set hv ⟨h1,h3⟩,if_neg (by omega)]
theorem Agr.le {w w' : Int} {x y : En} (h : Agr w x y) (hw : w' ≤ w) : Agr w' x y:=fun u h1 h2 h3=>h u h1 (by omega) h3
theorem fin_agr {w : Int} {r : List (Int × List Int)} (h : Rs w r) : ∀ e,Agr w e (fin r e):=by
 induction h with
 | nil=>exact fun e=>.ref _ _
 | cons v vs r hr h1 h4 ih =>
  intro e
  rw [fin]
  generalize vs.reverse = ns
  induction ns generalizing e with
  | nil=>exact .ref _ _
  | cons n ns ih2 =>
   rw [List.foldl_cons]
   exact (Agr.put ⟨h1,h4⟩ n).trans (((ih _).le (by omega)).trans (ih2 _))
theorem bldV_agr {sub : En → List Nd → List Nd × Nat} {v : Int} (hv : 1 ≤ v ∧ v ≤ 4) (hs : ∀ x y F,Agr (v + 1) x y → sub x F = sub y F) {x y : En} (h : Agr v x y) : ∀ (ns : List Int) (F : List Nd) (s : Option (Nat × Nat × Int)),bldV sub v x ns F s = bldV sub v y ns F s
 | [],F,none=>rfl
 | [],F,some s=>rfl
 | n :: ns,F,none=>by
  rw [bldV,bldV,hs _ _ F (h.set hv n)]
  exact bldV_agr hv hs h ns _ _
 | n :: ns,F,some (t,f,m)=>by
  rw [bldV,bldV,hs _ _ F (h.set hv n)]
  split
  ·exact bldV_agr hv hs h ns _ _
  ·exact bldV_agr hv hs h ns _ _
theorem bld_agr (g : En → List Int) {w : Int} {r : List (Int × List Int)} (h : Rs w r) : ∀ x y F,Agr w x y → bld g r x F = bld g r y F:=by
 induction h with
 | nil=>intro x y F h; rw [h.all]
 | cons v vs r hr h1 h4 ih=>exact fun x y F h=>bldV_agr ⟨h1,h4⟩ ih h _ _ _
structure BS where
 F : List Nd
 s : Option (Nat × Nat × Int)
 e : En
def bst (g : En → List Int) (r : List (Int × List Int)) (v : Int) (o : BS) (n : Int) : BS :=
 match o.s with
 | none=>⟨(bld g r (setE o.e v n) o.F).1,some ((bld g r (setE o.e v n) o.F).2,(bld g r (setE o.e v n) o.F).2,n),fin r (setE o.e v n)⟩
 | some (t,f,m) =>
  if (bld g r (setE o.e v n) o.F).2 = f then ⟨(bld g r (setE o.e v n) o.F).1,some (t,f,n),fin r (setE o.e v n)⟩
  else ⟨(put (bld g r (setE o.e v n) o.F).1 ⟨v,m,t,(bld g r (setE o.e v n) o.F).2,[]⟩).1,some ((put (bld g r (setE o.e v n) o.F).1 ⟨v,m,t,(bld g r (setE o.e v n) o.F).2,[]⟩).2,(bld g r (setE o.e v n) o.F).2,n),fin r (setE o.e v n)⟩
def BS.res (o : BS) : Nat:=match o.s with
 | none=>0
 | some q=>q.1
theorem bst_e (g : En → List Int) (r : List (Int × List Int)) (v : Int) (o : BS) (n : Int) : (bst g r v o n).e = fin r (setE o.e v n):=by
 unfold bst
 split
 ·rfl
 ·split <;> rfl
theorem bst_fold (g : En → List Int) {r : List (Int × List Int)} {v : Int} (hr : Rs (v + 1) r) (hv : 1 ≤ v ∧ v ≤ 4) : ∀ (ns : List Int) (o : BS) (x : En),Agr v x o.e → bldV (bld g r) v x ns o.F o.s = ((ns.foldl (bst g r v) o).F,(ns.foldl (bst g r v) o).res) ∧ (ns.foldl (bst g r v) o).e = ns.foldl (fun e n=>fin r (setE e v n)) o.e
 | [],⟨F,none,e⟩,x,h=>⟨rfl,rfl⟩
 | [],⟨F,some (t,f,m),e⟩,x,h=>⟨rfl,rfl⟩
 | n :: ns,⟨F,s,e⟩,x,h=>by
  have hb:=bld_agr g hr _ _ F (h.set hv n)
  have h2 : Agr v x (bst g r v ⟨F,s,e⟩ n).e:=by
   rw [bst_e]
   exact (h.trans (.put hv n)).trans ((fin_agr hr _).le (by omega))
  have ih:=bst_fold g hr hv ns (bst g r v ⟨F,s,e⟩ n) x h2
  refine ⟨?_,?_⟩
  ·rw [List.foldl_cons,← ih.1]
   match s with
   | none=>rw [bldV,hb]; rfl
   | some (t,f,m) =>
    rw [bldV]
    simp only [hb]
    unfold bst
    simp only
    split <;> rfl
  ·rw [List.foldl_cons,ih.2,bst_e,List.foldl_cons]
theorem bld_fold (g : En → List Int) {r : List (Int × List Int)} {v : Int} (hr : Rs (v + 1) r) (hv : 1 ≤ v ∧ v ≤ 4) (vs : List Int) (e : En) (F : List Nd) :
  bld g ((v,vs) :: r) e F = ((vs.reverse.foldl (bst g r v) ⟨F,none,e⟩).F,(vs.reverse.foldl (bst g r v) ⟨F,none,e⟩).res) ∧ fin ((v,vs) :: r) e = (vs.reverse.foldl (bst g r v) ⟨F,none,e⟩).e :=
 ⟨by rw [bld]; exact (bst_fold g hr hv _ ⟨F,none,e⟩ e (.ref _ _)).1,by rw [(bst_fold g hr hv _ ⟨F,none,e⟩ e (.ref _ _)).2]; rfl⟩
def KyF (F : List Nd) : Prop:=∀ y ∈ F,KyOk y
theorem put_ky {F : List Nd} (h : KyF F) {x : Nd} (hx : KyOk x) : KyF (put F x).1:=by
 unfold put
 simp only
 split
 ·exact h
 ·intro y hy
  rcases List.mem_append.1 hy with hy | hy
  ·exact h y hy
  ·rw [List.mem_singleton.1 hy]; exact hx
theorem ky_in (v m : Int) (t p : Nat) : KyOk ⟨v,m,t,p,[]⟩:=⟨fun c hc=>by cases hc⟩
theorem bldV_ky {sub : En → List Nd → List Nd × Nat} (hs : ∀ x F,KyF F → KyF (sub x F).1) (v : Int) (x : En) : ∀ (ns : List Int) (F : List Nd) (s : Option (Nat × Nat × Int)),KyF F → KyF (bldV sub v x ns F s).1
 | [],F,none,h=>h
 | [],F,some s,h=>h
 | n :: ns,F,none,h=>by rw [bldV]; exact bldV_ky hs v x ns _ _ (hs _ _ h)
 | n :: ns,F,some (t,f,m),h=>by
  rw [bldV]
  split
  ·exact bldV_ky hs v x ns _ _ (hs _ _ h)
  ·exact bldV_ky hs v x ns _ _ (put_ky (hs _ _ h) (ky_in _ _ _ _))
theorem bld_ky {g : En → List Int} (hg : ∀ x,ByOk (g x)) : ∀ (r : List (Int × List Int)) (x : En) (F : List Nd),KyF F → KyF (bld g r x F).1
 | [],x,F,h=>put_ky h ⟨fun c hc=>by have:=(hg x).rg c hc; omega⟩
 | (v,vs) :: r,x,F,h=>bldV_ky (bld_ky hg r) v x _ F none h
theorem bst_ky {g : En → List Int} (hg : ∀ x,ByOk (g x)) (r : List (Int × List Int)) (v : Int) (o : BS) (n : Int) (h : KyF o.F) : KyF (bst g r v o n).F:=by
 have:=bld_ky hg r (setE o.e v n) o.F h
 unfold bst
 split
 ·exact this
 ·split
  ·exact this
  ·exact put_ky this (ky_in _ _ _ _)
theorem bst_len (g : En → List Int) (r : List (Int × List Int)) (v : Int) (o : BS) (n : Int) : (bst g r v o n).F.length ≤ o.F.length + (bndB r + 1):=by
 have:=bld_len g r (setE o.e v n) o.F
 unfold bst
 split
 ·simp only; omega
 ·split
  ·simp only; omega
  ·rename_i t f m _ _
   have h2:=put_len (bld g r (setE o.e v n) o.F).1 ⟨v,m,t,(bld g r (setE o.e v n) o.F).2,[]⟩
   simp only; omega
def bsC (g : En → List Int) (r : List (Int × List Int)) (v : Int) (vs : List Int) (F : List Nd) (e : En) (c : Nat) : BS:=(vs.reverse.take c).foldl (bst g r v) ⟨F,none,e⟩
theorem bsC_next {g : En → List Int} {r : List (Int × List Int)} {v : Int} {vs : List Int} {F : List Nd} {e : En} {c : Nat} (h : c < vs.length) : bsC g r v vs F e (c + 1) = bst g r v (bsC g r v vs F e c) (vs.getD (vs.length - 1 - c) 0):=by
 unfold bsC
 have h' : c < vs.reverse.length:=by rw [List.length_reverse]; exact h
 rw [take_next h',List.foldl_append,List.foldl_cons,List.foldl_nil,List.getElem_reverse,getD_at (by omega)]
theorem bsC_len (g : En → List Int) (r : List (Int × List Int)) (v : Int) (vs : List Int) (F : List Nd) (e : En) : ∀ c,c ≤ vs.length → (bsC g r v vs F e c).F.length ≤ F.length + c * (bndB r + 1)
 | 0,_=>by show F.length ≤ _; omega
 | c + 1,h=>by
  rw [bsC_next (by omega),Nat.succ_mul]
  have h1:=bsC_len g r v vs F e c (by omega)
  have h2:=bst_len g r v (bsC g r v vs F e c) (vs.getD (vs.length - 1 - c) 0)
  omega
theorem bsC_ky {g : En → List Int} (hg : ∀ x,ByOk (g x)) (r : List (Int × List Int)) (v : Int) (vs : List Int) (F : List Nd) (e : En) (hF : KyF F) : ∀ c,c ≤ vs.length → KyF (bsC g r v vs F e c).F
 | 0,_=>hF
 | c + 1,h=>by rw [bsC_next (by omega)]; exact bst_ky hg r v _ _ (bsC_ky hg r v vs F e hF c (by omega))
theorem bsC_some (g : En → List Int) (r : List (Int × List Int)) (v : Int) (vs : List Int) (F : List Nd) (e : En) (c : Nat) (h : c < vs.length) : ∃ t f,(bsC g r v vs F e (c + 1)).s = some (t,f,vs.getD (vs.length - 1 - c) 0):=by
 rw [bsC_next h]
 unfold bst
 split
 ·exact ⟨_,_,rfl⟩
 ·split
  ·exact ⟨_,_,rfl⟩
  ·exact ⟨_,_,rfl⟩
def cCaps : List V:=[.ptr 0 0,.ptr 6 0,.ptr 5 0,.ptr 2 0,.ptr 7 0,.ptr 8 0]
structure Vs4 where
 (s : List Sp) (a b c d : List Int)
def bS (q : Vs4) (F : List Nd) (e : En) : List Blk:=[.cells [.d (sps q.s)],.cells [.nil],.cells [.nil,.d (ins q.a),.d (ins q.b),.d (ins q.c),.d (ins q.d)],.map (esF F),.cells [.own 9 F.length 0 F.length,.map 3],.cells [.ptr 4 0],.cells (e.cells.map .d),.cells [.d .nilptr,.ptr 6 0,.ptr 6 1,.ptr 6 2,.ptr 6 3],.cells [.fn 69 cCaps],.row F.length 5 (rdN F)]
theorem bS_bel' (n : Nat) (h : 10 ≤ n) (q : Vs4) (F : List Nd) (e : En) : belB n (bS q F e) = true:=by
 have h1 : ∀ k,k < 10 → decide (k < n) = true:=fun k hk=>zw19 (by omega)
 unfold bS cCaps
 simp only [belB,Blk.bel,V.belL,V.bel,rdN_bel,esF_bel,V.belL_d,h1 0 (by decide),h1 2 (by decide),h1 3 (by decide),h1 4 (by decide),h1 5 (by decide),h1 6 (by decide),h1 7 (by decide),h1 8 (by decide),h1 9 (by decide),Bool.and_true]
theorem bS_bel (q : Vs4) (F : List Nd) (e : En) : belB 10 (bS q F e) = true:=bS_bel' 10 (zw21 10) q F e
theorem rnR_rdN (ρ : Nat → Nat) (F : List Nd) : rnR ρ (rdN F) = rdN F:=by
 unfold rdN
 induction F with
 | nil=>rfl
 | cons a l ih=>simp only [List.map_cons,rnR,V.rnL_d]; rw [ih]
theorem rnM_esF (ρ : Nat → Nat) (F : List Nd) : rnM ρ (esF F) = esF F:=by
 unfold esF
 induction List.range F.length with
 | nil=>rfl
 | cons i r ih=>simp only [List.map_cons,rnM,keyV',V.rnL,V.rn]; exact congrArg _ ih
theorem fS_part (q : Vs4) (F : List Nd) (e : En) (E : List Blk) : Part [4,9,3] (fS F) (bS q F e ++ E):=by
 refine ⟨by decide,fun b hb=>?_,rfl,fun b c hc=>?_,fS_bel F,rfl⟩
 ·rw [List.length_append]
  show b < 10 + _
  simp at hb; omega
 ·match b,hc with
  | 0,hc=>cases hc; rfl
  | 1,hc =>
   cases hc
   show some (Blk.row F.length 5 (rdN F)) = some (Blk.row F.length 5 (rnR _ (rdN F)))
   rw [rnR_rdN]
  | 2,hc =>
   cases hc
   show some (Blk.map (esF F)) = some (Blk.map (rnM _ (esF F)))
   rw [rnM_esF]
  | b + 3,hc=>simp at hc
theorem fS_back (q : Vs4) (F G : List Nd) (e : En) (E : List Blk) : putB [4,9,3] (rnB (rnI [4,9,3] (bS q F e ++ E).length) (fS G)) (bS q F e ++ E) = bS q G e ++ E:=by
 have h : rnB (rnI [4,9,3] (bS q F e ++ E).length) (fS G) = [.cells [.own 9 G.length 0 G.length,.map 3],.row G.length 5 (rdN G),.map (esF G)]:=by
  show [Blk.cells [.own 9 G.length 0 G.length,.map 3],.row G.length 5 (rnR _ (rdN G)),.map (rnM _ (esF G))] = _
  rw [rnR_rdN,rnM_esF]
 rw [h]
 simp only [putB,bS,List.cons_append,List.nil_append,List.set_cons_succ,List.set_cons_zero,List.append_nil]
theorem putS_c (q : Vs4) (F : List Nd) (e : En) (E : List Blk) (x : Nd) (hF : KyF F) (hx : KyOk x) (hl : x.by_.length ≤ 1073741824) (hFl : F.length ≤ 1000000) {k : V → List Blk → Prop} (h : k (I (put F x).2) (bS q (put F x).1 e ++ E)) :
  CallP C 70 [.ptr 4 0,ndV x] (bS q F e ++ E) k:=by
 refine CallP.embed [4,9,3] (put_c F x hF hx hl hFl) (fS_part q F e E) rfl ?_
 rintro X L1 ⟨rfl,rfl⟩
 rw [fS_back]
 exact h
theorem CallP.cnv {X : Ctx} {f : FuncId} {args args' : List V} {L L' : List Blk} {k : V → List Blk → Prop} (ha : args = args') (hL : L = L') (h : CallP X f args' L' k) : CallP X f args L k:=by subst ha hL; exact h
theorem dfB_of {A : List Blk} (h : ∀ (b : Nat) (l : LoopR),A[b]? = some (Blk.loop l) → A[l.df]? = some Blk.defr) : dfB A = true:=by
 unfold dfB
 refine List.all_eq_true.2 fun x hx=>?_
 obtain ⟨b,hb⟩:=List.mem_iff_getElem?.1 hx
 split
 ·rename_i l; rw [h b l hb]
 ·rfl
theorem YieldP.roundE {C' : Ctx} (hC : C'.OK) (cut : Code → Bool) {b : Nat} {args : List V} {L : List Blk} {k : V → List Blk → Prop} {lr : LoopR} {fr : List (Nat × V)} {n : Nat} {ps : List Tmp} {assign body : Code} {df : Nat} (hlr : LoopR.mk .ready none fr n ps assign body df = lr) (hL : L[b]? = some (.loop lr))
  (hb : (Nat.beq ps.length args.length && ps.all (fun p=>Nat.blt p n)) = true)
  (h : vc C' cut L.length assign ⟨zipF ps args fr,n,L,[],some b⟩ fun e σ=>match e with
   | .normal=>match σ.L[b]? with
    | some (.loop r1)=>match r1.st with
     | .ready=>setB σ.L b (.loop { r1 with st:=.busy }) fun L1=>vc C' cut L.length body { σ with L:=L1 } (vRoundEnd b L.length k)
     | _=>False
    | _=>False
   | _=>False) (hpn : C'.pn ≤ L.length) : YieldP C' b args L k:=by
 refine YieldP.round hC cut ?_ hpn
 subst hlr
 unfold vRound
 rw [hL]
 simp only [hb,cond_true]
 exact h
theorem YieldP.conv' {X : Ctx} {b : Nat} {args : List V} {L L' : List Blk} {k : V → List Blk → Prop} (hL : L = L') (h : YieldP X b args L' k) : YieldP X b args L k:=by subst hL; exact h
def BCall (q : Vs4) (v : Int) (r : List (Int × List Int)) : Prop:=∀ F e,KyF F → F.length + bndB r ≤ 100000 → CallP C 69 (I v :: cCaps) (bS q F e) fun X L'=>X = I (bld (directB q.s) r e F).2 ∧ L' = bS q (bld (directB q.s) r e F).1 (fin r e)
theorem BCall.sub {q : Vs4} {v : Int} {r : List (Int × List Int)} (h : BCall q v r) {F : List Nd} {e : En} (hF : KyF F) (hl : F.length + bndB r ≤ 100000) {E : List Blk} {k : V → List Blk → Prop} (hk : k (I (bld (directB q.s) r e F).2) (bS q (bld (directB q.s) r e F).1 (fin r e) ++ E)) :
  CallP C 69 (I v :: cCaps) (bS q F e ++ E) k :=
 CallP.pre (h F e hF hl) (bS_bel q F e) rfl rfl fun X L1 hX=>by
  obtain ⟨rfl,rfl⟩:=hX
  exact ⟨rfl,bS_bel q _ _,rfl,hk⟩
theorem leaf_c (q : Vs4) (hl : LSs q.s) (ho : orderF q.s = 0) (hg : ∀ x,ByOk (directB q.s x)) : BCall q 5 []:=by
 intro F e hF hn
 have h5 : (4 : Int) < 5:=by decide
 have hd : ∀ {L : List Blk} {k : V → List Blk → Prop},k (.tup [.d (ins (directB q.s e)),I (directE q.s e)]) L → CallP C 23 [.d (sps q.s),enV e] L k:=fun h=>Direct_c q.s e hl (fun h=>order_dsp hl h) h
 have hb:=(hg e).len
 have hky : KyOk ⟨0,0,0,0,directB q.s e⟩:=⟨fun c hc=>by have:=(hg e).rg c hc; omega⟩
 have hput:=fun (E : List Blk) (k : V → List Blk → Prop) h=>putS_c q F e E ⟨0,0,0,0,directB q.s e⟩ hF hky (by show (directB q.s e).length ≤ _; omega) (by omega) (k:=k) h
 refine zw24 C_ok Tryz.func69 rfl rfl rfl (zw18 rfl) rfl ?_
 repeat' ((conv=>whnf); first|refine zw8 (zw19 h5) ?_|refine hd ?_)
 conv=>whnf
 refine CallP.cnv (L':=bS q F e ++ [.cells [I 5]]) (args':=[.ptr 4 0,ndV ⟨0,0,0,0,directB q.s e⟩]) rfl rfl ?_
 refine hput _ _ ?_
 skip
 conv=>whnf
 exact zw15 (n:=10) rfl (zw21 10) rfl (bS_bel q _ _) ⟨rfl,rfl⟩
theorem belB_app {n : Nat} : ∀ {A B : List Blk},belB n A = true → belB n B = true → belB n (A ++ B) = true
 | [],B,_,h=>h
 | a :: A,B,h,h'=>by
  simp only [List.cons_append,belB,Bool.and_eq_true] at h ⊢
  exact ⟨h.1,belB_app h.2 h'⟩
theorem bkX_len (vs : List Int) : (bkX vs).length = vs.length:=by unfold bkX; simp
theorem bkX_at {vs : List Int} {c : Nat} (h : c < (bkX vs).length) : (bkX vs)[c] = [I ((vs.length : Int) - 1 - c),I (vs.getD (vs.length - 1 - c) 0)]:=by
 simp only [bkX,List.getElem_map,List.getElem_range]
def bE (v : Int) (lr : LoopR) (o : Option (Nat × Nat × Int)) : List Blk:=[.cells [I v],.cells [I (match o with | none=>-1 | some s=>(s.1 : Int))],.cells [I (match o with | none=>-1 | some s=>(s.2.1 : Int))],.defr,.loop lr]
def bM (q : Vs4) (v : Int) (lr : LoopR) (o : BS) : List Blk:=bS q o.F o.e ++ bE v lr o.s
theorem step1_c (q : Vs4) (hg : ∀ x,ByOk (directB q.s x)) {r : List (Int × List Int)} (hr : Rs (1 + 1) r) (hvl : q.a.length ≤ 10000) (hne : 0 < q.a.length) (hih : BCall q (1 + 1) r) : BCall q 1 ((1,q.a) :: r):=by
 intro F e hF hn
 have hv : (1 : Int) ≤ 1 ∧ (1 : Int) ≤ 4:=by decide
 obtain ⟨f1,f2⟩:=bld_fold (directB q.s) hr hv q.a e F
 rw [f1,f2]
 have hall : q.a.reverse.foldl (bst (directB q.s) r 1) ⟨F,none,e⟩ = bsC (directB q.s) r 1 q.a F e q.a.length:=by
  unfold bsC; rw [List.take_of_length_le (by simp)]
 rw [hall]
 have hbnd : bndB ((1,q.a) :: r) = q.a.length * (bndB r + 1):=rfl
 rw [hbnd] at hn
 have hky:=bsC_ky hg r 1 q.a F e hF
 have hln : ∀ c,c < q.a.length → (bsC (directB q.s) r 1 q.a F e c).F.length + bndB r + 1 ≤ 100000:=fun c hc=>by
  have h1:=bsC_len (directB q.s) r 1 q.a F e c (by omega)
  have h2 : (c + 1) * (bndB r + 1) ≤ q.a.length * (bndB r + 1):=Nat.mul_le_mul_right _ (by omega)
  rw [Nat.succ_mul] at h2
  omega
 have hsome:=bsC_some (directB q.s) r 1 q.a F e
 have hnext:=fun c h=>bsC_next (g:=directB q.s) (r:=r) (v:=1) (vs:=q.a) (F:=F) (e:=e) (c:=c) h
 have h0 : bsC (directB q.s) r 1 q.a F e 0 = ⟨F,none,e⟩:=rfl
 generalize bsC (directB q.s) r 1 q.a F e = bs at *
 clear hall f1 f2 hbnd
 have h4 : ¬ (4 : Int) < 1:=by decide
 refine zw24 C_ok Tryz.func69 rfl rfl rfl (zw18 rfl) rfl ?_
 repeat' ((conv=>whnf); first|refine zw9 (zw20 h4) ?_|refine zw30 1 rfl (by decide) ?_|refine backward_c _ ?_)
 conv=>whnf
 refine CallP.cnv (args':=.yld 14 :: [D.rptr [ins q.a]].map .d) (L':=bS q F e ++ [.cells [I 1],.cells [I (-1)],.cells [I (-1)],.defr,.loop _]) rfl rfl ?_
 generalize hlr : LoopR.mk _ _ _ _ _ _ _ _ = lr
 have hlrd : lr.df = 13:=by rw [← hlr]; rfl
 have hlrs : lr.st = .ready:=by rw [← hlr]
 have hlrp : lr.pend = none:=by rw [← hlr]
 have hback : (⟨.ready,none,lr.fr,lr.n,lr.ps,lr.assign,lr.body,lr.df⟩ : LoopR) = lr:=by rw [← hlr]
 have hblkb : (Blk.loop lr).bel 15 = true:=by rw [← hlr]; rfl
 have hMb : ∀ c,belB 15 (bM q 1 lr c) = true:=fun c=>by
  refine belB_app (bS_bel' 15 (by decide) q _ _) ?_
  show (true && (true && (true && (true && ((Blk.loop lr).bel 15 && true))))) = true
  rw [hblkb]; rfl
 have hMd : ∀ c,dfB (bM q 1 lr c) = true:=fun c=>by
  refine dfB_of fun j l' hc=>?_
  match j,hc with
  | 0,hc | 1,hc | 2,hc | 3,hc | 4,hc | 5,hc | 6,hc | 7,hc | 8,hc | 9,hc | 10,hc | 11,hc | 12,hc | 13,hc=>cases hc
  | 14,hc =>
   have : lr = l':=by cases hc; rfl
   rw [← this,hlrd]; rfl
  | j + 15,hc=>cases hc
 refine CallP.cnv (L':=bM q 1 lr (bs 0)) rfl (by rw [h0]; rfl) ?_
 refine backward1_it q.a (by omega) 14 15 (fun c=>c ≤ q.a.length) (fun c=>bM q 1 lr (bs c)) _ (fun c=>rfl) (fun c=>hMb _) (fun c=>hMd _) (by decide) ?_ ?_ (zw22 _)
 ·intro c hc hcP
  rw [bkX_at]
  rw [bkX_len] at hc
  have hw : IntKind.i64.wrap ((q.a.length : Int) - 1 - c + 1) = ((q.a.length - c : Nat) : Int):=by rw [wrap_in (by omega)]; omega
  have hnx:=hnext c hc
  have hk:=hky c hcP
  have hl1:=hln c hc
  have hsm : ∀ t f m,(bs c).s = some (t,f,m) → (q.a.map fun n=>[DI n])[q.a.length - c]? = some [DI m]:=fun t f m h=>by
   cases c with
   | zero=>rw [h0] at h; cases h
   | succ c =>
    obtain ⟨t',f',h'⟩:=hsome c (by omega)
    rw [h'] at h
    cases h
    rw [show q.a.length - (c + 1) = q.a.length - 1 - c by omega,List.getElem?_map,List.getElem?_eq_getElem (show q.a.length - 1 - c < q.a.length by omega),getD_at (show q.a.length - 1 - c < q.a.length by omega)]; rfl
  have hP' : c + 1 ≤ q.a.length:=hc
  generalize q.a.getD (q.a.length - 1 - c) 0 = m at hnx ⊢
  generalize bs (c + 1) = o' at hnx ⊢
  generalize bs c = o at *
  obtain ⟨F0,s0,e0⟩:=o
  have hcall:=fun (E : List Blk) (k : V → List Blk → Prop) h=>hih.sub (F:=F0) (e:=setE e0 1 m) hk (by show F0.length + _ ≤ _; simp only at hl1; omega) (E:=E) (k:=k) h
  have hky1:=bld_ky hg r (setE e0 1 m) F0 hk
  have hln1:=bld_len (directB q.s) r (setE e0 1 m) F0
  cases s0 with
  | none =>
   unfold bst at hnx
   simp only at hnx
   generalize bld (directB q.s) r (setE e0 1 m) F0 = P at *
   obtain ⟨F1,p⟩:=P
   generalize fin r (setE e0 1 m) = e1 at *
   simp only at hnx hky1 hln1 hcall hsm hl1
   subst hnx
   have hlt : (-1 : Int) < 0:=by decide
   refine YieldP.conv' (L':=bS q F0 e0 ++ bE 1 lr none) rfl ?_
   refine YieldP.roundE C_ok (fun _=>false) hlr rfl rfl ?_ (zw22 _)
   repeat' ((conv=>whnf); first|refine zw30 1 rfl (by decide) ?_|simp only [hlrs,setB_eq])
   conv=>whnf
   refine CallP.cnv (args':=I (1 + 1) :: cCaps) (L':=bS q F0 (setE e0 1 m) ++ bE 1 { lr with st:=.busy } none) rfl rfl ?_
   refine hcall _ _ ?_
   repeat' ((conv=>whnf); refine zw8 (zw19 hlt) ?_)
   conv=>whnf
   refine zw15 (n:=15) (L':=bM q 1 lr ⟨F1,some (p,p,m),e1⟩) ?_ (zw21 _) rfl (hMb _) (.inl ⟨rfl,rfl,hP'⟩)
   exact congrArg (fun y : LoopR=>bS q F1 e1 ++ [.cells [I 1],.cells [I p],.cells [I p],.defr,.loop y]) hback
  | some s0 =>
   obtain ⟨t,f,mm⟩:=s0
   have r1:=hsm t f mm rfl
   unfold bst at hnx
   simp only at hnx
   generalize bld (directB q.s) r (setE e0 1 m) F0 = P at *
   obtain ⟨F1,p⟩:=P
   generalize fin r (setE e0 1 m) = e1 at *
   simp only at hnx hky1 hln1 hcall hl1
   have hlt : ¬ (t : Int) < 0:=by omega
   refine YieldP.conv' (L':=bS q F0 e0 ++ bE 1 lr (some (t,f,mm))) rfl ?_
   by_cases hpf : p = f
   ·rw [if_pos hpf] at hnx
    have hpf' : (p : Int) = (f : Int):=congrArg Nat.cast hpf
    subst hnx
    refine YieldP.roundE C_ok (fun _=>false) hlr rfl rfl ?_ (zw22 _)
    repeat' ((conv=>whnf); first|refine zw30 1 rfl (by decide) ?_|simp only [hlrs,setB_eq])
    conv=>whnf
    refine CallP.cnv (args':=I (1 + 1) :: cCaps) (L':=bS q F0 (setE e0 1 m) ++ bE 1 { lr with st:=.busy } (some (t,f,mm))) rfl rfl ?_
    refine hcall _ _ ?_
    repeat' ((conv=>whnf); first|refine zw9 (zw20 hlt) ?_|refine zw8 (zw19 hpf') ?_|refine zw3 ?_)
    conv=>whnf
    refine zw15 (n:=15) (L':=bM q 1 lr ⟨F1,some (t,f,m),e1⟩) ?_ (zw21 _) rfl (hMb _) (.inl ⟨rfl,rfl,hP'⟩)
    exact congrArg (fun y : LoopR=>bS q F1 e1 ++ [.cells [I 1],.cells [I t],.cells [I f],.defr,.loop y]) hback
   ·rw [if_neg hpf] at hnx
    have hpf' : ¬ (p : Int) = (f : Int):=fun hn=>hpf (by omega)
    subst hnx
    have hput:=fun (E : List Blk) (k : V → List Blk → Prop) h=>putS_c q F1 e1 E ⟨1,mm,t,p,[]⟩ hky1 (ky_in _ _ _ _) (zw22 _) (by omega) (k:=k) h
    have hcp : CallP C 70 [.ptr 4 0,.agg [I 1,I mm,I t,I p,.nil]] (bS q F1 e1 ++ bE 1 { lr with st:=.busy } (some (t,f,mm))) fun x N=>x = I (put F1 ⟨1,mm,t,p,[]⟩).2 ∧ N = bS q (put F1 ⟨1,mm,t,p,[]⟩).1 e1 ++ bE 1 { lr with st:=.busy } (some (t,f,mm)) :=
     CallP.freeze (dargs:=[.ptr 4 0,ndV ⟨1,mm,t,p,[]⟩]) [] rfl rfl (.keep (.cv (.aggL (.cons (.d _) (.cons (.d _) (.cons (.d _) (.cons (.d _) (.cons .nil .nil)))))) .nil)) (hput _ _ ⟨rfl,rfl⟩)
    clear hput
    refine YieldP.roundE C_ok (fun _=>false) hlr rfl rfl ?_ (zw22 _)
    repeat' ((conv=>whnf); first|refine zw30 1 rfl (by decide) ?_|simp only [hlrs,setB_eq])
    conv=>whnf
    refine CallP.cnv (args':=I (1 + 1) :: cCaps) (L':=bS q F0 (setE e0 1 m) ++ bE 1 { lr with st:=.busy } (some (t,f,mm))) rfl rfl ?_
    refine hcall _ _ ?_
    repeat' ((conv=>whnf); first|refine zw9 (zw20 hlt) ?_|refine zw9 (zw20 hpf') ?_|refine zw3 ?_)
    conv=>whnf
    refine DrawP.por mixed [12] [[(0,0),(1,0),(2,0),(3,0),(4,0),(5,0),(6,0),(7,0),(8,0),(9,0),(10,0),(11,0),(12,2),(13,0),(14,0),(15,0)]] (by kernel_rfl) ?_
    all_goals
     repeat' ((conv=>whnf); first|refine zw30 1 rfl (by decide) ?_|refine zw10 (q.a.length - c) _ hw r1 ?_|refine zw13 (I (put F1 ⟨1,mm,t,p,[]⟩).2) (bS q (put F1 ⟨1,mm,t,p,[]⟩).1 e1 ++ bE 1 { lr with st:=.busy } (some (t,f,mm))) hcp ?_|refine zw6 rfl ?_)
    all_goals conv=>whnf
    refine zw15 (n:=15) (L':=bM q 1 lr ⟨(put F1 ⟨1,mm,t,p,[]⟩).1,some ((put F1 ⟨1,mm,t,p,[]⟩).2,p,m),e1⟩) ?_ (zw21 _) rfl (hMb _) (.inl ⟨rfl,rfl,hP'⟩)
    exact congrArg (fun y : LoopR=>bS q (put F1 ⟨1,mm,t,p,[]⟩).1 e1 ++ [.cells [I 1],.cells [I (put F1 ⟨1,mm,t,p,[]⟩).2],.cells [I p],.defr,.loop y]) hback
 ·intro _
  have hres:=hsome (q.a.length - 1) (by omega)
  rw [show q.a.length - 1 + 1 = q.a.length by omega] at hres
  obtain ⟨t,f,hres⟩:=hres
  rw [bkX_len]
  generalize q.a.getD _ 0 = m at hres
  generalize bs q.a.length = o at *
  obtain ⟨F1,s1,e1⟩:=o
  simp only at hres
  subst hres
  repeat' ((conv=>whnf); simp only [hlrs,hlrp])
  conv=>whnf
  exact zw15 (n:=10) (L':=bS q F1 e1) rfl (zw21 _) rfl (bS_bel q _ _) ⟨rfl,rfl⟩
theorem step2_c (q : Vs4) (hg : ∀ x,ByOk (directB q.s x)) {r : List (Int × List Int)} (hr : Rs (2 + 1) r) (hvl : q.b.length ≤ 10000) (hne : 0 < q.b.length) (hih : BCall q (2 + 1) r) : BCall q 2 ((2,q.b) :: r):=by
 intro F e hF hn
 have hv : (1 : Int) ≤ 2 ∧ (2 : Int) ≤ 4:=by decide
 obtain ⟨f1,f2⟩:=bld_fold (directB q.s) hr hv q.b e F
 rw [f1,f2]
 have hall : q.b.reverse.foldl (bst (directB q.s) r 2) ⟨F,none,e⟩ = bsC (directB q.s) r 2 q.b F e q.b.length:=by
  unfold bsC; rw [List.take_of_length_le (by simp)]
 rw [hall]
 have hbnd : bndB ((2,q.b) :: r) = q.b.length * (bndB r + 1):=rfl
 rw [hbnd] at hn
 have hky:=bsC_ky hg r 2 q.b F e hF
 have hln : ∀ c,c < q.b.length → (bsC (directB q.s) r 2 q.b F e c).F.length + bndB r + 1 ≤ 100000:=fun c hc=>by
  have h1:=bsC_len (directB q.s) r 2 q.b F e c (by omega)
  have h2 : (c + 1) * (bndB r + 1) ≤ q.b.length * (bndB r + 1):=Nat.mul_le_mul_right _ (by omega)
  rw [Nat.succ_mul] at h2
  omega
 have hsome:=bsC_some (directB q.s) r 2 q.b F e
 have hnext:=fun c h=>bsC_next (g:=directB q.s) (r:=r) (v:=2) (vs:=q.b) (F:=F) (e:=e) (c:=c) h
 have h0 : bsC (directB q.s) r 2 q.b F e 0 = ⟨F,none,e⟩:=rfl
 generalize bsC (directB q.s) r 2 q.b F e = bs at *
 clear hall f1 f2 hbnd
 have h4 : ¬ (4 : Int) < 2:=by decide
 refine zw24 C_ok Tryz.func69 rfl rfl rfl (zw18 rfl) rfl ?_
 repeat' ((conv=>whnf); first|refine zw9 (zw20 h4) ?_|refine zw30 2 rfl (by decide) ?_|refine backward_c _ ?_)
 conv=>whnf
 refine CallP.cnv (args':=.yld 14 :: [D.rptr [ins q.b]].map .d) (L':=bS q F e ++ [.cells [I 2],.cells [I (-1)],.cells [I (-1)],.defr,.loop _]) rfl rfl ?_
 generalize hlr : LoopR.mk _ _ _ _ _ _ _ _ = lr
 have hlrd : lr.df = 13:=by rw [← hlr]; rfl
 have hlrs : lr.st = .ready:=by rw [← hlr]
 have hlrp : lr.pend = none:=by rw [← hlr]
 have hback : (⟨.ready,none,lr.fr,lr.n,lr.ps,lr.assign,lr.body,lr.df⟩ : LoopR) = lr:=by rw [← hlr]
 have hblkb : (Blk.loop lr).bel 15 = true:=by rw [← hlr]; rfl
 have hMb : ∀ c,belB 15 (bM q 2 lr c) = true:=fun c=>by
  refine belB_app (bS_bel' 15 (by decide) q _ _) ?_
  show (true && (true && (true && (true && ((Blk.loop lr).bel 15 && true))))) = true
  rw [hblkb]; rfl
 have hMd : ∀ c,dfB (bM q 2 lr c) = true:=fun c=>by
  refine dfB_of fun j l' hc=>?_
  match j,hc with
  | 0,hc | 1,hc | 2,hc | 3,hc | 4,hc | 5,hc | 6,hc | 7,hc | 8,hc | 9,hc | 10,hc | 11,hc | 12,hc | 13,hc=>cases hc
  | 14,hc =>
   have : lr = l':=by cases hc; rfl
   rw [← this,hlrd]; rfl
  | j + 15,hc=>cases hc
 refine CallP.cnv (L':=bM q 2 lr (bs 0)) rfl (by rw [h0]; rfl) ?_
 refine backward1_it q.b (by omega) 14 15 (fun c=>c ≤ q.b.length) (fun c=>bM q 2 lr (bs c)) _ (fun c=>rfl) (fun c=>hMb _) (fun c=>hMd _) (by decide) ?_ ?_ (zw22 _)
 ·intro c hc hcP
  rw [bkX_at]
  rw [bkX_len] at hc
  have hw : IntKind.i64.wrap ((q.b.length : Int) - 1 - c + 1) = ((q.b.length - c : Nat) : Int):=by rw [wrap_in (by omega)]; omega
  have hnx:=hnext c hc
  have hk:=hky c hcP
  have hl1:=hln c hc
  have hsm : ∀ t f m,(bs c).s = some (t,f,m) → (q.b.map fun n=>[DI n])[q.b.length - c]? = some [DI m]:=fun t f m h=>by
   cases c with
   | zero=>rw [h0] at h; cases h
   | succ c =>
    obtain ⟨t',f',h'⟩:=hsome c (by omega)
    rw [h'] at h
    cases h
    rw [show q.b.length - (c + 1) = q.b.length - 1 - c by omega,List.getElem?_map,List.getElem?_eq_getElem (show q.b.length - 1 - c < q.b.length by omega),getD_at (show q.b.length - 1 - c < q.b.length by omega)]; rfl
  have hP' : c + 1 ≤ q.b.length:=hc
  generalize q.b.getD (q.b.length - 1 - c) 0 = m at hnx ⊢
  generalize bs (c + 1) = o' at hnx ⊢
  generalize bs c = o at *
  obtain ⟨F0,s0,e0⟩:=o
  have hcall:=fun (E : List Blk) (k : V → List Blk → Prop) h=>hih.sub (F:=F0) (e:=setE e0 2 m) hk (by show F0.length + _ ≤ _; simp only at hl1; omega) (E:=E) (k:=k) h
  have hky1:=bld_ky hg r (setE e0 2 m) F0 hk
  have hln1:=bld_len (directB q.s) r (setE e0 2 m) F0
  cases s0 with
  | none =>
   unfold bst at hnx
   simp only at hnx
   generalize bld (directB q.s) r (setE e0 2 m) F0 = P at *
   obtain ⟨F1,p⟩:=P
   generalize fin r (setE e0 2 m) = e1 at *
   simp only at hnx hky1 hln1 hcall hsm hl1
   subst hnx
   have hlt : (-1 : Int) < 0:=by decide
   refine YieldP.conv' (L':=bS q F0 e0 ++ bE 2 lr none) rfl ?_
   refine YieldP.roundE C_ok (fun _=>false) hlr rfl rfl ?_ (zw22 _)
   repeat' ((conv=>whnf); first|refine zw30 2 rfl (by decide) ?_|simp only [hlrs,setB_eq])
   conv=>whnf
   refine CallP.cnv (args':=I (2 + 1) :: cCaps) (L':=bS q F0 (setE e0 2 m) ++ bE 2 { lr with st:=.busy } none) rfl rfl ?_
   refine hcall _ _ ?_
   repeat' ((conv=>whnf); refine zw8 (zw19 hlt) ?_)
   conv=>whnf
   refine zw15 (n:=15) (L':=bM q 2 lr ⟨F1,some (p,p,m),e1⟩) ?_ (zw21 _) rfl (hMb _) (.inl ⟨rfl,rfl,hP'⟩)
   exact congrArg (fun y : LoopR=>bS q F1 e1 ++ [.cells [I 2],.cells [I p],.cells [I p],.defr,.loop y]) hback
  | some s0 =>
   obtain ⟨t,f,mm⟩:=s0
   have r1:=hsm t f mm rfl
   unfold bst at hnx
   simp only at hnx
   generalize bld (directB q.s) r (setE e0 2 m) F0 = P at *
   obtain ⟨F1,p⟩:=P
   generalize fin r (setE e0 2 m) = e1 at *
   simp only at hnx hky1 hln1 hcall hl1
   have hlt : ¬ (t : Int) < 0:=by omega
   refine YieldP.conv' (L':=bS q F0 e0 ++ bE 2 lr (some (t,f,mm))) rfl ?_
   by_cases hpf : p = f
   ·rw [if_pos hpf] at hnx
    have hpf' : (p : Int) = (f : Int):=congrArg Nat.cast hpf
    subst hnx
    refine YieldP.roundE C_ok (fun _=>false) hlr rfl rfl ?_ (zw22 _)
    repeat' ((conv=>whnf); first|refine zw30 2 rfl (by decide) ?_|simp only [hlrs,setB_eq])
    conv=>whnf
    refine CallP.cnv (args':=I (2 + 1) :: cCaps) (L':=bS q F0 (setE e0 2 m) ++ bE 2 { lr with st:=.busy } (some (t,f,mm))) rfl rfl ?_
    refine hcall _ _ ?_
    repeat' ((conv=>whnf); first|refine zw9 (zw20 hlt) ?_|refine zw8 (zw19 hpf') ?_|refine zw3 ?_)
    conv=>whnf
    refine zw15 (n:=15) (L':=bM q 2 lr ⟨F1,some (t,f,m),e1⟩) ?_ (zw21 _) rfl (hMb _) (.inl ⟨rfl,rfl,hP'⟩)
    exact congrArg (fun y : LoopR=>bS q F1 e1 ++ [.cells [I 2],.cells [I t],.cells [I f],.defr,.loop y]) hback
   ·rw [if_neg hpf] at hnx
    have hpf' : ¬ (p : Int) = (f : Int):=fun hn=>hpf (by omega)
    subst hnx
    have hput:=fun (E : List Blk) (k : V → List Blk → Prop) h=>putS_c q F1 e1 E ⟨2,mm,t,p,[]⟩ hky1 (ky_in _ _ _ _) (zw22 _) (by omega) (k:=k) h
    have hcp : CallP C 70 [.ptr 4 0,.agg [I 2,I mm,I t,I p,.nil]] (bS q F1 e1 ++ bE 2 { lr with st:=.busy } (some (t,f,mm))) fun x N=>x = I (put F1 ⟨2,mm,t,p,[]⟩).2 ∧ N = bS q (put F1 ⟨2,mm,t,p,[]⟩).1 e1 ++ bE 2 { lr with st:=.busy } (some (t,f,mm)) :=
     CallP.freeze (dargs:=[.ptr 4 0,ndV ⟨2,mm,t,p,[]⟩]) [] rfl rfl (.keep (.cv (.aggL (.cons (.d _) (.cons (.d _) (.cons (.d _) (.cons (.d _) (.cons .nil .nil)))))) .nil)) (hput _ _ ⟨rfl,rfl⟩)
    clear hput
    refine YieldP.roundE C_ok (fun _=>false) hlr rfl rfl ?_ (zw22 _)
    repeat' ((conv=>whnf); first|refine zw30 2 rfl (by decide) ?_|simp only [hlrs,setB_eq])
    conv=>whnf
    refine CallP.cnv (args':=I (2 + 1) :: cCaps) (L':=bS q F0 (setE e0 2 m) ++ bE 2 { lr with st:=.busy } (some (t,f,mm))) rfl rfl ?_
    refine hcall _ _ ?_
    repeat' ((conv=>whnf); first|refine zw9 (zw20 hlt) ?_|refine zw9 (zw20 hpf') ?_|refine zw3 ?_)
    conv=>whnf
    refine DrawP.por mixed [12] [[(0,0),(1,0),(2,0),(3,0),(4,0),(5,0),(6,0),(7,0),(8,0),(9,0),(10,0),(11,0),(12,2),(13,0),(14,0),(15,0)]] (by kernel_rfl) ?_
    all_goals
     repeat' ((conv=>whnf); first|refine zw30 2 rfl (by decide) ?_|refine zw10 (q.b.length - c) _ hw r1 ?_|refine zw13 (I (put F1 ⟨2,mm,t,p,[]⟩).2) (bS q (put F1 ⟨2,mm,t,p,[]⟩).1 e1 ++ bE 2 { lr with st:=.busy } (some (t,f,mm))) hcp ?_|refine zw6 rfl ?_)
    all_goals conv=>whnf
    refine zw15 (n:=15) (L':=bM q 2 lr ⟨(put F1 ⟨2,mm,t,p,[]⟩).1,some ((put F1 ⟨2,mm,t,p,[]⟩).2,p,m),e1⟩) ?_ (zw21 _) rfl (hMb _) (.inl ⟨rfl,rfl,hP'⟩)
    exact congrArg (fun y : LoopR=>bS q (put F1 ⟨2,mm,t,p,[]⟩).1 e1 ++ [.cells [I 2],.cells [I (put F1 ⟨2,mm,t,p,[]⟩).2],.cells [I p],.defr,.loop y]) hback
 ·intro _
  have hres:=hsome (q.b.length - 1) (by omega)
  rw [show q.b.length - 1 + 1 = q.b.length by omega] at hres
  obtain ⟨t,f,hres⟩:=hres
  rw [bkX_len]
  generalize q.b.getD _ 0 = m at hres
  generalize bs q.b.length = o at *
  obtain ⟨F1,s1,e1⟩:=o
  simp only at hres
  subst hres
  repeat' ((conv=>whnf); simp only [hlrs,hlrp])
  conv=>whnf
  exact zw15 (n:=10) (L':=bS q F1 e1) rfl (zw21 _) rfl (bS_bel q _ _) ⟨rfl,rfl⟩
theorem step3_c (q : Vs4) (hg : ∀ x,ByOk (directB q.s x)) {r : List (Int × List Int)} (hr : Rs (3 + 1) r) (hvl : q.c.length ≤ 10000) (hne : 0 < q.c.length) (hih : BCall q (3 + 1) r) : BCall q 3 ((3,q.c) :: r):=by
 intro F e hF hn
 have hv : (1 : Int) ≤ 3 ∧ (3 : Int) ≤ 4:=by decide
 obtain ⟨f1,f2⟩:=bld_fold (directB q.s) hr hv q.c e F
 rw [f1,f2]
 have hall : q.c.reverse.foldl (bst (directB q.s) r 3) ⟨F,none,e⟩ = bsC (directB q.s) r 3 q.c F e q.c.length:=by
  unfold bsC; rw [List.take_of_length_le (by simp)]
 rw [hall]
 have hbnd : bndB ((3,q.c) :: r) = q.c.length * (bndB r + 1):=rfl
 rw [hbnd] at hn
 have hky:=bsC_ky hg r 3 q.c F e hF
 have hln : ∀ c,c < q.c.length → (bsC (directB q.s) r 3 q.c F e c).F.length + bndB r + 1 ≤ 100000:=fun c hc=>by
  have h1:=bsC_len (directB q.s) r 3 q.c F e c (by omega)
  have h2 : (c + 1) * (bndB r + 1) ≤ q.c.length * (bndB r + 1):=Nat.mul_le_mul_right _ (by omega)
  rw [Nat.succ_mul] at h2
  omega
 have hsome:=bsC_some (directB q.s) r 3 q.c F e
 have hnext:=fun c h=>bsC_next (g:=directB q.s) (r:=r) (v:=3) (vs:=q.c) (F:=F) (e:=e) (c:=c) h
 have h0 : bsC (directB q.s) r 3 q.c F e 0 = ⟨F,none,e⟩:=rfl
 generalize bsC (directB q.s) r 3 q.c F e = bs at *
 clear hall f1 f2 hbnd
 have h4 : ¬ (4 : Int) < 3:=by decide
 refine zw24 C_ok Tryz.func69 rfl rfl rfl (zw18 rfl) rfl ?_
 repeat' ((conv=>whnf); first|refine zw9 (zw20 h4) ?_|refine zw30 3 rfl (by decide) ?_|refine backward_c _ ?_)
 conv=>whnf
 refine CallP.cnv (args':=.yld 14 :: [D.rptr [ins q.c]].map .d) (L':=bS q F e ++ [.cells [I 3],.cells [I (-1)],.cells [I (-1)],.defr,.loop _]) rfl rfl ?_
 generalize hlr : LoopR.mk _ _ _ _ _ _ _ _ = lr
 have hlrd : lr.df = 13:=by rw [← hlr]; rfl
 have hlrs : lr.st = .ready:=by rw [← hlr]
 have hlrp : lr.pend = none:=by rw [← hlr]
 have hback : (⟨.ready,none,lr.fr,lr.n,lr.ps,lr.assign,lr.body,lr.df⟩ : LoopR) = lr:=by rw [← hlr]
 have hblkb : (Blk.loop lr).bel 15 = true:=by rw [← hlr]; rfl
 have hMb : ∀ c,belB 15 (bM q 3 lr c) = true:=fun c=>by
  refine belB_app (bS_bel' 15 (by decide) q _ _) ?_
  show (true && (true && (true && (true && ((Blk.loop lr).bel 15 && true))))) = true
  rw [hblkb]; rfl
 have hMd : ∀ c,dfB (bM q 3 lr c) = true:=fun c=>by
  refine dfB_of fun j l' hc=>?_
  match j,hc with
  | 0,hc | 1,hc | 2,hc | 3,hc | 4,hc | 5,hc | 6,hc | 7,hc | 8,hc | 9,hc | 10,hc | 11,hc | 12,hc | 13,hc=>cases hc
  | 14,hc =>
   have : lr = l':=by cases hc; rfl
   rw [← this,hlrd]; rfl
  | j + 15,hc=>cases hc
 refine CallP.cnv (L':=bM q 3 lr (bs 0)) rfl (by rw [h0]; rfl) ?_
 refine backward1_it q.c (by omega) 14 15 (fun c=>c ≤ q.c.length) (fun c=>bM q 3 lr (bs c)) _ (fun c=>rfl) (fun c=>hMb _) (fun c=>hMd _) (by decide) ?_ ?_ (zw22 _)
 ·intro c hc hcP
  rw [bkX_at]
  rw [bkX_len] at hc
  have hw : IntKind.i64.wrap ((q.c.length : Int) - 1 - c + 1) = ((q.c.length - c : Nat) : Int):=by rw [wrap_in (by omega)]; omega
  have hnx:=hnext c hc
  have hk:=hky c hcP
  have hl1:=hln c hc
  have hsm : ∀ t f m,(bs c).s = some (t,f,m) → (q.c.map fun n=>[DI n])[q.c.length - c]? = some [DI m]:=fun t f m h=>by
   cases c with
   | zero=>rw [h0] at h; cases h
   | succ c =>
    obtain ⟨t',f',h'⟩:=hsome c (by omega)
    rw [h'] at h
    cases h
    rw [show q.c.length - (c + 1) = q.c.length - 1 - c by omega,List.getElem?_map,List.getElem?_eq_getElem (show q.c.length - 1 - c < q.c.length by omega),getD_at (show q.c.length - 1 - c < q.c.length by omega)]; rfl
  have hP' : c + 1 ≤ q.c.length:=hc
  generalize q.c.getD (q.c.length - 1 - c) 0 = m at hnx ⊢
  generalize bs (c + 1) = o' at hnx ⊢
  generalize bs c = o at *
  obtain ⟨F0,s0,e0⟩:=o
  have hcall:=fun (E : List Blk) (k : V → List Blk → Prop) h=>hih.sub (F:=F0) (e:=setE e0 3 m) hk (by show F0.length + _ ≤ _; simp only at hl1; omega) (E:=E) (k:=k) h
  have hky1:=bld_ky hg r (setE e0 3 m) F0 hk
  have hln1:=bld_len (directB q.s) r (setE e0 3 m) F0
  cases s0 with
  | none =>
   unfold bst at hnx
   simp only at hnx
   generalize bld (directB q.s) r (setE e0 3 m) F0 = P at *
   obtain ⟨F1,p⟩:=P
   generalize fin r (setE e0 3 m) = e1 at *
   simp only at hnx hky1 hln1 hcall hsm hl1
   subst hnx
   have hlt : (-1 : Int) < 0:=by decide
   refine YieldP.conv' (L':=bS q F0 e0 ++ bE 3 lr none) rfl ?_
   refine YieldP.roundE C_ok (fun _=>false) hlr rfl rfl ?_ (zw22 _)
   repeat' ((conv=>whnf); first|refine zw30 3 rfl (by decide) ?_|simp only [hlrs,setB_eq])
   conv=>whnf
   refine CallP.cnv (args':=I (3 + 1) :: cCaps) (L':=bS q F0 (setE e0 3 m) ++ bE 3 { lr with st:=.busy } none) rfl rfl ?_
   refine hcall _ _ ?_
   repeat' ((conv=>whnf); refine zw8 (zw19 hlt) ?_)
   conv=>whnf
   refine zw15 (n:=15) (L':=bM q 3 lr ⟨F1,some (p,p,m),e1⟩) ?_ (zw21 _) rfl (hMb _) (.inl ⟨rfl,rfl,hP'⟩)
   exact congrArg (fun y : LoopR=>bS q F1 e1 ++ [.cells [I 3],.cells [I p],.cells [I p],.defr,.loop y]) hback
  | some s0 =>
   obtain ⟨t,f,mm⟩:=s0
   have r1:=hsm t f mm rfl
   unfold bst at hnx
   simp only at hnx
   generalize bld (directB q.s) r (setE e0 3 m) F0 = P at *
   obtain ⟨F1,p⟩:=P
   generalize fin r (setE e0 3 m) = e1 at *
   simp only at hnx hky1 hln1 hcall hl1
   have hlt : ¬ (t : Int) < 0:=by omega
   refine YieldP.conv' (L':=bS q F0 e0 ++ bE 3 lr (some (t,f,mm))) rfl ?_
   by_cases hpf : p = f
   ·rw [if_pos hpf] at hnx
    have hpf' : (p : Int) = (f : Int):=congrArg Nat.cast hpf
    subst hnx
    refine YieldP.roundE C_ok (fun _=>false) hlr rfl rfl ?_ (zw22 _)
    repeat' ((conv=>whnf); first|refine zw30 3 rfl (by decide) ?_|simp only [hlrs,setB_eq])
    conv=>whnf
    refine CallP.cnv (args':=I (3 + 1) :: cCaps) (L':=bS q F0 (setE e0 3 m) ++ bE 3 { lr with st:=.busy } (some (t,f,mm))) rfl rfl ?_
    refine hcall _ _ ?_
    repeat' ((conv=>whnf); first|refine zw9 (zw20 hlt) ?_|refine zw8 (zw19 hpf') ?_|refine zw3 ?_)
    conv=>whnf
    refine zw15 (n:=15) (L':=bM q 3 lr ⟨F1,some (t,f,m),e1⟩) ?_ (zw21 _) rfl (hMb _) (.inl ⟨rfl,rfl,hP'⟩)
    exact congrArg (fun y : LoopR=>bS q F1 e1 ++ [.cells [I 3],.cells [I t],.cells [I f],.defr,.loop y]) hback
   ·rw [if_neg hpf] at hnx
    have hpf' : ¬ (p : Int) = (f : Int):=fun hn=>hpf (by omega)
    subst hnx
    have hput:=fun (E : List Blk) (k : V → List Blk → Prop) h=>putS_c q F1 e1 E ⟨3,mm,t,p,[]⟩ hky1 (ky_in _ _ _ _) (zw22 _) (by omega) (k:=k) h
    have hcp : CallP C 70 [.ptr 4 0,.agg [I 3,I mm,I t,I p,.nil]] (bS q F1 e1 ++ bE 3 { lr with st:=.busy } (some (t,f,mm))) fun x N=>x = I (put F1 ⟨3,mm,t,p,[]⟩).2 ∧ N = bS q (put F1 ⟨3,mm,t,p,[]⟩).1 e1 ++ bE 3 { lr with st:=.busy } (some (t,f,mm)) :=
     CallP.freeze (dargs:=[.ptr 4 0,ndV ⟨3,mm,t,p,[]⟩]) [] rfl rfl (.keep (.cv (.aggL (.cons (.d _) (.cons (.d _) (.cons (.d _) (.cons (.d _) (.cons .nil .nil)))))) .nil)) (hput _ _ ⟨rfl,rfl⟩)
    clear hput
    refine YieldP.roundE C_ok (fun _=>false) hlr rfl rfl ?_ (zw22 _)
    repeat' ((conv=>whnf); first|refine zw30 3 rfl (by decide) ?_|simp only [hlrs,setB_eq])
    conv=>whnf
    refine CallP.cnv (args':=I (3 + 1) :: cCaps) (L':=bS q F0 (setE e0 3 m) ++ bE 3 { lr with st:=.busy } (some (t,f,mm))) rfl rfl ?_
    refine hcall _ _ ?_
    repeat' ((conv=>whnf); first|refine zw9 (zw20 hlt) ?_|refine zw9 (zw20 hpf') ?_|refine zw3 ?_)
    conv=>whnf
    refine DrawP.por mixed [12] [[(0,0),(1,0),(2,0),(3,0),(4,0),(5,0),(6,0),(7,0),(8,0),(9,0),(10,0),(11,0),(12,2),(13,0),(14,0),(15,0)]] (by kernel_rfl) ?_
    all_goals
     repeat' ((conv=>whnf); first|refine zw30 3 rfl (by decide) ?_|refine zw10 (q.c.length - c) _ hw r1 ?_|refine zw13 (I (put F1 ⟨3,mm,t,p,[]⟩).2) (bS q (put F1 ⟨3,mm,t,p,[]⟩).1 e1 ++ bE 3 { lr with st:=.busy } (some (t,f,mm))) hcp ?_|refine zw6 rfl ?_)
    all_goals conv=>whnf
    refine zw15 (n:=15) (L':=bM q 3 lr ⟨(put F1 ⟨3,mm,t,p,[]⟩).1,some ((put F1 ⟨3,mm,t,p,[]⟩).2,p,m),e1⟩) ?_ (zw21 _) rfl (hMb _) (.inl ⟨rfl,rfl,hP'⟩)
    exact congrArg (fun y : LoopR=>bS q (put F1 ⟨3,mm,t,p,[]⟩).1 e1 ++ [.cells [I 3],.cells [I (put F1 ⟨3,mm,t,p,[]⟩).2],.cells [I p],.defr,.loop y]) hback
 ·intro _
  have hres:=hsome (q.c.length - 1) (by omega)
  rw [show q.c.length - 1 + 1 = q.c.length by omega] at hres
  obtain ⟨t,f,hres⟩:=hres
  rw [bkX_len]
  generalize q.c.getD _ 0 = m at hres
  generalize bs q.c.length = o at *
  obtain ⟨F1,s1,e1⟩:=o
  simp only at hres
  subst hres
  repeat' ((conv=>whnf); simp only [hlrs,hlrp])
  conv=>whnf
  exact zw15 (n:=10) (L':=bS q F1 e1) rfl (zw21 _) rfl (bS_bel q _ _) ⟨rfl,rfl⟩
theorem step4_c (q : Vs4) (hg : ∀ x,ByOk (directB q.s x)) {r : List (Int × List Int)} (hr : Rs (4 + 1) r) (hvl : q.d.length ≤ 10000) (hne : 0 < q.d.length) (hih : BCall q (4 + 1) r) : BCall q 4 ((4,q.d) :: r):=by
 intro F e hF hn
 have hv : (1 : Int) ≤ 4 ∧ (4 : Int) ≤ 4:=by decide
 obtain ⟨f1,f2⟩:=bld_fold (directB q.s) hr hv q.d e F
 rw [f1,f2]
 have hall : q.d.reverse.foldl (bst (directB q.s) r 4) ⟨F,none,e⟩ = bsC (directB q.s) r 4 q.d F e q.d.length:=by
  unfold bsC; rw [List.take_of_length_le (by simp)]
 rw [hall]
 have hbnd : bndB ((4,q.d) :: r) = q.d.length * (bndB r + 1):=rfl
 rw [hbnd] at hn
 have hky:=bsC_ky hg r 4 q.d F e hF
 have hln : ∀ c,c < q.d.length → (bsC (directB q.s) r 4 q.d F e c).F.length + bndB r + 1 ≤ 100000:=fun c hc=>by
  have h1:=bsC_len (directB q.s) r 4 q.d F e c (by omega)
  have h2 : (c + 1) * (bndB r + 1) ≤ q.d.length * (bndB r + 1):=Nat.mul_le_mul_right _ (by omega)
  rw [Nat.succ_mul] at h2
  omega
 have hsome:=bsC_some (directB q.s) r 4 q.d F e
 have hnext:=fun c h=>bsC_next (g:=directB q.s) (r:=r) (v:=4) (vs:=q.d) (F:=F) (e:=e) (c:=c) h
 have h0 : bsC (directB q.s) r 4 q.d F e 0 = ⟨F,none,e⟩:=rfl
 generalize bsC (directB q.s) r 4 q.d F e = bs at *
 clear hall f1 f2 hbnd
 have h4 : ¬ (4 : Int) < 4:=by decide
 refine zw24 C_ok Tryz.func69 rfl rfl rfl (zw18 rfl) rfl ?_
 repeat' ((conv=>whnf); first|refine zw9 (zw20 h4) ?_|refine zw30 4 rfl (by decide) ?_|refine backward_c _ ?_)
 conv=>whnf
 refine CallP.cnv (args':=.yld 14 :: [D.rptr [ins q.d]].map .d) (L':=bS q F e ++ [.cells [I 4],.cells [I (-1)],.cells [I (-1)],.defr,.loop _]) rfl rfl ?_
 generalize hlr : LoopR.mk _ _ _ _ _ _ _ _ = lr
 have hlrd : lr.df = 13:=by rw [← hlr]; rfl
 have hlrs : lr.st = .ready:=by rw [← hlr]
 have hlrp : lr.pend = none:=by rw [← hlr]
 have hback : (⟨.ready,none,lr.fr,lr.n,lr.ps,lr.assign,lr.body,lr.df⟩ : LoopR) = lr:=by rw [← hlr]
 have hblkb : (Blk.loop lr).bel 15 = true:=by rw [← hlr]; rfl
 have hMb : ∀ c,belB 15 (bM q 4 lr c) = true:=fun c=>by
  refine belB_app (bS_bel' 15 (by decide) q _ _) ?_
  show (true && (true && (true && (true && ((Blk.loop lr).bel 15 && true))))) = true
  rw [hblkb]; rfl
 have hMd : ∀ c,dfB (bM q 4 lr c) = true:=fun c=>by
  refine dfB_of fun j l' hc=>?_
  match j,hc with
  | 0,hc | 1,hc | 2,hc | 3,hc | 4,hc | 5,hc | 6,hc | 7,hc | 8,hc | 9,hc | 10,hc | 11,hc | 12,hc | 13,hc=>cases hc
  | 14,hc =>
   have : lr = l':=by cases hc; rfl
   rw [← this,hlrd]; rfl
  | j + 15,hc=>cases hc
 refine CallP.cnv (L':=bM q 4 lr (bs 0)) rfl (by rw [h0]; rfl) ?_
 refine backward1_it q.d (by omega) 14 15 (fun c=>c ≤ q.d.length) (fun c=>bM q 4 lr (bs c)) _ (fun c=>rfl) (fun c=>hMb _) (fun c=>hMd _) (by decide) ?_ ?_ (zw22 _)
 ·intro c hc hcP
  rw [bkX_at]
  rw [bkX_len] at hc
  have hw : IntKind.i64.wrap ((q.d.length : Int) - 1 - c + 1) = ((q.d.length - c : Nat) : Int):=by rw [wrap_in (by omega)]; omega
  have hnx:=hnext c hc
  have hk:=hky c hcP
  have hl1:=hln c hc
  have hsm : ∀ t f m,(bs c).s = some (t,f,m) → (q.d.map fun n=>[DI n])[q.d.length - c]? = some [DI m]:=fun t f m h=>by
   cases c with
   | zero=>rw [h0] at h; cases h
   | succ c =>
    obtain ⟨t',f',h'⟩:=hsome c (by omega)
    rw [h'] at h
    cases h
    rw [show q.d.length - (c + 1) = q.d.length - 1 - c by omega,List.getElem?_map,List.getElem?_eq_getElem (show q.d.length - 1 - c < q.d.length by omega),getD_at (show q.d.length - 1 - c < q.d.length by omega)]; rfl
  have hP' : c + 1 ≤ q.d.length:=hc
  generalize q.d.getD (q.d.length - 1 - c) 0 = m at hnx ⊢
  generalize bs (c + 1) = o' at hnx ⊢
  generalize bs c = o at *
  obtain ⟨F0,s0,e0⟩:=o
  have hcall:=fun (E : List Blk) (k : V → List Blk → Prop) h=>hih.sub (F:=F0) (e:=setE e0 4 m) hk (by show F0.length + _ ≤ _; simp only at hl1; omega) (E:=E) (k:=k) h
  have hky1:=bld_ky hg r (setE e0 4 m) F0 hk
  have hln1:=bld_len (directB q.s) r (setE e0 4 m) F0
  cases s0 with
  | none =>
   unfold bst at hnx
   simp only at hnx
   generalize bld (directB q.s) r (setE e0 4 m) F0 = P at *
   obtain ⟨F1,p⟩:=P
   generalize fin r (setE e0 4 m) = e1 at *
   simp only at hnx hky1 hln1 hcall hsm hl1
   subst hnx
   have hlt : (-1 : Int) < 0:=by decide
   refine YieldP.conv' (L':=bS q F0 e0 ++ bE 4 lr none) rfl ?_
   refine YieldP.roundE C_ok (fun _=>false) hlr rfl rfl ?_ (zw22 _)
   repeat' ((conv=>whnf); first|refine zw30 4 rfl (by decide) ?_|simp only [hlrs,setB_eq])
   conv=>whnf
   refine CallP.cnv (args':=I (4 + 1) :: cCaps) (L':=bS q F0 (setE e0 4 m) ++ bE 4 { lr with st:=.busy } none) rfl rfl ?_
   refine hcall _ _ ?_
   repeat' ((conv=>whnf); refine zw8 (zw19 hlt) ?_)
   conv=>whnf
   refine zw15 (n:=15) (L':=bM q 4 lr ⟨F1,some (p,p,m),e1⟩) ?_ (zw21 _) rfl (hMb _) (.inl ⟨rfl,rfl,hP'⟩)
   exact congrArg (fun y : LoopR=>bS q F1 e1 ++ [.cells [I 4],.cells [I p],.cells [I p],.defr,.loop y]) hback
  | some s0 =>
   obtain ⟨t,f,mm⟩:=s0
   have r1:=hsm t f mm rfl
   unfold bst at hnx
   simp only at hnx
   generalize bld (directB q.s) r (setE e0 4 m) F0 = P at *
   obtain ⟨F1,p⟩:=P
   generalize fin r (setE e0 4 m) = e1 at *
   simp only at hnx hky1 hln1 hcall hl1
   have hlt : ¬ (t : Int) < 0:=by omega
   refine YieldP.conv' (L':=bS q F0 e0 ++ bE 4 lr (some (t,f,mm))) rfl ?_
   by_cases hpf : p = f
   ·rw [if_pos hpf] at hnx
    have hpf' : (p : Int) = (f : Int):=congrArg Nat.cast hpf
    subst hnx
    refine YieldP.roundE C_ok (fun _=>false) hlr rfl rfl ?_ (zw22 _)
    repeat' ((conv=>whnf); first|refine zw30 4 rfl (by decide) ?_|simp only [hlrs,setB_eq])
    conv=>whnf
    refine CallP.cnv (args':=I (4 + 1) :: cCaps) (L':=bS q F0 (setE e0 4 m) ++ bE 4 { lr with st:=.busy } (some (t,f,mm))) rfl rfl ?_
    refine hcall _ _ ?_
    repeat' ((conv=>whnf); first|refine zw9 (zw20 hlt) ?_|refine zw8 (zw19 hpf') ?_|refine zw3 ?_)
    conv=>whnf
    refine zw15 (n:=15) (L':=bM q 4 lr ⟨F1,some (t,f,m),e1⟩) ?_ (zw21 _) rfl (hMb _) (.inl ⟨rfl,rfl,hP'⟩)
    exact congrArg (fun y : LoopR=>bS q F1 e1 ++ [.cells [I 4],.cells [I t],.cells [I f],.defr,.loop y]) hback
   ·rw [if_neg hpf] at hnx
    have hpf' : ¬ (p : Int) = (f : Int):=fun hn=>hpf (by omega)
    subst hnx
    have hput:=fun (E : List Blk) (k : V → List Blk → Prop) h=>putS_c q F1 e1 E ⟨4,mm,t,p,[]⟩ hky1 (ky_in _ _ _ _) (zw22 _) (by omega) (k:=k) h
    have hcp : CallP C 70 [.ptr 4 0,.agg [I 4,I mm,I t,I p,.nil]] (bS q F1 e1 ++ bE 4 { lr with st:=.busy } (some (t,f,mm))) fun x N=>x = I (put F1 ⟨4,mm,t,p,[]⟩).2 ∧ N = bS q (put F1 ⟨4,mm,t,p,[]⟩).1 e1 ++ bE 4 { lr with st:=.busy } (some (t,f,mm)) :=
     CallP.freeze (dargs:=[.ptr 4 0,ndV ⟨4,mm,t,p,[]⟩]) [] rfl rfl (.keep (.cv (.aggL (.cons (.d _) (.cons (.d _) (.cons (.d _) (.cons (.d _) (.cons .nil .nil)))))) .nil)) (hput _ _ ⟨rfl,rfl⟩)
    clear hput
    refine YieldP.roundE C_ok (fun _=>false) hlr rfl rfl ?_ (zw22 _)
    repeat' ((conv=>whnf); first|refine zw30 4 rfl (by decide) ?_|simp only [hlrs,setB_eq])
    conv=>whnf
    refine CallP.cnv (args':=I (4 + 1) :: cCaps) (L':=bS q F0 (setE e0 4 m) ++ bE 4 { lr with st:=.busy } (some (t,f,mm))) rfl rfl ?_
    refine hcall _ _ ?_
    repeat' ((conv=>whnf); first|refine zw9 (zw20 hlt) ?_|refine zw9 (zw20 hpf') ?_|refine zw3 ?_)
    conv=>whnf
    refine DrawP.por mixed [12] [[(0,0),(1,0),(2,0),(3,0),(4,0),(5,0),(6,0),(7,0),(8,0),(9,0),(10,0),(11,0),(12,2),(13,0),(14,0),(15,0)]] (by kernel_rfl) ?_
    all_goals
     repeat' ((conv=>whnf); first|refine zw30 4 rfl (by decide) ?_|refine zw10 (q.d.length - c) _ hw r1 ?_|refine zw13 (I (put F1 ⟨4,mm,t,p,[]⟩).2) (bS q (put F1 ⟨4,mm,t,p,[]⟩).1 e1 ++ bE 4 { lr with st:=.busy } (some (t,f,mm))) hcp ?_|refine zw6 rfl ?_)
    all_goals conv=>whnf
    refine zw15 (n:=15) (L':=bM q 4 lr ⟨(put F1 ⟨4,mm,t,p,[]⟩).1,some ((put F1 ⟨4,mm,t,p,[]⟩).2,p,m),e1⟩) ?_ (zw21 _) rfl (hMb _) (.inl ⟨rfl,rfl,hP'⟩)
    exact congrArg (fun y : LoopR=>bS q (put F1 ⟨4,mm,t,p,[]⟩).1 e1 ++ [.cells [I 4],.cells [I (put F1 ⟨4,mm,t,p,[]⟩).2],.cells [I p],.defr,.loop y]) hback
 ·intro _
  have hres:=hsome (q.d.length - 1) (by omega)
  rw [show q.d.length - 1 + 1 = q.d.length by omega] at hres
  obtain ⟨t,f,hres⟩:=hres
  rw [bkX_len]
  generalize q.d.getD _ 0 = m at hres
  generalize bs q.d.length = o at *
  obtain ⟨F1,s1,e1⟩:=o
  simp only at hres
  subst hres
  repeat' ((conv=>whnf); simp only [hlrs,hlrp])
  conv=>whnf
  exact zw15 (n:=10) (L':=bS q F1 e1) rfl (zw21 _) rfl (bS_bel q _ _) ⟨rfl,rfl⟩
theorem build_c (q : Vs4) (hl : LSs q.s) (ho : orderF q.s = 0) (hg : ∀ x,ByOk (directB q.s x)) (ha : 0 < q.a.length ∧ q.a.length ≤ 10000) (hb : 0 < q.b.length ∧ q.b.length ≤ 10000) (hc : 0 < q.c.length ∧ q.c.length ≤ 10000) (hd : 0 < q.d.length ∧ q.d.length ≤ 10000) : BCall q 1 (vlist q.a q.b q.c q.d):=by
 have r5:=Rs.nil
 have r4 : Rs 4 [(4,q.d)]:=.cons 4 q.d _ r5 (by decide) (by decide)
 have r3 : Rs 3 [(3,q.c),(4,q.d)]:=.cons 3 q.c _ r4 (by decide) (by decide)
 have r2 : Rs 2 [(2,q.b),(3,q.c),(4,q.d)]:=.cons 2 q.b _ r3 (by decide) (by decide)
 have c5:=leaf_c q hl ho hg
 have c4:=step4_c q hg r5 hd.2 hd.1 c5
 have c3:=step3_c q hg r4 hc.2 hc.1 c4
 have c2:=step2_c q hg r3 hb.2 hb.1 c3
 exact step1_c q hg r2 ha.2 ha.1 c2
def ins1 : List Int → Int → List Int
 | [],n=>[n]
 | a :: r,n=>if a < n then a :: ins1 r n else if a = n then a :: r else n :: a :: r
theorem ins1_mem {x n : Int} : ∀ {l : List Int},x ∈ ins1 l n ↔ x = n ∨ x ∈ l
 | []=>by simp [ins1]
 | a :: r=>by
  rw [ins1]
  split
  ·rw [List.mem_cons,ins1_mem (l:=r),List.mem_cons]
   constructor
   ·rintro (h | h | h)
    ·exact .inr (.inl h)
    ·exact .inl h
    ·exact .inr (.inr h)
   ·rintro (h | h | h)
    ·exact .inr (.inl h)
    ·exact .inl h
    ·exact .inr (.inr h)
  ·split
   ·rename_i h; subst h; simp
   ·simp
abbrev Up (l : List Int) : Prop:=l.Pairwise (· < ·)
theorem ins1_up {n : Int} : ∀ {l : List Int},Up l → Up (ins1 l n)
 | [],_=>by simp [ins1]
 | a :: r,h=>by
  have h:=List.pairwise_cons.1 h
  rw [ins1]
  split
  ·rename_i c
   refine List.pairwise_cons.2 ⟨fun x hx=>?_,ins1_up h.2⟩
   rcases ins1_mem.1 hx with rfl | hx
   ·exact c
   ·exact h.1 x hx
  ·split
   ·exact List.pairwise_cons.2 h
   ·refine List.pairwise_cons.2 ⟨fun x hx=>?_,List.pairwise_cons.2 h⟩
    rcases List.mem_cons.1 hx with rfl | hx
    ·omega
    ·have:=h.1 x hx; omega
theorem up_uniq : ∀ {l m : List Int},Up l → Up m → (∀ x,x ∈ l ↔ x ∈ m) → l = m
 | [],[],_,_,_=>rfl
 | [],b :: m,_,_,h=>by have:=(h b).2 (by simp); cases this
 | a :: l,[],_,_,h=>by have:=(h a).1 (by simp); cases this
 | a :: l,b :: m,hl,hm,h=>by
  have hl:=List.pairwise_cons.1 hl
  have hm:=List.pairwise_cons.1 hm
  have e : a = b:=by
   rcases List.mem_cons.1 ((h a).1 (by simp)) with e | h1
   ·exact e
   rcases List.mem_cons.1 ((h b).2 (by simp)) with e | h2
   ·exact e.symm
   have:=hm.1 a h1
   have:=hl.1 b h2
   omega
  subst e
  refine congrArg _ (up_uniq hl.2 hm.2 fun x=>⟨fun hx=>?_,fun hx=>?_⟩)
  ·rcases List.mem_cons.1 ((h x).1 (by simp [hx])) with e | h1
   ·have:=hl.1 x hx; omega
   ·exact h1
  ·rcases List.mem_cons.1 ((h x).2 (by simp [hx])) with e | h1
   ·have:=hm.1 x hx; omega
   ·exact h1
def insA (l : List Int) (ns : List Int) : List Int:=ns.foldl ins1 l
theorem insA_mem {x : Int} : ∀ {ns l : List Int},x ∈ insA l ns ↔ x ∈ ns ∨ x ∈ l
 | [],l=>by simp [insA]
 | n :: ns,l=>by
  show x ∈ insA (ins1 l n) ns ↔ _
  rw [insA_mem,ins1_mem,List.mem_cons]
  constructor
  ·rintro (h | h | h)
   ·exact .inl (.inr h)
   ·exact .inl (.inl h)
   ·exact .inr h
  ·rintro ((h | h) | h)
   ·exact .inr (.inl h)
   ·exact .inl h
   ·exact .inr (.inr h)
theorem insA_up : ∀ {ns l : List Int},Up l → Up (insA l ns)
 | [],l,h=>h
 | n :: ns,l,h=>insA_up (ns:=ns) (ins1_up h)
theorem cp_inv {d : List Int} (hd : d.Pairwise (· ≤ ·)) : ∀ m,m ≤ d.length → Up (Go.Lib.compactUpTo d.toArray m) ∧ (∀ x ∈ Go.Lib.compactUpTo d.toArray m,∃ j,∃ h : j < d.length,j < m ∧ x = d[j]) ∧ ∀ (j : Nat) (h : j < d.length),j < m → d[j] ∈ Go.Lib.compactUpTo d.toArray m
 | 0,_=>⟨List.Pairwise.nil,fun x hx=>(by cases hx),fun j _ hj=>absurd hj (Nat.not_lt_zero j)⟩
 | m + 1,hm=>by
  obtain ⟨h1,h2,h3⟩:=cp_inv hd m (by omega)
  rw [Go.Lib.compactUpTo_succ]
  have hle:=List.pairwise_iff_getElem.1 hd
  have eg : ∀ j,j < d.length → d.toArray[j]! = d[j]!:=fun j hj=>by simp
  have eg2 : ∀ (j : Nat) (hj : j < d.length),d.toArray[j]! = d[j]:=fun j hj=>by
   rw [getElem!_pos d.toArray j (by simpa using hj)]; simp
  by_cases hk : Go.Lib.keeps d.toArray m = true
  ·rw [if_pos hk]
   have hlt : ∀ x ∈ Go.Lib.compactUpTo d.toArray m,x < d[m]:=fun x hx=>by
    obtain ⟨j,hj,hjm,rfl⟩:=h2 x hx
    unfold Go.Lib.keeps at hk
    rw [decide_eq_true_eq] at hk
    rcases hk with hk | hk
    ·omega
    ·rw [eg2 m (by omega),eg2 (m - 1) (by omega)] at hk
     have a1 : d[j] ≤ d[m - 1]:=by
      by_cases e : j = m - 1
      ·subst e; exact Int.le_refl _
      ·exact hle j (m - 1) hj (by omega) (by omega)
     have a2:=hle (m - 1) m (by omega) (by omega) (by omega)
     omega
   refine ⟨List.pairwise_append.2 ⟨h1,by simp,fun x hx y hy=>?_⟩,fun x hx=>?_,fun j hj hjm=>?_⟩
   ·rw [List.mem_singleton.1 hy,eg2 m (by omega)]; exact hlt x hx
   ·rcases List.mem_append.1 hx with hx | hx
    ·obtain ⟨j,hj,hjm,e⟩:=h2 x hx
     exact ⟨j,hj,by omega,e⟩
    ·rw [List.mem_singleton.1 hx]
     exact ⟨m,by omega,by omega,eg2 m (by omega)⟩
   ·by_cases e : j = m
    ·subst e; rw [eg2 j hj]; simp
    ·exact List.mem_append.2 (.inl (h3 j hj (by omega)))
  ·rw [if_neg hk,List.append_nil]
   refine ⟨h1,fun x hx=>?_,fun j hj hjm=>?_⟩
   ·obtain ⟨j,hj,hjm,e⟩:=h2 x hx
    exact ⟨j,hj,by omega,e⟩
   ·by_cases e : j = m
    ·subst e
     unfold Go.Lib.keeps at hk
     rw [decide_eq_true_eq] at hk
     have e2 : ¬ j = 0:=fun e=>hk (.inl e)
     have e3 : d.toArray[j]! = d.toArray[j - 1]!:=Classical.byContradiction fun e=>hk (.inr e)
     rw [eg2 j hj,eg2 (j - 1) (by omega)] at e3
     rw [e3]
     exact h3 (j - 1) (by omega) (by omega)
    ·exact h3 j hj (by omega)
theorem cps_mem {l : List Int} {x : Int} : x ∈ cpI (sortI l) ↔ x ∈ l:=by
 have hs : (sortI l).Pairwise (· ≤ ·):=by
  have:=List.pairwise_mergeSort (le:=fun x y : Int=>decide (x ≤ y)) (fun a b c h1 h2=>by simp at *; omega) (fun a b=>by simp; omega) l
  exact this.imp fun h=>by simpa using h
 obtain ⟨_,h2,h3⟩:=cp_inv hs (sortI l).length (zw21 _)
 have hm : ∀ x,x ∈ sortI l ↔ x ∈ l:=fun x=>List.mem_mergeSort
 show x ∈ Go.Lib.compactUpTo _ _ ↔ _
 constructor
 ·intro h
  obtain ⟨j,hj,_,rfl⟩:=h2 x h
  exact (hm _).1 (List.getElem_mem hj)
 ·intro h
  obtain ⟨j,hj,rfl⟩:=List.mem_iff_getElem.1 ((hm x).2 h)
  exact h3 j hj hj
theorem cps_up (l : List Int) : Up (cpI (sortI l)):=by
 have hs : (sortI l).Pairwise (· ≤ ·):=by
  have:=List.pairwise_mergeSort (le:=fun x y : Int=>decide (x ≤ y)) (fun a b c h1 h2=>by simp at *; omega) (fun a b=>by simp; omega) l
  exact this.imp fun h=>by simpa using h
 exact (cp_inv hs (sortI l).length (zw21 _)).1
theorem sortI_len (l : List Int) : (sortI l).length = l.length:=List.length_mergeSort _
theorem cps_eq {l m : List Int} (hm : Up m) (h : ∀ x,x ∈ l ↔ x ∈ m) : cpI (sortI l) = m:=up_uniq (cps_up l) hm fun x=>cps_mem.trans (h x)
def selV (v : Int) (ps : List (Int × Int)) : List Int:=(ps.filter fun p=>decide (p.1 = v)).map (·.2)
theorem selV_mem {v x : Int} {ps : List (Int × Int)} : x ∈ selV v ps ↔ (v,x) ∈ ps:=by
 unfold selV
 rw [List.mem_map]
 constructor
 ·rintro ⟨⟨a,b⟩,h,rfl⟩
  rw [List.mem_filter] at h
  have:=of_decide_eq_true h.2
  simp only at this
  subst this
  exact h.1
 ·intro h
  exact ⟨(v,x),List.mem_filter.2 ⟨h,decide_eq_true rfl⟩,rfl⟩
def tv (v : Int) (ps : List (Int × Int)) : List Int:=insA [lo v] (selV v ps)
theorem tv_mem {v x : Int} {ps : List (Int × Int)} : x ∈ tv v ps ↔ x = lo v ∨ (v,x) ∈ ps:=by
 unfold tv
 rw [insA_mem,selV_mem,List.mem_singleton]
 exact Or.comm
theorem tv_up (v : Int) (ps : List (Int × Int)) : Up (tv v ps):=insA_up (by simp)
theorem tv_raw (v : Int) (ps : List (Int × Int)) : cpI (sortI (selV v ps ++ [lo v])) = tv v ps:=cps_eq (tv_up v ps) fun x=>by
 rw [List.mem_append,List.mem_singleton,selV_mem,tv_mem]
 exact Or.comm
theorem up_nodup {l : List Int} (h : Up l) : l.Nodup:=h.imp fun h=>by omega
theorem up_len {l m : List Int} (h : Up l) (hs : ∀ x ∈ l,x ∈ m) : l.length ≤ m.length:=List.Nodup.length_le_of_subset (up_nodup h) hs
def InB (p : Int × Int) : Prop:=lo p.1 < p.2 ∧ p.2 ≤ hi p.1
theorem tc_in : ∀ (m : Nat) (c : Co),SizeOf.sizeOf c ≤ m → ∀ p ∈ tcC c,InB p
 | 0,c,hz=>absurd hz (by cases c; simp)
 | m + 1,.mk kd v n ps,hz=>by
  intro p hp
  simp only [Co.mk.sizeOf_spec] at hz
  rw [tcC,List.mem_append] at hp
  rcases hp with hp | hp
  ·split at hp
   ·rename_i h; rw [List.mem_singleton.1 hp]; exact h.2
   ·cases hp
  ·rw [tcL_map] at hp
   obtain ⟨l,hl,hp⟩:=List.mem_flatten.1 hp
   obtain ⟨c,hc,rfl⟩:=List.mem_map.1 hl
   have:=List.sizeOf_lt_of_mem hc
   exact tc_in m c (by omega) p hp
theorem ts_in : ∀ (m : Nat) (l : List Sp),SizeOf.sizeOf l ≤ m → ∀ p ∈ tsL l,InB p
 | 0,l,hz=>absurd hz (by cases l <;> simp)
 | m + 1,[],hz=>fun p hp=>by rw [tsL] at hp; cases hp
 | m + 1,.mk kd b c t e :: l,hz=>by
  intro p hp
  simp only [List.cons.sizeOf_spec,Sp.mk.sizeOf_spec] at hz
  rw [tsL,tsS,List.mem_append,List.mem_append,List.mem_append] at hp
  rcases hp with ((hp | hp) | hp) | hp
  ·exact tc_in _ c (zw21 _) p hp
  ·exact ts_in m t (by omega) p hp
  ·exact ts_in m e (by omega) p hp
  ·exact ts_in m l (by omega) p hp
theorem falls_of {m : Int} : ∀ {ns : List Int} {b : Int},(b :: ns).Pairwise (fun x y=>y < x) → (∀ x ∈ b :: ns,m ≤ x) → Falls m b ns
 | [],b,_,h=>.nil b (h b (by simp))
 | n :: ns,b,hp,h=>by
  rw [List.pairwise_cons] at hp
  exact .cons (hp.1 n (by simp)) (falls_of hp.2 fun x hx=>h x (by simp [hx]))
theorem tv_vals (v : Int) (hv : 1 ≤ v ∧ v ≤ 4) {ps : List (Int × Int)} (hp : ∀ p ∈ ps,InB p) : Vals v (tv v ps):=by
 have hne : (tv v ps).reverse ≠ []:=by
  rw [Ne,List.reverse_eq_nil_iff]
  intro h
  have:=(tv_mem (v:=v) (x:=lo v) (ps:=ps)).2 (.inl rfl)
  rw [h] at this; cases this
 obtain ⟨m,ns,e⟩:=List.exists_cons_of_ne_nil hne
 have hmem : ∀ x ∈ m :: ns,lo v ≤ x ∧ x ≤ hi v:=fun x hx=>by
  rw [← e,List.mem_reverse,tv_mem] at hx
  rcases hx with rfl | hx
  ·refine ⟨Int.le_refl _,?_⟩
   have h4 : v = 1 ∨ v = 2 ∨ v = 3 ∨ v = 4:=by omega
   rcases h4 with rfl | rfl | rfl | rfl <;> decide
  ·have:=hp _ hx
   unfold InB at this
   simp only at this
   omega
 refine ⟨⟨m,ns,e,(hmem m (by simp)).2,falls_of ?_ fun x hx=>(hmem x hx).1⟩⟩
 rw [← e,List.pairwise_reverse]
 exact tv_up v ps
def vq (l : List Sp) : Vs4:=⟨l,tv 1 (tsL l),tv 2 (tsL l),tv 3 (tsL l),tv 4 (tsL l)⟩
theorem adds_sel : ∀ (ps : List (Int × Int)) (q : Q4),q.adds ps = ⟨q.a ++ selV 1 ps,q.b ++ selV 2 ps,q.c ++ selV 3 ps,q.d ++ selV 4 ps⟩
 | [],q=>by simp [Q4.adds,selV]
 | (v,n) :: ps,q=>by
  show (q.add (v,n)).adds ps = _
  rw [adds_sel ps]
  unfold Q4.add selV
  by_cases h1 : v = 1
  ·subst h1; simp
  by_cases h2 : v = 2
  ·subst h2; simp
  by_cases h3 : v = 3
  ·subst h3; simp
  by_cases h4 : v = 4
  ·subst h4; simp
  ·simp [h1,h2,h3,h4]
theorem tc_le : ∀ (m : Nat) (c : Co),SizeOf.sizeOf c ≤ m → ∀ d,cN d c ≤ 256 → (tcC c).length ≤ cN d c
 | 0,c,hz=>absurd hz (by cases c; simp)
 | m + 1,.mk kd v n ps,hz=>by
  intro d hd
  simp only [Co.mk.sizeOf_spec] at hz
  rw [cN] at hd ⊢
  split at hd
  ·omega
  rename_i h16
  rw [if_neg h16]
  have key : ∀ l : List Co,(∀ c ∈ l,SizeOf.sizeOf c ≤ m) → cNs (d + 1) l ≤ 256 → (tcL l).length ≤ cNs (d + 1) l:=by
   intro l
   induction l with
   | nil=>intro _ _; rw [tcL]; exact zw22 _
   | cons c cs ih =>
    intro hl hh
    rw [cNs] at hh ⊢
    rw [tcL,List.length_append]
    have h1:=tc_le m c (hl c (by simp)) (d + 1) (by omega)
    have h2:=ih (fun c h=>hl c (by simp [h])) (by omega)
    omega
  have:=key ps (fun c h=>by have:=List.sizeOf_lt_of_mem h; omega) (by omega)
  rw [tcC,List.length_append]
  have h1 : (if kd = 1 ∧ lo v < n ∧ n ≤ hi v then [(v,n)] else []).length ≤ 1:=by split <;> simp
  omega
theorem tc_zero {c : Co} (h : isZ c = true) : tcC c = []:=by
 cases c with | mk kd v n ps =>
 unfold isZ at h
 simp only [Bool.and_eq_true,decide_eq_true_eq,Co.kind,Co.var,Co.n,Co.parts] at h
 obtain ⟨⟨⟨h1,h2⟩,h3⟩,h4⟩:=h
 have k1 : kd = 0:=of_decide_eq_true h1
 have h4:=of_decide_eq_true h4
 have : ps = []:=List.length_eq_zero_iff.1 (by omega)
 subst this
 subst k1
 rw [tcC,tcL]; rfl
theorem tcz_le {c : Co} (h : cz c ≤ 256) : (tcC c).length ≤ cz c:=by
 unfold cz at h ⊢
 split
 ·rename_i hz; rw [tc_zero hz]; exact zw22 _
 ·rename_i hz; rw [if_neg hz] at h; exact tc_le _ c (zw21 _) 0 h
theorem ts_le : ∀ (m : Nat) (l : List Sp),SizeOf.sizeOf l ≤ m → ∀ d,(sNs d l).2 ≤ 256 → (tsL l).length ≤ (sNs d l).2
 | 0,l,hz=>absurd hz (by cases l <;> simp)
 | m + 1,[],hz=>fun d _=>by rw [tsL]; exact zw22 _
 | m + 1,.mk kd b c t e :: l,hz=>by
  intro d hd
  simp only [List.cons.sizeOf_spec,Sp.mk.sizeOf_spec] at hz
  rw [sNs,sN] at hd ⊢
  split at hd
  ·simp only at hd; omega
  rename_i h16
  rw [if_neg h16]
  simp only at hd ⊢
  have h1:=ts_le m t (by omega) (d + 1) (by omega)
  have h2:=ts_le m e (by omega) (d + 1) (by omega)
  have h3:=ts_le m l (by omega) d (by omega)
  have h4:=tcz_le (c:=c) (by omega)
  rw [tsL,tsS,List.length_append,List.length_append,List.length_append]
  omega
theorem ts_256 {l : List Sp} (h : orderF l = 0) : (tsL l).length ≤ 256:=by
 obtain ⟨_,hf,_⟩:=order_ok.1 h
 have:=ts_le _ l (zw21 _) 0 hf.2
 have:=hf.2
 omega
theorem insA_len : ∀ (ns l : List Int),(insA l ns).length ≤ l.length + ns.length
 | [],l=>by simp [insA]
 | n :: ns,l=>by
  have h1:=insA_len ns (ins1 l n)
  have h2 : ∀ l : List Int,(ins1 l n).length ≤ l.length + 1:=by
   intro l
   induction l with
   | nil=>simp [ins1]
   | cons a r ih=>rw [ins1]; split <;> (try split) <;> simp <;> omega
  have h3:=h2 l
  show (insA (ins1 l n) ns).length ≤ _
  rw [List.length_cons]; omega
theorem selV_len (v : Int) (ps : List (Int × Int)) : (selV v ps).length ≤ ps.length:=by
 unfold selV; rw [List.length_map]; exact List.length_filter_le _ _
theorem tv_len (v : Int) (ps : List (Int × Int)) : (tv v ps).length ≤ ps.length + 1:=by
 have h1:=insA_len (selV v ps) [lo v]
 have h2:=selV_len v ps
 unfold tv
 simp only [List.length_singleton] at h1
 omega
theorem tv_pos (v : Int) (ps : List (Int × Int)) : 0 < (tv v ps).length:=List.length_pos_of_mem ((tv_mem (v:=v) (x:=lo v) (ps:=ps)).2 (.inl rfl))
theorem directB_ok {l : List Sp} (hl : LSs l) (x : En) : ByOk (directB l x):=by
 have hok : ByOk []:=⟨List.nodup_nil,fun b hb=>by cases hb⟩
 unfold directB
 split
 ·rename_i h
  exact (direct1_s x _ l (zw21 _) hl.len (order_dsp hl h.1) [] hok).1
 ·exact hok
def cMT (l : List Sp) (q : Q4) : List Blk:=[.cells [.d (sps l)],.cells [.nil],.cells [.nil,.own 3 q.a.length 0 q.a.length,.own 4 q.b.length 0 q.b.length,.own 5 q.c.length 0 q.c.length,.own 6 q.d.length 0 q.d.length],.row q.a.length 1 (rdI q.a),.row q.b.length 1 (rdI q.b),.row q.c.length 1 (rdI q.c),.row q.d.length 1 (rdI q.d)]
theorem rnR_rdI (ρ : Nat → Nat) (l : List Int) : rnR ρ (rdI l) = rdI l:=by
 unfold rdI
 induction l with
 | nil=>rfl
 | cons a l ih=>simp only [List.map_cons,rnR,V.rnL,V.rn]; rw [ih]
theorem tA_part (l : List Sp) (q : Q4) : Part [2,3,4,5,6] (tA q) (cMT l q):=by
 refine ⟨by decide,fun b hb=>?_,rfl,fun b c hc=>?_,tA_bel q,rfl⟩
 ·show b < 7
  simp at hb; omega
 ·match b,hc with
  | 0,hc=>cases hc; rfl
  | 1,hc =>
   cases hc
   show some (Blk.row q.a.length 1 (rdI q.a)) = some (Blk.row q.a.length 1 (rnR _ (rdI q.a)))
   rw [rnR_rdI]
  | 2,hc =>
   cases hc
   show some (Blk.row q.b.length 1 (rdI q.b)) = some (Blk.row q.b.length 1 (rnR _ (rdI q.b)))
   rw [rnR_rdI]
  | 3,hc =>
   cases hc
   show some (Blk.row q.c.length 1 (rdI q.c)) = some (Blk.row q.c.length 1 (rnR _ (rdI q.c)))
   rw [rnR_rdI]
  | 4,hc =>
   cases hc
   show some (Blk.row q.d.length 1 (rdI q.d)) = some (Blk.row q.d.length 1 (rnR _ (rdI q.d)))
   rw [rnR_rdI]
  | b + 5,hc=>simp at hc
theorem tA_back (l : List Sp) (q p : Q4) : putB [2,3,4,5,6] (rnB (rnI [2,3,4,5,6] (cMT l q).length) (tA p)) (cMT l q) = cMT l p:=by
 have h : rnB (rnI [2,3,4,5,6] (cMT l q).length) (tA p) = [.cells [.nil,.own 3 p.a.length 0 p.a.length,.own 4 p.b.length 0 p.b.length,.own 5 p.c.length 0 p.c.length,.own 6 p.d.length 0 p.d.length],.row p.a.length 1 (rdI p.a),.row p.b.length 1 (rdI p.b),.row p.c.length 1 (rdI p.c),.row p.d.length 1 (rdI p.d)]:=by
  show [Blk.cells [.nil,.own 3 p.a.length 0 p.a.length,.own 4 p.b.length 0 p.b.length,.own 5 p.c.length 0 p.c.length,.own 6 p.d.length 0 p.d.length],.row p.a.length 1 (rnR _ (rdI p.a)),.row p.b.length 1 (rnR _ (rdI p.b)),.row p.c.length 1 (rnR _ (rdI p.c)),.row p.d.length 1 (rnR _ (rdI p.d))] = _
  rw [rnR_rdI,rnR_rdI,rnR_rdI,rnR_rdI]
 rw [h]
 simp only [putB,cMT,List.cons_append,List.nil_append,List.set_cons_succ,List.set_cons_zero,List.append_nil]
theorem testsM_c (l : List Sp) (hl : LSs l) (hv : vSps l = true) (hn : (tsL l).length ≤ 1000000) {k : V → List Blk → Prop} (h : k (.tup []) (cMT l ⟨selV 1 (tsL l),selV 2 (tsL l),selV 3 (tsL l),selV 4 (tsL l)⟩)) :
  CallP C 65 [.d (sps l),.ptr 2 0] [.cells [.d (sps l)],.cells [.nil],.cells [.nil,.nil,.nil,.nil,.nil]] k:=by
 refine CallP.nilCell 2 1 1 _ rfl rfl (by decide) ?_
 refine CallP.nilCell 2 2 1 _ rfl rfl (by decide) ?_
 refine CallP.nilCell 2 3 1 _ rfl rfl (by decide) ?_
 refine CallP.nilCell 2 4 1 _ rfl rfl (by decide) ?_
 refine CallP.cnv (L':=cMT l ⟨[],[],[],[]⟩) rfl rfl ?_
 refine CallP.embed [2,3,4,5,6] (ts_s _ l (zw21 _) hv hl ⟨[],[],[],[]⟩ 0 ⟨zw21 0,Nat.le_refl 0,Nat.le_refl 0,Nat.le_refl 0⟩ (by omega)) (tA_part l _) rfl ?_
 rintro X L1 ⟨rfl,rfl⟩
 rw [tA_back,adds_sel]
 exact h
theorem cpI_le (l : List Int) : (cpI l).length ≤ l.length:=by
 unfold cpI Go.Lib.compact Go.Lib.compactUpTo
 rw [List.length_map]
 exact zw23 (List.length_filter_le _ _) (by simp)
@[irreducible] def cps (l : List Int) (n : Int) : List Int:=cpI (sortI (l ++ [n]))
@[irreducible] def srR (l : List Int) (n : Int) : List (List V):=rdI (sortI (l ++ [n]))
@[irreducible] def cpR (l : List Int) (n : Int) : List (List V):=rdI (cpI (sortI (l ++ [n])) ++ List.replicate (l.length + 1 - (cpI (sortI (l ++ [n]))).length) 0)
theorem sort_ap {b gen : Nat} {l : List Int} {n : Int} (hL : L[b]? = some (.row gen 1 ((rdI l).take l.length ++ [[I n]]))) (hl' : l.length ≤ 1000000) (h : k (.tup []) (L.set b (.row gen 1 (srR l n)))) : CallP C 67 [.own b gen 0 (l.length + 1)] L k:=by
 have e : (rdI l).take l.length ++ [[I n]] = rdI (l ++ [n]):=by
  unfold rdI
  rw [List.take_of_length_le (by simp),List.map_append]; rfl
 have hn : (l ++ [n]).length = l.length + 1:=by simp
 unfold srR at h
 rw [← hn]
 exact sort_c (by rw [hL,e]) (by omega) (by omega) h
theorem compact_ap {b gen : Nat} {l : List Int} {n : Int} (hL : L[b]? = some (.row gen 1 (srR l n))) (h : k (.own b gen 0 (cps l n).length) (L.set b (.row gen 1 (cpR l n)))) : CallP C 68 [.own b gen 0 (l.length + 1)] L k:=by
 unfold srR at hL
 unfold cps cpR at h
 have hn : (sortI (l ++ [n])).length = l.length + 1:=by rw [sortI_len]; simp
 rw [← hn] at h ⊢
 exact compact_c hL (by omega) (cpI_le _) h
theorem cpR_cv {S : Nat → Prop} {L : List Blk} {b gen : Nat} {l : List Int} {n : Int} (hb : S b) (hL : L[b]? = some (.row gen 1 (cpR l n))) : Cv S L (.own b gen 0 (cps l n).length) (ins (cps l n)):=by
 refine .row ((cps l n).map fun n=>[DI n]) hb hL ?_ (by simp) (fun e he=>by obtain ⟨n,_,rfl⟩:=List.mem_map.1 he; rfl)
 unfold cpR cps rdI
 rw [List.drop_zero,List.map_append,List.take_append_of_le_length (by simp),List.take_of_length_le (by simp),List.map_map]
 rfl
theorem cpR_bel (n : Nat) (l : List Int) (m : Int) : belR n (cpR l m) = true:=by unfold cpR; exact rdI_bel n _
def oV (b : Nat) (a : List Int) (v : Int) : Bool → V
 | true=>.own b (a.length + 1) 0 (cps a (lo v)).length
 | false=>.own b a.length 0 a.length
def oR (a : List Int) (v : Int) : Bool → Blk
 | true=>.row (a.length + 1) 1 (cpR a (lo v))
 | false=>.row a.length 1 (rdI a)
def wB (l : List Sp) (a1 a2 a3 a4 : List Int) (x y z u : Bool) : List Blk:=[.cells [.d (sps l)],.cells [.nil],.cells [.nil,oV 3 a1 1 x,oV 4 a2 2 y,oV 5 a3 3 z,oV 6 a4 4 u],oR a1 1 x,oR a2 2 y,oR a3 3 z,oR a4 4 u]
theorem oR_bel (n : Nat) (a : List Int) (v : Int) (x : Bool) : (oR a v x).bel n = true:=by
 cases x
 ·exact rdI_bel n _
 ·exact cpR_bel n _ _
theorem oV_bel (n b : Nat) (h : b < n) (a : List Int) (v : Int) (x : Bool) : (oV b a v x).bel n = true:=by
 cases x <;> exact zw19 h
theorem wB_bel (l : List Sp) (a1 a2 a3 a4 : List Int) (x y z u : Bool) : belB 7 (wB l a1 a2 a3 a4 x y z u) = true:=by
 have e : ∀ cs : List V,(Blk.cells cs).bel 7 = V.belL 7 cs:=fun _=>rfl
 unfold wB
 simp only [belB,oR_bel,e,V.belL,V.bel,oV_bel 7 3 (by decide),oV_bel 7 4 (by decide),oV_bel 7 5 (by decide),oV_bel 7 6 (by decide),Bool.and_true]
def wM (l : List Sp) (a1 a2 a3 a4 : List Int) : Nat → List Blk
 | 0=>wB l a1 a2 a3 a4 false false false false
 | 1=>wB l a1 a2 a3 a4 true false false false
 | 2=>wB l a1 a2 a3 a4 true true false false
 | 3=>wB l a1 a2 a3 a4 true true true false
 | _=>wB l a1 a2 a3 a4 true true true true
theorem wM_bel (l : List Sp) (a1 a2 a3 a4 : List Int) (j : Nat) : belB 7 (wM l a1 a2 a3 a4 j) = true:=by
 unfold wM; split <;> exact wB_bel _ _ _ _ _ _ _ _ _
def plM (o : List Nat) (i : Nat) : List (V × V):=(List.range i).map fun j=>(I (o.getD j 0),I j)
theorem plM_bel (n : Nat) (o : List Nat) (i : Nat) : belM n (plM o i) = true:=by
 unfold plM
 induction List.range i with
 | nil=>rfl
 | cons a r ih=>simp only [List.map_cons,belM,V.bel,Bool.true_and]; exact ih
theorem plM_keys {o : List Nat} {i : Nat} (h : i ≤ o.length) : (plM o i).map (·.1) = (natI (o.take i)).map fun m=>.d (.int .i64 m):=by
 unfold plM natI
 rw [List.map_map,List.map_map]
 refine List.ext_getElem (by simp; omega) fun j h1 h2=>?_
 simp only [List.length_map,List.length_range] at h1
 rw [List.getElem_map,List.getElem_map,List.getElem_range,List.getElem_take]
 show I ((o.getD j 0 : Nat) : Int) = I ((o[j] : Nat) : Int)
 rw [List.getD_eq_getElem?_getD,List.getElem?_eq_getElem (by omega)]; rfl
theorem plM_next (o : List Nat) {i : Nat} (h : i < o.length) : plM o i ++ [(I (o[i] : Nat),I i)] = plM o (i + 1):=by
 unfold plM
 rw [List.range_succ,List.map_append]
 congr 1
 show _ = [(I ((o.getD i 0 : Nat) : Int),I i)]
 rw [List.getD_eq_getElem?_getD,List.getElem?_eq_getElem h]; rfl
theorem plM_new {o : List Nat} {i : Nat} (hn : o.Nodup) (h : i < o.length) {x : Int} (hx : x = (o[i] : Nat)) {q : Option (Nat × V) → Prop} (hq : q none) : MapF (.int .i64) (plM o i) (I x) q :=
 MapF.no (natI (o.take i)) (plM_keys (Nat.le_of_lt h)) (by
  subst hx
  intro hm
  unfold natI at hm
  obtain ⟨b,hb,e⟩:=List.mem_map.1 hm
  obtain ⟨j,hj,e2⟩:=List.mem_iff_getElem.1 hb
  rw [List.length_take] at hj
  rw [List.getElem_take] at e2
  have e3 : b = o[i]:=by
   have : (b : Int) = (o[i] : Int):=e
   omega
  have:=nd_inj hn (by omega) h (e2.trans e3)
  omega) hq
theorem plM_at {o : List Nat} (hn : o.Nodup) {a : Nat} (ha : a ∈ o) {x : Int} (hx : x = (a : Int)) {q : Option (Nat × V) → Prop} (hq : q (some (o.idxOf a,I (o.idxOf a)))) : MapF (.int .i64) (plM o o.length) (I x) q:=by
 subst hx
 have hi:=List.idxOf_lt_length_of_mem ha
 refine MapF.ints (natI (o.take o.length)) (plM_keys (zw21 _)) (.inl ⟨o.idxOf a,I (o.idxOf a),?_,fun j hj=>?_,?_,hq⟩)
 ·unfold natI
  rw [List.take_length,List.getElem?_map,List.getElem?_eq_getElem hi,List.getElem_idxOf]; rfl
 ·unfold natI
  rw [List.take_length,List.getElem?_map,List.getElem?_eq_getElem (by omega)]
  intro e
  have e : ((o[j] : Nat) : Int) = (a : Int):=by simpa using e
  have e2 : o[j] = a:=by omega
  have:=nd_inj hn (by omega) hi (e2.trans (List.getElem_idxOf hi).symm)
  omega
 ·unfold plM
  rw [List.getElem?_map,List.getElem?_range hi]
  show some (I ((o.getD (o.idxOf a) 0 : Nat) : Int),_) = _
  rw [List.getD_eq_getElem?_getD,List.getElem?_eq_getElem hi,List.getElem_idxOf]; rfl
def eM (q : Vs4) (F : List Nd) (e : En) (t : V) : List Blk:=[.cells [.d (sps q.s)],.cells [t],.cells [.nil,.d (ins q.a),.d (ins q.b),.d (ins q.c),.d (ins q.d)],.map (esF F),.cells [.d (nds F),.map 3],.cells [.ptr 4 0],.cells (e.cells.map .d),.cells [.d .nilptr,.ptr 6 0,.ptr 6 1,.ptr 6 2,.ptr 6 3],.cells [.fn 69 cCaps]]
theorem eM_bel (n : Nat) (h : 9 ≤ n) (q : Vs4) (F : List Nd) (e : En) (t : V) (ht : t.bel n = true) : belB n (eM q F e t) = true:=by
 have h1 : ∀ k,k < 9 → decide (k < n) = true:=fun k hk=>zw19 (by omega)
 unfold eM cCaps
 simp only [belB,Blk.bel,V.belL,V.bel,esF_bel,V.belL_d,ht,h1 0 (by decide),h1 2 (by decide),h1 3 (by decide),h1 4 (by decide),h1 5 (by decide),h1 6 (by decide),h1 7 (by decide),h1 8 (by decide),Bool.and_true]
theorem rdN_cv {S : Nat → Prop} {L : List Blk} {b gen n : Nat} (F : List Nd) (hn : n = F.length) (hb : S b) (hL : L[b]? = some (.row gen 5 (rdN F))) : Cv S L (.own b gen 0 n) (nds F):=by
 subst hn
 refine .row (F.map Nd.cells) hb hL ?_ (by simp) (fun e he=>by obtain ⟨n,_,rfl⟩:=List.mem_map.1 he; rfl)
 unfold rdN
 rw [List.drop_zero,List.take_of_length_le (by simp),List.map_map]
 rfl
theorem wf_neg {F : List Nd} (h : Wf F) (x : Nd) (hx : x ∈ F) (hv : x.var ≠ 0) : 0 ≤ x.yes ∧ 0 ≤ x.no:=by
 obtain ⟨i,hi,rfl⟩:=List.mem_iff_getElem.1 hx
 have hin:=h.inn hi (by rw [ndA_get hi]; exact hv)
 rw [ndA_get hi] at hin
 exact ⟨hin.y.1,hin.z.1⟩
def cmpN (l : List Sp) : List Nd:=cmpT (directB l) (vq l).a (vq l).b (vq l).c (vq l).d
structure OutOk (l : List Int) : Prop where
 up : Up l
 rg : ∀ x ∈ l,0 ≤ x ∧ x ≤ 46
theorem OutOk.len {l : List Int} (h : OutOk l) : l.length ≤ 47:=by
 have:=up_len h.up (m:=(List.range 47).map fun (n : Nat)=>(n : Int)) fun x hx=>by
  have:=h.rg x hx
  exact List.mem_map.2 ⟨x.toNat,List.mem_range.2 (by omega),by omega⟩
 simpa using this
theorem lo_hi (v : Int) : 0 ≤ lo v ∧ hi v ≤ 46:=by
 unfold lo hi
 constructor
 ·split <;> omega
 ·split <;> (try split) <;> omega
theorem OutOk.ins {l : List Int} (h : OutOk l) {v : Int} {ps : List (Int × Int)} (hp : ∀ p ∈ ps,InB p) : OutOk (insA l (selV v ps)) :=
 ⟨insA_up h.up,fun x hx=>by
  rcases insA_mem.1 hx with hx | hx
  ·rw [selV_mem] at hx
   have:=hp _ hx
   unfold InB at this
   simp only at this
   have:=lo_hi v
   omega
  ·exact h.rg x hx⟩
theorem tsL_in (l : List Sp) : ∀ p ∈ tsL l,InB p:=ts_in _ l (zw21 _)
def Same2 (ps : List (Int × Int)) (x y : En) : Prop:=∀ v n,(v,n) ∈ ps → (n ≤ valF v x ↔ n ≤ valF v y)
theorem Same2.sub {ps qs : List (Int × Int)} {x y : En} (h : Same2 ps x y) (hs : ∀ p ∈ qs,p ∈ ps) : Same2 qs x y:=fun v n hm=>h v n (hs _ hm)
theorem ho_same {x y : En} (hx : Box x) (hy : Box y) : ∀ (m : Nat) (c : Co),SizeOf.sizeOf c ≤ m → vCo c = true → Same2 (tcC c) x y → hoF x c = hoF y c
 | 0,c,hz,_,_=>absurd hz (by cases c; simp)
 | m + 1,.mk kd v n ps,hz,hv,hs=>by
  simp only [Co.mk.sizeOf_spec] at hz
  have hsub : ∀ p ∈ ps,Same2 (tcC p) x y:=fun p hp=>hs.sub fun q hq=>by
   rw [tcC,List.mem_append,tcL_map]
   exact .inr (List.mem_flatten.2 ⟨_,List.mem_map.2 ⟨p,hp,rfl⟩,hq⟩)
  have ih : ∀ p ∈ ps,vCo p = true → hoF x p = hoF y p:=fun p hp hvp=>ho_same hx hy m p (by have:=List.sizeOf_lt_of_mem hp; omega) hvp (hsub p hp)
  rw [vCo] at hv
  rw [hoF,hoF]
  by_cases k1 : kd = 1
  ·subst k1
   rw [if_pos rfl] at hv
   rw [if_pos rfl,if_pos rfl,decide_eq_decide]
   simp only [Bool.and_eq_true,decide_eq_true_eq] at hv
   have h14 : 1 ≤ v ∧ v ≤ 4:=by omega
   have b1:=hx v h14
   have b2:=hy v h14
   by_cases h1 : lo v < n ∧ n ≤ hi v
   ·exact hs v n (by rw [tcC,if_pos ⟨rfl,h1⟩]; simp)
   ·omega
  rw [if_neg k1] at hv
  rw [if_neg k1,if_neg k1]
  have hvs : vCos ps = true:=by
   split at hv
   ·simp only [Bool.and_eq_true] at hv; exact hv.2
   ·split at hv
    ·simp only [Bool.and_eq_true] at hv; exact hv.2
    ·cases hv
  have hall : ∀ p ∈ ps,hoF x p = hoF y p:=fun p hp=>ih p hp (vCos_mem hvs p hp)
  split
  ·cases ps with
   | nil=>rfl
   | cons p r=>rw [hoHead,hoHead,hall p (by simp)]
  ·split
   ·rw [hoAny_any,hoAny_any]
    clear hs hsub ih hvs hv hz
    induction ps with
    | nil=>rfl
    | cons p r ihp=>rw [List.any_cons,List.any_cons,hall p (by simp),ihp fun q hq=>hall q (by simp [hq])]
   ·rw [hoAll_all,hoAll_all]
    clear hs hsub ih hvs hv hz
    induction ps with
    | nil=>rfl
    | cons p r ihp=>rw [List.all_cons,List.all_cons,hall p (by simp),ihp fun q hq=>hall q (by simp [hq])]
theorem ds_same {x y : En} (hx : Box x) (hy : Box y) : ∀ (m : Nat) (l : List Sp),SizeOf.sizeOf l ≤ m → vSps l = true → Same2 (tsL l) x y → ∀ b,dSs x b l = dSs y b l
 | 0,l,hz,_,_=>absurd hz (by cases l <;> simp)
 | m + 1,[],hz,_,_=>fun b=>rfl
 | m + 1,.mk kd w c t e :: l,hz,hv,hs=>by
  intro b
  simp only [List.cons.sizeOf_spec,Sp.mk.sizeOf_spec] at hz
  have hv1:=vSps_mem hv _ (List.mem_cons_self ..)
  have hvl : vSps l = true:=by rw [vSps,Bool.and_eq_true] at hv; exact hv.2
  have s1 : Same2 (tcC c) x y:=hs.sub fun q hq=>by rw [tsL,tsS]; simp [hq]
  have s2 : Same2 (tsL t) x y:=hs.sub fun q hq=>by rw [tsL,tsS]; simp [hq]
  have s3 : Same2 (tsL e) x y:=hs.sub fun q hq=>by rw [tsL,tsS]; simp [hq]
  have s4 : Same2 (tsL l) x y:=hs.sub fun q hq=>by rw [tsL]; simp [hq]
  have h1 : dS x b (.mk kd w c t e) = dS y b (.mk kd w c t e):=by
   rw [dS,dS]
   by_cases k2 : kd = 2
   ·rw [if_pos k2,if_pos k2]
    rw [vSp] at hv1
    rw [if_neg (show ¬ kd = 1 by omega),if_pos k2] at hv1
    simp only [Bool.and_eq_true] at hv1
    rw [ho_same hx hy _ c (Nat.le_refl _) hv1.1.1.1.2 s1,ds_same hx hy m t (by omega) hv1.1.2 s2,ds_same hx hy m e (by omega) hv1.2 s3]
   ·rw [if_neg k2,if_neg k2]
  rw [dSs,dSs,h1,ds_same hx hy m l (by omega) hvl s4]
theorem box_env {x : En} : envE x = 0 ↔ Box x:=by
 unfold envE
 constructor
 ·intro h u hu
  split at h
  ·rename_i hh
   have h4 : u = 1 ∨ u = 2 ∨ u = 3 ∨ u = 4:=by omega
   rcases h4 with rfl | rfl | rfl | rfl <;> simp [lo,hi,valF] <;> omega
  ·cases h
 ·intro h
  have h1:=h 1 (by decide)
  have h2:=h 2 (by decide)
  have h3:=h 3 (by decide)
  have h4:=h 4 (by decide)
  simp [lo,hi,valF] at h1 h2 h3 h4
  rw [if_pos (by omega)]
theorem direct_same {l : List Sp} {x y : En} (ho : orderF l = 0) (hx : Box x) (hy : Box y) (hs : Same2 (tsL l) x y) : directB l x = directB l y:=by
 unfold directB
 rw [if_pos ⟨ho,box_env.2 hx⟩,if_pos ⟨ho,box_env.2 hy⟩]
 exact ds_same hx hy _ l (zw21 _) (order_ok.1 ho).2.2 hs []
theorem flr_ok : ∀ (l : List Int) (n : Int),l.Pairwise (fun x y=>y < x) → (∃ k ∈ l,k ≤ n) → flr l n ∈ l ∧ flr l n ≤ n ∧ ∀ k ∈ l,k ≤ n → k ≤ flr l n
 | [],n,_,h=>by obtain ⟨k,hk,_⟩:=h; cases hk
 | [a],n,_,h=>by
  obtain ⟨k,hk,hn⟩:=h
  rw [List.mem_singleton.1 hk] at hn
  exact ⟨by simp [flr],hn,fun k hk _=>by rw [List.mem_singleton.1 hk]; exact Int.le_refl _⟩
 | a :: b :: r,n,hp,h=>by
  have hp':=List.pairwise_cons.1 hp
  rw [flr_cons]
  split
  ·rename_i c
   refine ⟨by simp,c,fun k hk _=>?_⟩
   rcases List.mem_cons.1 hk with rfl | hk
   ·exact Int.le_refl _
   ·have:=hp'.1 k hk; omega
  ·rename_i c
   have h' : ∃ k ∈ b :: r,k ≤ n:=by
    obtain ⟨k,hk,hn⟩:=h
    rcases List.mem_cons.1 hk with rfl | hk
    ·omega
    ·exact ⟨k,hk,hn⟩
   obtain ⟨i1,i2,i3⟩:=flr_ok (b :: r) n hp'.2 h'
   refine ⟨List.mem_cons_of_mem _ i1,i2,fun k hk hn=>?_⟩
   rcases List.mem_cons.1 hk with rfl | hk
   ·omega
   ·exact i3 k hk hn
def dn (ps : List (Int × Int)) (y : En) : En:=⟨flr (tv 1 ps).reverse y.tied,flr (tv 2 ps).reverse y.round,flr (tv 3 ps).reverse y.fin,flr (tv 4 ps).reverse y.clubs⟩
theorem dn_val (ps : List (Int × Int)) (y : En) (u : Int) (hu : 1 ≤ u ∧ u ≤ 4) : valF u (dn ps y) = flr (tv u ps).reverse (valF u y):=by
 have h4 : u = 1 ∨ u = 2 ∨ u = 3 ∨ u = 4:=by omega
 rcases h4 with rfl | rfl | rfl | rfl <;> rfl
theorem rdE_dn (ps : List (Int × Int)) (x y : En) : rdE (vlist (tv 1 ps) (tv 2 ps) (tv 3 ps) (tv 4 ps)) x y = dn ps y:=rfl
theorem tv_flr {u : Int} (hu : 1 ≤ u ∧ u ≤ 4) {ps : List (Int × Int)} {y : En} (hy : Box y) : flr (tv u ps).reverse (valF u y) ∈ tv u ps ∧ flr (tv u ps).reverse (valF u y) ≤ valF u y ∧ ∀ k ∈ tv u ps,k ≤ valF u y → k ≤ flr (tv u ps).reverse (valF u y):=by
 obtain ⟨h1,h2,h3⟩:=flr_ok (tv u ps).reverse (valF u y) (List.pairwise_reverse.2 (tv_up u ps)) ⟨lo u,by rw [List.mem_reverse]; exact tv_mem.2 (.inl rfl),(hy u hu).1⟩
 exact ⟨List.mem_reverse.1 h1,h2,fun k hk=>h3 k (List.mem_reverse.2 hk)⟩
theorem dn_box {ps : List (Int × Int)} (hp : ∀ p ∈ ps,InB p) {y : En} (hy : Box y) : Box (dn ps y):=fun u hu=>by
 rw [dn_val _ _ _ hu]
 obtain ⟨h1,h2,h3⟩:=tv_flr (ps:=ps) hu hy
 have:=hy u hu
 refine ⟨h3 (lo u) (tv_mem.2 (.inl rfl)) this.1,by omega⟩
theorem dn_same {ps : List (Int × Int)} (hp : ∀ p ∈ ps,InB p ∧ 1 ≤ p.1 ∧ p.1 ≤ 4) {y : En} (hy : Box y) : Same2 ps (dn ps y) y:=fun v n hm=>by
 have hu:=(hp _ hm).2
 simp only at hu
 rw [dn_val _ _ _ hu]
 obtain ⟨h1,h2,h3⟩:=tv_flr (ps:=ps) hu hy
 exact ⟨fun h=>by omega,fun h=>h3 n (tv_mem.2 (.inr hm)) h⟩
theorem tc_rng : ∀ (m : Nat) (c : Co),SizeOf.sizeOf c ≤ m → vCo c = true → ∀ p ∈ tcC c,1 ≤ p.1 ∧ p.1 ≤ 4
 | 0,c,hz=>absurd hz (by cases c; simp)
 | m + 1,.mk kd v n ps,hz=>by
  intro hv p hp
  simp only [Co.mk.sizeOf_spec] at hz
  rw [vCo] at hv
  rw [tcC,List.mem_append] at hp
  by_cases k1 : kd = 1
  ·rw [if_pos k1] at hv
   simp only [Bool.and_eq_true,decide_eq_true_eq] at hv
   have h0 : ps = []:=List.length_eq_zero_iff.1 (by omega)
   subst h0
   rw [tcL] at hp
   rcases hp with hp | hp
   ·split at hp
    ·rw [List.mem_singleton.1 hp]; simp only; omega
    ·cases hp
   ·cases hp
  ·rw [if_neg k1] at hv
   rcases hp with hp | hp
   ·rw [if_neg (fun h=>k1 h.1)] at hp; cases hp
   have hvs : vCos ps = true:=by
    split at hv
    ·simp only [Bool.and_eq_true] at hv; exact hv.2
    ·split at hv
     ·simp only [Bool.and_eq_true] at hv; exact hv.2
     ·cases hv
   rw [tcL_map] at hp
   obtain ⟨q,hq,hp⟩:=List.mem_flatten.1 hp
   obtain ⟨c,hc,rfl⟩:=List.mem_map.1 hq
   exact tc_rng m c (by have:=List.sizeOf_lt_of_mem hc; omega) (vCos_mem hvs c hc) p hp
theorem ts_rng : ∀ (m : Nat) (l : List Sp),SizeOf.sizeOf l ≤ m → vSps l = true → ∀ p ∈ tsL l,1 ≤ p.1 ∧ p.1 ≤ 4
 | 0,l,hz=>absurd hz (by cases l <;> simp)
 | m + 1,[],hz=>fun _ p hp=>by rw [tsL] at hp; cases hp
 | m + 1,.mk kd w c t e :: l,hz=>by
  intro hv p hp
  simp only [List.cons.sizeOf_spec,Sp.mk.sizeOf_spec] at hz
  have hv1:=vSps_mem hv _ (List.mem_cons_self ..)
  have hvl : vSps l = true:=by rw [vSps,Bool.and_eq_true] at hv; exact hv.2
  rw [vSp] at hv1
  rw [tsL,tsS,List.mem_append,List.mem_append,List.mem_append] at hp
  rcases hp with hp | hp
  rotate_left
  ·exact ts_rng m l (by omega) hvl p hp
  split at hv1
  ·simp only [Bool.and_eq_true,decide_eq_true_eq] at hv1
   have t0 : t = []:=List.length_eq_zero_iff.1 (by omega)
   have e0 : e = []:=List.length_eq_zero_iff.1 (by omega)
   subst t0 e0
   rw [tc_zero hv1.1.2,tsL] at hp
   simp at hp
  ·split at hv1
   ·simp only [Bool.and_eq_true] at hv1
    rcases hp with (hp | hp) | hp
    ·exact tc_rng _ c (zw21 _) hv1.1.1.1.2 p hp
    ·exact ts_rng m t (by omega) hv1.1.2 p hp
    ·exact ts_rng m e (by omega) hv1.2 p hp
   ·cases hv1
theorem fp_cn : ∀ (m : Nat) (c : Co),SizeOf.sizeOf c ≤ m → ∀ d e,18 ≤ d + e → 1 ≤ d → cN e c ≤ 256 → fpF d c = (cN e c : Int) - 1
 | 0,c,hz=>absurd hz (by cases c; simp)
 | m + 1,.mk kd v n ps,hz=>by
  intro d e hde hd hc
  simp only [Co.mk.sizeOf_spec] at hz
  rw [cN] at hc ⊢
  split at hc
  ·omega
  rename_i h16
  rw [if_neg h16]
  obtain ⟨d,rfl⟩ : ∃ d',d = d' + 1:=⟨d - 1,by omega⟩
  have key : ∀ l : List Co,(∀ c ∈ l,SizeOf.sizeOf c ≤ m) → ∀ n : Int,0 ≤ n → n + cNs (e + 1) l ≤ 600 → cNs (e + 1) l ≤ 256 → fpL (fpF d) l n = n + cNs (e + 1) l - l.length:=by
   intro l
   induction l with
   | nil=>intro _ n _ _ _; rw [fpL,cNs]; simp
   | cons c cs ih =>
    intro hl n hn hh h256
    rw [cNs] at hh h256
    have h1:=fp_cn m c (hl c (by simp)) d (e + 1) (by omega) (by omega) (by omega)
    have hpos : 1 ≤ cN (e + 1) c:=by cases c; rw [cN]; split <;> omega
    rw [fpL,if_pos (by omega),h1,wrap_in (by omega),ih (fun c h=>hl c (by simp [h])) _ (by omega) (by omega) (by omega),cNs,List.length_cons]
    omega
  have hlen : ∀ l : List Co,(l.length : Int) ≤ cNs (e + 1) l:=by
   intro l
   induction l with
   | nil=>simp
   | cons c cs ih =>
    have hpos : 1 ≤ cN (e + 1) c:=by cases c; rw [cN]; split <;> omega
    rw [cNs,List.length_cons]; omega
  have h0:=hlen ps
  have:=key ps (fun c h=>by have:=List.sizeOf_lt_of_mem h; omega) ps.length (by omega) (by omega) (by omega)
  show fpL (fpF d) ps ps.length = _
  rw [this]; omega
theorem fp_zero {c : Co} (h : isZ c = true) (d : Nat) : fpF (d + 1) c = 0:=by
 cases c with | mk kd v n ps =>
 unfold isZ at h
 simp only [Bool.and_eq_true,decide_eq_true_eq,Co.kind,Co.var,Co.n,Co.parts] at h
 obtain ⟨_,h4⟩:=h
 have : ps = []:=List.length_eq_zero_iff.1 (by have h4:=of_decide_eq_true h4; omega)
 subst this
 rfl
theorem fp_one (c : Co) (h : cz c ≤ 256) : 0 ≤ fpF 20 c ∧ fpF 20 c ≤ cz c ∧ ((tcC c).length : Int) ≤ 1 + fpF 20 c:=by
 have h1:=tcz_le h
 unfold cz at h h1 ⊢
 by_cases hz : isZ c = true
 ·rw [if_pos hz] at h1 ⊢
  rw [fp_zero hz]; omega
 ·rw [if_neg hz] at h h1 ⊢
  have:=fp_cn _ c (zw21 _) 20 0 (by omega) (by omega) h
  have hpos : 1 ≤ cN 0 c:=by cases c; rw [cN]; split <;> omega
  omega
theorem fs_le : ∀ (m : Nat) (l : List Sp),SizeOf.sizeOf l ≤ m → ∀ d e,18 ≤ d + e → 1 ≤ d → (sNs e l).1 ≤ 64 → (sNs e l).2 ≤ 256 → ((tsL l).length : Int) ≤ fsF d l ∧ fsF d l ≤ (sNs e l).1 + (sNs e l).2
 | 0,l,hz=>absurd hz (by cases l <;> simp)
 | m + 1,l,hz=>by
  intro d e hde hd h1 h2
  obtain ⟨d,rfl⟩ : ∃ d',d = d' + 1:=⟨d - 1,by omega⟩
  have key : ∀ l : List Sp,(∀ s ∈ l,SizeOf.sizeOf s ≤ m) → ∀ n : Int,0 ≤ n → n + (sNs e l).1 + (sNs e l).2 ≤ 900 → (sNs e l).1 ≤ 64 → (sNs e l).2 ≤ 256 →
    n + ((tsL l).length : Int) ≤ fsL (fun s n=>IntKind.i64.wrap (IntKind.i64.wrap (IntKind.i64.wrap (IntKind.i64.wrap (n + 1) + fpF 20 s.cond) + fsF d s.thn) + fsF d s.els)) l n ∧ fsL (fun s n=>IntKind.i64.wrap (IntKind.i64.wrap (IntKind.i64.wrap (IntKind.i64.wrap (n + 1) + fpF 20 s.cond) + fsF d s.thn) + fsF d s.els)) l n ≤ n + (sNs e l).1 + (sNs e l).2:=by
   intro l
   induction l with
   | nil=>intro _ n hn _ _ _; rw [fsL,tsL,sNs]; simp
   | cons s r ih =>
    intro hl n hn hh g1 g2
    have hs:=hl s (by simp)
    obtain ⟨kd,b,c,t,u⟩:=s
    simp only [Sp.mk.sizeOf_spec] at hs
    rw [sNs,sN] at hh g1 g2
    split at g1
    ·simp only at g1; omega
    rename_i h16
    rw [if_neg h16] at hh g2
    simp only at hh g1 g2
    have a1:=fs_le m t (by omega) d (e + 1) (by omega) (by omega) (by omega) (by omega)
    have a2:=fs_le m u (by omega) d (e + 1) (by omega) (by omega) (by omega) (by omega)
    have a3:=fp_one c (by omega)
    have w1 : IntKind.i64.wrap (IntKind.i64.wrap (IntKind.i64.wrap (IntKind.i64.wrap (n + 1) + fpF 20 c) + fsF d t) + fsF d u) = n + 1 + fpF 20 c + fsF d t + fsF d u:=by
     have hp:=a1.1
     have hq:=a2.1
     rw [wrap_in (n:=n + 1) (by omega),wrap_in (n:=n + 1 + fpF 20 c) (by omega),wrap_in (n:=n + 1 + fpF 20 c + fsF d t) (by omega),wrap_in (n:=n + 1 + fpF 20 c + fsF d t + fsF d u) (by omega)]
    have hp:=a1.1
    have hq:=a2.1
    have hi:=ih (fun s h=>hl s (by simp [h])) (n + 1 + fpF 20 c + fsF d t + fsF d u) (by omega) (by omega) (by omega) (by omega)
    rw [fsL,if_pos (by omega)]
    show _ ≤ fsL _ r (IntKind.i64.wrap (IntKind.i64.wrap (IntKind.i64.wrap (IntKind.i64.wrap (n + 1) + fpF 20 c) + fsF d t) + fsF d u)) ∧ fsL _ r (IntKind.i64.wrap (IntKind.i64.wrap (IntKind.i64.wrap (IntKind.i64.wrap (n + 1) + fpF 20 c) + fsF d t) + fsF d u)) ≤ _
    rw [w1,sNs,sN,if_neg h16,tsL,tsS,List.length_append,List.length_append,List.length_append]
    simp only
    omega
  have:=key l (fun s h=>by have:=List.sizeOf_lt_of_mem h; omega) 0 (by omega) (by omega) h1 h2
  rw [Int.zero_add] at this
  exact ⟨this.1,by have:=this.2; simp only [Int.zero_add] at this; exact this⟩
theorem ts_few {l : List Sp} (ho : orderF l = 0) (h : fsF 20 l ≤ 40) : (tsL l).length ≤ 40:=by
 obtain ⟨_,hf,_⟩:=order_ok.1 ho
 have:=fs_le _ l (zw21 _) 20 0 (by omega) (by omega) hf.1 hf.2
 omega
theorem sel_sum : ∀ ps : List (Int × Int),(selV 1 ps).length + (selV 2 ps).length + (selV 3 ps).length + (selV 4 ps).length ≤ ps.length
 | []=>by simp [selV]
 | p :: ps=>by
  have ih:=sel_sum ps
  unfold selV at ih ⊢
  simp only [List.length_map] at ih ⊢
  have hf : ∀ v : Int,((p :: ps).filter fun p=>decide (p.1 = v)).length = (if p.1 = v then 1 else 0) + (ps.filter fun p=>decide (p.1 = v)).length:=fun v=>by
   by_cases e : p.1 = v
   ·rw [List.filter_cons_of_pos (by simp [e]),if_pos e,List.length_cons]; omega
   ·rw [List.filter_cons_of_neg (by simp [e]),if_neg e]; omega
  rw [hf 1,hf 2,hf 3,hf 4,List.length_cons]
  split <;> split <;> split <;> split <;> omega
theorem four_mul (a b : Nat) : 4 * (a * b) ≤ (a + b) * (a + b):=by
 rcases Nat.le_total a b with h | h
 ·obtain ⟨k,rfl⟩:=Nat.le.dest h
  have e : (a + (a + k)) * (a + (a + k)) = 4 * (a * (a + k)) + k * k:=by
   simp only [Nat.mul_add,Nat.add_mul,Nat.mul_comm k a]; omega
  rw [e]; omega
 ·obtain ⟨k,rfl⟩:=Nat.le.dest h
  have e : (b + k + b) * (b + k + b) = 4 * ((b + k) * b) + k * k:=by
   simp only [Nat.mul_add,Nat.add_mul,Nat.mul_comm k b]; omega
  rw [e]; omega
theorem mean4 {a b c d : Nat} (h : a + b + c + d ≤ 44) : a * b * c * d ≤ 14641:=by
 have h1:=four_mul a b
 have h2:=four_mul c d
 have h3:=four_mul (a + b) (c + d)
 have h4 : (a + b + (c + d)) * (a + b + (c + d)) ≤ 44 * 44:=Nat.mul_le_mul (by omega) (by omega)
 have h5 : (a + b) * (c + d) ≤ 484:=by omega
 have h6 : 4 * (a * b) * (4 * (c * d)) ≤ (a + b) * (a + b) * ((c + d) * (c + d)):=Nat.mul_le_mul h1 h2
 have e1 : (a + b) * (a + b) * ((c + d) * (c + d)) = (a + b) * (c + d) * ((a + b) * (c + d)):=by
  simp only [Nat.mul_assoc,Nat.mul_left_comm,Nat.mul_comm]
 have h7 : (a + b) * (c + d) * ((a + b) * (c + d)) ≤ 484 * 484:=Nat.mul_le_mul h5 h5
 have e2 : 4 * (a * b) * (4 * (c * d)) = 16 * (a * b * c * d):=by
  have : 4 * (a * b) * (4 * (c * d)) = 4 * (4 * (a * b * (c * d))):=by
   rw [Nat.mul_assoc 4,Nat.mul_left_comm (a * b)]
  rw [this,← Nat.mul_assoc (a * b)]; omega
 omega
def fewW (q : Vs4) : Prop:=q.a.length * q.b.length * q.c.length * q.d.length ≤ 14641
theorem few_w {l : List Sp} (ho : orderF l = 0) (h : fsF 20 l ≤ 40) : fewW (vq l):=by
 have h1:=ts_few ho h
 have h2:=sel_sum (tsL l)
 have h3:=fun v=>insA_len (selV v (tsL l)) [lo v]
 have a1:=h3 1
 have a2:=h3 2
 have a3:=h3 3
 have a4:=h3 4
 simp only [List.length_singleton] at a1 a2 a3 a4
 show (tv 1 (tsL l)).length * (tv 2 (tsL l)).length * (tv 3 (tsL l)).length * (tv 4 (tsL l)).length ≤ 14641
 unfold tv
 exact mean4 (by omega)
theorem bnd_w {a b c d : List Int} (ha : 0 < a.length) (hb : 0 < b.length) (hc : 0 < c.length) (h : a.length * b.length * c.length * d.length ≤ 14641) (hd : 0 < d.length) : bndB (vlist a b c d) ≤ 73205:=by
 show a.length * (b.length * (c.length * (d.length * (1 + 1) + 1) + 1) + 1) ≤ 73205
 generalize a.length = p at *
 generalize b.length = q at *
 generalize c.length = r at *
 generalize d.length = s at *
 have h1 : p ≤ p * q * r * s:=by
  have : p * 1 ≤ p * (q * r * s):=Nat.mul_le_mul_left p (Nat.mul_pos (Nat.mul_pos hb hc) hd)
  simpa [Nat.mul_assoc] using this
 have h2 : p * q ≤ p * q * r * s:=by
  have : p * q * 1 ≤ p * q * (r * s):=Nat.mul_le_mul_left _ (Nat.mul_pos hc hd)
  simpa [Nat.mul_assoc] using this
 have h3 : p * q * r ≤ p * q * r * s:=by
  have : p * q * r * 1 ≤ p * q * r * s:=Nat.mul_le_mul_left _ hd
  simpa using this
 have e : p * (q * (r * (s * (1 + 1) + 1) + 1) + 1) = 2 * (p * q * r * s) + p * q * r + p * q + p:=by
  simp only [Nat.mul_add,Nat.mul_one,Nat.mul_assoc]
  omega
 omega
theorem mean_w {l : List Sp} (hl : LSs l) (ho : orderF l = 0) (h4 : (cmpN l).length ≤ 4096) : ValidT (cmpN l) ∧ ∀ y,Box y → (un (cmpN l) 0).ev y = directB l y:=by
 have hg:=directB_ok hl
 have v1:=tv_vals 1 (by decide) (tsL_in l)
 have v2:=tv_vals 2 (by decide) (tsL_in l)
 have v3:=tv_vals 3 (by decide) (tsL_in l)
 have v4:=tv_vals 4 (by decide) (tsL_in l)
 have hlen : (cmpN l).length = (cmpO (directB l) (vq l).a (vq l).b (vq l).c (vq l).d).length:=by
  show (renum _ _).length = _
  unfold renum; rw [List.length_map]
 obtain ⟨h1,h2⟩:=cmp_ok hg v1 v2 v3 v4 (by rw [← show (cmpN l).length = (cmpO (directB l) (tv 1 (tsL l)) (tv 2 (tsL l)) (tv 3 (tsL l)) (tv 4 (tsL l))).length from hlen]; exact h4)
 refine ⟨h1,fun y hy=>?_⟩
 have:=h2 y
 rw [rdE_dn] at this
 exact Eq.trans this (direct_same ho (dn_box (tsL_in l) hy) hy (dn_same (fun p hp=>⟨tsL_in l p hp,ts_rng _ l (zw21 _) (order_ok.1 ho).2.2 p hp⟩) hy))
theorem sm_w {l : List Sp} (hl : LSs l) (ho : orderF l = 0) (h4 : (cmpN l).length ≤ 4096) : TrSm (cmpN l):=by
 obtain ⟨h1,_⟩:=mean_w hl ho h4
 have hb : ∀ x ∈ cmpN l,x.by_.length ≤ 12:=fun x hx=>by
  obtain ⟨i,hi,rfl⟩:=List.mem_iff_getElem.1 hx
  rcases h1.wf.get hi with h | h
  ·rw [ndA_get hi] at h; exact h.2.1.len
  ·rw [ndA_get hi] at h; rw [h.by_]; simp
 exact ⟨h4,fun x hx=>by have:=hb x hx; omega⟩
def cmpW (l : List Sp) : V:=if 4096 < (cmpN l).length then .tup [treV [],I 2] else .tup [treV (cmpN l),I 0]
theorem compile_w (l : List Sp) (hl : LSs l) (ho : orderF l = 0) (hf : fewW (vq l)) (h : k (cmpW l) L) : CallP C 28 [.d (sps l)] L k:=by
 have h1 : ∀ {L : List Blk} {k : V → List Blk → Prop},k (I 0) L → CallP C 58 [.d (sps l)] L k:=fun h=>order_c l hl (by rw [ho]; exact h)
 have h256:=ts_256 ho
 obtain ⟨hne,hfit,hvs⟩:=order_ok.1 ho
 refine zw25 ?_ rfl (fun _=>by unfold cmpW; split <;> rfl) h
 clear h
 unfold cmpW
 have hts:=fun (k : V → List Blk → Prop) h=>testsM_c l hl hvs (by omega) (k:=k) h
 refine callP_cut (fun c=>match c with | .block 0 _=>true | .region 18 _ _=>true | _=>false) C_ok Tryz.func28 rfl rfl rfl (zw18 rfl) rfl ?_
 have l1:=selV_len 1 (tsL l)
 have l2:=selV_len 2 (tsL l)
 have l3:=selV_len 3 (tsL l)
 have l4:=selV_len 4 (tsL l)
 have e1:=tv_raw 1 (tsL l)
 have e2:=tv_raw 2 (tsL l)
 have e3:=tv_raw 3 (tsL l)
 have e4:=tv_raw 4 (tsL l)
 have hap : ∀ {X : Prop} (m : List Int),m.length ≤ (tsL l).length → X → Need (m.length + 1 ≤ 4294967296) X:=fun m hm h=>zw6 (by omega) h
 repeat' ((conv=>whnf); first|refine zw1 ?_|refine h1 ?_|refine hts _ ?_)
 conv=>whnf
 refine CutP.intro (ι:=Unit) (fun _=>⟨[(1,.ptr 0 0),(2,.ptr 1 0),(5,.ptr 2 0)],Tryz.f28.ntmps,[.cells [.d (sps l)],.cells [.nil],.cells [.nil,.d (ins (vq l).a),.d (ins (vq l).b),.d (ins (vq l).c),.d (ins (vq l).d)]],[],none⟩) ?_ (fun _=>?_)
 ·have e1 : (vq l).a = cps (selV 1 (tsL l)) (lo 1):=by unfold cps; exact e1.symm
  have e2 : (vq l).b = cps (selV 2 (tsL l)) (lo 2):=by unfold cps; exact e2.symm
  have e3 : (vq l).c = cps (selV 3 (tsL l)) (lo 3):=by unfold cps; exact e3.symm
  have e4 : (vq l).d = cps (selV 4 (tsL l)) (lo 4):=by unfold cps; exact e4.symm
  rw [e1,e2,e3,e4]
  clear e1 e2 e3 e4
  generalize selV 1 (tsL l) = a1 at *
  generalize selV 2 (tsL l) = a2 at *
  generalize selV 3 (tsL l) = a3 at *
  generalize selV 4 (tsL l) = a4 at *
  conv=>whnf
  refine zw26 (fun j : Nat=>j ≤ 4) (fun j=>⟨[(1,.ptr 0 0),(2,.ptr 1 0),(5,.ptr 2 0),(6,I ((j : Int) + 1))],Tryz.f28.ntmps,wM l a1 a2 a3 a4 j,[],none⟩) (fun j=>4 - j) 0 (zw22 _) ?_ ?_
  ·exact zw27 ⟨rfl,rfl,rfl,rfl,trivial⟩
  intro j hj
  match j,hj with
  | 0,_ =>
   repeat' ((conv=>whnf); first|refine bounds_c _ ?_|refine hap _ l1 ?_|refine zw30 1 rfl (by decide) ?_|refine sort_ap rfl (by omega) ?_|refine compact_ap rfl ?_|simp only [Nat.beq_refl,Bool.and_self]|refine zw0 ?_)
   conv=>whnf
   exact ⟨1,by decide,by decide,Weak.to 7 rfl (zw22 _) (zw18 rfl) ⟨rfl,rfl,rfl,rfl,trivial⟩ (hB:=wM_bel l a1 a2 a3 a4 1)⟩
  | 1,_ =>
   repeat' ((conv=>whnf); first|refine bounds_c _ ?_|refine hap _ l2 ?_|refine zw30 2 rfl (by decide) ?_|refine sort_ap rfl (by omega) ?_|refine compact_ap rfl ?_|simp only [Nat.beq_refl,Bool.and_self]|refine zw0 ?_)
   conv=>whnf
   exact ⟨2,by decide,by decide,Weak.to 7 rfl (zw22 _) (zw18 rfl) ⟨rfl,rfl,rfl,rfl,trivial⟩ (hB:=wM_bel l a1 a2 a3 a4 2)⟩
  | 2,_ =>
   repeat' ((conv=>whnf); first|refine bounds_c _ ?_|refine hap _ l3 ?_|refine zw30 3 rfl (by decide) ?_|refine sort_ap rfl (by omega) ?_|refine compact_ap rfl ?_|simp only [Nat.beq_refl,Bool.and_self]|refine zw0 ?_)
   conv=>whnf
   exact ⟨3,by decide,by decide,Weak.to 7 rfl (zw22 _) (zw18 rfl) ⟨rfl,rfl,rfl,rfl,trivial⟩ (hB:=wM_bel l a1 a2 a3 a4 3)⟩
  | 3,_ =>
   repeat' ((conv=>whnf); first|refine bounds_c _ ?_|refine hap _ l4 ?_|refine zw30 4 rfl (by decide) ?_|refine sort_ap rfl (by omega) ?_|refine compact_ap rfl ?_|simp only [Nat.beq_refl,Bool.and_self]|refine zw0 ?_)
   conv=>whnf
   exact ⟨4,by decide,by decide,Weak.to 7 rfl (zw22 _) (zw18 rfl) ⟨rfl,rfl,rfl,rfl,trivial⟩ (hB:=wM_bel l a1 a2 a3 a4 4)⟩
  | 4,_ =>
   repeat' ((conv=>whnf); refine zw1 ?_)
   conv=>whnf
   refine ⟨(),Weak.thaw 3 (zw22 _) (zw18 rfl) rfl ⟨.inl ⟨rfl,rfl⟩,.inl ⟨rfl,rfl⟩,.inl ⟨rfl,rfl⟩,trivial⟩ fun b x y hx hy=>?_⟩
   match b,hx,hy with
   | 0,hx,hy=>cases hx; cases hy; exact .inl ⟨rfl,rfl⟩
   | 1,hx,hy=>cases hx; cases hy; exact .inl ⟨rfl,rfl⟩
   | 2,hx,hy =>
    cases hx; cases hy
    refine .inr (.inr ⟨_,_,rfl,rfl,rfl,fun j u v hu hv=>?_⟩)
    match j,hu,hv with
    | 0,hu,hv=>cases hu; cases hv; exact .inl ⟨rfl,rfl⟩
    | 1,hu,hv=>cases hu; cases hv; exact .inr (.d (cpR_cv (zw21 3) rfl))
    | 2,hu,hv=>cases hu; cases hv; exact .inr (.d (cpR_cv (zw18 rfl) rfl))
    | 3,hu,hv=>cases hu; cases hv; exact .inr (.d (cpR_cv (zw18 rfl) rfl))
    | 4,hu,hv=>cases hu; cases hv; exact .inr (.d (cpR_cv (zw18 rfl) rfl))
    | j + 5,hu,hv=>cases hu
   | b + 3,hx,hy=>cases hy
  | j + 5,h=>omega
 ·have hfw:=hf
  have p1:=tv_pos 1 (tsL l)
  have p2:=tv_pos 2 (tsL l)
  have p3:=tv_pos 3 (tsL l)
  have p4:=tv_pos 4 (tsL l)
  have q1:=tv_len 1 (tsL l)
  have q2:=tv_len 2 (tsL l)
  have q3:=tv_len 3 (tsL l)
  have q4:=tv_len 4 (tsL l)
  have hg:=directB_ok hl
  have hB:=build_c (vq l) hl ho hg ⟨p1,by show (tv 1 (tsL l)).length ≤ _; omega⟩ ⟨p2,by show (tv 2 (tsL l)).length ≤ _; omega⟩ ⟨p3,by show (tv 3 (tsL l)).length ≤ _; omega⟩ ⟨p4,by show (tv 4 (tsL l)).length ≤ _; omega⟩
  have hbn : bndB (vlist (vq l).a (vq l).b (vq l).c (vq l).d) ≤ 73205:=bnd_w p1 p2 p3 hfw p4
  have hbc:=hB [] ⟨0,0,0,0⟩ (fun y hy=>by cases hy) (by simp only [List.length_nil]; omega)
  have hBld:=bld_ok hg (tv_vals 1 (by decide) (ts_in _ l (zw21 _))) (tv_vals 2 (by decide) (ts_in _ l (zw21 _))) (tv_vals 3 (by decide) (ts_in _ l (zw21 _))) (tv_vals 4 (by decide) (ts_in _ l (zw21 _)))
  obtain ⟨F,root,e0,hbc,hres,hclo,hneg,hrt,hFl⟩ : ∃ F root e0,(CallP C 69 (I 1 :: cCaps) (bS (vq l) [] ⟨0,0,0,0⟩) fun X L'=>X = I (root : Nat) ∧ L' = bS (vq l) F e0) ∧ cmpN l = renum F (visO F root) ∧ Closed F ∧ (∀ x ∈ F,x.var ≠ 0 → 0 ≤ x.yes ∧ 0 ≤ x.no) ∧ root < F.length ∧ F.length ≤ 73205:=by
   refine ⟨_,_,_,hbc,rfl,?_⟩
   obtain ⟨c1,c2,c3⟩:=cmp_vis hg (tv_vals 1 (by decide) (ts_in _ l (zw21 _))) (tv_vals 2 (by decide) (ts_in _ l (zw21 _))) (tv_vals 3 (by decide) (ts_in _ l (zw21 _))) (tv_vals 4 (by decide) (ts_in _ l (zw21 _)))
   have c5:=bld_len (directB l) (vlist (vq l).a (vq l).b (vq l).c (vq l).d) ⟨0,0,0,0⟩ []
   refine ⟨c1.wf.closed,fun x hx hv=>?_,c2,by simp only [List.length_nil] at c5; exact zw23 c5 (by omega)⟩
   exact wf_neg c1.wf x hx hv
  have hcl : (cmpN l).length = (visO F root).length:=by rw [hres]; unfold renum; rw [List.length_map]
  rw [hres] at hcl ⊢
  rw [hcl]
  clear hres hB hbn hBld hcl
  skip
  conv=>whnf
  refine CutP.intro (ι:=Unit) (fun _=>⟨[(2,.ptr 1 0),(9,.ptr 5 0),(13,I root)],Tryz.f28.ntmps,eM (vq l) F e0 .nil,[],none⟩) ?_ (fun _=>?_)
  ·skip
   conv=>whnf
   refine CallP.nilCell 4 0 5 _ rfl rfl (by decide) ?_
   refine CallP.cnv (args':=I 1 :: cCaps) (L':=bS (vq l) [] ⟨0,0,0,0⟩) rfl rfl ?_
   refine hbc.mono ?_
   rintro X L' ⟨rfl,rfl⟩
   skip
   conv=>whnf
   refine ⟨(),Weak.thaw 9 (zw22 _) (zw18 rfl) rfl ⟨.inl ⟨rfl,rfl⟩,.inl ⟨rfl,rfl⟩,.inl ⟨rfl,rfl⟩,trivial⟩ fun b x y hx hy=>?_⟩
   match b,hx,hy with
   | 0,hx,hy=>cases hx; cases hy; exact .inl ⟨rfl,rfl⟩
   | 1,hx,hy=>cases hx; cases hy; exact .inl ⟨rfl,rfl⟩
   | 2,hx,hy=>cases hx; cases hy; exact .inl ⟨rfl,rfl⟩
   | 3,hx,hy=>cases hx; cases hy; exact .inl ⟨rfl,esF_bel _ _⟩
   | 4,hx,hy =>
    cases hx; cases hy
    refine .inr (.inr ⟨_,_,rfl,rfl,rfl,fun j u v hu hv=>?_⟩)
    match j,hu,hv with
    | 0,hu,hv=>cases hu; cases hv; exact .inr (.d (rdN_cv F rfl (zw21 9) rfl))
    | 1,hu,hv=>cases hu; cases hv; exact .inl ⟨rfl,rfl⟩
    | j + 2,hu,hv=>cases hu
   | 5,hx,hy=>cases hx; cases hy; exact .inl ⟨rfl,rfl⟩
   | 6,hx,hy=>cases hx; cases hy; exact .inl ⟨rfl,V.belL_d _ _⟩
   | 7,hx,hy=>cases hx; cases hy; exact .inl ⟨rfl,rfl⟩
   | 8,hx,hy=>cases hx; cases hy; exact .inl ⟨rfl,rfl⟩
   | b + 9,hx,hy=>cases hy
  ·have hvi:=visO_vis hclo hrt
   have hvc : ∀ {L : List Blk} {k : V → List Blk → Prop},k (.d (ins (natI (visO F root)))) L → CallP C 72 [.d (nds F),I root] L k:=fun h=>visit_c F root hclo hrt (by omega) hneg h
   generalize visO F root = o at *
   have hm : MetOk F.length o:=hvi.metok hclo (fun a ha=>by rw [List.mem_singleton.1 ha]; exact hrt) ⟨List.nodup_nil,fun a ha=>by cases ha⟩
   have holen : o.length ≤ 73205:=zw23 hm.len hFl
   have hlon : (((natI o).map fun n=>[DI n]).length : Int) = (o.length : Int):=by unfold natI; rw [List.length_map,List.length_map]
   by_cases hbig : 4096 < o.length
   ·rw [if_pos hbig]
    have hlim : (4096 : Int) < (((natI o).map fun n=>[DI n]).length : Int):=by omega
    repeat' ((conv=>whnf); first|refine hvc ?_|refine zw8 (zw19 hlim) ?_)
    conv=>whnf
    exact zw16 (L':=[]) (Y:=.tup [treV [],I 2]) (.tup _ _ rfl fun j x y hx hy=>by
     match j,hx,hy with
     | 0,hx,hy=>cases hx; cases hy; exact .aggL (.cons .nil .nil)
     | 1,hx,hy=>cases hx; cases hy; exact .d (.d _)
     | j + 2,hx,hy=>cases hx) rfl rfl ⟨rfl,rfl⟩
   rw [if_neg hbig]
   have hlim : ¬ (4096 : Int) < (((natI o).map fun n=>[DI n]).length : Int):=by omega
   repeat' ((conv=>whnf); first|refine hvc ?_|refine zw9 (zw20 hlim) ?_)
   conv=>whnf
   have hlo : ((natI o).map fun n=>[DI n]).length = o.length:=by unfold natI; rw [List.length_map,List.length_map]
   have hat : ∀ (i : Nat) (hi : i < o.length),((natI o).map fun n=>[DI n])[i]? = some [DI (o[i] : Nat)]:=fun i hi=>by
    unfold natI; rw [List.getElem?_map,List.getElem?_map,List.getElem?_eq_getElem hi]; rfl
   have hb1 : ∀ i,belB 10 (eM (vq l) F e0 .nil ++ [.map (plM o i)]) = true:=fun i=>belB_app (eM_bel 10 (by decide) _ _ _ _ rfl) (by show (belM 10 (plM o i) && true) = true; rw [plM_bel]; rfl)
   refine zw26 (fun i : Nat=>i ≤ o.length) (fun i=>⟨[(2,.ptr 1 0),(9,.ptr 5 0),(14,.d (ins (natI o))),(15,.map 9),(78,.d (ins (natI o))),(79,I o.length),(80,I i)],Tryz.f28.ntmps,eM (vq l) F e0 .nil ++ [.map (plM o i)],[],none⟩) (fun i=>o.length - i) 0 (zw22 _) ?_ ?_
   ·exact zw27 ⟨rfl,rfl,rfl,rfl,rfl,congrArg I (congrArg Nat.cast hlo),rfl,trivial⟩
   intro i hi
   by_cases hi' : i < o.length
   ·have hlt : (i : Int) < (o.length : Int):=by omega
    have hw:=zwW i (by omega)
    have r1:=hat i hi'
    have hmp : ∀ {q : Option (Nat × V) → Prop},q none → MapF (.int .i64) (plM o i) (I (o[i] : Nat)) q:=fun h=>plM_new hm.nd hi' rfl h
    repeat' ((conv=>whnf); first|refine zw8 (zw19 hlt) ?_|refine zw10 i _ rfl r1 ?_|refine hmp ?_|refine zw6 rfl ?_)
    conv=>whnf
    exact ⟨i + 1,hi',by omega,Weak.by (hL:=Eq.trans rfl (congrArg (fun x=>eM (vq l) F e0 .nil ++ [.map x]) (plM_next o hi'))) ⟨rfl,rfl,rfl,rfl,rfl,rfl,congrArg I hw,trivial⟩⟩
   have hlt : ¬ (i : Int) < (o.length : Int):=by omega
   have hie : i = o.length:=by omega
   subst hie
   repeat' ((conv=>whnf); refine zw9 (zw20 hlt) ?_)
   conv=>whnf
   have hkid:=hvi.kids fun a ha=>by cases ha
   obtain ⟨ns,hns⟩ : ∃ ns,ns = renum F o:=⟨_,rfl⟩
   have hnl : ns.length = o.length:=by rw [hns]; unfold renum; simp
   have hna : ∀ (i : Nat) (hi : i < o.length),ns[i]'(by omega) = ren o (ndA F o[i]):=fun i hi=>by
    subst hns; unfold renum; rw [List.getElem_map]
   rw [← hns]
   have htk : ∀ (i : Nat) (hi : i < o.length) (z : List V),z = (ren o (ndA F o[i])).cells.map .d → (rdN (ns.take i)).take i ++ [z] = rdN (ns.take (i + 1)):=fun i hi z hz=>by
    subst hz
    rw [take_next (show i < ns.length by omega),hna i hi,List.take_of_length_le (by unfold rdN; rw [List.length_map,List.length_take]; exact Nat.min_le_left _ _)]
    unfold rdN
    rw [List.map_append]; rfl
   have hb2 : ∀ i,belB 11 (eM (vq l) F e0 (.own 10 i 0 i) ++ [.map (plM o o.length),.row i 5 (rdN (ns.take i))]) = true:=fun i=>belB_app (eM_bel 11 (by decide) _ _ _ _ rfl) (by show (belM 11 (plM o o.length) && (belR 11 (rdN (ns.take i)) && true)) = true; rw [plM_bel,rdN_bel]; rfl)
   refine zw26 (fun i : Nat=>i ≤ o.length) (fun i=>⟨[(2,.ptr 1 0),(9,.ptr 5 0),(15,.map 9),(89,.d (ins (natI o))),(90,I o.length),(91,I i)],Tryz.f28.ntmps,eM (vq l) F e0 (.own 10 i 0 i) ++ [.map (plM o o.length),.row i 5 (rdN (ns.take i))],[],none⟩) (fun i=>o.length - i) 0 (zw22 _) ?_ ?_
   ·exact Weak.nilCellTo 1 0 5 [.nil] rfl rfl (by decide) rfl ⟨rfl,rfl,rfl,rfl,congrArg I (congrArg Nat.cast hlo),rfl,trivial⟩
   clear hi hi' hlt
   intro i hi
   by_cases hi' : i < o.length
   ·have hlt : (i : Int) < (o.length : Int):=by omega
    have hw:=zwW i (by omega)
    have r1:=hat i hi'
    have htki:=htk i hi'
    have hap : ∀ {X : Prop},X → Need (i + 1 ≤ 4294967296) X:=fun h=>zw6 (by omega) h
    have hkd:=hkid o[i] (List.getElem_mem hi')
    have hoF:=hm.lt _ (List.getElem_mem hi')
    have hng:=hneg (ndA F o[i]) (by rw [ndA_get hoF]; exact List.getElem_mem hoF)
    have r2:=nds_at' (l:=F) hoF
    generalize o[i] = a at r1 r2 htki hkd hoF hng
    unfold ren at htki
    generalize ndA F a = x at r2 htki hkd hng
    by_cases hv : x.var = 0
    ·rw [if_pos hv] at htki
     repeat' ((conv=>whnf); first|refine zw8 (zw19 hlt) ?_|refine zw10 i _ rfl r1 ?_|refine zw10 a _ rfl r2 ?_|refine zw3 ?_|refine zw8 (zw19 hv) ?_|refine hap ?_|simp only [Nat.beq_refl,Bool.and_self]|refine zw6 rfl ?_)
     conv=>whnf
     exact ⟨i + 1,hi',by omega,Weak.to 11 (Eq.trans rfl (congrArg (fun z=>eM (vq l) F e0 (.own 10 (i + 1) 0 (i + 1)) ++ [.map (plM o o.length),.row (i + 1) 5 z]) (htki _ rfl))) (zw22 _) (zw18 rfl) ⟨rfl,rfl,rfl,rfl,rfl,congrArg I hw,trivial⟩ (hB:=hb2 (i + 1))⟩
    ·rw [if_neg hv] at htki
     have hp1 : ∀ {q : Option (Nat × V) → Prop},q (some (o.idxOf x.y,I (o.idxOf x.y))) → MapF (.int .i64) (plM o o.length) (I x.yes) q:=fun h=>plM_at hm.nd (hkd hv).1 (by unfold Nd.y; have:=(hng hv).1; omega) h
     have hp2 : ∀ {q : Option (Nat × V) → Prop},q (some (o.idxOf x.z,I (o.idxOf x.z))) → MapF (.int .i64) (plM o o.length) (I x.no) q:=fun h=>plM_at hm.nd (hkd hv).2 (by unfold Nd.z; have:=(hng hv).2; omega) h
     repeat' ((conv=>whnf); first|refine zw8 (zw19 hlt) ?_|refine zw10 i _ rfl r1 ?_|refine zw10 a _ rfl r2 ?_|refine zw3 ?_|refine zw9 (zw20 hv) ?_|simp only [Nat.beq_refl,Bool.and_self]|refine zw6 rfl ?_)
     conv=>whnf
     refine DrawP.por mixed [2,3,6,7] [[(0,0),(1,0),(4,0),(5,0),(2,2),(3,2),(6,2),(8,0),(7,2),(9,0),(10,0),(11,0)],[(0,0),(1,0),(4,0),(5,0),(2,2),(3,2),(6,2),(8,0),(9,0),(7,2),(10,0),(11,0)],[(0,0),(1,0),(4,0),(5,0),(2,2),(6,2),(3,2),(8,0),(7,2),(9,0),(10,0),(11,0)],[(0,0),(1,0),(4,0),(5,0),(2,2),(6,2),(3,2),(8,0),(9,0),(7,2),(10,0),(11,0)],[(0,0),(1,0),(4,0),(5,0),(2,2),(6,2),(7,2),(3,2),(8,0),(9,0),(10,0),(11,0)],[(0,0),(1,0),(4,0),(5,0),(6,2),(2,2),(3,2),(8,0),(7,2),(9,0),(10,0),(11,0)],[(0,0),(1,0),(4,0),(5,0),(6,2),(2,2),(3,2),(8,0),(9,0),(7,2),(10,0),(11,0)],[(0,0),(1,0),(4,0),(5,0),(6,2),(2,2),(7,2),(3,2),(8,0),(9,0),(10,0),(11,0)],[(0,0),(1,0),(4,0),(5,0),(6,2),(7,2),(2,2),(3,2),(8,0),(9,0),(10,0),(11,0)]] (by kernel_rfl) ?_
     conv=>whnf
     refine And.intro ?_ ?_
     rotate_left 1
     conv=>whnf
     refine And.intro ?_ ?_
     rotate_left 1
     conv=>whnf
     refine And.intro ?_ ?_
     rotate_left 1
     conv=>whnf
     refine And.intro ?_ ?_
     rotate_left 1
     conv=>whnf
     refine And.intro ?_ ?_
     rotate_left 1
     conv=>whnf
     refine And.intro ?_ ?_
     rotate_left 1
     conv=>whnf
     refine And.intro ?_ ?_
     rotate_left 1
     conv=>whnf
     refine And.intro ?_ ?_
     all_goals
      repeat' ((conv=>whnf); first|refine zw13 (I (o.idxOf x.z)) _ (hp2 ⟨rfl,rfl⟩) ?_|refine zw13 (I (o.idxOf x.y)) _ (hp1 ⟨rfl,rfl⟩) ?_|refine zw13 (I x.yes) _ ⟨rfl,rfl⟩ ?_|refine zw13 (I x.no) _ ⟨rfl,rfl⟩ ?_|refine hap ?_|simp only [Nat.beq_refl,Bool.and_self])
     all_goals conv=>whnf
     all_goals
      exact ⟨i + 1,hi',by omega,Weak.to 11 (Eq.trans rfl (congrArg (fun z=>eM (vq l) F e0 (.own 10 (i + 1) 0 (i + 1)) ++ [.map (plM o o.length),.row (i + 1) 5 z]) (htki _ rfl))) (zw22 _) (zw18 rfl) ⟨rfl,rfl,rfl,rfl,rfl,congrArg I hw,trivial⟩ (hB:=hb2 (i + 1))⟩
   ·have hlt : ¬ (i : Int) < (o.length : Int):=by omega
    have hie : i = o.length:=by omega
    subst hie
    rw [List.take_of_length_le (by omega)]
    repeat' ((conv=>whnf); refine zw9 (zw20 hlt) ?_)
    conv=>whnf
    refine zw16 (L':=[]) (Y:=.tup [treV ns,I 0]) (.tup _ _ rfl fun j x y hx hy=>?_) rfl rfl ⟨rfl,rfl⟩
    match j,hx,hy with
    | 0,hx,hy =>
     cases hx; cases hy
     exact .aggL (.cons (rdN_cv ns hnl.symm (zw22 _) rfl) .nil)
    | 1,hx,hy=>cases hx; cases hy; exact .d (.d _)
    | j + 2,hx,hy=>cases hx
end Go.Proofs.YtihibgcojdfndaaGreatDoor
namespace Go.Proofs.YtihibgcojdfndaaGreatDoor
open Go.Tidy
open Sts (Res Row Worth Game rowsF addF rowC valueF inG known worthOk resOk fieldOk gameV resV ress rowV)
variable {L : List Blk} {k : V → List Blk → Prop}
theorem ressV_alt {l : List Res} {ok : Int → Bool} : ressV l ok = true ↔ (∀ y ∈ l,resOk y ∧ ok y.game.home = true ∧ ok y.game.away = true) ∧ (∀ y ∈ l,∀ z ∈ l,y.game.season = z.game.season ∧ y.game.comp = z.game.comp) ∧ (l.map (·.game)).Nodup:=by
 rw [ressV_iff]
 constructor
 ·intro h
  have h0 : ∀ y ∈ l,∀ s,l[0]? = some s → y.game.season = s.game.season ∧ y.game.comp = s.game.comp:=fun y hy s hs=>by
   obtain ⟨i,hi,rfl⟩:=List.mem_iff_getElem.1 hy
   exact (h i _ (List.getElem?_eq_getElem hi)).2.1 s hs
  refine ⟨ress_of (ressV_iff.2 h),fun y hy z hz=>?_,?_⟩
  ·have hl : 0 < l.length:=List.length_pos_of_mem hy
   have e1:=h0 y hy _ (List.getElem?_eq_getElem hl)
   have e2:=h0 z hz _ (List.getElem?_eq_getElem hl)
   exact ⟨e1.1.trans e2.1.symm,e1.2.trans e2.2.symm⟩
  ·rw [List.Nodup,List.pairwise_iff_getElem]
   intro i j hi hj hij
   rw [List.length_map] at hi hj
   rw [List.getElem_map,List.getElem_map]
   exact (h j _ (List.getElem?_eq_getElem hj)).2.2.2.2 i hij _ (List.getElem?_eq_getElem hi)
 ·rintro ⟨h1,h2,h3⟩ j r hr
  have hj:=lt_of_get hr
  have hm:=List.mem_of_getElem? hr
  refine ⟨(h1 r hm).1,fun s hs=>h2 r hm s (List.mem_of_getElem? hs),(h1 r hm).2.1,(h1 r hm).2.2,fun i hij s hs e=>?_⟩
  rw [List.Nodup,List.pairwise_iff_getElem] at h3
  have hi:=lt_of_get hs
  have:=h3 i j (by rw [List.length_map]; exact hi) (by rw [List.length_map]; exact hj) hij
  rw [List.getElem_map,List.getElem_map] at this
  rw [List.getElem?_eq_getElem hi] at hs
  rw [List.getElem?_eq_getElem hj] at hr
  cases hs; cases hr
  exact this e
theorem Rank_c (p : Cp) (hL : LCp p) (h19 : p.clubs.length ≤ 19) (fin : Bool) (h : k (rankX p fin) L) : CallP C 13 [.d (ress p.res),.d (ins p.clubs),.d (ins p.off),.agg (p.ru.cells.map .d),B fin,.d (ins p.lots)] L k :=
 (Rank_0 p hL h19 fin).frame rfl fun X L' ⟨h1,h2⟩=>by
  subst h1 h2
  have e : (rankX p fin).sh L.length = rankX p fin:=by unfold rankX; split <;> rfl
  rw [e]; simpa [shB] using h
theorem Between_c (p : Cp) (hL : LCp p) (h19 : p.clubs.length ≤ 19) (fin : Bool) (a b : Int) (h : k (betX p fin a b) L) : CallP C 19 [.d (ress p.res),.d (ins p.clubs),.d (ins p.off),.agg (p.ru.cells.map .d),B fin,.d (ins p.lots),I a,I b] L k :=
 (Between_0 p hL h19 fin a b).frame rfl fun X L' ⟨h1,h2⟩=>by
  subst h1 h2
  have e : (betX p fin a b).sh L.length = betX p fin a b:=by
   unfold betX; split
   ·rfl
   ·split <;> rfl
  rw [e]; simpa [shB] using h
theorem Split_c (p : Cp) (hL : LCp p) (h19 : p.clubs.length ≤ 19) (b : Int) (h : k (splitX p b) L) : CallP C 17 [.d (ress p.res),.d (ins p.clubs),.d (ins p.off),I b,.agg (p.ru.cells.map .d),.d (ins p.lots)] L k :=
 (Split_0 p hL h19 b).frame rfl fun X L' ⟨h1,h2⟩=>by
  subst h1 h2
  have e : (splitX p b).sh L.length = splitX p b:=by
   unfold splitX; split
   ·rfl
   ·split <;> rfl
  rw [e]; simpa [shB] using h
def wonF (a b g : Int) : Res:=⟨⟨0,0,a,b⟩,g,0,0,0,0,0,0,false,false⟩
def nameR : ByteArray:=⟨#[114]⟩
def usualR (l : List Int) : Ru:=⟨nameR,3,1,0,l.map bySp,[]⟩
def pL (l : List Res) : Cp:=⟨l,[0,1,2,3],[0,0,0,0],usualR [1,8,9,12],[]⟩
def p3 : Cp:=⟨[wonF 0 1 1,wonF 1 0 1,wonF 0 2 1,wonF 1 2 1],[0,1,2],[0,0,0],usualR [1,8],[]⟩
def p2 : Cp:=⟨[wonF 0 1 1],[0,1],[0,0],usualR [1,8],[]⟩
def pS : Cp:=⟨[],[1,2,3],[0,0,0],usualR [1,8],[3,1,2]⟩
def p1 : Cp:=⟨[],[1],[0],usualR [1,8],[]⟩
theorem lbys : ∀ l : List Int,l.length ≤ 20 → LSs (l.map bySp):=fun l hl=>⟨by rw [List.length_map]; omega,fun s hs=>by
 obtain ⟨n,_,rfl⟩:=List.mem_map.1 hs
 exact lsp0 n⟩
theorem lusual (l : List Int) (hl : l.length ≤ 20) : LRu (usualR l):=⟨by show nameR.size ≤ _; decide,lbys l hl,by show ([] : List Zn).length ≤ _; decide,fun z hz=>by cases hz⟩
theorem rules0 {l : List Int} (h : orderF (l.map bySp) = 0) : rulesF (usualR l) = 0:=by
 unfold rulesF
 rw [if_neg,if_neg (by rw [show (usualR l).order = l.map bySp from rfl,h]; decide),if_neg (by show ¬ 16 < 0; decide),if_neg (by rintro ⟨z,hz,_⟩; cases hz)]
 rintro (h | h | h | h | h)
 ·exact absurd h (by show ¬ nameF nameR = false; decide)
 ·exact absurd h (by show ¬ (99 : Int) < 3; decide)
 ·exact absurd h (by show ¬ (3 : Int) < 1; decide)
 ·exact absurd h (by show ¬ (1 : Int) < 0; decide)
 ·exact absurd h (by show ¬ (0 : Int) < -99; decide)
def resB (l : List Res) (ok : Int → Bool) : Bool:=l.all (fun y=>decide (resOk y) && ok y.game.home && ok y.game.away && l.all fun z=>decide (y.game.season = z.game.season) && decide (y.game.comp = z.game.comp)) && decide (l.map (·.game)).Nodup
theorem resB_ok {l : List Res} {ok : Int → Bool} (h : resB l ok = true) : ressV l ok = true:=by
 unfold resB at h
 simp only [Bool.and_eq_true,List.all_eq_true,decide_eq_true_eq] at h
 exact ressV_alt.2 ⟨fun y hy=>⟨(h.1 y hy).1.1.1,(h.1 y hy).1.1.2,(h.1 y hy).1.2⟩,fun y hy z hz=>(h.1 y hy).2 z hz,h.2⟩
def openB (p : Cp) (n : Nat) (ok : Int → Bool) : Bool:=fieldOk p.clubs n && decide (p.off.length = p.clubs.length) && offOk p.off && resB p.res ok && lotsOk p.lots
theorem openB_ok {p : Cp} {n : Nat} {ok : Int → Bool} (h : openB p n ok = true) (hr : rulesF p.ru = 0) : openE p n ok = 0:=by
 unfold openB at h
 simp only [Bool.and_eq_true,decide_eq_true_eq] at h
 exact open_iff.2 ⟨h.1.1.1.1,h.1.1.1.2,h.1.1.2,hr,resB_ok h.1.2,h.2⟩
theorem r4 : rulesF (usualR [1,8,9,12]) = 0:=rules0 (by decide)
theorem r2 : rulesF (usualR [1,8]) = 0:=rules0 (by decide)
def l1 : List Res:=[wonF 0 1 1,wonF 2 3 1]
def l2 : List Res:=[wonF 0 1 1,wonF 1 2 1,wonF 2 0 1]
def l3 : List Res:=[wonF 0 1 2,wonF 1 2 1,wonF 2 0 1]
theorem vo : openB (pL []) 2 [0,1,2,3].contains = true ∧ openB (pL l1) 2 [0,1,2,3].contains = true ∧ openB (pL l2) 2 [0,1,2,3].contains = true ∧ openB (pL l3) 2 [0,1,2,3].contains = true ∧ openB p3 2 [0,1,2].contains = true ∧ openB p2 2 [0,1].contains = true ∧ openB pS 1 (fun _=>true) = true:=by decide +kernel
theorem vg : ((pL []).gs false).map (·.1) = [[0,1,2,3]] ∧ ((pL l1).gs false).map (·.1) = [[0,2],[1,3]] ∧ ((pL l2).gs false).map (·.1) = [[0,1,2],[3]] ∧ ((pL l3).gs false).map (·.1) = [[0],[2],[1],[3]]:=by decide +kernel
theorem vh : p3.gs false = [([0,1],0),([2],1)] ∧ bet 1 0 (p2.evs false) 0 = 1 ∧ splitF (valC pS pS.clubs 12) pS.clubs = [[3],[1],[2]] ∧ envO [] [0,1,2] 2 true = ⟨2,0,1,3⟩:=by decide +kernel
theorem won19_c (a b g : Int) (h : k (resV (wonF a b g)) L) : CallP C 31 [I a,I b,I g] L k:=by
 refine zw25 ?_ rfl (fun _=>rfl) h
 clear h
 refine zw24 C_ok Tryz.func31 rfl rfl rfl (zw18 rfl) rfl ?_
 skip
 conv=>whnf
 exact FinP.zz rfl ⟨rfl,rfl⟩
def rdB (l : List Int) : List (List V):=l.map fun n=>[I 1,I n,I 0,I 0,I 0,.nil,.nil,.nil]
theorem rdB_bel (n : Nat) : ∀ l : List Int,belR n (rdB l) = true
 | []=>rfl
 | e :: l=>by
  have:=rdB_bel n l
  unfold rdB at this ⊢
  simp only [List.map_cons,belR,this]
  rfl
theorem rdB_cv {S : Nat → Prop} {L : List Blk} : ∀ l : List Int,CvLL S L (rdB l) ((l.map bySp).map Sp.cells)
 | []=>.nil
 | e :: l=>.cons (.cons (.d _) (.cons (.d _) (.cons (.d _) (.cons (.d _) (.cons (.d _) (.cons .nil (.cons .nil (.cons .nil .nil)))))))) (rdB_cv l)
theorem steps19_c (l : List Int) (hl : l.length ≤ 20) (h : k (.d (sps (l.map bySp))) L) : CallP C 33 [.d (ins l)] L k:=by
 have hml : ((l.map fun n=>[DI n]).length : Int) = (l.length : Int):=by rw [insl]
 refine zw25 ?_ rfl (fun _=>rfl) h
 clear h
 refine zw24 C_ok Tryz.func33 rfl rfl rfl (zw18 rfl) rfl ?_
 skip
 conv=>whnf
 refine zw26 (fun i : Nat=>i ≤ l.length) (fun i=>⟨[(0,.d (ins l)),(3,.own 0 i 0 i),(4,I i)],Tryz.f33.ntmps,[.row i 8 (rdB (l.take i))],[],none⟩) (fun i=>l.length - i) 0 (zw22 _) ?_ ?_
 ·exact (Weak.nilOwn 3 8 rfl (by decide)).trans (zw27 ⟨rfl,rfl,rfl,trivial⟩)
 intro i hi
 by_cases hi' : i < l.length
 ·have hlt : (i : Int) < ((l.map fun n=>[DI n]).length : Int):=by omega
  have hw:=zwW i (by omega)
  have r1:=ins_at hi'
  have e : (rdB (l.take i)).take i ++ [[I 1,I l[i],I 0,I 0,I 0,.nil,.nil,.nil]] = rdB (l.take (i + 1)):=by
   rw [take_next hi']
   unfold rdB
   rw [List.take_of_length_le (by simp; omega),List.map_append]; rfl
  have hap : ∀ {X : Prop} {m : Nat},100 ≤ m → X → Need (i + 1 ≤ m) X:=fun hm h=>zw6 (by omega) h
  repeat' ((conv=>whnf); first|refine zw8 (zw19 hlt) ?_|refine zw10 i _ rfl r1 ?_|simp only [Nat.beq_refl,Bool.and_self]|refine hap (zw18 rfl) ?_|refine zw6 rfl ?_)
  conv=>whnf
  exact ⟨i + 1,hi',by omega,Weak.to 1 (Eq.trans rfl (congrArg (fun z=>[Blk.row (i + 1) 8 z]) e)) (zw22 _) (zw18 rfl) ⟨rfl,rfl,congrArg I hw,trivial⟩ (hB:=by show (belR 1 _ && true) = true; rw [rdB_bel]; rfl)⟩
 have hlt : ¬ (i : Int) < ((l.map fun n=>[DI n]).length : Int):=by omega
 obtain rfl : i = l.length:=by omega
 repeat' ((conv=>whnf); refine zw9 (zw20 hlt) ?_)
 conv=>whnf
 rw [List.take_length]
 refine zw16 (L':=[]) (.d (.rowL (ds:=(l.map bySp).map Sp.cells) (zw22 _) rfl ?_ (show l.length = ((l.map bySp).map Sp.cells).length by simp) fun e he=>?_)) rfl rfl ⟨rfl,rfl⟩
 ·rw [List.drop_zero,List.take_of_length_le (by unfold rdB; simp)]
  exact rdB_cv l
 ·obtain ⟨s,_,rfl⟩:=List.mem_map.1 he
  rw [Sp.cells_eq]; rfl
theorem usual19_c (l : List Int) (h : k (.agg ((usualR l).cells.map .d)) L) : CallP C 32 [.d (sps (l.map bySp))] L k:=by
 refine zw25 ?_ rfl (fun _=>rfl) h
 clear h
 refine zw24 C_ok Tryz.func32 rfl rfl rfl (zw18 rfl) rfl ?_
 skip
 conv=>whnf
 exact zw16 (L':=[]) (Cw.aggL (.cons (.d _) (.cons (.d _) (.cons (.d _) (.cons (.d _) (.cons (.d _) (.cons .nil .nil))))))) rfl rfl ⟨rfl,rfl⟩
theorem lcp (p : Cp) (h1 : p.res.length ≤ 100) (h2 : p.clubs.length ≤ 100) (h3 : p.off.length ≤ 100) (h4 : p.lots.length ≤ 100) (h5 : LRu p.ru) : LCp p:=⟨by omega,by omega,by omega,by omega,h5⟩
theorem lpL (l : List Res) (h : l.length ≤ 100) : LCp (pL l):=lcp _ h (by show [(0 : Int),1,2,3].length ≤ _; decide) (by show [(0 : Int),0,0,0].length ≤ _; decide) (by show ([] : List Int).length ≤ _; decide) (lusual _ (by decide))
theorem cvI {S : Nat → Prop} {L : List Blk} {b gen n : Nat} {l : List Int} (hb : S b) (hL : L[b]? = some (.row gen 1 (rdI l))) (hn : n = l.length) : Cw S L (.own b gen 0 n) (.d (ins l)):=by
 subst hn
 refine .d (.rowL (ds:=l.map fun n=>[DI n]) hb hL ?_ (by simp) fun e he=>?_)
 ·rw [List.drop_zero,List.take_of_length_le (by unfold rdI; simp)]; exact rdI_rows _
 ·obtain ⟨_,_,rfl⟩:=List.mem_map.1 he; rfl
theorem kill19 {i g sz : Nat} {els : List (List V)} (h : L[i]? = some (.row g sz els)) : CellEq L (killB [i] L):=CellEq.set h
def spine : List Blk → (List Blk → Prop) → Prop
 | [],K=>K []
 | x :: r,K=>spine r fun r=>K (x :: r)
theorem spine_eq : ∀ (l : List Blk) (K : List Blk → Prop),spine l K = K l
 | [],K=>rfl
 | x :: r,K=>by simp only [spine,spine_eq r]
theorem QCallK.introF {f : (V → List Blk → Prop) → Prop} {L : List Blk} {k : V → List Blk → Prop} (v : V) (M : List Blk) (h : f fun x N=>x = v ∧ N = M) (hc : CellEq L M) (hk : spine M fun M=>k v M) : QCallK f L k:=by
 rw [spine_eq] at hk
 exact QCallK.intro v M h hc hk
theorem QCallW.introF {f : (V → List Blk → Prop) → Prop} {k : V → List Blk → Prop} (v : V) (M : List Blk) (h : f fun x N=>x = v ∧ N = M) (hk : spine M fun M=>k v M) : QCallW f k:=by
 rw [spine_eq] at hk
 exact zw13 v M h hk
theorem stepsK {i gen n : Nat} (l : List Int) (hl : l.length ≤ 20) (hL : L[i]? = some (.row gen 1 (rdI l))) (hn : n = l.length) : CallP C 33 [.own i gen 0 n] L fun x N=>x = .d (sps (l.map bySp)) ∧ N = killB [i] L :=
 CallP.freeze [i] rfl (by show ([i].all _) = true; simp only [List.all_cons,List.all_nil,Bool.and_true]; rw [hL]) (.cv (cvI (List.mem_singleton.2 rfl) hL hn) .nil) (steps19_c l hl ⟨rfl,rfl⟩)
theorem rankK (p : Cp) (hp : LCp p) (h19 : p.clubs.length ≤ 19) (fin : Bool) {i j gi gj ni nj : Nat} (hi : L[i]? = some (.row gi 1 (rdI p.clubs))) (hj : L[j]? = some (.row gj 1 (rdI p.off))) (hni : ni = p.clubs.length) (hnj : nj = p.off.length) (hlo : p.lots = []) {X : V} (hX : rankX p fin = X) :
  CallP C 13 [.d (ress p.res),.own i gi 0 ni,.own j gj 0 nj,.agg (p.ru.cells.map .d),B fin,.nil] L fun x N=>x = X ∧ N = killB [i,j] L :=
 CallP.freeze [i,j] rfl (by show ([i,j].all _) = true; simp only [List.all_cons,List.all_nil,Bool.and_true]; rw [hi,hj]; rfl) (.keep (.cv (cvI (by simp) hi hni) (.cv (cvI (by simp) hj hnj) (.keep (.keep (.cv (y:=.d (ins p.lots)) (.d (by rw [hlo]; exact .nil)) .nil)))))) (Rank_c p hp h19 fin ⟨hX,rfl⟩)
theorem leads_c (l : List Res) (want : List (List Int)) (h100 : l.length ≤ 100) (hw : want.length ≤ 100) (hw2 : ∀ x ∈ want,x.length ≤ 100) (ho : openE (pL l) 2 (pL l).clubs.contains = 0) (hv : ((pL l).gs false).map (·.1) = want) (h : k (B true) L) : CallP C 30 [.d (ress l),.d (insL want)] L k:=by
 have hX : rankX (pL l) false = .tup [.d (insL want),.d (ins (((pL l).gs false).map (·.2))),I 0]:=by unfold rankX; rw [if_neg (fun h=>h ho),hv]
 have hrank:=fun {L : List Blk} {i j gi gj ni nj : Nat} (hi : L[i]? = some (.row gi 1 (rdI [0,1,2,3]))) (hj : L[j]? = some (.row gj 1 (rdI [0,0,0,0]))) (hni : ni = 4) (hnj : nj = 4)=>rankK (L:=L) (pL l) (lpL l h100) (by show [(0 : Int),1,2,3].length ≤ 19; decide) false hi hj hni hnj rfl hX
 have hlen : (((((pL l).gs false).map (·.2)).map fun n=>[DI n]).length : Int) = ((want.map fun es=>[ins es]).length : Int):=by rw [← hv]; simp
 have hs : ∀ {L : List Blk} {k : V → List Blk → Prop},k (B true) L → CallP C 15 [.d (insL want),.d (insL want)] L k:=fun h=>rsame19_c want want (by omega) (by omega) (fun x hx=>by have:=hw2 x hx; omega) (fun x hx=>by have:=hw2 x hx; omega) (by rw [decide_eq_true rfl]; exact h)
 clear hX ho hv
 generalize ((pL l).gs false).map (·.2) = bys at *
 refine zw25 ?_ rfl (fun _=>rfl) h
 clear h
 refine zw24 C_ok Tryz.func30 rfl rfl rfl (zw18 rfl) rfl ?_
 skip
 conv=>whnf
 refine DrawP.por mixed [1004,6] [[(0,0),(1,0),(2,0),(3,0),(4,5),(5,0),(6,2),(7,0),(8,0),(9,0),(10,0),(11,0),(12,0),(13,0)],[(0,0),(1,0),(3,0),(2,0),(4,5),(5,0),(6,2),(7,0),(8,0),(9,0),(10,0),(11,0),(12,0),(13,0)],[(0,0),(1,0),(3,0),(4,5),(5,1),(2,0),(6,2),(7,0),(8,0),(9,0),(10,0),(11,0),(12,0),(13,0)],[(0,0),(2,0),(1,0),(3,0),(4,5),(5,0),(6,2),(7,0),(8,0),(9,0),(10,0),(11,0),(12,0),(13,0)],[(0,0),(2,0),(3,0),(1,0),(4,5),(5,0),(6,2),(7,0),(8,0),(9,0),(10,0),(11,0),(12,0),(13,0)],[(0,0),(2,0),(3,0),(4,5),(5,1),(1,0),(6,2),(7,0),(8,0),(9,0),(10,0),(11,0),(12,0),(13,0)],[(0,0),(3,0),(1,0),(2,0),(4,5),(5,0),(6,2),(7,0),(8,0),(9,0),(10,0),(11,0),(12,0),(13,0)],[(0,0),(3,0),(1,0),(4,5),(5,1),(2,0),(6,2),(7,0),(8,0),(9,0),(10,0),(11,0),(12,0),(13,0)],[(0,0),(3,0),(2,0),(1,0),(4,5),(5,0),(6,2),(7,0),(8,0),(9,0),(10,0),(11,0),(12,0),(13,0)],[(0,0),(3,0),(2,0),(4,5),(5,1),(1,0),(6,2),(7,0),(8,0),(9,0),(10,0),(11,0),(12,0),(13,0)],[(0,0),(3,0),(4,5),(5,1),(1,0),(2,0),(6,2),(7,0),(8,0),(9,0),(10,0),(11,0),(12,0),(13,0)],[(0,0),(3,0),(4,5),(5,1),(2,0),(1,0),(6,2),(7,0),(8,0),(9,0),(10,0),(11,0),(12,0),(13,0)]] (by kernel_rfl) ?_
 conv=>whnf
 refine And.intro ?_ ?_
 rotate_left 1
 conv=>whnf
 refine And.intro ?_ ?_
 rotate_left 1
 conv=>whnf
 refine And.intro ?_ ?_
 rotate_left 1
 conv=>whnf
 refine And.intro ?_ ?_
 rotate_left 1
 conv=>whnf
 refine And.intro ?_ ?_
 rotate_left 1
 conv=>whnf
 refine And.intro ?_ ?_
 rotate_left 1
 conv=>whnf
 refine And.intro ?_ ?_
 rotate_left 1
 conv=>whnf
 refine And.intro ?_ ?_
 rotate_left 1
 conv=>whnf
 refine And.intro ?_ ?_
 rotate_left 1
 conv=>whnf
 refine And.intro ?_ ?_
 rotate_left 1
 conv=>whnf
 refine And.intro ?_ ?_
 all_goals
  repeat' ((conv=>whnf); first|refine QCallK.introF _ _ (stepsK [1,8,9,12] (zw18 rfl) rfl rfl) (kill19 rfl) ?_|refine zw12 _ (usual19_c [1,8,9,12] ⟨rfl,rfl⟩) ?_|refine QCallW.introF _ _ (hrank rfl rfl rfl rfl) ?_|refine hs ?_|refine zw8 (zw19 hlen) ?_|refine MakeP.intro 4 4 rfl rfl (zw21 4) (zw18 rfl) ?_|refine zw0 ?_|refine zw6 rfl ?_)
 all_goals conv=>whnf
 all_goals exact FinP.zz rfl ⟨rfl,rfl⟩
theorem cvJ {S : Nat → Prop} {L : List Blk} {b gen n : Nat} (l : List Int) (hb : S b) (hL : L[b]? = some (.row gen 1 (rdI l))) (hn : n = l.length) : Cv S L (.own b gen 0 n) (ins l):=by
 subst hn
 refine .rowL (ds:=l.map fun n=>[DI n]) hb hL ?_ (by simp) fun e he=>?_
 ·rw [List.drop_zero,List.take_of_length_le (by unfold rdI; simp)]; exact rdI_rows _
 ·obtain ⟨_,_,rfl⟩:=List.mem_map.1 he; rfl
theorem cvR {S : Nat → Prop} {L : List Blk} {b gen n : Nat} (l : List Res) (hb : S b) (hL : L[b]? = some (.row gen 13 (l.map fun y=>y.cells.map .d))) (hn : n = l.length) : Cw S L (.own b gen 0 n) (.d (ress l)):=by
 subst hn
 refine .d (.rowL (ds:=l.map Res.cells) hb hL ?_ (by simp) fun e he=>?_)
 ·rw [List.drop_zero,List.take_of_length_le (by simp)]
  clear hL
  induction l with
  | nil=>exact .nil
  | cons y l ih=>exact .cons (CvL.data _) ih
 ·obtain ⟨y,_,rfl⟩:=List.mem_map.1 he; rfl
theorem insE (l : List (List Int)) : ∀ e ∈ l.map fun es=>[ins es],e.length = 1:=fun e he=>by
 obtain ⟨_,_,rfl⟩:=List.mem_map.1 he; rfl
theorem leadsK {bs : List Nat} {a b : V} {L' : List Blk} (l : List Res) (want : List (List Int)) (ha : Cw (· ∈ bs) L a (.d (ress l))) (hb : Cw (· ∈ bs) L b (.d (insL want))) (hbs : plainBlk L bs = true) (hL : killB bs L = L') (h100 : l.length ≤ 100) (hw : want.length ≤ 100) (hw2 : ∀ x ∈ want,x.length ≤ 100) (ho : openE (pL l) 2 (pL l).clubs.contains = 0) (hv : ((pL l).gs false).map (·.1) = want)
  (h : k (B true) L') : CallP C 30 [a,b] L k:=CallP.freeze bs hL hbs (.cv ha (.cv hb .nil)) (leads_c l want h100 hw hw2 ho hv h)
theorem rankG (p : Cp) (hp : LCp p) (h19 : p.clubs.length ≤ 19) (fin : Bool) {bs : List Nat} {a b c d : V} {X : V} (hX : rankX p fin = X) (ha : Cw (· ∈ bs) L a (.d (ress p.res))) (hb : Cw (· ∈ bs) L b (.d (ins p.clubs))) (hc : Cw (· ∈ bs) L c (.d (ins p.off))) (hd : Cw (· ∈ bs) L d (.d (ins p.lots))) (hbs : plainBlk L bs = true) :
  CallP C 13 [a,b,c,.agg (p.ru.cells.map .d),B fin,d] L fun x N=>x = X ∧ N = killB bs L :=
 CallP.freeze bs rfl hbs (.cv ha (.cv hb (.cv hc (.keep (.keep (.cv hd .nil)))))) (Rank_c p hp h19 fin ⟨hX,rfl⟩)
theorem betG (p : Cp) (hp : LCp p) (h19 : p.clubs.length ≤ 19) (fin : Bool) (x y : Int) {bs : List Nat} {a b c d : V} {X : V} (hX : betX p fin x y = X) (ha : Cw (· ∈ bs) L a (.d (ress p.res))) (hb : Cw (· ∈ bs) L b (.d (ins p.clubs))) (hc : Cw (· ∈ bs) L c (.d (ins p.off))) (hd : Cw (· ∈ bs) L d (.d (ins p.lots))) (hbs : plainBlk L bs = true) :
  CallP C 19 [a,b,c,.agg (p.ru.cells.map .d),B fin,d,I x,I y] L fun x N=>x = X ∧ N = killB bs L :=
 CallP.freeze bs rfl hbs (.cv ha (.cv hb (.cv hc (.keep (.keep (.cv hd (.keep (.keep .nil)))))))) (Between_c p hp h19 fin x y ⟨hX,rfl⟩)
theorem splitG (p : Cp) (hp : LCp p) (h19 : p.clubs.length ≤ 19) (x : Int) {bs : List Nat} {a b c d : V} {X : V} (hX : splitX p x = X) (ha : Cw (· ∈ bs) L a (.d (ress p.res))) (hb : Cw (· ∈ bs) L b (.d (ins p.clubs))) (hc : Cw (· ∈ bs) L c (.d (ins p.off))) (hd : Cw (· ∈ bs) L d (.d (ins p.lots))) (hbs : plainBlk L bs = true) :
  CallP C 17 [a,b,c,I x,.agg (p.ru.cells.map .d),d] L fun x N=>x = X ∧ N = killB bs L :=
 CallP.freeze bs rfl hbs (.cv ha (.cv hb (.cv hc (.keep (.keep (.cv hd .nil)))))) (Split_c p hp h19 x ⟨hX,rfl⟩)
theorem envG (l : List Res) (cs g : List Int) (fin : Bool) (hl : l.length ≤ 1073741824) (hc : cs.length ≤ 1073741824) (hg : g.length ≤ 1073741824) {bs : List Nat} {L' : List Blk} {a b c : V} {X : V} (hX : envX l cs g fin = X) (ha : Cw (· ∈ bs) L a (.d (ress l))) (hb : Cw (· ∈ bs) L b (.d (ins cs))) (hcc : Cw (· ∈ bs) L c (.d (ins g))) (hbs : plainBlk L bs = true) (hL : killB bs L = L') (h : k X L') :
  CallP C 21 [a,b,c,B fin] L k :=
 CallP.freeze bs hL hbs (.cv ha (.cv hb (.cv hcc (.keep .nil)))) (Env_c l cs g fin hl hc hg (by rw [hX]; exact h))
theorem x3 : rankX p3 false = .tup [.d (insL [[0,1],[2]]),.d (ins [0,1]),I 0]:=by
 unfold rankX
 rw [if_neg (fun h=>h (openB_ok vo.2.2.2.2.1 r2)),vh.1]; rfl
theorem xb : betX p2 false 1 0 = .tup [I 1,I 0]:=by
 unfold betX
 rw [if_neg (fun h=>h (openB_ok vo.2.2.2.2.2.1 r2)),if_neg (by decide),vh.2.1]
theorem xs : splitX pS 12 = .tup [.d (insL [[3],[1],[2]]),I 0]:=by
 unfold splitX
 rw [if_neg (fun h=>h (openB_ok vo.2.2.2.2.2.2 r2)),if_neg (by decide),vh.2.2.1]
theorem x1 : rankX p1 false = .tup [.d (.sl []),.d (.sl []),I 190]:=by
 have e : openE p1 2 p1.clubs.contains = 190:=by unfold openE; rw [if_pos (by decide)]
 unfold rankX
 rw [e,if_pos (by decide)]
theorem xe : envX [] [0,1,2] [0,2] true = .tup [enV ⟨2,0,1,3⟩,I 0]:=by
 unfold envX
 rw [if_pos ⟨by decide,resB_ok (by decide),by decide,by decide⟩]
 exact congrArg (fun e=>V.tup [enV e,I 0]) vh.2.2.2
theorem small4 {l : List (List Int)} (h : (l.all fun x=>decide (x.length ≤ 100)) = true) : ∀ x ∈ l,x.length ≤ 100:=fun x hx=>of_decide_eq_true (List.all_eq_true.1 h x hx)
theorem mem_of {l : List Nat} {b : Nat} (h : l.elem b = true) : b ∈ l:=List.mem_of_elem_eq_true h
abbrev ruM : Blk:=.cells ((usualR [1,8]).cells.map .d)
theorem lp3 : LCp p3:=lcp _ (by decide) (by decide) (by decide) (by decide) (lusual _ (by decide))
theorem lp2 : LCp p2:=lcp _ (by decide) (by decide) (by decide) (by decide) (lusual _ (by decide))
theorem lpS : LCp pS:=lcp _ (by decide) (by decide) (by decide) (by decide) (lusual _ (by decide))
theorem lp1 : LCp p1:=lcp _ (by decide) (by decide) (by decide) (by decide) (lusual _ (by decide))
theorem c19 : p3.clubs.length ≤ 19 ∧ p2.clubs.length ≤ 19 ∧ pS.clubs.length ≤ 19 ∧ p1.clubs.length ≤ 19:=by decide
theorem lead0 {L' : List Blk} (hL : killB [0,1] L = L') {a : V} (ha : Cw (· ∈ [0,1]) L a (.d (insL [[0,1,2,3]]))) (hbs : plainBlk L [0,1] = true) (h : k (B true) L') : CallP C 30 [.nil,a] L k :=
 leadsK [] [[0,1,2,3]] (.d .nil) ha hbs hL (by decide) (by decide) (small4 rfl) (openB_ok vo.1 r4) vg.1 h
theorem lead1 {L' : List Blk} (hL : killB [2,3,4,5] L = L') {a b : V} (ha : Cw (· ∈ [2,3,4,5]) L a (.d (ress l1))) (hb : Cw (· ∈ [2,3,4,5]) L b (.d (insL [[0,2],[1,3]]))) (hbs : plainBlk L [2,3,4,5] = true) (h : k (B true) L') : CallP C 30 [a,b] L k :=
 leadsK l1 _ ha hb hbs hL (by decide) (by decide) (small4 rfl) (openB_ok vo.2.1 r4) vg.2.1 h
theorem lead2 {L' : List Blk} (hL : killB [6,7,8,9] L = L') {a b : V} (ha : Cw (· ∈ [6,7,8,9]) L a (.d (ress l2))) (hb : Cw (· ∈ [6,7,8,9]) L b (.d (insL [[0,1,2],[3]]))) (hbs : plainBlk L [6,7,8,9] = true) (h : k (B true) L') : CallP C 30 [a,b] L k :=
 leadsK l2 _ ha hb hbs hL (by decide) (by decide) (small4 rfl) (openB_ok vo.2.2.1 r4) vg.2.2.1 h
theorem lead3 {L' : List Blk} (hL : killB [10,11,12,13,14,15] L = L') {a b : V} (ha : Cw (· ∈ [10,11,12,13,14,15]) L a (.d (ress l3))) (hb : Cw (· ∈ [10,11,12,13,14,15]) L b (.d (insL [[0],[2],[1],[3]]))) (hbs : plainBlk L [10,11,12,13,14,15] = true) (h : k (B true) L') : CallP C 30 [a,b] L k :=
 leadsK l3 _ ha hb hbs hL (by decide) (by decide) (small4 rfl) (openB_ok vo.2.2.2.1 r4) vg.2.2.2 h
abbrev D2 : List Blk:=[.dead,.dead]
abbrev D4 : List Blk:=[.dead,.dead,.dead,.dead]
theorem sane19_c (h : k (B true) L) : CallP C 11 [] L k:=by
 refine zw25 ?_ rfl (fun _=>rfl) h
 clear h
 refine callP_cut (fun c=>match c with | .region 1 _ _=>true | .region 3 _ _=>true | .region 4 _ _=>true | .region 5 _ _=>true | .region 6 _ _=>true | .region 7 _ _=>true | .region 8 _ _=>true | _=>false) C_ok Tryz.func11 rfl rfl rfl (zw18 rfl) rfl ?_
 conv=>whnf
 refine CutP.intro (ι:=Unit) (fun _=>⟨[(51,B false),(0,B false)],Tryz.f11.ntmps,[],[],none⟩) ?_ (fun _=>?_)
 ·repeat' (conv => whnf
           first|refine won19_c _ _ _ ?_|refine lead0 (L':=D2) rfl (.d (.rowL (ds:=[[ins [0,1,2,3]]]) (mem_of rfl) rfl (.cons (.cons (cvJ [0,1,2,3] (mem_of rfl) rfl rfl) .nil) .nil) rfl (insE [[0,1,2,3]]))) rfl ?_|refine lead1 (L':=D2 ++ D4) rfl (cvR l1 (mem_of rfl) rfl rfl) (.d (.rowL (ds:=[[ins [0,2]],[ins [1,3]]]) (mem_of rfl) rfl (.cons (.cons (cvJ [0,2] (mem_of rfl) rfl rfl) .nil) (.cons (.cons (cvJ [1,3] (mem_of rfl) rfl rfl) .nil) .nil)) rfl (insE [[0,2],[1,3]]))) rfl ?_|refine lead2 (L':=D2 ++ D4 ++ D4) rfl (cvR l2 (mem_of rfl) rfl rfl) (.d (.rowL (ds:=[[ins [0,1,2]],[ins [3]]]) (mem_of rfl) rfl (.cons (.cons (cvJ [0,1,2] (mem_of rfl) rfl rfl) .nil) (.cons (.cons (cvJ [3] (mem_of rfl) rfl rfl) .nil) .nil)) rfl (insE [[0,1,2],[3]]))) rfl ?_|refine lead3 (L':=D2 ++ D4 ++ D4 ++ D4 ++ D2) rfl (cvR l3 (mem_of rfl) rfl rfl) (.d (.rowL (ds:=[[ins [0]],[ins [2]],[ins [1]],[ins [3]]]) (mem_of rfl) rfl (.cons (.cons (cvJ [0] (mem_of rfl) rfl rfl) .nil) (.cons (.cons (cvJ [2] (mem_of rfl) rfl rfl) .nil) (.cons (.cons (cvJ [1] (mem_of rfl) rfl rfl) .nil) (.cons (.cons (cvJ [3] (mem_of rfl) rfl rfl) .nil) .nil)))) rfl (insE [[0],[2],[1],[3]]))) rfl ?_|refine zw1 ?_)
  conv=>whnf
  exact ⟨(),Weak.to 0 rfl (zw21 0) (zw22 _) ⟨rfl,rfl,trivial⟩⟩
 repeat' ((conv=>whnf); refine zw1 ?_)
 conv=>whnf
 refine CutP.intro (ι:=Unit) (fun _=>⟨[(0,B false),(1,.ptr 0 0)],Tryz.f11.ntmps,[ruM],[],none⟩) ?_ (fun _=>?_)
 ·repeat' (conv => whnf
           first|refine CallP.freeze (L':=[.dead]) [0] rfl rfl (.cv (.d (cvJ [1,8] (mem_of rfl) rfl rfl)) .nil) (steps19_c [1,8] (zw18 rfl) ?_)|refine usual19_c [1,8] ?_)
  conv=>whnf
  exact ⟨(),Weak.re [1] ⟨rfl,rfl,trivial⟩ rfl (by decide) rfl⟩
 conv=>whnf
 refine CutP.intro (ι:=Unit) (fun _=>⟨[(0,B false),(1,.ptr 0 0),(2,.d (insL [[0,1],[2]])),(3,.d (ins [0,1])),(4,I 0)],Tryz.f11.ntmps,[ruM],[],none⟩) ?_ (fun _=>?_)
 ·skip
  conv=>whnf
  refine DrawP.por mixed [8] [[(0,1),(1,1),(2,1),(3,1),(7,3),(4,0),(5,0),(6,0),(8,2),(9,0),(10,0),(11,0),(12,0),(13,0),(14,0),(15,0)],[(0,1),(1,1),(2,1),(3,1),(7,3),(4,0),(6,0),(5,0),(8,2),(9,0),(10,0),(11,0),(12,0),(13,0),(14,0),(15,0)],[(0,1),(1,1),(2,1),(3,1),(7,3),(5,0),(4,0),(6,0),(8,2),(9,0),(10,0),(11,0),(12,0),(13,0),(14,0),(15,0)],[(0,1),(1,1),(2,1),(3,1),(7,3),(5,0),(6,0),(4,0),(8,2),(9,0),(10,0),(11,0),(12,0),(13,0),(14,0),(15,0)],[(0,1),(1,1),(2,1),(3,1),(7,3),(6,0),(4,0),(5,0),(8,2),(9,0),(10,0),(11,0),(12,0),(13,0),(14,0),(15,0)],[(0,1),(1,1),(2,1),(3,1),(7,3),(6,0),(5,0),(4,0),(8,2),(9,0),(10,0),(11,0),(12,0),(13,0),(14,0),(15,0)]] (by kernel_rfl) ?_
  conv=>whnf
  refine And.intro ?_ ?_
  rotate_left 1
  conv=>whnf
  refine And.intro ?_ ?_
  rotate_left 1
  conv=>whnf
  refine And.intro ?_ ?_
  rotate_left 1
  conv=>whnf
  refine And.intro ?_ ?_
  rotate_left 1
  conv=>whnf
  refine And.intro ?_ ?_
  all_goals
   repeat' ((conv=>whnf); first|refine zw12 _ (won19_c 0 1 1 ⟨rfl,rfl⟩) ?_|refine zw12 _ (won19_c 1 0 1 ⟨rfl,rfl⟩) ?_|refine zw12 _ (won19_c 0 2 1 ⟨rfl,rfl⟩) ?_|refine zw12 _ (won19_c 1 2 1 ⟨rfl,rfl⟩) ?_|refine MakeP.intro 3 3 rfl rfl (zw21 3) (zw18 rfl) ?_|refine QCallW.introF _ _ (rankG (bs:=[1,2,3]) p3 lp3 c19.1 false x3 (cvR p3.res (mem_of rfl) rfl rfl) (.d (cvJ p3.clubs (mem_of rfl) rfl rfl)) (.d (cvJ p3.off (mem_of rfl) rfl rfl)) (.d .nil) rfl) ?_|refine zw6 rfl ?_)
  all_goals conv=>whnf
  all_goals exact ⟨(),Weak.to 1 rfl (zw22 _) (zw18 rfl) ⟨rfl,rfl,rfl,rfl,rfl,trivial⟩⟩
 conv=>whnf
 refine CutP.intro (ι:=Unit) (fun _=>⟨[(0,B false),(1,.ptr 0 0),(2,.d (insL [[0,1],[2]])),(3,.d (ins [0,1])),(4,I 0),(5,I 1),(6,I 0)],Tryz.f11.ntmps,[ruM],[],none⟩) ?_ (fun _=>?_)
 ·skip
  conv=>whnf
  refine DrawP.por mixed [5] [[(0,1),(4,3),(1,0),(2,0),(3,0),(5,2),(6,0),(7,0),(8,0),(9,0),(10,0)],[(0,1),(4,3),(1,0),(3,0),(2,0),(5,2),(6,0),(7,0),(8,0),(9,0),(10,0)],[(0,1),(4,3),(2,0),(1,0),(3,0),(5,2),(6,0),(7,0),(8,0),(9,0),(10,0)],[(0,1),(4,3),(2,0),(3,0),(1,0),(5,2),(6,0),(7,0),(8,0),(9,0),(10,0)],[(0,1),(4,3),(3,0),(1,0),(2,0),(5,2),(6,0),(7,0),(8,0),(9,0),(10,0)],[(0,1),(4,3),(3,0),(2,0),(1,0),(5,2),(6,0),(7,0),(8,0),(9,0),(10,0)]] (by kernel_rfl) ?_
  conv=>whnf
  refine And.intro ?_ ?_
  rotate_left 1
  conv=>whnf
  refine And.intro ?_ ?_
  rotate_left 1
  conv=>whnf
  refine And.intro ?_ ?_
  rotate_left 1
  conv=>whnf
  refine And.intro ?_ ?_
  rotate_left 1
  conv=>whnf
  refine And.intro ?_ ?_
  all_goals
   repeat' ((conv=>whnf); first|refine zw12 _ (won19_c 0 1 1 ⟨rfl,rfl⟩) ?_|refine MakeP.intro 2 2 rfl rfl (zw21 2) (zw18 rfl) ?_|refine QCallW.introF _ _ (betG (bs:=[1,2,3]) p2 lp2 c19.2.1 false 1 0 xb (cvR p2.res (mem_of rfl) rfl rfl) (.d (cvJ p2.clubs (mem_of rfl) rfl rfl)) (.d (cvJ p2.off (mem_of rfl) rfl rfl)) (.d .nil) rfl) ?_|refine zw6 rfl ?_)
  all_goals conv=>whnf
  all_goals exact ⟨(),Weak.to 1 rfl (zw22 _) (zw18 rfl) ⟨rfl,rfl,rfl,rfl,rfl,rfl,rfl,trivial⟩⟩
 conv=>whnf
 refine CutP.intro (ι:=Unit) (fun _=>⟨[(0,B false),(1,.ptr 0 0),(2,.d (insL [[0,1],[2]])),(3,.d (ins [0,1])),(4,I 0),(5,I 1),(6,I 0),(7,.d (insL [[3],[1],[2]])),(8,I 0)],Tryz.f11.ntmps,[ruM],[],none⟩) ?_ (fun _=>?_)
 ·skip
  conv=>whnf
  refine DrawP.por mixed [4] [[(2,3),(0,0),(1,0),(3,0),(4,2),(5,0),(6,0),(7,0),(8,0),(9,0)],[(2,3),(0,0),(3,0),(1,0),(4,2),(5,0),(6,0),(7,0),(8,0),(9,0)],[(2,3),(1,0),(0,0),(3,0),(4,2),(5,0),(6,0),(7,0),(8,0),(9,0)],[(2,3),(1,0),(3,0),(0,0),(4,2),(5,0),(6,0),(7,0),(8,0),(9,0)],[(2,3),(3,0),(0,0),(1,0),(4,2),(5,0),(6,0),(7,0),(8,0),(9,0)],[(2,3),(3,0),(1,0),(0,0),(4,2),(5,0),(6,0),(7,0),(8,0),(9,0)]] (by kernel_rfl) ?_
  conv=>whnf
  refine And.intro ?_ ?_
  rotate_left 1
  conv=>whnf
  refine And.intro ?_ ?_
  rotate_left 1
  conv=>whnf
  refine And.intro ?_ ?_
  rotate_left 1
  conv=>whnf
  refine And.intro ?_ ?_
  rotate_left 1
  conv=>whnf
  refine And.intro ?_ ?_
  all_goals
   repeat' ((conv=>whnf); first|refine MakeP.intro 3 3 rfl rfl (zw21 3) (zw18 rfl) ?_|refine QCallW.introF _ _ (splitG (bs:=[1,2,3]) pS lpS c19.2.2.1 12 xs (.d .nil) (.d (cvJ pS.clubs (mem_of rfl) rfl rfl)) (.d (cvJ pS.off (mem_of rfl) rfl rfl)) (.d (cvJ pS.lots (mem_of rfl) rfl rfl)) rfl) ?_)
  all_goals conv=>whnf
  all_goals exact ⟨(),Weak.to 1 rfl (zw22 _) (zw18 rfl) ⟨rfl,rfl,rfl,rfl,rfl,rfl,rfl,rfl,rfl,trivial⟩⟩
 conv=>whnf
 refine CutP.intro (ι:=Unit) (fun _=>⟨[(0,B false),(1,.ptr 0 0),(2,.d (insL [[0,1],[2]])),(3,.d (ins [0,1])),(4,I 0),(5,I 1),(6,I 0),(7,.d (insL [[3],[1],[2]])),(8,I 0),(9,.ptr 1 0),(10,I 0)],Tryz.f11.ntmps,[ruM,.cells [I 2,I 0,I 1,I 3]],[],none⟩) ?_ (fun _=>?_)
 ·repeat' (conv => whnf
           first|refine envG [] [0,1,2] [0,2] true (zw18 rfl) (zw18 rfl) (zw18 rfl) (bs:=[1,2]) (L':=[ruM,.dead,.dead]) xe (.d .nil) (.d (cvJ [0,1,2] (mem_of rfl) rfl rfl)) (.d (cvJ [0,2] (mem_of rfl) rfl rfl)) rfl rfl ?_)
  conv=>whnf
  exact ⟨(),Weak.re [0,3] ⟨rfl,rfl,rfl,rfl,rfl,rfl,rfl,rfl,rfl,rfl,rfl,trivial⟩ rfl (by decide) rfl⟩
 conv=>whnf
 refine CutP.intro (ι:=Unit) (fun _=>⟨[(0,B false),(2,.d (insL [[0,1],[2]])),(3,.d (ins [0,1])),(4,I 0),(5,I 1),(6,I 0),(7,.d (insL [[3],[1],[2]])),(8,I 0),(9,.ptr 1 0),(10,I 0),(13,I 190)],Tryz.f11.ntmps,[ruM,.cells [I 2,I 0,I 1,I 3]],[],none⟩) ?_ (fun _=>?_)
 ·repeat' (conv => whnf
           first|refine (rankG (bs:=[2,3]) p1 lp1 c19.2.2.2 false x1 (.d .nil) (.d (cvJ p1.clubs (mem_of rfl) rfl rfl)) (.d (cvJ p1.off (mem_of rfl) rfl rfl)) (.d .nil) rfl).mono ?_)
  rintro X L' ⟨rfl,rfl⟩
  skip
  conv=>whnf
  exact ⟨(),Weak.to 2 rfl (zw22 _) (zw18 rfl) ⟨rfl,rfl,rfl,rfl,rfl,rfl,rfl,rfl,rfl,rfl,rfl,trivial⟩⟩
 have s1 : CallP C 15 [.d (insL [[0,1],[2]]),.d (insL [[0,1],[2]])] [] fun X L'=>L' = [] ∧ X = B true:=rsame19_c [[0,1],[2]] [[0,1],[2]] (by decide) (by decide) (fun x hx=>by have:=small4 (l:=[[0,1],[2]]) rfl x hx; omega) (fun x hx=>by have:=small4 (l:=[[0,1],[2]]) rfl x hx; omega) ⟨rfl,rfl⟩
 have s2 : CallP C 15 [.d (insL [[3],[1],[2]]),.d (insL [[3],[1],[2]])] [] fun X L'=>L' = [] ∧ X = B true:=rsame19_c [[3],[1],[2]] [[3],[1],[2]] (by decide) (by decide) (fun x hx=>by have:=small4 (l:=[[3],[1],[2]]) rfl x hx; omega) (fun x hx=>by have:=small4 (l:=[[3],[1],[2]]) rfl x hx; omega) ⟨rfl,rfl⟩
 have s3 : CallP C 16 [.d (ins [0,1]),.d (ins [0,1])] [] fun X L'=>L' = [] ∧ X = B true:=rsameL19_c [0,1] [0,1] (by decide) (by decide) ⟨rfl,rfl⟩
 repeat' ((conv=>whnf); first|refine zw29 s1 (.keep (.cv (.d (.rowL (ds:=[[ins [0,1]],[ins [2]]]) trivial rfl (.cons (.cons (cvJ [0,1] trivial rfl rfl) .nil) (.cons (.cons (cvJ [2] trivial rfl rfl) .nil) .nil)) rfl (insE [[0,1],[2]]))) .nil)) rfl rfl ?_|refine zw29 s3 (.keep (.cv (.d (cvJ [0,1] trivial rfl rfl)) .nil)) rfl rfl ?_|refine zw29 s2 (.keep (.cv (.d (.rowL (ds:=[[ins [3]],[ins [1]],[ins [2]]]) trivial rfl (.cons (.cons (cvJ [3] trivial rfl rfl) .nil) (.cons (.cons (cvJ [1] trivial rfl rfl) .nil) (.cons (.cons (cvJ [2] trivial rfl rfl) .nil) .nil))) rfl (insE [[3],[1],[2]]))) .nil)) rfl rfl ?_|refine zw0 ?_)
 conv=>whnf
 exact FinP.zz rfl ⟨rfl,rfl⟩
end Go.Proofs.YtihibgcojdfndaaGreatDoor
namespace Go.Proofs.YtihibgcojdfndaaGreatDoor
open Go.Tidy Go.ChangeShapes Go.WideShapes Go.ChangeAt Go.RowKit
open Sts (Res Row Worth Game rowsF addF rowC valueF inG known worthOk resOk fieldOk gameV resV ress rowV)
variable {L : List Blk} {k : V → List Blk → Prop}
def plainTys19 : List TypeId:=[3,4,9,5,60,185,25,27,23,62,64,22,42,52,50,54,24]
theorem plainOk19 : plainB Tryz.prog plainTys19 = true:=by kernel_rfl
theorem bytesOk19 : bytesB Tryz.prog plainTys19 = true:=by kernel_rfl
theorem plainLt19 : ∀ t ∈ plainTys19,t < Tryz.prog.types.size:=by
 have : plainTys19.all (fun t=>decide (t < Tryz.prog.types.size)) = true:=by kernel_rfl
 intro t ht
 simpa using List.all_eq_true.1 this t ht
theorem ints19 {xs : List D} (h : TyI C.P 23 xs) (hs : ∀ y ∈ xs,Dsm reachBytes y) : ∃ l : List Int,xs = [ins l] ∧ True:=by
 obtain ⟨els,rfl,h1,h2⟩:=h.slI Tryz.underlying23
 obtain ⟨l,rfl,_⟩:=map_of2 (f:=fun n=>[DI n]) (p:=fun _=>True) (l:=els) fun y hy=>by
  obtain ⟨n,e,_⟩:=(h2 y hy).intI Tryz.underlying3
  exact ⟨n,e,trivial⟩
 exact ⟨l,rfl,trivial⟩
theorem bool19 {xs : List D} (h : TyI C.P 4 xs) (_ : ∀ y ∈ xs,Dsm reachBytes y) : ∃ b : Bool,xs = [.bool b] ∧ True:=by
 obtain ⟨b,h⟩:=h.boolI Tryz.underlying4
 exact ⟨b,h,trivial⟩
theorem cells_bool : C.P.cellsOf 4 = 1:=by kernel_rfl
theorem cells_game : C.P.cellsOf 62 = 4:=by kernel_rfl
theorem cells_res : C.P.cellsOf 64 = 13:=by kernel_rfl
theorem at_bool {xs : List D} {i : Nat} (h : TyI C.P 4 ((xs.drop i).take (C.P.cellsOf 4))) : ∃ b : Bool,xs[i]? = some (.bool b):=by
 obtain ⟨b,hn⟩:=h.boolI Tryz.underlying4
 rw [cells_bool] at hn
 exact ⟨b,at_one hn⟩
theorem res19T {xs : List D} (h : TyI C.P 64 xs) : ∃ r : Res,xs = r.cells:=by
 obtain ⟨h1,h2⟩:=h.structI Tryz.underlying64
 rw [cells_res] at h1
 simp only [List.mem_cons,List.not_mem_nil,or_false,forall_eq_or_imp,forall_eq] at h2
 obtain ⟨g,a4,a5,a6,a7,a8,a9,a10,a11,a12⟩:=h2
 obtain ⟨_,h3⟩:=g.structI Tryz.underlying62
 simp only [List.mem_cons,List.not_mem_nil,or_false,forall_eq_or_imp,forall_eq] at h3
 obtain ⟨a0,a1,a2,a3⟩:=h3
 rw [cells_game] at a0 a1 a2 a3
 obtain ⟨n0,b0⟩:=at_int a0
 have b0 : xs[0]? = some (DI n0):=by simpa [List.getElem?_take] using b0
 obtain ⟨n1,b1⟩:=at_int a1
 have b1 : xs[1]? = some (DI n1):=by simpa [List.getElem?_take] using b1
 obtain ⟨n2,b2⟩:=at_int a2
 have b2 : xs[2]? = some (DI n2):=by simpa [List.getElem?_take] using b2
 obtain ⟨n3,b3⟩:=at_int a3
 have b3 : xs[3]? = some (DI n3):=by simpa [List.getElem?_take] using b3
 obtain ⟨n4,b4⟩:=at_int a4
 obtain ⟨n5,b5⟩:=at_int a5
 obtain ⟨n6,b6⟩:=at_int a6
 obtain ⟨n7,b7⟩:=at_int a7
 obtain ⟨n8,b8⟩:=at_int a8
 obtain ⟨n9,b9⟩:=at_int a9
 obtain ⟨n10,b10⟩:=at_int a10
 obtain ⟨n11,b11⟩:=at_bool a11
 obtain ⟨n12,b12⟩:=at_bool a12
 refine ⟨⟨⟨n0,n1,n2,n3⟩,n4,n5,n6,n7,n8,n9,n10,n11,n12⟩,?_⟩
 apply List.ext_getElem?
 intro i
 match i with
 | 0=>exact b0
 | 1=>exact b1
 | 2=>exact b2
 | 3=>exact b3
 | 4=>exact b4
 | 5=>exact b5
 | 6=>exact b6
 | 7=>exact b7
 | 8=>exact b8
 | 9=>exact b9
 | 10=>exact b10
 | 11=>exact b11
 | 12=>exact b12
 | i + 13=>rw [List.getElem?_eq_none (by omega)]; rfl
theorem ress19 {xs : List D} (h : TyI C.P 22 xs) (_ : ∀ y ∈ xs,Dsm reachBytes y) : ∃ l : List Res,xs = [ress l] ∧ True:=by
 obtain ⟨els,rfl,h1,h2⟩:=h.slI Tryz.underlying22
 obtain ⟨l,rfl,_⟩:=map_of2 (f:=Res.cells) (p:=fun _=>True) (l:=els) fun y hy=>by
  obtain ⟨r,e⟩:=res19T (h2 y hy)
  exact ⟨r,e,trivial⟩
 exact ⟨l,rfl,trivial⟩
theorem few_p {p : Cp} (h : few19 p = true) (hr : LRu p.ru) : p.res.length ≤ 40 ∧ p.clubs.length ≤ 8 ∧ p.off.length ≤ 30 ∧ p.lots.length ≤ 30 ∧ LCp p:=by
 unfold few19 at h
 rw [Bool.and_eq_true,decide_eq_true_eq] at h
 exact ⟨h.1.1,h.1.2.1,h.1.2.2.1,h.1.2.2.2.1,lcp p (by omega) (by omega) (by omega) (by omega) hr⟩
theorem gs_mem {p : Cp} {fin : Bool} {x : List Int × Int} (h : x ∈ p.gs fin) : x.1.Sublist p.clubs ∧ (p.rk fin).fst x.1 = none:=rank_mem _ _ _ _ _ h
theorem gs_count (p : Cp) (fin : Bool) (h : 1 ≤ p.clubs.length) : (p.gs fin).length ≤ p.clubs.length:=grs_count (p.rk fin) (zw21 _) h (fun e=>by rw [e] at h; exact absurd h (by decide))
theorem gs_small {p : Cp} {fin : Bool} {x : List Int} (h : x ∈ (p.gs fin).map (·.1)) : x.length ≤ p.clubs.length:=by
 obtain ⟨y,hy,rfl⟩:=List.mem_map.1 h
 exact (gs_mem hy).1.length_le
end Go.Proofs.YtihibgcojdfndaaGreatDoor
namespace Go.Proofs.YtihibgcojdfndaaGreatDoor
open Go.Tidy
open Sts (Res Row Worth Game rowsF addF rowC valueF inG known worthOk resOk fieldOk gameV resV ress rowV)
theorem idx_take {l : List Int} (hn : l.Nodup) {i : Nat} (h : i < l.length) : l.idxOf l[i] = i:=by
 have h1:=List.idxOf_lt_length_of_mem (List.getElem_mem h)
 have h2 : l[l.idxOf l[i]] = l[i]:=List.getElem_idxOf h1
 exact (List.getElem_inj hn).1 h2
theorem offTab_val {clubs off : List Int} (hn : clubs.Nodup) (hl : off.length = clubs.length) (c : Int) : ∀ i,i ≤ clubs.length → valP (offTab clubs off i) c = if c ∈ clubs.take i then off.getD (clubs.idxOf c) 0 else 0
 | 0,_=>by simp [offTab,valP,keysP]
 | i + 1,h=>by
  have hi : i < clubs.length:=by omega
  rw [offTab,valP_ins,offTab_val hn hl c i (by omega),getDI hi,take_next hi]
  by_cases e : c = clubs[i]
  ·subst e
   rw [if_pos rfl,if_pos (List.mem_append.2 (.inr (List.mem_singleton.2 rfl))),idx_take hn hi]
  ·rw [if_neg e]
   simp only [List.mem_append,List.mem_singleton,e,or_false]
theorem off_val {clubs off : List Int} (hn : clubs.Nodup) (hl : off.length = clubs.length) (c : Int) : valP (offTab clubs off clubs.length) c = offF clubs off c:=by
 rw [offTab_val hn hl c clubs.length (Nat.le_refl _),List.take_length]; rfl
theorem lot0_val {clubs : List Int} (n : Int) (c : Int) : ∀ i,i ≤ clubs.length → valP (lot0 clubs n i) c = if c ∈ clubs.take i then n else 0
 | 0,_=>by simp [lot0,valP,keysP]
 | i + 1,h=>by
  have hi : i < clubs.length:=by omega
  rw [lot0,valP_ins,lot0_val n c i (by omega),getDI hi,take_next hi]
  by_cases e : c = clubs[i]
  ·rw [if_pos e,if_pos (List.mem_append.2 (.inr (List.mem_singleton.2 e)))]
  ·rw [if_neg e]
   simp only [List.mem_append,List.mem_singleton,e,or_false]
theorem lotTab_val {clubs lots : List Int} (hn : lots.Nodup) (c : Int) : ∀ i,i ≤ lots.length → valP (lotTab clubs lots i) c = if c ∈ lots.take i then (lots.idxOf c : Int) else if c ∈ clubs then (lots.length : Int) else 0
 | 0,_=>by rw [lotTab,lot0_val _ _ _ (Nat.le_refl _),List.take_length]; simp
 | i + 1,h=>by
  have hi : i < lots.length:=by omega
  rw [lotTab,valP_ins,lotTab_val hn c i (by omega),getDI hi,take_next hi]
  by_cases e : c = lots[i]
  ·subst e
   rw [if_pos rfl,if_pos (List.mem_append.2 (.inr (List.mem_singleton.2 rfl))),idx_take hn hi]
  ·rw [if_neg e]
   simp only [List.mem_append,List.mem_singleton,e,or_false]
theorem lot_val {clubs lots : List Int} (hn : lots.Nodup) {c : Int} (hc : c ∈ clubs) : valP (lotTab clubs lots lots.length) c = lotF lots c:=by
 rw [lotTab_val hn c lots.length (Nat.le_refl _),List.take_length]
 unfold lotF
 by_cases h : c ∈ lots
 ·rw [if_pos h,if_pos h]
 ·rw [if_neg h,if_neg h,if_pos hc]
theorem lots_nodup {l : List Int} (h : lotsOk l = true) : l.Nodup:=by
 unfold lotsOk at h
 rw [Bool.and_eq_true,decide_eq_true_eq] at h
 exact h.1
theorem envX_ok {p : Cp} {fin : Bool} {g : List Int} (h0 : openE p 2 p.clubs.contains = 0) (hg : g.Sublist p.clubs) (h2 : 2 ≤ g.length) : envX p.res p.clubs g fin = .tup [enV (envO p.res p.clubs g.length fin),I 0]:=by
 obtain ⟨o1,o2,o3,o4,o5,o6⟩:=open_of h0
 have h3 : fieldOk g 2 = true:=by
  unfold fieldOk at o1 ⊢
  simp only [Bool.and_eq_true,decide_eq_true_eq] at o1 ⊢
  refine ⟨⟨?_,h2⟩,Nat.le_trans hg.length_le o1.2⟩
  have hlt:=Sts.incr_lt o1.1.1
  rw [Sts.incr_iff]
  intro j c hj
  have hjl:=lt_of_get hj
  have hr : ∀ d ∈ p.clubs,0 ≤ d ∧ d < 192:=fun d hd=>by
   obtain ⟨i,hi,rfl⟩:=List.mem_iff_getElem.1 hd
   exact ((Sts.incr_iff _).1 o1.1.1 i _ (List.getElem?_eq_getElem hi)).1
  refine ⟨hr c (hg.subset (List.mem_of_getElem? hj)),fun d h0 hd=>?_⟩
  have hp : g.Pairwise (· < ·):=List.Pairwise.sublist hg (hlt.imp fun h=>by omega)
  have hdl:=lt_of_get hd
  rw [List.pairwise_iff_getElem] at hp
  have:=hp (j - 1) j hdl hjl (by omega)
  rw [List.getElem?_eq_getElem hjl] at hj
  rw [List.getElem?_eq_getElem hdl] at hd
  cases hj; cases hd
  exact this
 have h4 : (g.any fun c=>!p.clubs.contains c) = false:=by
  rw [List.any_eq_false]
  intro c hc
  have:=hg.subset hc
  simp [this]
 unfold envX
 rw [if_pos ⟨o1,o5,h3,h4⟩]
def Cp.with (p : Cp) (m : List Res) : Cp:=⟨m,p.clubs,p.off,p.ru,p.lots⟩
end Go.Proofs.YtihibgcojdfndaaGreatDoor
namespace Go.Tidy
end Go.Tidy
namespace Go.Proofs.YtihibgcojdfndaaGreatDoor
open Go.Tidy
open Sts (Res Row Worth Game rowsF addF rowC valueF inG known worthOk resOk fieldOk gameV resV ress rowV)
end Go.Proofs.YtihibgcojdfndaaGreatDoor
namespace Go.Proofs.YtihibgcojdfndaaGreatDoor
open Go.Tidy
open Sts (Res Row Worth Game rowsF addF rowC valueF inG known worthOk resOk fieldOk gameV resV ress rowV)
variable {L : List Blk} {k : V → List Blk → Prop}
end Go.Proofs.YtihibgcojdfndaaGreatDoor
namespace Go.Proofs.YtihibgcojdfndaaGreatDoor
open Go.Tidy
open Sts (Res Row Worth Game rowsF addF rowC valueF inG known worthOk resOk fieldOk gameV resV ress rowV rowsD)
variable {L : List Blk} {k : V → List Blk → Prop}
structure Grp (p : Cp) : Prop where
 nd : p.clubs.Nodup
 off : p.off.length = p.clubs.length
 lots : p.lots.Nodup
 l1 : p.res.length ≤ 100
 l2 : p.clubs.length ≤ 100
 l3 : p.lots.length ≤ 100
 ru : LRu p.ru
def pickF (l at' : List Int) : List Int:=at'.map fun i=>l.getD i.toNat 0
def viF (p : Cp) (b : Int) : Int → Int:=fun i=>valC p p.clubs b (p.clubs.getD i.toNat 0)
def cI (p : Cp) (b : Int) : List (Int × List Int):=clsF (viF p b) (idxI p.clubs.length)
def splitI (p : Cp) (b : Int) : List (List Int):=(cI p b).map (·.2)
theorem cvG {S : Nat → Prop} {L : List Blk} {b gen n : Nat} (D : List (List Int)) (hb : S b) (hL : L[b]? = some (.row gen 1 (grV D))) (hn : n = D.length) : Cw S L (.own b gen 0 n) (.d (insL D)):=by
 subst hn
 refine .d (.rowL (ds:=D.map fun es=>[ins es]) hb hL ?_ (by simp) (insE D))
 rw [List.drop_zero,List.take_of_length_le (by rw [grV_len]; exact zw21 _)]
 exact grV_data _
def keysQ (es : List ((Int × Int) × Int)) : List (Int × Int):=es.map (·.1)
def qIns (es : List ((Int × Int) × Int)) (c : Int × Int) (n : Int) : List ((Int × Int) × Int):=if c ∈ keysQ es then es.set ((keysQ es).idxOf c) (c,n) else es ++ [(c,n)]
abbrev QT:=List ((Int × Int) × Int)
def sepN (g q : List Int) (c : Int) (j : Nat) (l : List Int) (es : QT) : QT:=l.foldl (fun es x=>if q.contains (j : Int) then es else qIns es (g.getD j 0,g.getD x.toNat 0) c) es
def sepK (g q : List Int) (c : Int) (n : Nat) (es : QT) : QT:=(List.range n).foldl (fun es j=>sepN g q c j q es) es
def sepS (g : List Int) (S : List (List Int)) (c : Int) (es : QT) : QT:=S.foldl (fun es q=>sepK g q c g.length es) es
structure PartsI (g : List Int) (S : List (List Int)) : Prop where
 nd : (S.map (pickF g)).flatten.Nodup
 cov : ∀ j : Nat,j < g.length → ∃ q ∈ S,(j : Int) ∈ q
 rg : ∀ q ∈ S,∀ x ∈ q,0 ≤ x ∧ x < g.length
end Go.Proofs.YtihibgcojdfndaaGreatDoor
namespace Go.Proofs.YtihibgcojdfndaaGreatDoor
open Go.Tidy
open Sts (Res Row Worth Game rowsF addF rowC valueF inG known worthOk resOk fieldOk gameV resV ress rowV)
variable {L : List Blk} {k : V → List Blk → Prop}
def offsA (clubs off g : List Int) (i k : Nat) : List Int:=(g.take i).map (offF clubs off) ++ (if clubs.idxOf (g.getD i 0) < k then [offF clubs off (g.getD i 0)] else [])
theorem offs19_c (clubs off g : List Int) (hn : clubs.Nodup) (hl : off.length = clubs.length) (hc : clubs.length ≤ 100) (hgl : g.length ≤ 100) (hg : ∀ c ∈ g,c ∈ clubs) (h : k (.d (ins (g.map (offF clubs off)))) L) : CallP C 24 [.d (ins clubs),.d (ins off),.d (ins g)] L k:=by
 have hml : ((clubs.map fun n=>[DI n]).length : Int) = (clubs.length : Int):=by rw [insl]
 have hmo : ((off.map fun n=>[DI n]).length : Int) = (off.length : Int):=by rw [insl]
 have hmg : ((g.map fun n=>[DI n]).length : Int) = (g.length : Int):=by rw [insl]
 refine zw25 ?_ rfl (fun _=>rfl) h
 clear h
 refine zw24 C_ok Tryz.func24 rfl rfl rfl (zw18 rfl) rfl ?_
 skip
 conv=>whnf
 refine zw26 (fun i : Nat=>i ≤ g.length) (fun i=>⟨[(0,.d (ins clubs)),(1,.d (ins off)),(2,.d (ins g)),(7,.own 0 ((g.take i).map (offF clubs off)).length 0 ((g.take i).map (offF clubs off)).length),(8,I i)],Tryz.f24.ntmps,[.row ((g.take i).map (offF clubs off)).length 1 (rdI ((g.take i).map (offF clubs off)))],[],none⟩) (fun i=>g.length - i) 0 (zw22 _) ?_ ?_
 ·exact (Weak.nilOwn 7 1 rfl (by decide)).trans (zw27 ⟨rfl,rfl,rfl,rfl,rfl,trivial⟩)
 intro i hi
 by_cases hi' : i < g.length
 ·have hlt : (i : Int) < ((g.map fun n=>[DI n]).length : Int):=by omega
  have hw:=zwW i (by omega)
  have r1:=ins_at hi'
  have hgd : g.getD i 0 = g[i]:=getDI hi'
  have hm:=hg _ (List.getElem_mem hi')
  have hix:=List.idxOf_lt_length_of_mem hm
  have hA0 : offsA clubs off g i 0 = (g.take i).map (offF clubs off):=by unfold offsA; rw [if_neg (Nat.not_lt_zero _),List.append_nil]
  have hA1 : offsA clubs off g i clubs.length = (g.take (i + 1)).map (offF clubs off):=by unfold offsA; rw [hgd,if_pos hix,take_next hi',List.map_append]; rfl
  have hAl : ∀ k,(offsA clubs off g i k).length ≤ i + 1:=fun k=>by
   unfold offsA
   rw [List.length_append,List.length_map,List.length_take]
   split
   ·simp only [List.length_singleton]; omega
   ·simp only [List.length_nil]; omega
  have hAk : ∀ (k : Nat) (h : k < clubs.length),(clubs[k] = g[i] → offsA clubs off g i (k + 1) = offsA clubs off g i k ++ [off[k]'(by omega)]) ∧ (clubs[k] ≠ g[i] → offsA clubs off g i (k + 1) = offsA clubs off g i k):=fun k h=>by
   have hxk:=idx_take hn h
   refine ⟨fun e=>?_,fun e=>?_⟩
   ·have e2 : clubs.idxOf (g.getD i 0) = k:=by rw [hgd,← e]; exact hxk
    unfold offsA
    rw [e2,if_pos (by omega),if_neg (by omega),List.append_nil]
    congr 2
    unfold offF
    rw [if_pos (by rw [hgd]; exact hm),e2,getDI (by omega)]
   ·have e2 : clubs.idxOf (g.getD i 0) ≠ k:=fun e3=>e (by
     rw [hgd] at e3
     have : clubs[clubs.idxOf g[i]] = g[i]:=List.getElem_idxOf hix
     rw [← this]
     congr 1
     exact e3.symm)
    unfold offsA
    by_cases h2 : clubs.idxOf (g.getD i 0) < k
    ·rw [if_pos h2,if_pos (by omega)]
    ·rw [if_neg h2,if_neg (by omega)]
  generalize offsA clubs off g i = A at *
  rw [← hA0]
  repeat' ((conv=>whnf); refine zw8 (zw19 hlt) ?_)
  conv=>whnf
  refine zw26 (fun j : Nat=>j ≤ clubs.length) (fun j=>⟨[(0,.d (ins clubs)),(1,.d (ins off)),(2,.d (ins g)),(7,.own 0 (A j).length 0 (A j).length),(8,I i),(9,I j)],Tryz.f24.ntmps,[.row (A j).length 1 (rdI (A j))],[],none⟩) (fun j=>clubs.length - j) 0 (zw22 _) ?_ ?_
  ·exact zw27 ⟨rfl,rfl,rfl,rfl,rfl,rfl,trivial⟩
  intro j hj
  by_cases hj' : j < clubs.length
  ·have hltj : (j : Int) < ((clubs.map fun n=>[DI n]).length : Int):=by omega
   have hlto : (j : Int) < ((off.map fun n=>[DI n]).length : Int):=by omega
   have hwj:=zwW j (by omega)
   have r2:=ins_at hj'
   have r3:=ins_at (l:=off) (i:=j) (by omega)
   have hk:=hAk j hj'
   have hal:=hAl j
   by_cases hq : clubs[j] = g[i]
   ·have e:=hk.1 hq
    have hap : ∀ {X : Prop},X → Need ((A j).length + 1 ≤ 4294967296) X:=fun h=>zw6 (by omega) h
    have e1 : [Blk.row ((A j).length + 1) 1 ((rdI (A j)).take (A j).length ++ [[I (off[j]'(by omega))]])] = [.row (A (j + 1)).length 1 (rdI (A (j + 1)))]:=by
     rw [e,List.length_append,List.length_singleton,List.take_of_length_le (by unfold rdI; simp)]
     unfold rdI; rw [List.map_append]; rfl
    have e2 : (A j).length + 1 = (A (j + 1)).length:=by rw [e]; simp
    generalize clubs[j] = x at *
    generalize g[i] = y at *
    generalize off[j]'(by omega) = z at *
    repeat' ((conv=>whnf); first|refine zw8 (zw19 hltj) ?_|refine zw8 (zw19 hlto) ?_|refine zw8 (zw19 hq) ?_|refine zw10 j _ rfl r2 ?_|refine zw10 i _ rfl r1 ?_|refine zw10 j _ rfl r3 ?_|simp only [Nat.beq_refl,Bool.and_self]|refine hap ?_|refine zw6 rfl ?_|refine zw7 mixed rfl ?_)
    conv=>whnf
    refine ⟨j + 1,hj',by omega,Weak.to 1 (Eq.trans rfl e1) (zw22 _) (zw18 rfl) ⟨rfl,rfl,rfl,?_,rfl,congrArg I hwj,trivial⟩ (hB:=by show (belR 1 (rdI (A (j + 1))) && true) = true; rw [rdI_bel]; rfl)⟩
    show norm (.own 0 ((A j).length + 1) 0 ((A j).length + 1)) = norm (.own 0 (A (j + 1)).length 0 (A (j + 1)).length)
    rw [e2]
   ·have e:=hk.2 hq
    generalize clubs[j] = x at *
    generalize g[i] = y at *
    repeat' ((conv=>whnf); first|refine zw8 (zw19 hltj) ?_|refine zw8 (zw19 hlto) ?_|refine zw9 (zw20 hq) ?_|refine zw10 j _ rfl r2 ?_|refine zw10 i _ rfl r1 ?_|refine zw6 rfl ?_|refine zw7 mixed rfl ?_)
    conv=>whnf
    refine ⟨j + 1,hj',by omega,?_⟩
    rw [e]
    exact zw27 ⟨rfl,rfl,rfl,rfl,rfl,congrArg I hwj,trivial⟩
  have hltj : ¬ (j : Int) < ((clubs.map fun n=>[DI n]).length : Int):=by omega
  obtain rfl : j = clubs.length:=by omega
  rw [hA1]
  repeat' ((conv=>whnf); refine zw9 (zw20 hltj) ?_)
  conv=>whnf
  exact ⟨i + 1,hi',by omega,Weak.by ⟨rfl,rfl,rfl,rfl,congrArg I hw,trivial⟩⟩
 have hlt : ¬ (i : Int) < ((g.map fun n=>[DI n]).length : Int):=by omega
 obtain rfl : i = g.length:=by omega
 rw [List.take_length]
 repeat' ((conv=>whnf); refine zw9 (zw20 hlt) ?_)
 conv=>whnf
 exact zw16 (L':=[]) (.d (cvJ _ (zw22 _) rfl rfl)) rfl rfl ⟨rfl,rfl⟩
def Cp.of (p : Cp) (g : List Int) : Cp:=⟨p.res,g,g.map (offF p.clubs p.off),p.ru,p.lots⟩
theorem of_field {g l : List Int} {n m : Nat} (h : fieldOk l n = true) (hg : g.Sublist l) (h2 : m ≤ g.length) : fieldOk g m = true:=by
 unfold fieldOk at h ⊢
 simp only [Bool.and_eq_true,decide_eq_true_eq] at h ⊢
 refine ⟨⟨?_,h2⟩,Nat.le_trans hg.length_le h.2⟩
 have hlt:=Sts.incr_lt h.1.1
 rw [Sts.incr_iff]
 intro j c hj
 have hjl:=lt_of_get hj
 have hr : ∀ d ∈ l,0 ≤ d ∧ d < 192:=fun d hd=>by
  obtain ⟨i,hi,rfl⟩:=List.mem_iff_getElem.1 hd
  exact ((Sts.incr_iff _).1 h.1.1 i _ (List.getElem?_eq_getElem hi)).1
 refine ⟨hr c (hg.subset (List.mem_of_getElem? hj)),fun d h0 hd=>?_⟩
 have hp : g.Pairwise (· < ·):=List.Pairwise.sublist hg (hlt.imp fun h=>by omega)
 have hdl:=lt_of_get hd
 rw [List.pairwise_iff_getElem] at hp
 have:=hp (j - 1) j hdl hjl (by omega)
 rw [List.getElem?_eq_getElem hjl] at hj
 rw [List.getElem?_eq_getElem hdl] at hd
 cases hj; cases hd
 exact this
theorem of_open {p : Cp} {g : List Int} (h0 : openE p 2 p.clubs.contains = 0) (hg : g.Sublist p.clubs) (h1 : 1 ≤ g.length) : openE (p.of g) 1 (fun _=>true) = 0:=by
 obtain ⟨o1,o2,o3,o4,o5,o6⟩:=open_of h0
 refine open_iff.2 ⟨of_field o1 hg h1,?_,?_,o4,?_,o6⟩
 ·show (g.map _).length = g.length
  rw [List.length_map]
 ·show offOk (g.map (offF p.clubs p.off)) = true
  unfold offOk at o3 ⊢
  rw [List.all_eq_true] at o3 ⊢
  intro x hx
  obtain ⟨c,hc,rfl⟩:=List.mem_map.1 hx
  have hcc:=hg.subset hc
  have hi:=List.idxOf_lt_length_of_mem hcc
  unfold offF
  rw [if_pos hcc,getDI (by omega)]
  exact o3 _ (List.getElem_mem _)
 ·have h:=ressV_alt.1 o5
  exact ressV_alt.2 ⟨fun y hy=>⟨(h.1 y hy).1,rfl,rfl⟩,h.2⟩
theorem of_val {p : Cp} {g : List Int} (h0 : openE p 2 p.clubs.contains = 0) (hg : g.Sublist p.clubs) (b : Int) {c : Int} (hc : c ∈ g) : valC (p.of g) g b c = valC p g b c:=by
 obtain ⟨o1,o2,o3,o4,o5,o6⟩:=open_of h0
 have hn:=(field_of o1).1
 have hgn : g.Nodup:=hg.nodup hn
 have hcc:=hg.subset hc
 unfold valC
 have e1 : valP (lotTab (p.of g).clubs (p.of g).lots (p.of g).lots.length) c = valP (lotTab p.clubs p.lots p.lots.length) c:=by
  rw [lot_val (lots_nodup o6) hcc]
  exact lot_val (clubs:=g) (lots_nodup o6) hc
 have e2 : valP (offTab (p.of g).clubs (p.of g).off (p.of g).clubs.length) c = valP (offTab p.clubs p.off p.clubs.length) c:=by
  rw [off_val hn o2]
  refine (off_val (clubs:=g) (off:=g.map (offF p.clubs p.off)) hgn (by rw [List.length_map]) c).trans ?_
  have hi:=List.idxOf_lt_length_of_mem hc
  have h3 : offF g (g.map (offF p.clubs p.off)) c = (g.map (offF p.clubs p.off)).getD (g.idxOf c) 0:=if_pos hc
  rw [h3,getDI (by rw [List.length_map]; exact hi),List.getElem_map,List.getElem_idxOf]
 rw [e1,e2]
 rfl
theorem of_split {p : Cp} {g : List Int} (h0 : openE p 2 p.clubs.contains = 0) (hg : g.Sublist p.clubs) (h1 : 1 ≤ g.length) (fin : Bool) {b : Int} (hb : 1 ≤ b ∧ b ≤ 12) : splitX (p.of g) b = .tup [.d (insL ((p.rk fin).sp g b)),I 0]:=by
 unfold splitX
 rw [if_neg (fun h=>h (of_open h0 hg h1)),if_neg (by omega)]
 have e : splitF (valC (p.of g) (p.of g).clubs b) (p.of g).clubs = (p.rk fin).sp g b:=by
  show (clsF (valC (p.of g) g b) g).map (·.2) = (clsF (valC p g b) g).map (·.2)
  rw [show clsF (valC (p.of g) g b) g = clsF (valC p g b) g from cls_congr fun x hx=>of_val h0 hg b hx]
 rw [e]
end Go.Proofs.YtihibgcojdfndaaGreatDoor
namespace Go.Proofs.YtihibgcojdfndaaGreatDoor
open Go.Tidy
open Sts (Res Row Worth Game rowsF addF rowC valueF inG known worthOk resOk fieldOk gameV resV ress rowV rowsD)
variable {L : List Blk} {k : V → List Blk → Prop}
noncomputable def rankE (p : Cp) (fin : Bool) : Nat → List Int → QT → QT
 | 0,_,es=>es
 | f + 1,g,es=>match (p.rk fin).fst g with
  | none=>es
  | some (c,parts)=>parts.foldl (fun es q=>rankE p fin f q es) (sepS g (splitI (p.of g) c) c es)
noncomputable def Cp.es (p : Cp) (fin : Bool) : QT:=rankE p fin p.clubs.length p.clubs []
end Go.Proofs.YtihibgcojdfndaaGreatDoor
