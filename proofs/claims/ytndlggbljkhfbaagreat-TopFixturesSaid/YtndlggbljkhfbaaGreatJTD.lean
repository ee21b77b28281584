import Derived.Test.YtndlggbljkhfbaaGreatJTC
set_option maxRecDepth 100000
set_option maxHeartbeats 0
set_option linter.unusedSimpArgs false
set_option linter.unusedVariables false
namespace Go.Tidy
theorem Br.tt {k : Bool → Prop} (h : k true) : Br true k:=Br.intro (fun _=>h) (fun e=>by cases e)
theorem Br.ff {k : Bool → Prop} (h : k false) : Br false k:=Br.intro (fun e=>by cases e) (fun _=>h)
theorem Br.dec {p : Prop} {_ : Decidable p} {k : Bool → Prop} (h1 : p → k true) (h2 : ¬ p → k false) : Br (decide p) k :=
 Br.intro (fun h=>h1 (of_decide_eq_true h)) (fun h=>h2 (of_decide_eq_false h))
theorem Br.not {t : Bool} {k : Bool → Prop} (h : Br t fun b=>k (!b)) : Br (!t) k:=by
 have:=h.out
 cases t
 ·exact Br.tt this
 ·exact Br.ff this
theorem Br.nn {t : Bool} {k : Bool → Prop} (h : Br t k) : Br (!!t) k:=by
 rw [Bool.not_not]; exact h
theorem Br.yes {t : Bool} {k : Bool → Prop} (ht : t = true) (h : k true) : Br t k:=by subst ht; exact Br.tt h
theorem Br.no {t : Bool} {k : Bool → Prop} (ht : t = false) (h : k false) : Br t k:=by subst ht; exact Br.ff h
section
variable {C : Ctx} {L L0 : List Blk}
theorem Part.one {b : Nat} {k0 k1 : Blk} (hb : L[b]? = some k1) (hr : k0.rn (rnI [b] L.length) = k1) (hbel : k0.bel 1 = true) (hdf : dfB [k0] = true) : Part [b] [k0] L:=by
 refine ⟨by simp,fun c hc=>?_,rfl,fun b' c h=>?_,by simp [belB,hbel],hdf⟩
 ·simp at hc; subst hc; exact lt_of_get hb
 ·cases b' with
  | zero=>simp at h; subst h; rw [hb,← hr]; rfl
  | succ b'=>simp at h
theorem CallP.at1 [Quiet C] {f : FuncId} {args0 args : List V} {k : V → List Blk → Prop} {b : Nat} {k0 k1 k0' : Blk} {x x' : V} (h : CallP C f args0 [k0] fun X L1=>L1 = [k1] ∧ X = x) (hb : L[b]? = some k0') (hr : k0.rn (rnI [b] L.length) = k0')
  (ha : V.belL 1 args0 = true) (hargs : V.rnL (rnI [b] L.length) args0 = args) (hk : k x' (L.set b (k1.rn (rnI [b] L.length)))) (hx : x.rn (rnI [b] L.length) = x') (hbel : k0.bel 1 = true) (hdf : dfB [k0] = true) : CallP C f args L k:=by
 subst hargs hx
 refine CallP.embed [b] h (Part.one hb hr hbel hdf) ha fun X L1 ⟨h1,h2⟩=>?_
 subst h1 h2
 simpa [putB,rnB] using hk
theorem V.belL_d (n : Nat) : ∀ ds : List D,V.belL n (ds.map .d) = true
 | []=>rfl
 | y :: ys=>by simp [V.belL,V.bel,V.belL_d n ys]
end
end Go.Tidy
/-
 The base layer: what is asked behind a piece of code may be weakened; a loop's round,walked as it stands.
-/
namespace Go.Tidy
section
variable {C : Ctx} {cut : Code → Bool} {k : Nat}
theorem vcOps_mono {n : Nat} {all : List Oper} : ∀ (l : List Oper) (fr : List (Nat × V)) (L : List Blk) (K K' : List (Nat × V) → List Blk → Prop),vcOps C n all l fr L K → (∀ fr' L',K fr' L' → K' fr' L') → vcOps C n all l fr L K'
 | [],_fr,_L,_K,_K',h,hk=>hk _ _ h
 | _o :: l,_fr,_L,K,K',h,hk=>vcOp1_mono h fun fr' L' h'=>vcOps_mono l fr' L' K K' h' hk
theorem vOpsC_mono {n : Nat} {all : List Oper} : ∀ (l : List Oper) (fr : List (Nat × V)) (L : List Blk) (K K' : List (Nat × V) → List Blk → Prop),vOpsC C n all l fr L K → (∀ fr' L',K fr' L' → K' fr' L') → vOpsC C n all l fr L K'
 | [],_fr,_L,_K,_K',⟨fr1,h1,h2⟩,hk=>⟨fr1,h1,hk _ _ h2⟩
 | _o :: l,_fr,_L,K,K',⟨fr1,h1,h2⟩,hk=>⟨fr1,h1,vcOp1_mono h2 fun fr' L' h'=>vOpsC_mono l fr' L' K K' h' hk⟩
theorem DrawP.mono {n : Nat} {ops : Array Oper} {fr : List (Nat × V)} {L : List Blk} {K K' : List (Nat × V) → List Blk → Prop} (h : DrawP C n ops fr L K) (hk : ∀ fr' L',K fr' L' → K' fr' L') : DrawP C n ops fr L K':=by
 unfold DrawP at *
 exact fun t=>vOpsC_mono _ _ _ _ _ (h t) hk
theorem cutIf_mono {b : Bool} {f f' : (Exit → TS → Prop) → Prop} {Q Q' : Exit → TS → Prop} (hf : ∀ R R' : Exit → TS → Prop,(∀ e σ,R e σ → R' e σ) → f R → f' R') (hq : ∀ e σ,Q e σ → Q' e σ) (h : cutIf b k f Q) : cutIf b k f' Q':=by
 cases b with
 | false=>exact hf _ _ hq h
 | true =>
  unfold cutIf at *
  simp only at *
  unfold CutP at *
  obtain ⟨ι,s,h1,h2⟩:=h
  refine ⟨ι,s,hf _ _ (fun e σ hr=>?_) h1,fun i=>hq _ _ (h2 i)⟩
  cases e <;> first | exact hr | exact hq _ _ hr
theorem vCallF_mono {f : V} {args : List V} {L : List Blk} {q q' : V → List Blk → Prop} (h : vCallF C f args L q) (hq : ∀ X L',q X L' → q' X L') : vCallF C f args L q':=by
 unfold vCallF at *
 split at h
 ·exact h.mono hq
 ·exact h.mono hq
 ·exact h.elim
theorem vRange_mono {f : Operand} {ps : Array Tmp} {assign body : Code} {σ : TS} {Q Q' : Exit → TS → Prop} (hq : ∀ e σ,Q e σ → Q' e σ) (h : vRange C f ps assign body σ Q) : vRange C f ps assign body σ Q':=by
 unfold vRange at *
 split at h
 ·refine vCallF_mono h fun X L' h'=>?_
  split at h'
  ·split at h'
   ·exact h'
   ·exact hq _ _ h'
   ·split at h'
    ·exact hq _ _ h'
    ·exact h'
  ·exact h'
 ·split at h
  ·refine vCallF_mono h fun X L' h'=>?_
   split at h'
   ·split at h'
    ·exact h'
    ·exact hq _ _ h'
    ·split at h'
     ·exact hq _ _ h'
     ·exact h'
   ·exact h'
  ·exact h
theorem LoopP.mono {body body' : TS → (Exit → TS → Prop) → Prop} {σ : TS} {Q Q' : Exit → TS → Prop} (hb : ∀ σ R R',(∀ e σ',R e σ' → R' e σ') → body σ R → body' σ R') (hq : ∀ e σ',Q e σ' → Q' e σ') (h : LoopP k body σ Q) : LoopP k body' σ Q':=by
 unfold LoopP at *
 obtain ⟨ι,s,lt,i0,wf,h0,h1⟩:=h
 refine ⟨ι,s,lt,i0,wf,h0,fun i=>hb _ _ _ (fun e σ' hr=>?_) (h1 i)⟩
 cases e <;> first | exact hr | exact hq _ _ hr
theorem vc_mono : ∀ (c : Code) (σ : TS) (Q Q' : Exit → TS → Prop),(∀ e σ',Q e σ' → Q' e σ') → vc C cut k c σ Q → vc C cut k c σ Q':=by
 intro c
 induction c with
 | skip=>exact fun σ Q Q' hq h=>hq _ _ h
 | label _=>exact fun σ Q Q' hq h=>hq _ _ h
 | region id ops drawn =>
  intro σ Q Q' hq h
  cases drawn with
  | false=>exact cutIf_mono (fun R R' hr h=>vcOps_mono _ _ _ _ _ h fun fr' L' h'=>hr _ _ h') hq h
  | true=>exact cutIf_mono (fun R R' hr h=>DrawP.mono h fun fr' L' h'=>hr _ _ h') hq h
 | seq a b iha ihb =>
  intro σ Q Q' hq h
  refine cutIf_mono (fun R R' hr h=>iha _ _ _ (fun e σ' h'=>?_) h) hq h
  cases e <;> first | exact ihb _ _ _ hr h' | exact hr _ _ h'
 | cond c x y ihx ihy =>
  intro σ Q Q' hq h
  refine cutIf_mono (fun R R' hr h=>?_) hq h
  split at h
  ·exact ihx _ _ _ hr h
  ·exact ihy _ _ _ hr h
  ·rename_i t _
   have h:=h.out
   refine Br.lit t rfl ?_
   split at h
   ·exact ihx _ _ _ hr h
   ·exact ihy _ _ _ hr h
  ·exact h
 | block id c ih =>
  intro σ Q Q' hq h
  refine cutIf_mono (fun R R' hr h=>ih _ _ _ (fun e σ' h'=>?_) h) hq h
  cases e <;> first | exact hr _ _ h' | skip
  rename_i id'
  cases hb : Nat.beq id' id <;> simp only [hb] at h' ⊢ <;> exact hr _ _ h'
 | loop c ih=>exact fun σ Q Q' hq h=>LoopP.mono (fun σ R R' hr h=>ih σ R R' hr h) hq h
 | rangeFunc f ps assign body _ _=>exact fun σ Q Q' hq h=>vRange_mono hq h
 | exit id=>exact fun σ Q Q' hq h=>hq _ _ h
 | scope c ih =>
  intro σ Q Q' hq h
  refine cutIf_mono (fun R R' hr h=>ih _ _ _ (fun e σ' h'=>?_) h) hq h
  cases e <;> first | exact hr _ _ h' | exact h'
 | ret=>exact fun σ Q Q' hq h=>hq _ _ h
 | _=>intro σ Q Q' hq h; exact h.elim
end
end Go.Tidy
namespace Go.Tidy
theorem Weak.to {k : Nat} {σ σ' : TS} (n : Nat) (hL : σ.L.take n = σ'.L) (hk : k ≤ n) (hn : n ≤ σ.L.length) (hfr : SubF σ.fr σ'.fr) (h1 : σ'.n = σ.n:=by rfl) (h2 : σ'.df = σ.df:=by rfl) (h3 : σ'.ro = σ.ro:=by rfl) (hf : belF n σ'.fr = true:=by rfl) (hB : belB n σ'.L = true:=by rfl)
  (hdf : σ.df.all (fun b=>decide (b < n)) = true:=by rfl) (hro : (match σ.ro with | some b=>decide (b < n) | none=>true) = true:=by rfl) : Weak k σ σ':=by
 rcases σ' with ⟨fr',n',L',df',ro'⟩
 simp only at h1 h2 h3
 subst h1 h2 h3
 exact Weak.fd hfr hL hk hn hf hB hdf hro
theorem Weak.by {k : Nat} {σ σ' : TS} (hfr : SubF σ.fr σ'.fr) (hL : σ.L = σ'.L:=by rfl) (h1 : σ'.n = σ.n:=by rfl) (h2 : σ'.df = σ.df:=by rfl) (h3 : σ'.ro = σ.ro:=by rfl) : Weak k σ σ':=by
 rcases σ' with ⟨fr',n',L',df',ro'⟩
 simp only at h1 h2 h3 hL
 subst h1 h2 h3 hL
 exact Weak.forget hfr
end Go.Tidy
/-
 The base layer: blocks dropped and numbered anew.
-/
namespace Go.Tidy
mutual
theorem V.rn_id {ρ : Nat → Nat} {k : Nat} (hρ : ∀ b,b < k → ρ b = b) : ∀ x : V,x.bel k = true → x.rn ρ = x
 | .own b _ _ _,h | .ptr b _,h | .eptr b _ _ _,h | .map b,h | .yld b,h=>by
  simp only [V.bel,decide_eq_true_eq] at h
  simp only [V.rn,hρ b h]
 | .fn _ caps,h=>by simp only [V.bel] at h; simp only [V.rn,V.rnL_id hρ caps h]
 | .iface _ x,h=>by simp only [V.bel] at h; simp only [V.rn,V.rn_id hρ x h]
 | .agg cs,h=>by simp only [V.bel] at h; simp only [V.rn,V.rnL_id hρ cs h]
 | .tup cs,h=>by simp only [V.bel] at h; simp only [V.rn,V.rnL_id hρ cs h]
 | .poison,_ | .tt,_ | .ff,_ | .d _,_ | .nil,_ | .glob _,_ | .clp _,_=>rfl
theorem V.rnL_id {ρ : Nat → Nat} {k : Nat} (hρ : ∀ b,b < k → ρ b = b) : ∀ cs : List V,V.belL k cs = true → V.rnL ρ cs = cs
 | [],_=>rfl
 | x :: r,h=>by
  simp only [V.belL,Bool.and_eq_true] at h
  simp only [V.rnL,V.rn_id hρ x h.1,V.rnL_id hρ r h.2]
end
section
variable {g : Gh} {w : World} {L L' : List Blk} {bs : List Nat} {k : Nat}
theorem Part.below (h : Part bs L' L) (hk : ∀ b,b < k → bs[b]? = some b) : (∀ b,b < k → rnI bs L.length b = b) ∧ k ≤ L'.length:=by
 refine ⟨fun b hb=>by unfold rnI; rw [hk b hb],?_⟩
 rw [← h.len]
 rcases Nat.lt_or_ge bs.length k with hlt | hge
 ·have:=hk bs.length hlt
  simp at this
 ·exact hge
theorem Part.prog (h : Part bs L' L) (hk : ∀ b,b < k → bs[b]? = some b) : Prog k g w L (g.small (rnI bs L.length)) w L':=by
 obtain ⟨hρ,hlen⟩:=h.below hk
 refine ⟨⟨rfl,rfl,rfl⟩,Nat.le_refl _,fun _ _ ho _=>ho,fun r ho _=>h.owns ho,fun r hr=>.inl hr,fun r hr=>hr,fun x v hx hv=>?_,fun b r hb hL hm=>?_,fun _=>hlen⟩
 ·exact hv.dn h.emb x (V.rn_id hρ x hx).symm (V.bel_le hlen x hx)
 ·have:=h.get b b (hk b hb)
  rw [hL] at this
  obtain ⟨k0,e1,e2⟩:=map_some this.symm
  refine ⟨?_,by show g.m (rnI bs L.length b) = _; rw [hρ b hb]; exact hm⟩
  cases k0 <;> simp only [Blk.rn,reduceCtorEq] at e2
  exact e1
theorem FinP.part {X X' : V} {q : V → List Blk → Prop} (bs : List Nat) (L' : List Blk) (h : Part bs L' L) (hk : ∀ b,b < k → bs[b]? = some b) (hX : X'.rn (rnI bs L.length) = X) (hb : X'.bel L'.length = true) (hq : q X' L') : FinP k X L q:=by
 unfold FinP
 refine ⟨X',L',fun g w v hg _ hv=>⟨_,h.good hg,hv.dn h.emb X' hX.symm hb,h.prog hk⟩,hq⟩
theorem Weak.part {σ σ' : TS} (bs : List Nat) (h : Part bs σ'.L σ.L) (hk : ∀ b,b < k → bs[b]? = some b) (hfr : SubF σ.fr (rnF (rnI bs σ.L.length) σ'.fr)) (hn : σ'.n = σ.n) (hf : belF σ'.L.length σ'.fr = true)
  (hdf : σ.df = σ'.df.map (rnI bs σ.L.length)) (hdb : ∀ b ∈ σ'.df,b < σ'.L.length) (hro : σ.ro = σ'.ro.map (rnI bs σ.L.length)) (hrb : ∀ b,σ'.ro = some b → b < σ'.L.length) : Weak k σ σ':=by
 intro r g a w hs
 have e:=h.emb (g:=g)
 have dn : ∀ (x : V) (v : Value),x.bel σ'.L.length = true → RV g w σ.L (x.rn (rnI bs σ.L.length)) v → RV (g.small (rnI bs σ.L.length)) w σ'.L x v:=fun x v hx hv=>hv.dn e x rfl hx
 refine ⟨g.small (rnI bs σ.L.length),⟨hs.n.trans hn.symm,fun i=>?_,h.good hs.good,(h.below hk).2,?_,fun i b d hb hd=>?_,fun lb hlb=>?_,fun hn=>hs.ro' (by rw [hro,hn]; rfl)⟩,h.prog hk⟩
 ·refine dn _ _ (belF_look hf i) ?_
  rw [← rnF_look]
  rcases hfr.look i with h0 | h0
  ·rw [h0]; exact .poison _
  ·exact norm_eq h0 (hs.fr i)
 ·rw [hs.df,hdf]; simp
 ·have hbl:=hdb b (List.mem_of_getElem? hb)
  obtain ⟨q,h1,h2,h3⟩:=hs.dfs i (rnI bs σ.L.length b) d (by rw [hdf,List.getElem?_map,hb]; rfl) hd
  refine ⟨q,h1,h2,?_⟩
  obtain ⟨c,c1,c2,_⟩:=h.rn hbl
  rw [c2,h.get b c c1] at h3
  obtain ⟨k0,e1,e2⟩:=map_some h3
  cases k0 <;> simp only [Blk.rn,reduceCtorEq] at e2
  exact e1
 ·obtain ⟨l,h1,h2⟩:=hs.ro (rnI bs σ.L.length lb) (by rw [hro,hlb]; rfl)
  exact ⟨l,h1,dn (.yld lb) _ (by simp [V.bel,hrb lb hlb]) h2⟩
end
end Go.Tidy
namespace Go.Tidy
theorem MapF.ints {kk : IntKind} {es : List (V × V)} {n : Int} {k : Option (Nat × V) → Prop} (ks : List Int) (hks : es.map (·.1) = ks.map fun m=>.d (.int kk m))
  (h : (∃ i v,ks[i]? = some n ∧ (∀ j,j < i → ks[j]? ≠ some n) ∧ es[i]? = some (.d (.int kk n),v) ∧ k (some (i,v))) ∨ (n ∉ ks ∧ k none)) : MapF (.int kk) es (.d (.int kk n)) k:=by
 have hkey : ∀ j : Nat,(es[j]?).map (·.1) = (ks[j]?).map fun m=>V.d (.int kk m):=fun j=>by
  rw [← List.getElem?_map,← List.getElem?_map,hks]
 have hok : ∀ kv ∈ es,keyV (.int kk) kv.1 = true:=by
  intro kv hkv
  have : kv.1 ∈ es.map (·.1):=List.mem_map_of_mem hkv
  rw [hks] at this
  obtain ⟨m,_,hm⟩:=List.mem_map.1 this
  rw [← hm]
  cases kk <;> rfl
 rcases h with ⟨i,v,h1,h2,h3,h4⟩ | ⟨h1,h2⟩
 ·refine MapF.hit i v hok h3 (fun j kv hj hkv he=>?_) h4
  have:=hkey j
  rw [hkv] at this
  obtain ⟨m,e1,e2⟩:=map_some this.symm
  simp only [he] at e2
  cases e2
  exact h2 j hj e1
 ·refine MapF.miss hok (fun kv hkv he=>?_) h2
  obtain ⟨j,hj⟩:=List.mem_iff_getElem?.1 hkv
  have:=hkey j
  rw [hj] at this
  obtain ⟨m,e1,e2⟩:=map_some this.symm
  simp only [he] at e2
  cases e2
  exact h1 (List.mem_of_getElem? e1)
def firstAt (n : Int) : List Int → Nat → Bool
 | [],_=>false
 | m :: _,0=>m == n
 | m :: r,i + 1=>m != n && firstAt n r i
theorem firstAt_ok {n : Int} : ∀ {ks : List Int} {i : Nat},firstAt n ks i = true → ks[i]? = some n ∧ ∀ j,j < i → ks[j]? ≠ some n
 | [],_,h=>by simp [firstAt] at h
 | m :: r,0,h=>by simp [firstAt] at h; subst h; exact ⟨rfl,fun j hj=>by omega⟩
 | m :: r,i + 1,h=>by
  simp [firstAt] at h
  obtain ⟨h1,h2⟩:=firstAt_ok h.2
  refine ⟨by simpa using h1,fun j hj=>?_⟩
  cases j with
  | zero=>simpa using h.1
  | succ j=>simpa using h2 j (by omega)
theorem MapF.at {kk : IntKind} {es : List (V × V)} {n : Int} {k : Option (Nat × V) → Prop} (ks : List Int) (i : Nat) (v : V) (hks : es.map (·.1) = ks.map fun m=>.d (.int kk m)) (hi : firstAt n ks i = true) (hv : es[i]? = some (.d (.int kk n),v)) (h : k (some (i,v))) :
  MapF (.int kk) es (.d (.int kk n)) k :=
 MapF.ints ks hks (.inl ⟨i,v,(firstAt_ok hi).1,(firstAt_ok hi).2,hv,h⟩)
theorem MapF.no {kk : IntKind} {es : List (V × V)} {n : Int} {k : Option (Nat × V) → Prop} (ks : List Int) (hks : es.map (·.1) = ks.map fun m=>.d (.int kk m)) (hn : n ∉ ks) (h : k none) : MapF (.int kk) es (.d (.int kk n)) k :=
 MapF.ints ks hks (.inr ⟨hn,h⟩)
end Go.Tidy
namespace Go.Tidy
theorem DrawP.go {C : Ctx} {n : Nat} {ops : Array Oper} {fr : List (Nat × V)} {L : List Blk} {K : List (Nat × V) → List Blk → Prop} (hm : C.P.follows .mixedOrders = true) (hst : stableB ops.toList (tblGo ops.toList []) = true)
  (h : qOps C n ops.toList ops.toList fr L K) : DrawP C n ops fr L K:=DrawP.quiet hm _ hst h
end Go.Tidy
namespace Go.Tidy
theorem Weak.nilCell {k : Nat} {σ : TS} (b j sz : Nat) (cs : List V) (hb : σ.L[b]? = some (.cells cs)) (hj : cs[j]? = some .nil) (hsz : 0 < sz) :
  Weak k σ { σ with L:=(σ.L ++ [Blk.row 0 sz []]).set b (.cells (cs.set j (.own σ.L.length 0 0 0))) }:=by
 intro r g a w hs
 have hp:=add_prog hs.good (Ext.refl w) (.row 0 sz []) none (fun q h=>by cases h) 0
 have hg:=add_good (k':=.row 0 sz []) hs.good (Ext.refl w) none (fun q h=>by cases h) 0 ⟨hsz,by simp,.inl ⟨by simp [Gh.add],rfl⟩⟩
 have hbl:=lt_of_get hb
 have hb1 : (σ.L ++ [Blk.row 0 sz []])[b]? = some (.cells cs):=by rw [List.getElem?_append_left hbl]; exact hb
 have S : Step (g.add σ.L.length none 0) w (σ.L ++ [Blk.row 0 sz []]) b (.cells (cs.set j (.own σ.L.length 0 0 0))) (g.add σ.L.length none 0) w:=by
  refine ⟨hg,⟨_,hb1,by simp⟩,by rw [hb1]; simp,⟨rfl,rfl,rfl⟩,Nat.le_refl _,rfl,fun _ _=>rfl,fun _ _=>rfl,fun p o' hp hne=>hp,fun r hr=>.inl hr,?_⟩
  exact ⟨fun cs0 e=>.inr ⟨_,List.getElem?_set_self (by simp; omega),rfl⟩,fun gen sz els e=>(by rw [hb1] at e; cases e),fun es e=>(by rw [hb1] at e; cases e),fun l0 e=>(by rw [hb1] at e; cases e),fun e=>(by rw [hb1] at e; cases e)⟩
 have hrow : ((σ.L ++ [Blk.row 0 sz []]).set b (.cells (cs.set j (.own σ.L.length 0 0 0))))[σ.L.length]? = some (.row 0 sz []):=by
  rw [List.getElem?_set_ne (by omega),List.getElem?_append_right (Nat.le_refl _),Nat.sub_self]; rfl
 obtain ⟨q,cur,T,h1,h2,h3,h4,h5⟩:=hg.blk b _ hb1
 have hg2:=S.good' ⟨q,cur,T,h1,h2,by simpa using h3,h4,fun i x v hx hv=>by
  rw [List.getElem?_set] at hx
  by_cases e : j = i
  ·subst e
   rw [if_pos rfl] at hx
   split at hx
   ·cases hx
    have hv':=h5 j .nil v hj hv
    cases hv' with
    | nil=>exact .ownN _ _ sz [] hrow (by simp [Gh.add])
   ·cases hx
  ·rw [if_neg e] at hx
   exact S.mono (h5 i x v hx hv)⟩
 have hs':=(hs.prog hp hg).prog (L':=(σ.L ++ [Blk.row 0 sz []]).set b (.cells (cs.set j (.own σ.L.length 0 0 0)))) S.prog hg2
 exact ⟨_,hs',(hp.le hs.k (Nat.le_refl _)).trans (S.prog.le (by simp; exact Nat.le_succ_of_le hs.k) (Nat.le_refl _))⟩
end Go.Tidy
namespace Go.Tidy
theorem Weak.nilCellTo {k : Nat} {σ σ' : TS} (b j sz : Nat) (cs : List V) (hb : σ.L[b]? = some (.cells cs)) (hj : cs[j]? = some .nil) (hsz : 0 < sz) (hL : (σ.L ++ [Blk.row 0 sz []]).set b (.cells (cs.set j (.own σ.L.length 0 0 0))) = σ'.L)
  (hfr : SubF σ.fr σ'.fr) (h1 : σ'.n = σ.n:=by rfl) (h2 : σ'.df = σ.df:=by rfl) (h3 : σ'.ro = σ.ro:=by rfl) : Weak k σ σ':=by
 have h:=Weak.nilCell (k:=k) (σ:=σ) b j sz cs hb hj hsz
 rw [hL] at h
 refine h.trans (Weak.by hfr rfl h1 h2 h3)
theorem Cw.pair {S : Nat → Prop} {L : List Blk} {x x' y y' : V} (hx : Cw S L x x') (hy : Cw S L y y') : Cw S L (.tup [x,y]) (.tup [x',y']):=by
 refine .tup [x,y] [x',y'] rfl fun j a b ha hb=>?_
 match j with
 | 0=>simp at ha hb; subst ha hb; exact hx
 | 1=>simp at ha hb; subst ha hb; exact hy
 | j + 2=>simp at ha
theorem Cw.triple {S : Nat → Prop} {L : List Blk} {x x' y y' z z' : V} (hx : Cw S L x x') (hy : Cw S L y y') (hz : Cw S L z z') : Cw S L (.tup [x,y,z]) (.tup [x',y',z']):=by
 refine .tup [x,y,z] [x',y',z'] rfl fun j a b ha hb=>?_
 match j with
 | 0=>simp at ha hb; subst ha hb; exact hx
 | 1=>simp at ha hb; subst ha hb; exact hy
 | 2=>simp at ha hb; subst ha hb; exact hz
 | j + 3=>simp at ha
end Go.Tidy
/-
 The base layer: what data of a type look like.
-/
namespace Go.Tidy
section
variable {P : Program} {t : TypeId} {xs : List D}
theorem TyI.intI {k : IntKind} (h : TyI P t xs) (hu : P.underlying t = some (.int k)) : ∃ n : Int,xs = [.int k n] ∧ (Lit.int k n).wf = true:=by
 cases h with
 | int h n hw=>rw [hu] at h; cases h; exact ⟨n,rfl,hw⟩
 | bool h | str h | sl h | struct h=>rw [hu] at h; cases h
theorem TyI.boolI (h : TyI P t xs) (hu : P.underlying t = some .bool) : ∃ b : Bool,xs = [.bool b]:=by
 cases h with
 | bool h b=>exact ⟨b,rfl⟩
 | int h | str h | sl h | struct h=>rw [hu] at h; cases h
theorem TyI.slI {e : TypeId} (h : TyI P t xs) (hu : P.underlying t = some (.slice e)) : ∃ els : List (List D),xs = [.sl els] ∧ els.length ≤ maxLen ∧ ∀ y ∈ els,TyI P e y:=by
 cases h with
 | sl h els hl hsz he=>rw [hu] at h; cases h; exact ⟨els,rfl,hl,he⟩
 | int h | bool h | str h | struct h=>rw [hu] at h; cases h
theorem TyI.structI {fs : Array Field} (h : TyI P t xs) (hu : P.underlying t = some (.struct fs)) : xs.length = P.cellsOf t ∧ ∀ f ∈ fs.toList,TyI P f.type ((xs.drop f.offset).take (P.cellsOf f.type)):=by
 cases h with
 | struct h xs hl hf=>rw [hu] at h; cases h; exact ⟨hl,hf⟩
 | int h | bool h | str h | sl h=>rw [hu] at h; cases h
theorem map_of {α β : Type} {f : α → β} : ∀ {l : List β},(∀ y ∈ l,∃ x,y = f x) → ∃ l' : List α,l = l'.map f
 | [],_=>⟨[],rfl⟩
 | y :: l,h=>by
  obtain ⟨x,rfl⟩:=h y (by simp)
  obtain ⟨l',rfl⟩:=map_of (l:=l) fun z hz=>h z (by simp [hz])
  exact ⟨x :: l',rfl⟩
end
end Go.Tidy
/-
 The base layer: a drawn region by some of its orders: what looks at no memory of the activation's own may go ahead of what writes there.
-/
namespace Go.Tidy
section
variable {C : Ctx} {n : Nat} {all : List Oper}
theorem vLoad_far {t : TypeId} {x : V} {k : V → Prop} (h : vLoad C t x [] k) (L : List Blk) : vLoad C t x L k:=by
 unfold vLoad at h ⊢
 repeat' (first | exact h | (exfalso; exact h) | (split at h) )
 all_goals simp_all
theorem vIndexAddr_far {t : TypeId} {x i : V} {k : V → Prop} (h : vIndexAddr C t x i k []) (L : List Blk) : vIndexAddr C t x i k L:=by
 unfold vIndexAddr at h ⊢
 repeat' (first | exact h | (exfalso; exact h) | (split at h) )
 all_goals simp_all
theorem vSlice_far {t : TypeId} {x : V} {lo hi mx : Option V} {k : V → Prop} (h : vSlice C t x lo hi mx [] k) (L : List Blk) : vSlice C t x lo hi mx L k:=by
 unfold vSlice at h ⊢
 repeat' (first | exact h | (exfalso; exact h) | (split at h) )
 all_goals simp_all
theorem vLookup_far {t : TypeId} {x i : V} {ok : Bool} {k : V → Prop} (h : vLookup C t x i ok [] k) (L : List Blk) : vLookup C t x i ok L k:=by
 unfold vLookup at h ⊢
 repeat' (first | exact h | (exfalso; exact h) | (split at h) )
 all_goals simp_all
theorem vLenL_far {t : TypeId} {x : V} {k : V → Prop} (h : vLenL C t x [] k) (L : List Blk) : vLenL C t x L k:=by
 cases x with
 | own b gen lo len=>unfold vLenL at h; simp at h
 | _=>exact h
def MapEq (L L2 : List Blk) : Prop:=∀ b : Nat,L[b]? = none ∨ L2[b]? = L[b]? ∨ ∃ es es' : List (V × V),L[b]? = some (.map es) ∧ L2[b]? = some (.map es')
theorem MapEq.refl (L : List Blk) : MapEq L L:=fun _=>.inr (.inl rfl)
theorem MapEq.trans {L L2 L3 : List Blk} (h : MapEq L L2) (h' : MapEq L2 L3) : MapEq L L3:=fun b=>by
 rcases h b with e | e | ⟨es,es',e1,e2⟩ <;> rcases h' b with e' | e' | ⟨fs,fs',e3,e4⟩
 ·exact .inl e
 ·exact .inl e
 ·exact .inl e
 ·exact .inl (e ▸ e')
 ·exact .inr (.inl (e'.trans e))
 ·exact .inr (.inr ⟨fs,fs',e ▸ e3,e4⟩)
 ·rw [e2] at e'; cases e'
 ·exact .inr (.inr ⟨es,es',e1,e'.trans e2⟩)
 ·exact .inr (.inr ⟨es,fs',e1,e4⟩)
theorem MapEq.cells {L L2 : List Blk} (h : MapEq L L2) {b : Nat} {cs : List V} (hb : L[b]? = some (.cells cs)) : L2[b]? = some (.cells cs):=by
 rcases h b with e | e | ⟨es,es',e1,_⟩
 ·rw [hb] at e; cases e
 ·exact e.trans hb
 ·rw [hb] at e1; cases e1
theorem MapEq.row {L L2 : List Blk} (h : MapEq L L2) {b g sz : Nat} {els : List (List V)} (hb : L[b]? = some (.row g sz els)) : L2[b]? = some (.row g sz els):=by
 rcases h b with e | e | ⟨es,es',e1,_⟩
 ·rw [hb] at e; cases e
 ·exact e.trans hb
 ·rw [hb] at e1; cases e1
theorem MapEq.set {L : List Blk} {b : Nat} {es es' : List (V × V)} (hb : L[b]? = some (.map es)) : MapEq L (L.set b (.map es')):=fun c=>by
 by_cases e : b = c
 ·subst e
  exact .inr (.inr ⟨es,es',hb,by rw [List.getElem?_set_self (lt_of_get hb)]⟩)
 ·exact .inr (.inl (List.getElem?_set_ne e))
theorem MapEq.push (L : List Blk) (x : Blk) : MapEq L (L ++ [x]):=fun c=>by
 rcases Nat.lt_or_ge c L.length with h | h
 ·exact .inr (.inl (List.getElem?_append_left h))
 ·exact .inl (List.getElem?_eq_none h)
def CellEq (L L2 : List Blk) : Prop:=∀ (b : Nat) (cs : List V),L[b]? = some (.cells cs) → L2[b]? = some (.cells cs)
theorem CellEq.refl (L : List Blk) : CellEq L L:=fun _ _ h=>h
theorem CellEq.trans {L L2 L3 : List Blk} (h : CellEq L L2) (h' : CellEq L2 L3) : CellEq L L3:=fun b cs hb=>h' b cs (h b cs hb)
theorem MapEq.cellEq {L L2 : List Blk} (h : MapEq L L2) : CellEq L L2:=fun _ _ hb=>h.cells hb
theorem CellEq.set {L : List Blk} {b g sz : Nat} {els : List (List V)} {x : Blk} (hb : L[b]? = some (.row g sz els)) : CellEq L (L.set b x):=fun c cs hc=>by
 by_cases e : b = c
 ·subst e; rw [hb] at hc; cases hc
 ·rw [List.getElem?_set_ne e]; exact hc
def vLoadC (C : Ctx) (t : TypeId) (x : V) (L : List Blk) (k : V → Prop) : Prop:=match x with
 | .eptr ..=>False
 | x=>vLoad C t x L k
theorem vLoadC_load {t : TypeId} {x : V} {k : V → Prop} {L : List Blk} (h : vLoadC C t x L k) : vLoad C t x L k:=by
 cases x <;> first | exact h | exact h.elim
theorem vLoadC_cellEq {t : TypeId} {x : V} {k : V → Prop} {L L2 : List Blk} (he : CellEq L L2) (h : vLoadC C t x L k) : vLoad C t x L2 k:=by
 have h0:=vLoadC_load h
 unfold vLoadC at h
 unfold vLoad at h0 ⊢
 split at h0
 ·exact h0
 ·split at h0
  ·split at h0
   ·rename_i hb; simp only [he _ _ hb]; exact h0
   ·exact h0.elim
  ·exact h.elim
  ·exact h0
  ·exact h0.elim
theorem vLoad_mapEq {t : TypeId} {x : V} {k : V → Prop} {L L2 : List Blk} (he : MapEq L L2) (h : vLoad C t x L k) : vLoad C t x L2 k:=by
 unfold vLoad at h ⊢
 split at h
 ·exact h
 ·split at h
  ·split at h
   ·rename_i hb; simp only [he.cells hb]; exact h
   ·exact h.elim
  ·split at h
   ·rename_i hb; simp only [he.row hb]; exact h
   ·exact h.elim
  ·exact h
  ·exact h.elim
theorem vIndexAddr_mapEq {t : TypeId} {x i : V} {k : V → Prop} {L L2 : List Blk} (he : MapEq L L2) (h : vIndexAddr C t x i k L) : vIndexAddr C t x i k L2:=by
 unfold vIndexAddr at h ⊢
 repeat' (first | exact h | (exfalso; exact h) | (split at h) )
 all_goals first | (rename_i hb; simp_all [he.row hb]; done) | simp_all
theorem vLenL_mapEq {t : TypeId} {x : V} {k : V → Prop} {L L2 : List Blk} (he : MapEq L L2) (h : vLenL C t x L k) : vLenL C t x L2 k:=by
 cases x with
 | own b gen lo len =>
  unfold vLenL at h ⊢
  simp only at h ⊢
  split at h
  ·rename_i hb; rw [he.row hb]; exact h
  ·exact h.elim
 | _=>exact h
def isMapW : Op → Bool
 | .mapUpdate .. | .insert .. | .buildSlice .. | .alloc .. | .box .. | .makeSlice .. | .makeMap ..=>true
 | _=>false
def isCellK : Op → Bool
 | .mapUpdate .. | .insert .. | .buildSlice .. | .alloc .. | .box .. | .makeSlice .. | .makeMap ..=>true
 | .call c=>match c.callee with | .builtin .append=>true | _=>false
 | _=>false
theorem bif_out {b : Bool} {p : Prop} (h : bif b then p else False) : p:=by cases b; exact h.elim; exact h
theorem vBuildSlice_mapEq {t : TypeId} {len : Nat} {ps : List (Nat × V)} {L L' : List Blk} {v : V} (h : vBuildSlice C t len ps L fun x M=>x = v ∧ M = L') : MapEq L L':=by
 unfold vBuildSlice at h
 split at h
 ·split at h
  ·split at h
   ·have h:=bif_out h
    split at h
    ·exact h.2 ▸ MapEq.push L _
    ·exact h.elim
   ·exact h.elim
  ·exact h.elim
 ·exact h.elim
theorem vSrc_out {sz : Nat} {x : V} {L : List Blk} {k : List (List V) → Prop} (h : vSrc L sz x k) : ∃ news,k news:=by
 unfold vSrc at h
 split at h
 ·exact ⟨_,h⟩
 ·exact ⟨_,h.out.2⟩
 ·split at h
  ·exact ⟨_,bif_out h⟩
  ·exact h.elim
 ·exact h.elim
theorem vAppend_cellEq {t : TypeId} {s x : V} {L L' : List Blk} {v : V} (h : vAppend C t s x L fun x M=>x = v ∧ M = L') : CellEq L L':=by
 unfold vAppend at h
 split at h
 ·split at h
  ·split at h
   ·obtain ⟨news,h⟩:=vSrc_out (bif_out h)
    split at h
    ·exact h.out.2.2 ▸ (MapEq.push L _).cellEq
    ·split at h
     ·rename_i hL
      have h:=bif_out h
      exact h.out.2.2 ▸ CellEq.set hL
     ·exact h.elim
    ·exact h.out.2.out.2.2 ▸ (MapEq.push L _).cellEq
    ·exact h.elim
   ·exact h.elim
  ·exact h.elim
 ·exact h.elim
theorem vMapUpdate_mapEq {t : TypeId} {m key x : V} {L L' : List Blk} (h : vMapUpdate C t m key x L fun M=>M = L') : MapEq L L':=by
 unfold vMapUpdate at h
 split at h
 ·split at h
  ·split at h
   ·rename_i ki _
    cases hb : keyV (keyTK C ki) key with
    | false=>rw [hb] at h; exact h.elim
    | true =>
     simp only [hb,cond_true] at h
     split at h
     ·rename_i b
      split at h
      ·rename_i es hL
       unfold MapF at h
       rcases h with ⟨_,⟨i,v,_,_,h⟩ | ⟨_,h⟩⟩
       ·exact h ▸ MapEq.set hL
       ·exact h ▸ MapEq.set hL
      ·exact h.elim
     ·exact h.elim
   ·exact h.elim
  ·exact h.elim
 ·exact h.elim
theorem vAlloc_mapEq {t : TypeId} {L L' : List Blk} {v : V} (h : vAlloc C t L fun x M=>x = v ∧ M = L') : MapEq L L':=by
 unfold vAlloc at h
 split at h
 ·exact h.elim
 ·obtain ⟨_,rfl⟩:=bif_out h; exact MapEq.push _ _
theorem vBox_mapEq {x : V} {L L' : List Blk} {v : V} (h : vBox x L fun x M=>x = v ∧ M = L') : MapEq L L':=by
 unfold vBox at h
 obtain ⟨_,rfl⟩:=bif_out h; exact MapEq.push _ _
theorem vMakeSlice_mapEq {t : TypeId} {x y : V} {L L' : List Blk} {v : V} (h : vMakeSlice C t x y L fun x M=>x = v ∧ M = L') : MapEq L L':=by
 unfold vMakeSlice at h
 split at h
 ·split at h
  ·split at h
   ·have h:=bif_out h
    split at h
    ·unfold MakeP at h
     obtain ⟨_,_,_,_,_,_,_,rfl⟩:=h
     exact MapEq.push _ _
    ·exact h.elim
   ·exact h.elim
  ·exact h.elim
 ·exact h.elim
theorem vOp_mapEq {o : Oper} {fr : List (Nat × V)} {L L' : List Blk} {v : V} (hm : isMapW o.op = true) (h : vOp C o fr L fun x M=>x = v ∧ M = L') : MapEq L L':=by
 unfold vOp at h
 have key : ∀ (t : TypeId) (m key x : V),(vMapUpdate C t m key x L fun M=>V.poison = v ∧ M = L') → MapEq L L':=fun t m key x h=>by
  have h2 : vMapUpdate C t m key x L fun M=>M = L':=by
   obtain ⟨p,u,N,hd⟩:=vMapUpdate_det C t m key x L
   have:=(hd fun x M=>x = v ∧ M = L').1 h
   exact (hd fun _ M=>M = L').2 ⟨this.1,this.2.2⟩
  exact vMapUpdate_mapEq h2
 cases hop : o.op <;> rw [hop] at hm <;> first | (cases hm; done) | skip
 case makeMap ty r =>
  cases r with
  | none=>simp only [hop] at h; obtain ⟨_,rfl⟩:=h; exact MapEq.push _ _
  | some r=>simp only [hop] at h
 all_goals
  simp only [hop] at h
  first | exact key _ _ _ _ h | exact vBuildSlice_mapEq h | exact vAlloc_mapEq h | exact vBox_mapEq h | exact vMakeSlice_mapEq h
theorem vOp_cellEq {o : Oper} {fr : List (Nat × V)} {L L' : List Blk} {v : V} (hm : isCellK o.op = true) (h : vOp C o fr L fun x M=>x = v ∧ M = L') : CellEq L L':=by
 cases hw : isMapW o.op with
 | true=>exact (vOp_mapEq hw h).cellEq
 | false =>
  unfold vOp at h
  cases hop : o.op <;> rw [hop] at hm hw <;> first | (cases hm; done) | (cases hw; done) | skip
  rename_i c
  obtain ⟨cal,args,tys⟩:=c
  simp only [hop] at h
  simp only [isCellK] at hm
  cases cal with
  | value f=>cases hm
  | invoke r m=>cases hm
  | builtin b =>
   cases b <;> first | (cases hm; done) | skip
   simp only at h
   split at h
   ·exact vAppend_cellEq (bif_out h)
   ·exact h.elim
@[irreducible] def QCallW (f : (V → List Blk → Prop) → Prop) (k : V → List Blk → Prop) : Prop:=∃ v M,f (fun x N=>x = v ∧ N = M) ∧ k v M
theorem QCallW.intro {f : (V → List Blk → Prop) → Prop} {k : V → List Blk → Prop} (v : V) (M : List Blk) (h : f fun x N=>x = v ∧ N = M) (hk : k v M) : QCallW f k:=by
 unfold QCallW; exact ⟨v,M,h,hk⟩
@[irreducible] def QCallK (f : (V → List Blk → Prop) → Prop) (L : List Blk) (k : V → List Blk → Prop) : Prop:=∃ v M,f (fun x N=>x = v ∧ N = M) ∧ CellEq L M ∧ k v M
theorem QCallK.intro {f : (V → List Blk → Prop) → Prop} {L : List Blk} {k : V → List Blk → Prop} (v : V) (M : List Blk) (h : f fun x N=>x = v ∧ N = M) (hc : CellEq L M) (hk : k v M) : QCallK f L k:=by
 unfold QCallK; exact ⟨v,M,h,hc,hk⟩
def qOpL (C : Ctx) (md : Nat) (o : Oper) (fr : List (Nat × V)) (L : List Blk) (k : V → List Blk → Prop) : Prop :=
 match md with
 | 0=>qOp C o fr L k
 | 2=>QCallW (fun k=>vOpF C o fr L k) k
 | 5=>QCallK (fun k=>vOpF C o fr L k) L k
 | 1=>match o.op with
  | .call c=>match c.callee with
   | .value f=>match ev fr f with
    | .fn _ []=>Need (V.belL 0 (c.args.toList.map (ev fr)) = true) (QCall (fun k=>vOpF C o fr [] k) [] fun v _=>Need (v.bel 0 = true) (k v L))
    | _=>False
   | .builtin .len=>vOpF C o fr [] fun v _=>k v L
   | _=>False
  | .load _ _=>vOpF C o fr [] fun v _=>k v L
  | .indexAddr _ _ _=>vOpF C o fr [] fun v _=>k v L
  | .slice _ _ _ _ none=>vOpF C o fr [] fun v _=>k v L
  | .lookup _ _ _ _=>vOpF C o fr [] fun v _=>k v L
  | _=>False
 | 3=>match o.op with
  | .call c=>match c.callee with
   | .builtin .len=>vOpF C o fr L k
   | _=>False
  | .load _ _=>vOpF C o fr L k
  | .indexAddr _ _ _=>vOpF C o fr L k
  | _=>False
 | 4=>match o.op with
  | .load _ a=>match ev fr a with
   | .eptr ..=>False
   | _=>vOpF C o fr L k
  | _=>False
 | _=>False
def MdEq (md : Nat) (L L2 : List Blk) : Prop:=match md with | 3=>MapEq L L2 | 4=>CellEq L L2 | _=>L2 = L
theorem MdEq.refl (md : Nat) (L : List Blk) : MdEq md L L:=by
 unfold MdEq; split
 ·exact MapEq.refl L
 ·exact CellEq.refl L
 ·rfl
theorem MdEq.trans {md : Nat} {L L2 L3 : List Blk} (h : MdEq md L L2) (h' : MdEq md L2 L3) : MdEq md L L3:=by
 unfold MdEq at h h' ⊢
 split at h
 ·exact MapEq.trans h h'
 ·exact CellEq.trans h h'
 ·split at h'
  ·exact absurd rfl (by assumption)
  ·exact absurd rfl (by assumption)
  ·exact h ▸ h'
def mdW (md b : Nat) (op : Op) : Bool:=match md with | 3=>isMapW op | 4=>isCellK op || Nat.beq b 5 | _=>false
theorem vOp_mdEq {md b : Nat} {o : Oper} {fr : List (Nat × V)} {L L' : List Blk} {v : V} (hm : mdW md b o.op = true) (hb : b ≠ 5) (h : vOp C o fr L fun x M=>x = v ∧ M = L') : MdEq md L L':=by
 unfold mdW at hm
 split at hm
 ·exact vOp_mapEq hm h
 ·rw [Bool.or_eq_true] at hm
  exact vOp_cellEq (hm.resolve_right fun e=>hb (Nat.eq_of_beq_eq_true e)) h
 ·cases hm
mutual
theorem V.sh0 (n : Nat) : ∀ x : V,x.bel 0 = true → x.sh n = x
 | .own ..,h | .ptr ..,h | .eptr ..,h | .map _,h | .yld _,h=>by simp [V.bel] at h
 | .fn f caps,h=>by simp only [V.bel] at h; simp only [V.sh,V.shL0 n caps h]
 | .iface t x,h=>by simp only [V.bel] at h; simp only [V.sh,V.sh0 n x h]
 | .agg cs,h=>by simp only [V.bel] at h; simp only [V.sh,V.shL0 n cs h]
 | .tup cs,h=>by simp only [V.bel] at h; simp only [V.sh,V.shL0 n cs h]
 | .poison,_ | .tt,_ | .ff,_ | .d _,_ | .nil,_ | .glob _,_ | .clp _,_=>rfl
theorem V.shL0 (n : Nat) : ∀ cs : List V,V.belL 0 cs = true → V.shL n cs = cs
 | [],_=>rfl
 | x :: r,h=>by
  simp only [V.belL,Bool.and_eq_true] at h
  simp only [V.shL,V.sh0 n x h.1,V.shL0 n r h.2]
end
theorem qOpL_out {md : Nat} {o : Oper} {fr : List (Nat × V)} {L : List Blk} {k : V → List Blk → Prop} (h : qOpL C md o fr L k) :
  ∃ v L',vOp C o fr L (fun x M=>x = v ∧ M = L') ∧ k v L' ∧ (md ≠ 2 → md ≠ 5 → isWriter o.op = false → L' = L) ∧ (md = 5 → CellEq L L') ∧ (md = 1 → isWriter o.op = false ∧ ∀ L2,vOp C o fr L2 (fun x M=>x = v ∧ M = L2)) ∧
   (md = 3 ∨ md = 4 → isWriter o.op = false ∧ ∀ L2,MdEq md L L2 → vOp C o fr L2 (fun x M=>x = v ∧ M = L2)):=by
 unfold qOpL at h
 split at h
 ·obtain ⟨v,L',h1,h2,h3⟩:=qOp_out h
  exact ⟨v,L',h1,h2,fun _ _=>h3,fun e=>(by cases e),fun e=>(by cases e),fun e=>by rcases e with e | e <;> cases e⟩
 ·unfold QCallW at h
  obtain ⟨v,M,h1,h2⟩:=h
  simp only [vOpF_eq] at h1
  exact ⟨v,M,h1,h2,fun e=>absurd rfl e,fun e=>(by cases e),fun e=>(by cases e),fun e=>by rcases e with e | e <;> cases e⟩
 ·unfold QCallK at h
  obtain ⟨v,M,h1,h3,h2⟩:=h
  simp only [vOpF_eq] at h1
  exact ⟨v,M,h1,h2,fun _ e=>absurd rfl e,fun _=>h3,fun e=>(by cases e),fun e=>by rcases e with e | e <;> cases e⟩
 ·-- at no memory
  suffices hs : ∃ v L',vOp C o fr L (fun x M=>x = v ∧ M = L') ∧ k v L' ∧ (1 ≠ 2 → isWriter o.op = false → L' = L) ∧ (1 = 1 → isWriter o.op = false ∧ ∀ L2,vOp C o fr L2 (fun x M=>x = v ∧ M = L2)) by
   obtain ⟨v,L',h1,h2,h3,h4⟩:=hs
   exact ⟨v,L',h1,h2,fun e _=>h3 e,fun e=>(by cases e),h4,fun e=>by rcases e with e | e <;> cases e⟩
  simp only [vOpF_eq] at h
  have rd : isRead o.op = true → (∀ (v : V),vOp C o fr [] (fun x _=>x = v) → ∀ L2,vOp C o fr L2 (fun x M=>x = v ∧ M = L2)) → vOp C o fr [] (fun v _=>k v L) → ∃ v L',vOp C o fr L (fun x M=>x = v ∧ M = L') ∧ k v L' ∧ (1 ≠ 2 → isWriter o.op = false → L' = L) ∧ (1 = 1 → isWriter o.op = false ∧ ∀ L2,vOp C o fr L2 (fun x M=>x = v ∧ M = L2)):=by
   intro hr far h
   obtain ⟨p,v,hd⟩:=vOp_rd C o fr [] (.inr hr)
   obtain ⟨h1,h2⟩:=(hd _).1 h
   have h3 : vOp C o fr [] fun x _=>x = v:=(hd _).2 ⟨h1,rfl⟩
   exact ⟨v,L,far v h3 L,h2,fun _ _=>rfl,fun _=>⟨by simp [isWriter,hr],far v h3⟩⟩
  split at h
  ·rename_i c hop
   split at h
   ·rename_i f hcal
    split at h
    ·rename_i g hf
     obtain ⟨hb,h⟩:=h.out
     unfold QCall at h
     obtain ⟨v,h1,h2⟩:=h
     obtain ⟨h3,h4⟩:=h2.out
     have far : ∀ L2,vOp C o fr L2 (fun x M=>x = v ∧ M = L2):=fun L2=>by
      unfold vOp at h1 ⊢
      simp only [hop,hcal,hf,vCallV,vCallF,List.append_nil] at h1 ⊢
      refine h1.frame hb fun X L' hX=>?_
      obtain ⟨rfl,rfl⟩:=hX
      exact ⟨V.sh0 _ _ h3,by simp [shB]⟩
     exact ⟨v,L,far L,h4,fun _ _=>rfl,fun _=>⟨by simp [isWriter,hop,isCall,hcal],far⟩⟩
    ·exact h.elim
   ·rename_i hcal
    refine rd (by rw [hop]; simp [isRead,hcal]) (fun v h L2=>?_) h
    unfold vOp at h ⊢
    simp only [hop,hcal] at h ⊢
    split at h
    ·simp only [and_true]
     exact vLenL_far h L2
    ·exact h.elim
   ·exact h.elim
  ·rename_i t a hop
   refine rd (by rw [hop]; rfl) (fun v h L2=>?_) h
   unfold vOp at h ⊢
   simp only [hop,and_true] at h ⊢
   exact vLoad_far h L2
  ·rename_i t x i hop
   refine rd (by rw [hop]; rfl) (fun v h L2=>?_) h
   unfold vOp at h ⊢
   simp only [hop,and_true] at h ⊢
   exact vIndexAddr_far h L2
  ·rename_i t x l1 l2 hop
   refine rd (by rw [hop]; rfl) (fun v h L2=>?_) h
   unfold vOp at h ⊢
   simp only [hop] at h ⊢
   have h':=vSlice_far (lo:=l1.map (ev fr)) (hi:=l2.map (ev fr)) (mx:=none) (k:=fun x=>x = v) h L2
   show vSlice C t (ev fr x) (l1.map (ev fr)) (l2.map (ev fr)) none L2 fun x=>x = v ∧ L2 = L2
   simp only [and_true]
   exact h'
  ·rename_i t x i ok hop
   refine rd (by rw [hop]; rfl) (fun v h L2=>?_) h
   unfold vOp at h ⊢
   simp only [hop,and_true] at h ⊢
   exact vLookup_far h L2
  ·exact h.elim
 ·-- at no map
  simp only [vOpF_eq] at h
  have rd : isRead o.op = true → (∀ (v : V),vOp C o fr L (fun x _=>x = v) → ∀ L2,MapEq L L2 → vOp C o fr L2 (fun x M=>x = v ∧ M = L2)) → vOp C o fr L k → ∃ v L',vOp C o fr L (fun x M=>x = v ∧ M = L') ∧ k v L' ∧ (3 ≠ 2 → 3 ≠ 5 → isWriter o.op = false → L' = L) ∧ (3 = 5 → CellEq L L') ∧
    (3 = 1 → isWriter o.op = false ∧ ∀ L2,vOp C o fr L2 (fun x M=>x = v ∧ M = L2)) ∧ (3 = 3 ∨ 3 = 4 → isWriter o.op = false ∧ ∀ L2,MdEq 3 L L2 → vOp C o fr L2 (fun x M=>x = v ∧ M = L2)):=by
   intro hr far h
   obtain ⟨p,v,hd⟩:=vOp_rd C o fr L (.inr hr)
   obtain ⟨h1,h2⟩:=(hd _).1 h
   have h3 : vOp C o fr L fun x _=>x = v:=(hd _).2 ⟨h1,rfl⟩
   exact ⟨v,L,far v h3 L (MapEq.refl L),h2,fun _ _ _=>rfl,fun e=>(by cases e),fun e=>(by cases e),fun _=>⟨by simp [isWriter,hr],far v h3⟩⟩
  split at h
  ·rename_i c hop
   split at h
   ·rename_i hcal
    refine rd (by rw [hop]; simp [isRead,hcal]) (fun v h L2 he=>?_) h
    unfold vOp at h ⊢
    simp only [hop,hcal] at h ⊢
    split at h
    ·simp only [and_true]
     exact vLenL_mapEq he h
    ·exact h.elim
   ·exact h.elim
  ·rename_i t a hop
   refine rd (by rw [hop]; rfl) (fun v h L2 he=>?_) h
   unfold vOp at h ⊢
   simp only [hop,and_true] at h ⊢
   exact vLoad_mapEq he h
  ·rename_i t x i hop
   refine rd (by rw [hop]; rfl) (fun v h L2 he=>?_) h
   unfold vOp at h ⊢
   simp only [hop,and_true] at h ⊢
   exact vIndexAddr_mapEq he h
  ·exact h.elim
 ·-- a load out of cells
  simp only [vOpF_eq] at h
  split at h
  ·rename_i t a hop
   split at h
   ·exact h.elim
   ·rename_i hne
    obtain ⟨p,v,hd⟩:=vOp_rd C o fr L (.inr (by rw [hop]; rfl))
    obtain ⟨h1,h2⟩:=(hd _).1 h
    have h3 : vOp C o fr L fun x _=>x = v:=(hd _).2 ⟨h1,rfl⟩
    refine ⟨v,L,(hd _).2 ⟨h1,rfl,rfl⟩,h2,fun _ _ _=>rfl,fun e=>(by cases e),fun e=>(by cases e),fun _=>⟨by rw [hop]; rfl,fun L2 he=>?_⟩⟩
    unfold vOp at h3 ⊢
    simp only [hop,and_true] at h3 ⊢
    refine vLoadC_cellEq he ?_
    unfold vLoadC
    split
    ·rename_i e; exact absurd e (by simpa using hne _ _ _ _)
    ·exact h3
  ·exact h.elim
 ·exact h.elim
end
end Go.Tidy
/-
 The base layer: a drawn region by some of its orders: runs and their exchanges.
-/
namespace Go.Tidy
section
variable {C : Ctx} {n : Nat} {all : List Oper} {o : Oper} {fr : List (Nat × V)} {L : List Blk} {K : List (Nat × V) → List Blk → Prop}
def qOp1L (C : Ctx) (n : Nat) (all : List Oper) (md : Nat) (o : Oper) (fr : List (Nat × V)) (L : List Blk) (K : List (Nat × V) → List Blk → Prop) : Prop :=
 match o.guard with
 | none=>qOpL C md o fr L fun v L'=>vPut n o.dst fr v fun fr'=>K fr' L'
 | some (j,want) =>
  match dstAt all j with
  | none=>False
  | some d=>match look fr d with
   | .tt=>match want with
    | true=>qOpL C md o fr L fun v L'=>vPut n o.dst fr v fun fr'=>K fr' L'
    | false=>vPut n o.dst fr (.tup []) fun fr'=>K fr' L
   | .ff=>match want with
    | false=>qOpL C md o fr L fun v L'=>vPut n o.dst fr v fun fr'=>K fr' L'
    | true=>vPut n o.dst fr (.tup []) fun fr'=>K fr' L
   | .d (.bool t)=>Br t fun b=>match b,want with
    | true,true=>qOpL C md o ((d,.tt) :: fr) L fun v L'=>vPut n o.dst ((d,.tt) :: fr) v fun fr'=>K fr' L'
    | false,false=>qOpL C md o ((d,.ff) :: fr) L fun v L'=>vPut n o.dst ((d,.ff) :: fr) v fun fr'=>K fr' L'
    | true,false=>vPut n o.dst ((d,.tt) :: fr) (.tup []) fun fr'=>K fr' L
    | false,true=>vPut n o.dst ((d,.ff) :: fr) (.tup []) fun fr'=>K fr' L
   | .tup []=>vPut n o.dst fr (.tup []) fun fr'=>K fr' L
   | _=>False
structure PlX (C : Ctx) (n : Nat) (all : List Oper) (o : Oper) (fr : List (Nat × V)) (L : List Blk) (v : V) (ex : Bool) (L' : List Blk) : Prop where
 run : ex = true → vOp C o fr L fun x M=>x = v ∧ M = L'
 skip : ex = false → v = .tup [] ∧ L' = L
 guard : match o.guard with | none=>ex = true | some (j,want)=>∃ d,dstAt all j = some d ∧ (look fr d = (if ex == want then .tt else .ff) ∨ (look fr d = .tup [] ∧ ex = false))
 dst : ∀ d,o.dst = some d → Nat.blt d n = true
def isW (md : Nat) (op : Op) : Bool:=Nat.beq md 2 || Nat.beq md 5 || isWriter op
def FarO (C : Ctx) (n : Nat) (all : List Oper) (o : Oper) (fr : List (Nat × V)) (v : V) (ex : Bool) : Prop:=∀ L,PlX C n all o fr L v ex L
def FarM (C : Ctx) (n : Nat) (all : List Oper) (md : Nat) (o : Oper) (fr : List (Nat × V)) (L : List Blk) (v : V) (ex : Bool) : Prop:=∀ L2,MdEq md L L2 → PlX C n all o fr L2 v ex L2
def FarK (C : Ctx) (n : Nat) (all : List Oper) (md : Nat) (o : Oper) (fr : List (Nat × V)) (L : List Blk) (v : V) (ex : Bool) (L' : List Blk) : Prop:=(md = 3 ∨ md = 4 → FarM C n all md o fr L v ex) ∧ (md = 5 → CellEq L L')
theorem PlX.mdEq {v : V} {ex : Bool} {md b : Nat} {L' : List Blk} (h : PlX C n all o fr L v ex L') (hm : mdW md b o.op = true) (hb : b = 5 → CellEq L L') (ha : md = 3 ∨ md = 4) : MdEq md L L':=by
 by_cases b5 : b = 5
 ·rcases ha with rfl | rfl
  ·cases ex with
   | true=>exact vOp_mapEq hm (h.run rfl)
   | false=>rw [(h.skip rfl).2]; exact MdEq.refl 3 L
  ·exact hb b5
 cases ex with
 | true=>exact vOp_mdEq hm b5 (h.run rfl)
 | false=>rw [(h.skip rfl).2]; exact MdEq.refl md L
theorem qOp1L_out {md : Nat} (h : qOp1L C n all md o fr L K) : ∃ fr1 v ex L',Eqv fr1 fr ∧ PlX C n all o fr1 L v ex L' ∧ (md = 1 → FarO C n all o fr1 v ex) ∧ FarK C n all md o fr1 L v ex L' ∧ (isW md o.op = false → L' = L) ∧ K (putF o.dst v fr1) L':=by
 unfold qOp1L at h
 have exec : ∀ fr1,Eqv fr1 fr → (match o.guard with | none=>True | some (j,want)=>∃ d,dstAt all j = some d ∧ (look fr1 d = (if true == want then .tt else .ff) ∨ (look fr1 d = .tup [] ∧ true = false))) →
   (qOpL C md o fr1 L fun v L'=>vPut n o.dst fr1 v fun fr'=>K fr' L') → ∃ fr1 v ex L',Eqv fr1 fr ∧ PlX C n all o fr1 L v ex L' ∧ (md = 1 → FarO C n all o fr1 v ex) ∧ FarK C n all md o fr1 L v ex L' ∧ (isW md o.op = false → L' = L) ∧ K (putF o.dst v fr1) L':=by
  intro fr1 he hg h
  obtain ⟨v,L',h1,h2,h3,h8,h6,h7⟩:=qOpL_out h
  obtain ⟨h4,h5⟩:=vPut_out h2
  have hgd : match o.guard with | none=>true = true | some (j,want)=>∃ d,dstAt all j = some d ∧ (look fr1 d = (if true == want then .tt else .ff) ∨ (look fr1 d = .tup [] ∧ true = false)):=by
   split
   ·rfl
   ·rename_i hgd; rw [hgd] at hg; exact hg
  refine ⟨fr1,v,true,L',he,⟨fun _=>h1,fun h=>(by cases h),hgd,h5⟩,fun hlo L2=>⟨fun _=>(h6 hlo).2 L2,fun h=>(by cases h),hgd,h5⟩,⟨fun hlo L2 he=>⟨fun _=>(h7 hlo).2 L2 he,fun h=>(by cases h),hgd,h5⟩,h8⟩,fun hw=>?_,h4⟩
  unfold isW at hw
  simp only [Bool.or_eq_false_iff] at hw
  exact h3 (fun e=>by rw [e] at hw; cases hw.1.1) (fun e=>by rw [e] at hw; cases hw.1.2) hw.2
 have skip : ∀ fr1,Eqv fr1 fr → (∃ j want,o.guard = some (j,want) ∧ ∃ d,dstAt all j = some d ∧ (look fr1 d = (if false == want then .tt else .ff) ∨ (look fr1 d = .tup [] ∧ false = false))) →
   (vPut n o.dst fr1 (.tup []) fun fr'=>K fr' L) → ∃ fr1 v ex L',Eqv fr1 fr ∧ PlX C n all o fr1 L v ex L' ∧ (md = 1 → FarO C n all o fr1 v ex) ∧ FarK C n all md o fr1 L v ex L' ∧ (isW md o.op = false → L' = L) ∧ K (putF o.dst v fr1) L':=by
  rintro fr1 he ⟨j,want,hg,hd⟩ h
  obtain ⟨h4,h5⟩:=vPut_out h
  have hgd : match o.guard with | none=>false = true | some (j,want)=>∃ d,dstAt all j = some d ∧ (look fr1 d = (if false == want then .tt else .ff) ∨ (look fr1 d = .tup [] ∧ false = false)):=by
   rw [hg]; exact hd
  exact ⟨fr1,.tup [],false,L,he,⟨fun h=>(by cases h),fun _=>⟨rfl,rfl⟩,hgd,h5⟩,fun _ L2=>⟨fun h=>(by cases h),fun _=>⟨rfl,rfl⟩,hgd,h5⟩,⟨fun _ L2 _=>⟨fun h=>(by cases h),fun _=>⟨rfl,rfl⟩,hgd,h5⟩,fun _=>CellEq.refl L⟩,fun _=>rfl,h4⟩
 cases hgd : o.guard with
 | none =>
  simp only [hgd] at h
  exact exec fr (Eqv.refl _) (by rw [hgd]; trivial) h
 | some jw =>
  obtain ⟨j,want⟩:=jw
  simp only [hgd] at h
  cases hd : dstAt all j with
  | none=>simp [hd] at h
  | some d =>
   simp only [hd] at h
   split at h
   ·rename_i hl
    cases want with
    | true=>exact exec fr (Eqv.refl _) (by rw [hgd]; exact ⟨d,hd,.inl hl⟩) h
    | false=>exact skip fr (Eqv.refl _) ⟨j,false,hgd,d,hd,.inl hl⟩ h
   ·rename_i hl
    cases want with
    | false=>exact exec fr (Eqv.refl _) (by rw [hgd]; exact ⟨d,hd,.inl hl⟩) h
    | true=>exact skip fr (Eqv.refl _) ⟨j,true,hgd,d,hd,.inl hl⟩ h
   ·rename_i t hl
    have h:=h.out
    cases t with
    | true =>
     have he : Eqv ((d,.tt) :: fr) fr:=fun s=>by
      rw [look_cons]
      by_cases e : d = s
      ·subst e; rw [if_pos rfl,hl]; exact VEq.tt.symm
      ·rw [if_neg e]; exact VEq.refl _
     have hl' : look ((d,V.tt) :: fr) d = .tt:=by rw [look_cons,if_pos rfl]
     cases want with
     | true=>exact exec _ he (by rw [hgd]; exact ⟨d,hd,.inl hl'⟩) h
     | false=>exact skip _ he ⟨j,false,hgd,d,hd,.inl hl'⟩ h
    | false =>
     have he : Eqv ((d,.ff) :: fr) fr:=fun s=>by
      rw [look_cons]
      by_cases e : d = s
      ·subst e; rw [if_pos rfl,hl]; exact VEq.ff.symm
      ·rw [if_neg e]; exact VEq.refl _
     have hl' : look ((d,V.ff) :: fr) d = .ff:=by rw [look_cons,if_pos rfl]
     cases want with
     | false=>exact exec _ he (by rw [hgd]; exact ⟨d,hd,.inl hl'⟩) h
     | true=>exact skip _ he ⟨j,true,hgd,d,hd,.inl hl'⟩ h
   ·rename_i hl
    exact skip fr (Eqv.refl _) ⟨j,want,hgd,d,hd,.inr ⟨hl,rfl⟩⟩ h
   ·exact h.elim
def Runs (C : Ctx) (n : Nat) (all : List Oper) : List (Nat × Nat) → List (Nat × V) → List Blk → (List (Nat × V) → List Blk → Prop) → Prop
 | [],fr,L,K=>∃ fr1,Eqv fr1 fr ∧ K fr1 L
 | (i,md) :: r,fr,L,K=>∃ o fr1 v ex L',all[i]? = some o ∧ Eqv fr1 fr ∧ PlX C n all o fr1 L v ex L' ∧ (md = 1 → FarO C n all o fr1 v ex) ∧ FarK C n all md o fr1 L v ex L' ∧ (isW md o.op = false → L' = L) ∧ Runs C n all r (putF o.dst v fr1) L' K
def qOrd (C : Ctx) (n : Nat) (all : List Oper) : List (Nat × Nat) → List (Nat × V) → List Blk → (List (Nat × V) → List Blk → Prop) → Prop
 | [],fr,L,K=>K fr L
 | (i,md) :: r,fr,L,K=>match all[i]? with
  | some o=>qOp1L C n all md o fr L fun fr' L'=>qOrd C n all r fr' L' K
  | none=>False
theorem qOrd_runs : ∀ (l : List (Nat × Nat)) (fr : List (Nat × V)) (L : List Blk),qOrd C n all l fr L K → Runs C n all l fr L K
 | [],fr,L,h=>⟨fr,Eqv.refl _,h⟩
 | (i,md) :: r,fr,L,h=>by
  unfold qOrd at h
  cases ho : all[i]? with
  | none=>simp [ho] at h
  | some o =>
   simp only [ho] at h
   obtain ⟨fr1,v,ex,L',h1,h2,h3,h6,h5,h4⟩:=qOp1L_out h
   exact ⟨o,fr1,v,ex,L',ho,h1,h2,h3,h6,h5,qOrd_runs r _ _ h4⟩
theorem Eqv.symm {a b : List (Nat × V)} (h : Eqv a b) : Eqv b a:=fun s=>(h s).symm
theorem Runs.eqv : ∀ {l : List (Nat × Nat)} {fr fr' : List (Nat × V)} {L : List Blk},Runs C n all l fr L K → Eqv fr fr' → Runs C n all l fr' L K
 | [],_,_,_,⟨fr1,h1,h2⟩,he=>⟨fr1,h1.trans he,h2⟩
 | (_,_) :: _,_,_,_,⟨o,fr1,v,ex,L',h0,h1,h2,h3,h6,h5,h4⟩,he=>⟨o,fr1,v,ex,L',h0,h1.trans he,h2,h3,h6,h5,h4⟩
theorem PlX.frame {v : V} {ex : Bool} {L' : List Blk} {fr' : List (Nat × V)} (h : PlX C n all o fr L v ex L') (hl : ∀ s ∈ looks all o,look fr' s = look fr s) : PlX C n all o fr' L v ex L':=by
 refine ⟨fun he=>?_,h.skip,?_,h.dst⟩
 ·rw [vOp_congr (fr:=fr') (fr':=fr) fun t ht=>hl t (looks_op ht)]
  exact h.run he
 ·have hg:=h.guard
  cases hgd : o.guard with
  | none=>rw [hgd] at hg; exact hg
  | some jw =>
   obtain ⟨j,want⟩:=jw
   rw [hgd] at hg
   obtain ⟨d,hd,hh⟩:=hg
   refine ⟨d,hd,?_⟩
   rw [hl d (looks_guard hgd hd)]
   exact hh
theorem FarO.frame {v : V} {ex : Bool} {fr' : List (Nat × V)} (h : FarO C n all o fr v ex) (hl : ∀ s ∈ looks all o,look fr' s = look fr s) : FarO C n all o fr' v ex:=fun L=>(h L).frame hl
theorem FarM.frame {v : V} {md : Nat} {ex : Bool} {fr' : List (Nat × V)} (h : FarM C n all md o fr L v ex) (hl : ∀ s ∈ looks all o,look fr' s = look fr s) : FarM C n all md o fr' L v ex:=fun L2 he=>(h L2 he).frame hl
theorem PlX.pure {v : V} {ex : Bool} {L' : List Blk} (h : PlX C n all o fr L v ex L') (hp : isPure o.op = true) (L2 : List Blk) : PlX C n all o fr L2 v ex L2:=by
 refine ⟨fun he=>?_,fun he=>⟨(h.skip he).1,rfl⟩,h.guard,h.dst⟩
 obtain ⟨p,u,hd⟩:=vOp_pu C o fr hp
 obtain ⟨h1,h2,_⟩:=(hd L _).1 (h.run he)
 exact (hd L2 _).2 ⟨h1,h2,rfl⟩
structure Indep (all : List Oper) (a b : Nat) (p q : Oper) : Prop where
 dst : ∀ d,p.dst = some d → q.dst ≠ some d ∧ d ∉ looks all q
 dst' : ∀ d,q.dst = some d → d ∉ looks all p
 mem : (isPure p.op = true ∧ isW a p.op = false) ∨ (isPure q.op = true ∧ isW b q.op = false) ∨ (isW a p.op = false ∧ (a = 1 ∨ ((a = 3 ∨ a = 4) ∧ mdW a b q.op = true) ∨ isW b q.op = false))
theorem Runs.swap {i j a b : Nat} {r : List (Nat × Nat)} (hin : ∀ p q,all[i]? = some p → all[j]? = some q → Indep all a b p q) (h : Runs C n all ((i,a) :: (j,b) :: r) fr L K) : Runs C n all ((j,b) :: (i,a) :: r) fr L K:=by
 obtain ⟨p,fr1,v,ex,L1,hp,he1,hpl1,hfar1,hm1,hq1,q,fr2,u,ex2,L2,hq,he2,hpl2,hfar2,hm2,hq2,hr⟩:=h
 obtain ⟨hd,hd',hm⟩:=hin p q hp hq
 have keep1 : ∀ t ∈ looks all q,VEq (look fr2 t) (look fr t):=fun t ht=>by
  refine (he2 t).trans ?_
  rw [putF_look,if_neg fun e=>(hd t e).2 ht]
  exact he1 t
 let fr2':=(looks all q).map (fun t=>(t,look fr2 t)) ++ fr
 have l2 : ∀ s,look fr2' s = if s ∈ looks all q then look fr2 s else look fr s:=fun s=>look_pre _ _ _ _
 have e2' : Eqv fr2' fr:=fun s=>by
  rw [l2]
  split
  ·rename_i h; exact keep1 s h
  ·exact VEq.refl _
 let fr1':=(looks all p).map (fun t=>(t,look fr1 t)) ++ putF q.dst u fr2'
 have l1 : ∀ s,look fr1' s = if s ∈ looks all p then look fr1 s else look (putF q.dst u fr2') s:=fun s=>look_pre _ _ _ _
 have e1' : Eqv fr1' (putF q.dst u fr2'):=fun s=>by
  rw [l1]
  split
  ·rename_i h
   rw [putF_look,if_neg fun e=>hd' s e h]
   exact (he1 s).trans (e2' s).symm
  ·exact VEq.refl _
 have heq : Eqv (putF q.dst u fr2) (putF p.dst v fr1'):=fun s=>by
  rw [putF_look,putF_look]
  by_cases ep : p.dst = some s
  ·rw [if_neg (hd s ep).1,if_pos ep]
   refine (he2 s).trans ?_
   rw [putF_look,if_pos ep]
   exact VEq.refl _
  ·rw [if_neg ep]
   refine VEq.symm ((e1' s).trans ?_)
   rw [putF_look]
   by_cases eq : q.dst = some s
   ·rw [if_pos eq,if_pos eq]; exact VEq.refl _
   ·rw [if_neg eq,if_neg eq]
    refine (e2' s).trans ((he2 s).trans ?_).symm
    rw [putF_look,if_neg ep]
    exact he1 s
 have f2 : ∀ s ∈ looks all q,look fr2' s = look fr2 s:=fun s hs=>by rw [l2,if_pos hs]
 have f1 : ∀ s ∈ looks all p,look fr1' s = look fr1 s:=fun s hs=>by rw [l1,if_pos hs]
 have fin : ∀ M,PlX C n all q fr2 L u ex2 M → FarK C n all b q fr2 L u ex2 M → (isW b q.op = false → M = L) → PlX C n all p fr1 M v ex L2 → FarK C n all a p fr1 M v ex L2 → (isW a p.op = false → L2 = M) → Runs C n all ((j,b) :: (i,a) :: r) fr L K:=by
  intro M h1 m1 h1' h2 m2 h2'
  exact ⟨q,fr2',u,ex2,M,hq,e2',h1.frame f2,fun x=>(hfar2 x).frame f2,⟨fun x=>(m1.1 x).frame f2,m1.2⟩,h1',p,fr1',v,ex,L2,hp,e1',h2.frame f1,fun x=>(hfar1 x).frame f1,⟨fun x=>(m2.1 x).frame f1,m2.2⟩,h2',hr.eqv heq⟩
 rcases hm with ⟨h,hw⟩ | ⟨h,hw⟩ | ⟨hw,h | ⟨ha,h⟩ | h⟩
 ·have e : L1 = L:=hq1 hw
  subst e
  exact fin L2 hpl2 hm2 hq2 (hpl1.pure h L2) ⟨fun _ L3 _=>hpl1.pure h L3,fun _=>CellEq.refl L2⟩ fun _=>rfl
 ·have e : L2 = L1:=hq2 hw
  subst e
  exact fin L (hpl2.pure h L) ⟨fun _ L3 _=>hpl2.pure h L3,fun _=>CellEq.refl L⟩ (fun _=>rfl) hpl1 hm1 hq1
 ·have e : L1 = L:=hq1 hw
  subst e
  exact fin L2 hpl2 hm2 hq2 (hfar1 h L2) ⟨fun _ L3 _=>hfar1 h L3,fun _=>CellEq.refl L2⟩ fun _=>rfl
 ·have e : L1 = L:=hq1 hw
  subst e
  have he:=hpl2.mdEq h hm2.2 ha
  exact fin L2 hpl2 hm2 hq2 (hm1.1 ha L2 he) ⟨fun _ L3 he3=>hm1.1 ha L3 (he.trans he3),fun _=>CellEq.refl L2⟩ fun _=>rfl
 ·have e : L1 = L:=hq1 hw
  subst e
  have e : L2 = L1:=hq2 h
  subst e
  exact fin L2 hpl2 hm2 hq2 hpl1 hm1 hq1
theorem PlX.vc {v : V} {ex : Bool} {L' : List Blk} (h : PlX C n all o fr L v ex L') (hK : K (putF o.dst v fr) L') : vcOp1 C n all o fr L K:=by
 have put : ∀ (u : V) (M : List Blk),K (putF o.dst u fr) M → (∀ d,o.dst = some d → Nat.blt d n = true) → vPut n o.dst fr u fun fr'=>K fr' M:=by
  intro u M hk hd
  unfold vPut
  simp only [V.force_eq]
  unfold putF at hk
  cases hdst : o.dst with
  | none=>rw [hdst] at hk; exact hk
  | some d=>rw [hdst] at hk; simp only [hd d hdst,cond_true]; exact hk
 have run : ex = true → vOp C o fr L fun v L'=>vPut n o.dst fr v fun fr'=>K fr' L':=fun he=>vOp_mono (h.run he) fun x N hx=>by
  obtain ⟨rfl,rfl⟩:=hx
  exact put _ _ hK h.dst
 have skip : ex = false → vPut n o.dst fr (.tup []) fun fr'=>K fr' L:=fun he=>by
  obtain ⟨rfl,rfl⟩:=h.skip he
  exact put _ _ hK h.dst
 have hg:=h.guard
 unfold vcOp1
 simp only [vOpF_eq]
 cases hgd : o.guard with
 | none=>rw [hgd] at hg; exact run hg
 | some jw =>
  obtain ⟨j,want⟩:=jw
  rw [hgd] at hg
  obtain ⟨d,hd,hlk⟩:=hg
  rcases hlk with hlk | ⟨hlk,hex⟩
  ·simp only [hd,hlk]
   cases hex : ex <;> cases want <;> simp <;> first | exact run hex | exact skip hex
  ·simp only [hd,hlk]
   exact skip hex
theorem Runs.vc : ∀ {l : List (Nat × Nat)} {fr : List (Nat × V)} {L : List Blk},Runs C n all l fr L K → vOpsC C n all ((l.map (·.1)).filterMap fun i=>all[i]?) fr L K
 | [],_,_,⟨fr1,h1,h2⟩=>⟨fr1,fun s=>(h1 s).2,h2⟩
 | (i,md) :: r,fr,L,⟨o,fr1,v,ex,L',h0,h1,h2,h3,h6,h5,h4⟩=>by
  simp only [List.map_cons,List.filterMap_cons,h0]
  exact ⟨fr1,fun s=>(h1 s).2,h2.vc (Runs.vc h4)⟩
end
end Go.Tidy
/-
 The base layer: a drawn region by some of its orders: which orders are enough.
-/
namespace Go.Tidy
def Lin (all : List Oper) : List Nat → List Nat → Prop
 | _,[]=>True
 | done,x :: l=>(∀ (o : Oper) (e : Edge),all[x]? = some o → e ∈ o.after.toList → Region.binds .any e = true → e.on ∈ done) ∧ Lin all (x :: done) l
theorem Lin.mono {all : List Oper} : ∀ {l done done' : List Nat},(∀ x ∈ done,x ∈ done') → Lin all done l → Lin all done' l
 | [],_,_,_,_=>trivial
 | x :: l, done, done', h, ⟨h1, h2⟩ => ⟨fun o e ho he hb => h _ (h1 o e ho he hb), Lin.mono (fun y hy => by
     rcases List.mem_cons.1 hy with rfl | hy
     ·exact List.mem_cons_self
     ·exact List.mem_cons_of_mem _ (h y hy)) h2⟩
theorem Lin.skip {all : List Oper} {i : Nat} : ∀ {l1 l2 done : List Nat},Lin all done (l1 ++ i :: l2) → Lin all (i :: done) (l1 ++ l2)
 | [],l2,done,⟨_,h⟩=>h
 | x :: l1, l2, done, ⟨h1, h2⟩ => ⟨fun o e ho he hb => List.mem_cons_of_mem _ (h1 o e ho he hb), Lin.mono (fun y hy => by
     rcases List.mem_cons.1 hy with rfl | hy
     ·simp
     ·rcases List.mem_cons.1 hy with rfl | hy <;> simp [*]) (Lin.skip h2)⟩
theorem Lin.down {all : List Oper} : ∀ {l1 l2 done : List Nat},Down all (· ∈ done) → Lin all done (l1 ++ l2) → Down all (fun x=>x ∈ done ∨ x ∈ l1)
 | [],_,done,h,_=>fun i o e hi ho he hb=>.inl (h i o e (hi.resolve_right (by simp)) ho he hb)
 | x :: l1,l2,done,h,⟨h1,h2⟩=>by
  have hd : Down all (· ∈ x :: done):=fun i o e hi ho he hb=>by
   rcases List.mem_cons.1 hi with rfl | hi
   ·exact List.mem_cons_of_mem _ (h1 o e ho he hb)
   ·exact List.mem_cons_of_mem _ (h i o e hi ho he hb)
  have:=Lin.down hd h2
  intro i o e hi ho he hb
  have:=this i o e (by
   rcases hi with hi | hi
   ·exact .inl (List.mem_cons_of_mem _ hi)
   ·rcases List.mem_cons.1 hi with rfl | hi
    ·exact .inl List.mem_cons_self
    ·exact .inr hi) ho he hb
  rcases this with h3 | h3
  ·rcases List.mem_cons.1 h3 with h4 | h4
   ·exact .inr (h4 ▸ List.mem_cons_self)
   ·exact .inl h4
  ·exact .inr (List.mem_cons_of_mem _ h3)
theorem lin_go {ops : Array Oper} (hedge : ∀ (i : Nat) (o : Oper) (e : Edge),ops.toList[i]? = some o → e ∈ o.after.toList → Region.binds .any e = true → e.on < i) : ∀ (f t : Nat) (listed : Array Bool) (acc : List Nat),listed.size = ops.size →
  (∀ i,listed.getD i false = true ↔ i ∈ acc) → acc.Nodup → (∀ i ∈ acc,i < ops.size) → cnt ops listed ≤ f →
  ∃ rest,Region.linearise.go .any ops f t listed acc = acc.reverse ++ rest ∧ Lin ops.toList acc rest ∧ (acc ++ rest).Nodup ∧ ∀ i,i < ops.size ↔ (i ∈ acc ∨ i ∈ rest)
 | 0,t,listed,acc,hsz,hl,hnd,hlt,hc=>by
  refine ⟨[],by simp [Region.linearise.go],trivial,by simpa using hnd,fun i=>⟨fun hi=>.inl ?_,fun h=>by simpa using h.elim (hlt i) (by simp)⟩⟩
  have hnil : (List.range ops.size).filter (fun i=>!listed.getD i true) = []:=List.eq_nil_of_length_eq_zero (Nat.le_zero.1 hc)
  rw [List.filter_eq_nil_iff] at hnil
  have:=hnil i (by simpa using hi)
  rw [← hl,getD_of_lt (by rw [hsz]; exact hi) false true]
  simpa using this
 | f + 1,t,listed,acc,hsz,hl,hnd,hlt,hc=>by
  simp only [Region.linearise.go]
  show ∃ rest,(match (Region.ready .any ops listed)[t % (Region.ready .any ops listed).length]? with
   | some i=>Region.linearise.go .any ops f (t / (Region.ready .any ops listed).length) (listed.setIfInBounds i true) (i :: acc)
   | none=>acc.reverse) = acc.reverse ++ rest ∧ Lin ops.toList acc rest ∧ (acc ++ rest).Nodup ∧ ∀ i,i < ops.size ↔ (i ∈ acc ∨ i ∈ rest)
  cases hr : (Region.ready .any ops listed)[t % (Region.ready .any ops listed).length]? with
  | none =>
   have hnil : Region.ready .any ops listed = []:=by
    cases hr' : Region.ready .any ops listed with
    | nil=>rfl
    | cons x xs =>
     rw [hr'] at hr
     have hlt : t % (x :: xs).length < (x :: xs).length:=Nat.mod_lt _ (by simp)
     simp at hr
     simp at hlt
     omega
   refine ⟨[],by simp,trivial,by simpa using hnd,fun i=>⟨fun hi=>.inl ?_,fun h=>by simpa using h.elim (hlt i) (by simp)⟩⟩
   rw [← hl]
   induction i using Nat.strongRecOn with
   | _ i ih =>
    refine Classical.byContradiction fun hn=>?_
    have : i ∈ Region.ready .any ops listed:=by
     unfold Region.ready
     rw [List.mem_filter]
     refine ⟨by simpa using hi,?_⟩
     rw [getD_of_lt (by rw [hsz]; exact hi) true false]
     simp only [Bool.not_eq_true] at hn
     rw [hn]
     rw [Array.getElem?_eq_getElem hi]
     simp only [Option.map_some,Option.getD_some,Bool.not_false,Bool.true_and]
     rw [← Array.all_toList,List.all_eq_true]
     intro e he
     cases hb : Region.binds .any e with
     | false=>simp
     | true =>
      have hlt':=hedge i ops[i] e (by simp [hi]) he hb
      simp only [Bool.not_true,Bool.false_or]
      exact ih e.on hlt' (by omega)
    rw [hnil] at this
    cases this
  | some i =>
   have hmem:=List.mem_of_getElem? hr
   unfold Region.ready at hmem
   rw [List.mem_filter] at hmem
   have hi : i < ops.size:=by simpa using hmem.1
   have hi' : i < listed.size:=by rw [hsz]; exact hi
   have ho : ops[i]? = some ops[i]:=Array.getElem?_eq_getElem hi
   have h2:=hmem.2
   rw [ho] at h2
   simp only [Option.map_some,Option.getD_some,Bool.and_eq_true,Bool.not_eq_true'] at h2
   obtain ⟨h2a,h2b⟩:=h2
   rw [← Array.all_toList,List.all_eq_true] at h2b
   have hni : i ∉ acc:=fun h=>by
    have:=(hl i).2 h
    rw [getD_of_lt hi' false true] at this
    rw [this] at h2a; cases h2a
   obtain ⟨rest,r1,r2,r3,r4⟩:=lin_go hedge f (t / (Region.ready .any ops listed).length) (listed.setIfInBounds i true) (i :: acc) (by simp [hsz]) (fun j=>by
     simp only [Array.getD_eq_getD_getElem?,List.mem_cons]
     by_cases e : i = j
     ·subst e
      rw [Array.getElem?_setIfInBounds_self_of_lt hi']
      simp
     ·rw [Array.getElem?_setIfInBounds_ne e]
      have:=hl j
      simp only [Array.getD_eq_getD_getElem?] at this
      simp [Ne.symm e,this]) (by simpa using ⟨hni,hnd⟩) (fun j hj=>by
     rcases List.mem_cons.1 hj with rfl | hj
     ·exact hi
     ·exact hlt j hj) (by
     have : cnt ops (listed.setIfInBounds i true) < cnt ops listed:=by
      unfold cnt
      refine filter_lt (fun x hx hp=>?_) ⟨i,by simpa using hi,?_,by simp [h2a]⟩
      ·by_cases e : i = x
       ·subst e; simp [h2a]
       ·simp only [Array.getD_eq_getD_getElem?,Array.getElem?_setIfInBounds_ne e] at hp
        simpa [Array.getD_eq_getD_getElem?] using hp
      ·simp only [Array.getD_eq_getD_getElem?,Array.getElem?_setIfInBounds_self_of_lt hi']
       rfl
     omega)
   refine ⟨i :: rest,?_,⟨fun o e ho' he hb=>?_,r2⟩,?_,fun j=>?_⟩
   ·simp only [r1]; simp
   ·have ho2 : ops.toList[i]? = some ops[i]:=by simp [hi]
    rw [ho2] at ho'; cases ho'
    have:=h2b e he
    rw [hb] at this
    exact (hl _).1 (by simpa using this)
   ·rw [List.nodup_append] at r3 ⊢
    simp only [List.nodup_cons,List.mem_cons] at r3 ⊢
    obtain ⟨⟨a1,a2⟩,a3,a4⟩:=r3
    refine ⟨a2,⟨fun h=>(a4 i (.inl rfl) i h) rfl,a3⟩,fun a ha b hb=>?_⟩
    rcases hb with rfl | hb
    ·rintro rfl; exact a1 ha
    ·exact a4 a (.inr ha) b hb
   ·rw [r4 j]; simp only [List.mem_cons]; rw [or_comm (a:=j = i),or_assoc]
def rdyB (all : List Oper) (done : List Nat) (i : Nat) : Bool:=match all[i]? with | some o=>o.after.toList.all fun e=>!Region.binds .any e || done.contains e.on | none=>false
def md0 (ws : List Nat) (i : Nat) : Nat:=bif ws.contains i then 2 else (bif ws.contains (i + 1000) then 5 else 0)
def indepB (all : List Oper) (ws : List Nat) (i j : Nat) : Bool:=match all[i]?,all[j]? with
 | some p,some q=>(match p.dst with | some d=>!(q.dst == some d) && !(looks all q).contains d | none=>true) && (match q.dst with | some d=>!(looks all p).contains d | none=>true) &&
   ((isPure p.op && !isW (md0 ws i) p.op) || (isPure q.op && !isW (md0 ws j) q.op) || !isW (md0 ws i) p.op)
 | _,_=>true
def eligB (all : List Oper) (T ws : List Nat) (rest : List Nat) (i : Nat) : Bool:=rest.all fun j=>i == j || (T.getD j 0).testBit i || indepB all ws i j
def cellR : Op → Bool
 | .load .. | .indexAddr ..=>true
 | .call c=>match c.callee with | .builtin .len=>true | _=>false
 | _=>false
def wayB (all : List Oper) (T ws : List Nat) (i j : Nat) : Bool:=!(i == j) && !(T.getD j 0).testBit i && (match all[j]? with | some q=>isW (md0 ws j) q.op | none=>true)
def mapB (all : List Oper) (j : Nat) : Bool:=match all[j]? with | some q=>isMapW q.op | none=>false
def cellB (all : List Oper) (ws : List Nat) (j : Nat) : Bool:=match all[j]? with | some q=>isCellK q.op || Nat.beq (md0 ws j) 5 | none=>false
def loadB : Op → Bool
 | .load ..=>true
 | _=>false
def looseB (all : List Oper) (T ws : List Nat) (rest : List Nat) (i : Nat) : Nat:=match all[i]? with
 | some p=>bif !isPure p.op && !isW (md0 ws i) p.op && rest.any (wayB all T ws i) then (bif cellR p.op && rest.all (fun j=>!wayB all T ws i j || mapB all j) then 3 else (bif loadB p.op && rest.all (fun j=>!wayB all T ws i j || cellB all ws j) then 4 else 1)) else md0 ws i
 | none=>0
def por (all : List Oper) (T ws : List Nat) : Nat → List Nat → List Nat → List (List (Nat × Nat))
 | 0,_,_=>[[]]
 | f + 1,done,rest =>
  match rest.find? fun i=>rdyB all done i && eligB all T ws rest i with
  | some i=>(por all T ws f (i :: done) (rest.erase i)).map fun l=>(i,looseB all T ws rest i) :: l
  | none=>match rest with
   | []=>[[]]
   | _=>(rest.filter (rdyB all done)).flatMap fun i=>(por all T ws f (i :: done) (rest.erase i)).map fun l=>(i,md0 ws i) :: l
section
variable {C : Ctx} {n : Nat} {all : List Oper} {T ws : List Nat} {K : List (Nat × V) → List Blk → Prop}
theorem rdy_of {done : List Nat} {i : Nat} (h : rdyB all done i = true) : ∀ (o : Oper) (e : Edge),all[i]? = some o → e ∈ o.after.toList → Region.binds .any e = true → e.on ∈ done:=fun o e ho he hb=>by
 unfold rdyB at h
 rw [ho] at h
 have:=List.all_eq_true.1 h e he
 rw [hb] at this
 simpa using this
def okMd (ws : List Nat) (i a : Nat) : Prop:=a = md0 ws i ∨ ((a = 1 ∨ a = 3 ∨ a = 4) ∧ md0 ws i = 0)
theorem okMd.isW {ws : List Nat} {i a : Nat} (h : okMd ws i a) (op : Op) : isW a op = isW (md0 ws i) op:=by
 rcases h with rfl | ⟨rfl | rfl | rfl,h⟩
 ·rfl
 ·rw [h]; rfl
 ·rw [h]; rfl
 ·rw [h]; rfl
theorem indep_of {i j : Nat} {a b : Nat} (ha : okMd ws i a) (hb : okMd ws j b) (h : indepB all ws i j = true) (hlo : ∀ p q,all[i]? = some p → all[j]? = some q → isPure p.op = false → isW (md0 ws i) p.op = false → isW (md0 ws j) q.op = true → a = 1 ∨ ((a = 3 ∨ a = 4) ∧ mdW a b q.op = true)) : ∀ p q,all[i]? = some p → all[j]? = some q → Indep all a b p q:=by
 intro p q hp hq
 unfold indepB at h
 rw [hp,hq] at h
 simp only [Bool.and_eq_true] at h
 obtain ⟨⟨h1,h2⟩,h3⟩:=h
 refine ⟨fun d hd=>?_,fun d hd=>?_,?_⟩
 ·rw [hd] at h1
  simp only [Bool.and_eq_true,Bool.not_eq_true',beq_eq_false_iff_ne,ne_eq] at h1
  exact ⟨h1.1,by simpa using h1.2⟩
 ·rw [hd] at h2; simpa using h2
 ·rw [ha.isW,hb.isW]
  simp only [Bool.or_eq_true,Bool.and_eq_true,Bool.not_eq_true'] at h3
  rcases h3 with (h3 | h3) | h3
  ·exact .inl h3
  ·exact .inr (.inl h3)
  ·cases hp' : isPure p.op with
   | true=>exact .inl ⟨rfl,h3⟩
   | false =>
    cases hw : Go.Tidy.isW (md0 ws j) q.op with
    | false=>exact .inr (.inr ⟨h3,.inr (.inr rfl)⟩)
    | true=>exact .inr (.inr ⟨h3,(hlo p q hp hq hp' h3 hw).elim .inl fun h=>.inr (.inl h)⟩)
theorem Runs.past {i a : Nat} : ∀ {l1 l2 : List (Nat × Nat)} {fr : List (Nat × V)} {L : List Blk},(∀ j ∈ l1,∀ p q,all[i]? = some p → all[j.1]? = some q → Indep all a j.2 p q) → Runs C n all ((i,a) :: (l1 ++ l2)) fr L K → Runs C n all (l1 ++ (i,a) :: l2) fr L K
 | [],_,_,_,_,h=>h
 | (j,b) :: l1,l2,fr,L,hin,h=>by
  obtain ⟨o,fr1,v,ex,L',h0,h1,h2,h3,h6,h5,h4⟩:=Runs.swap (hin (j,b) (by simp)) h
  exact ⟨o,fr1,v,ex,L',h0,h1,h2,h3,h6,h5,Runs.past (l1:=l1) (l2:=l2) (fun j hj=>hin j (List.mem_cons_of_mem _ hj)) h4⟩
theorem Runs.cons {i a : Nat} {l l' : List (Nat × Nat)} {fr : List (Nat × V)} {L : List Blk} (h : Runs C n all ((i,a) :: l) fr L K) (hl : ∀ fr L,Runs C n all l fr L K → Runs C n all l' fr L K) : Runs C n all ((i,a) :: l') fr L K:=by
 obtain ⟨o,fr1,v,ex,L',h0,h1,h2,h3,h6,h5,h4⟩:=h
 exact ⟨o,fr1,v,ex,L',h0,h1,h2,h3,h6,h5,hl _ _ h4⟩
theorem looseB_ok {rest : List Nat} {i : Nat} (hi : i < all.length) : okMd ws i (looseB all T ws rest i):=by
 unfold looseB
 rw [List.getElem?_eq_getElem hi]
 simp only []
 cases hb : (!isPure all[i].op && !Go.Tidy.isW (md0 ws i) all[i].op && rest.any (wayB all T ws i)) with
 | false=>exact .inl rfl
 | true =>
  have h0 : ∀ b c : Bool,(bif b then 3 else (bif c then 4 else 1)) = 1 ∨ (bif b then 3 else (bif c then 4 else 1)) = 3 ∨ (bif b then 3 else (bif c then 4 else 1)) = 4:=fun b c=>by cases b <;> cases c <;> simp
  refine .inr ⟨h0 _ _,?_⟩
  simp only [Bool.and_eq_true,Bool.not_eq_true'] at hb
  have:=hb.1.2
  unfold Go.Tidy.isW at this
  simp only [Bool.or_eq_false_iff] at this
  unfold md0 at this ⊢
  cases hc : ws.contains i with
  | false =>
   rw [hc] at this
   cases hd : ws.contains (i + 1000) with
   | false=>rfl
   | true=>rw [hd] at this; cases this.1.2
  | true=>rw [hc] at this; cases this.1.1
theorem por_ok (hs : ∀ (S : Nat → Prop),Down all S → ∀ (i j : Nat),i < all.length → (T.getD i 0).testBit j = true → S i → S j) : ∀ (f : Nat) (done rest l : List Nat),rest.length ≤ f → Down all (· ∈ done) → Lin all done l → l.Nodup → (∀ x,x ∈ l ↔ x ∈ rest) → rest.Nodup → (∀ x ∈ rest,x < all.length) → (∀ x ∈ rest,x ∉ done) →
  ∃ ord ∈ por all T ws f done rest,∃ l' : List (Nat × Nat),l'.map (·.1) = l ∧ (∀ x ∈ l',okMd ws x.1 x.2) ∧ ∀ fr L,Runs C n all ord fr L K → Runs C n all l' fr L K
 | 0,done,rest,l,hf,_,_,_,hm,_,_,_=>by
  have : rest = []:=List.eq_nil_of_length_eq_zero (by omega)
  subst this
  have : l = []:=List.eq_nil_iff_forall_not_mem.2 fun x hx=>by simpa using (hm x).1 hx
  subst this
  exact ⟨[],by simp [por],[],rfl,fun _ h=>(by cases h),fun _ _ h=>h⟩
 | f + 1,done,rest,l,hf,hd,hlin,hnd,hm,hrn,hlt,hdis=>by
  have step : ∀ i,i ∈ rest → rdyB all done i = true → ∀ l1 l2,l = l1 ++ i :: l2 → ∃ ord ∈ por all T ws f (i :: done) (rest.erase i),∃ l' : List (Nat × Nat),l'.map (·.1) = l1 ++ l2 ∧ (∀ x ∈ l',okMd ws x.1 x.2) ∧ ∀ fr L,Runs C n all ord fr L K → Runs C n all l' fr L K:=by
   rintro i hi hrd l1 l2 rfl
   have hlen : (rest.erase i).length < rest.length:=by rw [List.length_erase_of_mem hi]; have:=List.length_pos_of_mem hi; omega
   rw [List.nodup_append] at hnd
   simp only [List.nodup_cons,List.mem_cons] at hnd
   obtain ⟨n1,⟨n2,n3⟩,n4⟩:=hnd
   refine por_ok hs f (i :: done) (rest.erase i) (l1 ++ l2) (by omega) (fun x o e hx ho he hb=>?_) hlin.skip ?_ (fun x=>?_) (hrn.erase _) (fun x hx=>hlt x (List.mem_of_mem_erase hx)) (fun x hx=>?_)
   ·rcases List.mem_cons.1 hx with rfl | hx
    ·exact List.mem_cons_of_mem _ (rdy_of hrd o e ho he hb)
    ·exact List.mem_cons_of_mem _ (hd x o e hx ho he hb)
   ·rw [List.nodup_append]
    exact ⟨n1,n3,fun a ha b hb=>n4 a ha b (.inr hb)⟩
   ·rw [hrn.mem_erase_iff,← hm x]
    simp only [List.mem_append,List.mem_cons]
    constructor
    ·rintro (h | h)
     ·exact ⟨fun e=>(n4 x h i (.inl rfl)) e,.inl h⟩
     ·exact ⟨fun e=>n2 (e ▸ h),.inr (.inr h)⟩
    ·rintro ⟨h1,h | h | h⟩
     ·exact .inl h
     ·exact absurd h h1
     ·exact .inr h
   ·have:=(hrn.mem_erase_iff).1 hx
    simp only [List.mem_cons,not_or]
    exact ⟨this.1,hdis x this.2⟩
  unfold por
  cases hfi : rest.find? fun i=>rdyB all done i && eligB all T ws rest i with
  | some i =>
   have hp:=List.find?_some hfi
   have hi:=List.mem_of_find?_eq_some hfi
   simp only [Bool.and_eq_true] at hp
   obtain ⟨l1,l2,hl⟩:=List.append_of_mem ((hm i).2 hi)
   obtain ⟨ord,ho,l',e,hmd,hr⟩:=step i hi hp.1 l1 l2 hl
   obtain ⟨a,b,rfl,ha,hb⟩:=List.map_eq_append_iff.1 e
   refine ⟨(i,looseB all T ws rest i) :: ord,List.mem_map.2 ⟨ord,ho,rfl⟩,a ++ (i,looseB all T ws rest i) :: b,by rw [hl,List.map_append,List.map_cons,ha,hb],fun x hx=>?_,fun fr L h=>?_⟩
   ·rcases List.mem_append.1 hx with hx | hx
    ·exact hmd x (List.mem_append_left _ hx)
    ·rcases List.mem_cons.1 hx with rfl | hx
     ·exact looseB_ok (hlt i hi)
     ·exact hmd x (List.mem_append_right _ hx)
   refine Runs.past (fun jb hjb=>?_) (h.cons hr)
   obtain ⟨j,bb⟩:=jb
   have hj : j ∈ l1:=ha ▸ List.mem_map_of_mem (f:=(·.1)) hjb
   have hjl : j ∈ l:=by rw [hl]; simp [hj]
   have hjr:=(hm j).1 hjl
   have hij : i ≠ j:=by
    rintro rfl
    rw [hl,List.nodup_append] at hnd
    exact hnd.2.2 _ hj _ (by simp) rfl
   have hna : (T.getD j 0).testBit i = false:=by
    cases hb : (T.getD j 0).testBit i with
    | false=>rfl
    | true =>
     have hdn:=Lin.down (l1:=l1) (l2:=i :: l2) hd (hl ▸ hlin)
     rcases hs _ hdn j i (hlt j hjr) hb (.inr hj) with h | h
     ·exact absurd h (hdis i hi)
     ·rw [hl,List.nodup_append] at hnd
      exact absurd rfl (hnd.2.2 i h i (by simp))
   have hel:=List.all_eq_true.1 hp.2 j hjr
   rw [hna] at hel
   simp only [Bool.or_false,Bool.or_eq_true,beq_iff_eq] at hel
   refine indep_of (looseB_ok (hlt i hi)) (hmd (j,bb) (List.mem_append_left _ hjb)) (hel.resolve_left hij) fun p q hp' hq' a1 a2 a3=>?_
   unfold looseB
   rw [hp']
   simp only [a1,a2,Bool.not_false,Bool.true_and]
   have hway : wayB all T ws i j = true:=by unfold wayB; rw [hna,hq']; simp [hij,a3]
   have : rest.any (wayB all T ws i) = true:=List.any_eq_true.2 ⟨j,hjr,hway⟩
   rw [this]
   simp only [cond_true]
   cases hc : (cellR p.op && rest.all fun j=>!wayB all T ws i j || mapB all j) with
   | false =>
    simp only [cond_false]
    cases hc : (loadB p.op && rest.all fun j=>!wayB all T ws i j || cellB all ws j) with
    | false=>exact .inl rfl
    | true =>
     refine .inr ⟨.inr rfl,?_⟩
     rw [Bool.and_eq_true] at hc
     have:=List.all_eq_true.1 hc.2 j hjr
     rw [hway] at this
     simp only [Bool.not_true,Bool.false_or,cellB,hq',Bool.or_eq_true] at this
     show (isCellK q.op || Nat.beq bb 5) = true
     rw [Bool.or_eq_true]
     refine this.imp id fun e=>?_
     rcases hmd (j,bb) (List.mem_append_left _ hjb) with e2 | ⟨_,e2⟩
     ·simp only at e2; rw [e2]; exact e
     ·simp only at e2; rw [e2] at e; cases e
   | true =>
    refine .inr ⟨.inl rfl,?_⟩
    rw [Bool.and_eq_true] at hc
    have:=List.all_eq_true.1 hc.2 j hjr
    rw [hway] at this
    simp only [Bool.not_true,Bool.false_or,mapB,hq'] at this
    exact this
  | none =>
   cases rest with
   | nil =>
    have : l = []:=List.eq_nil_iff_forall_not_mem.2 fun x hx=>by simpa using (hm x).1 hx
    subst this
    exact ⟨[],by simp,[],rfl,fun _ h=>(by cases h),fun _ _ h=>h⟩
   | cons r0 rs =>
    cases l with
    | nil=>exact absurd ((hm r0).2 (by simp)) (by simp)
    | cons x l2 =>
     have hx:=(hm x).1 (by simp)
     have hrd : rdyB all done x = true:=by
      unfold rdyB
      rw [List.getElem?_eq_getElem (hlt x hx)]
      simp only [List.all_eq_true]
      intro e he
      cases hb : Region.binds .any e with
      | false=>simp
      | true=>simpa using hlin.1 _ e (List.getElem?_eq_getElem (hlt x hx)) he hb
     obtain ⟨ord,ho,l',e,hmd,hr⟩:=step x hx hrd [] l2 rfl
     refine ⟨(x,md0 ws x) :: ord,List.mem_flatMap.2 ⟨x,List.mem_filter.2 ⟨hx,hrd⟩,List.mem_map.2 ⟨ord,ho,rfl⟩⟩,(x,md0 ws x) :: l',by rw [List.map_cons,e]; rfl,fun y hy=>?_,fun fr L h=>h.cons hr⟩
     rcases List.mem_cons.1 hy with rfl | hy
     ·exact .inl rfl
     ·exact hmd y hy
def qAll (C : Ctx) (n : Nat) (all : List Oper) : List (List (Nat × Nat)) → List (Nat × V) → List Blk → (List (Nat × V) → List Blk → Prop) → Prop
 | [],_,_,_=>True
 | [o],fr,L,K=>qOrd C n all o fr L K
 | o :: os,fr,L,K=>qOrd C n all o fr L K ∧ qAll C n all os fr L K
theorem qAll_mem : ∀ {os : List (List (Nat × Nat))} {fr : List (Nat × V)} {L : List Blk},qAll C n all os fr L K → ∀ o ∈ os,qOrd C n all o fr L K
 | [],_,_,_,o,ho=>by cases ho
 | [o],_,_,h,o',ho=>by
  have : o' = o:=by simpa using ho
  exact this ▸ h
 | o :: o2 :: os,_,_,⟨h1,h2⟩,o',ho=>by
  rcases List.mem_cons.1 ho with rfl | ho
  ·exact h1
  ·exact qAll_mem h2 o' ho
end
def porB (all : List Oper) : Bool :=
 let T:=tblGo all []
 all.zipIdx.all fun p=>(p.1.after.toList.all fun e=>!Region.binds .any e || Nat.blt e.on p.2) && Nat.beq (maskOf T p.1 ||| T.getD p.2 0) (maskOf T p.1)
def porOf (ops : Array Oper) (ws : List Nat) : List (List (Nat × Nat)):=por ops.toList (tblGo ops.toList []) ws ops.size [] (List.range ops.size)
theorem DrawP.por {C : Ctx} {n : Nat} {ops : Array Oper} {fr : List (Nat × V)} {L : List Blk} {K : List (Nat × V) → List Blk → Prop} (hm : C.P.follows .mixedOrders = true) (ws : List Nat) (os : List (List (Nat × Nat))) (hst : (porB ops.toList && decide (porOf ops ws = os)) = true)
  (h : qAll C n ops.toList os fr L K) : DrawP C n ops fr L K:=by
 rw [Bool.and_eq_true] at hst
 obtain ⟨hst,hos⟩:=hst
 have hos:=of_decide_eq_true hos
 subst hos
 unfold porB at hst
 simp only [List.all_eq_true,Bool.and_eq_true] at hst
 have mem : ∀ (i : Nat) (o : Oper),ops.toList[i]? = some o → (o,i) ∈ ops.toList.zipIdx:=fun i o ho=>by
  rw [List.mem_zipIdx_iff_getElem?]; exact ho
 have hedge : ∀ (i : Nat) (o : Oper) (e : Edge),ops.toList[i]? = some o → e ∈ o.after.toList → Region.binds .any e = true → e.on < i:=fun i o e ho he hb=>by
  have:=(hst (o,i) (mem i o ho)).1 e he
  simpa [hb,Nat.blt_eq] using this
 have htbl : ∀ (i : Nat) (o : Oper) (j : Nat),ops.toList[i]? = some o → ((tblGo ops.toList []).getD i 0).testBit j = true → ∃ e ∈ o.after.toList,Region.binds .any e = true ∧ (j = e.on ∨ ((tblGo ops.toList []).getD e.on 0).testBit j = true):=fun i o j ho hj=>by
  have heq:=Nat.eq_of_beq_eq_true (hst (o,i) (mem i o ho)).2
  have hm : (maskOf (tblGo ops.toList []) o).testBit j = true:=by
   rw [← heq,Nat.testBit_or,hj,Bool.or_true]
  unfold maskOf at hm
  rcases maskGo_bit _ _ hm with h0 | h1
  ·simp at h0
  ·exact h1
 have anc : ∀ (S : Nat → Prop),Down ops.toList S → ∀ (i j : Nat),i < ops.toList.length → ((tblGo ops.toList []).getD i 0).testBit j = true → S i → S j:=by
  intro S hd i
  induction i using Nat.strongRecOn with
  | _ i ih =>
   intro j hi hj hS
   obtain ⟨e,he,hb,hh⟩:=htbl i ops.toList[i] j (List.getElem?_eq_getElem hi) hj
   have hlt:=hedge i ops.toList[i] e (List.getElem?_eq_getElem hi) he hb
   have hSe:=hd i _ e hS (List.getElem?_eq_getElem hi) he hb
   rcases hh with rfl | hh
   ·exact hSe
   ·exact ih e.on hlt j (by omega) hh hSe
 unfold DrawP
 intro t
 simp only [Region.schedule,hm,Bool.true_or,if_true,Region.linearise]
 have hz : ∀ j,(Array.replicate ops.size false).getD j false = false:=fun j=>by
  simp only [Array.getD_eq_getD_getElem?,Array.getElem?_replicate]
  split <;> rfl
 obtain ⟨rest,r1,r2,r3,r4⟩:=lin_go hedge ops.size t (Array.replicate ops.size false) [] (by simp) (fun j=>by rw [hz]; simp) (by simp) (by simp) (by
  unfold cnt
  exact Nat.le_trans (List.length_filter_le _ _) (by simp))
 simp only [List.reverse_nil,List.nil_append] at r1 r3
 rw [r1]
 obtain ⟨ord,ho,l',e,_,hr⟩:=por_ok (ws:=ws) (C:=C) (n:=n) (K:=K) anc ops.size [] (List.range ops.size) rest (by simp) (fun i o e hi=>by cases hi) r2 r3 (fun x=>by rw [List.mem_range,r4 x]; simp) List.nodup_range (fun x hx=>by simpa using hx) (fun x _=>by simp)
 have:=(hr fr L (qOrd_runs _ _ _ (qAll_mem h ord ho))).vc
 rw [e] at this
 simpa using this
end Go.Tidy
/-
 The base layer: a nil slice that is returned,as an empty row of the caller's own.
-/
namespace Go.Tidy
theorem FinP.nilOwn {k0 sz gen : Nat} {L : List Blk} {k : V → List Blk → Prop} (hsz : 0 < sz) (h : k (.own L.length gen 0 0) (L ++ [.row gen sz []])) : FinP k0 .nil L k:=by
 unfold FinP
 refine ⟨.own L.length gen 0 0,L ++ [.row gen sz []],fun g w v hg hk0 hv=>?_,h⟩
 cases hv with
 | nil =>
  have hp:=add_prog hg (Ext.refl w) (.row gen sz []) none (fun q h=>by cases h) 0
  exact ⟨g.add L.length none 0,add_good hg (Ext.refl w) none (fun q h=>by cases h) 0 ⟨hsz,by simp,.inl ⟨by simp [Gh.add],rfl⟩⟩,.ownN _ _ sz [] (by simp) (by simp [Gh.add]),hp.le hk0 (Nat.le_refl _)⟩
end Go.Tidy
namespace Go.Tidy
inductive CvLL (S : Nat → Prop) (L : List Blk) : List (List V) → List (List D) → Prop
 | nil : CvLL S L [] []
 | cons {x : List V} {y : List D} {xs : List (List V)} {ys : List (List D)} (h : CvL S L x y) (hs : CvLL S L xs ys) : CvLL S L (x :: xs) (y :: ys)
theorem CvLL.get {S : Nat → Prop} {L : List Blk} : ∀ {xs : List (List V)} {ys : List (List D)},CvLL S L xs ys → xs.length = ys.length ∧ ∀ (i j : Nat) (x : V) (y : D),(xs[i]?).bind (fun e=>e[j]?) = some x → (ys[i]?).bind (fun e=>e[j]?) = some y → Cv S L x y
 | _,_,.nil=>⟨rfl,fun i j x y hx=>by simp at hx⟩
 | _,_,.cons h hs=>by
  obtain ⟨h1,h2⟩:=hs.get
  refine ⟨by simp [h1],fun i j x y hx hy=>?_⟩
  cases i with
  | zero=>exact h.get.2 j x y (by simpa using hx) (by simpa using hy)
  | succ i=>exact h2 i j x y (by simpa using hx) (by simpa using hy)
theorem Cv.rowL {S : Nat → Prop} {L : List Blk} {b gen lo len sz : Nat} {els : List (List V)} {ds : List (List D)} (hb : S b) (hL : L[b]? = some (.row gen sz els)) (h : CvLL S L ((els.drop lo).take len) ds) (hl : len = ds.length) (hrow : ∀ e ∈ ds,e.length = sz) :
  Cv S L (.own b gen lo len) (.sl ds):=.own b gen lo len sz els ds hb hL h.get.1 hl hrow h.get.2
end Go.Tidy
namespace Go.Tidy
theorem Weak.re {σ σ' : TS} (bs : List Nat) (hfr : SubF σ.fr (rnF (rnI bs σ.L.length) σ'.fr)) (hget : bs.map (fun c=>σ.L[c]?) = σ'.L.map (fun x=>some (x.rn (rnI bs σ.L.length)))) (hnd : bs.Nodup) (hlt : bs.all (fun b=>decide (b < σ.L.length)) = true)
  (hbel : belB σ'.L.length σ'.L = true:=by rfl) (hdfB : dfB σ'.L = true:=by rfl) (hf : belF σ'.L.length σ'.fr = true:=by rfl) (hn : σ'.n = σ.n:=by rfl) (h2 : σ.df = []:=by rfl) (h2' : σ'.df = []:=by rfl) (h3 : σ.ro = none:=by rfl) (h3' : σ'.ro = none:=by rfl) : Weak 0 σ σ':=by
 have hlen : bs.length = σ'.L.length:=by simpa using congrArg List.length hget
 refine Weak.part bs ⟨hnd,fun b hb=>of_decide_eq_true (List.all_eq_true.1 hlt b hb),hlen,fun b c hb=>?_,hbel,hdfB⟩ (fun b hb=>absurd hb (Nat.not_lt_zero b)) hfr hn hf (by rw [h2,h2']; rfl) (by rw [h2']; intro b hb; cases hb) (by rw [h3,h3']; rfl) (by rw [h3']; intro b hb; cases hb)
 have h1 : (bs.map (fun c=>σ.L[c]?))[b]? = some (σ.L[c]?):=by rw [List.getElem?_map,hb]; rfl
 rw [hget,List.getElem?_map] at h1
 cases hx : σ'.L[b]? with
 | none=>rw [hx] at h1; cases h1
 | some x=>rw [hx] at h1; simpa using h1.symm
end Go.Tidy
namespace Go.Tidy
def VC (n : Nat) (L : List Blk) (x y : V) : Prop:=(x = y ∧ x.bel n = true) ∨ Cw (fun b=>n ≤ b) L x y
def BC (n : Nat) (L : List Blk) (x y : Blk) : Prop :=
 (x = y ∧ x.bel n = true) ∨
 (∃ gen sz els els',x = .row gen sz els ∧ y = .row gen sz els' ∧ els.length = els'.length ∧ (∀ e ∈ els',e.length = sz) ∧ ∀ (i j : Nat) (e e' : List V) (u v : V),els[i]? = some e → els'[i]? = some e' → e[j]? = some u → e'[j]? = some v → VC n L u v) ∨
 (∃ cs cs',x = .cells cs ∧ y = .cells cs' ∧ cs.length = cs'.length ∧ ∀ (j : Nat) (u v : V),cs[j]? = some u → cs'[j]? = some v → VC n L u v)
def FC (n : Nat) (L : List Blk) (fr : List (Nat × V)) : List (Nat × V) → Prop
 | []=>True
 | p :: q=>(norm (look fr p.1) = norm p.2 ∧ p.2.bel n = true ∨ Cw (fun b=>n ≤ b) L (look fr p.1) p.2) ∧ FC n L fr q
theorem FC.look {n : Nat} {L : List Blk} {fr : List (Nat × V)} : ∀ {fr' : List (Nat × V)},FC n L fr fr' → ∀ i,Tidy.look fr' i = .poison ∨ (norm (Tidy.look fr i) = norm (Tidy.look fr' i) ∧ (Tidy.look fr' i).bel n = true) ∨ Cw (fun b=>n ≤ b) L (Tidy.look fr i) (Tidy.look fr' i)
 | [],_,i=>.inl rfl
 | (d,v) :: q,h,i=>by
  rw [look_cons]
  split
  ·rename_i e; subst e; exact .inr h.1
  ·exact FC.look h.2 i
theorem BC.live {n : Nat} {L : List Blk} {x y : Blk} (h : BC n L x y) : y ≠ .dead → x ≠ .dead:=by
 rcases h with ⟨rfl,_⟩ | ⟨_,_,_,_,rfl,rfl,_⟩ | ⟨_,_,rfl,rfl,_⟩
 ·exact id
 ·intro _ h; cases h
 ·intro _ h; cases h
theorem Weak.thaw {k : Nat} {σ σ' : TS} (n : Nat) (hk : k ≤ n) (hn : n ≤ σ.L.length) (hlen : σ'.L.length = n) (hfr : FC n σ.L σ.fr σ'.fr) (hB : ∀ (b : Nat) (x y : Blk),σ.L[b]? = some x → σ'.L[b]? = some y → BC n σ.L x y)
  (h1 : σ'.n = σ.n:=by rfl) (h2 : σ.df = []:=by rfl) (h2' : σ'.df = []:=by rfl) (h3 : σ'.ro = σ.ro:=by rfl) (h3' : ∀ lb,σ.ro = some lb → lb < n:=by intro _ h; cases h) : Weak k σ σ':=by
 intro r g a w hs
 have hg:=hs.good
 let g' : Gh:={ g with I:=fun q=>g.I q ∨ ∃ b,n ≤ b ∧ live σ.L b ∧ g.m b = some q }
 have ex : ∀ b,b < n → ∃ x y,σ.L[b]? = some x ∧ σ'.L[b]? = some y ∧ BC n σ.L x y:=fun b hb =>
  ⟨σ.L[b]'(by omega),σ'.L[b]'(by omega),List.getElem?_eq_getElem _,List.getElem?_eq_getElem _,hB b _ _ (List.getElem?_eq_getElem _) (List.getElem?_eq_getElem _)⟩
 have hkeep : ∀ b,b < n → Keep g σ.L g' σ'.L b:=by
  intro b hb
  obtain ⟨x,y,hx,hy,⟨rfl,_⟩ | ⟨gen,sz,els,els',rfl,rfl,hl,_⟩ | ⟨cs,cs',rfl,rfl,_⟩⟩:=ex b hb
  ·exact Keep.same (hy.trans hx.symm) rfl rfl
  ·refine ⟨fun cs h=>?_,fun gen' sz' els0 h=>?_,fun es h=>?_,fun l h=>?_,fun h=>?_⟩ <;> rw [hx] at h <;> cases h
   exact .inr ⟨gen,sz,els',hy,.inr ⟨rfl,rfl,rfl,rfl,hl.symm⟩⟩
  ·refine ⟨fun cs0 h=>?_,fun gen' sz' els0 h=>?_,fun es h=>?_,fun l h=>?_,fun h=>?_⟩ <;> rw [hx] at h <;> cases h
   exact .inr ⟨cs',hy,rfl⟩
 have hmono : ∀ (x : V) (v : Value),x.bel n = true → RV g w σ.L x v → RV g' w σ'.L x v:=fun x v hx h =>
  RV.mono (g:=g) (g':=g') (fun q hq=>.inl hq) (fun a v _ h=>h) hkeep hx h
 have hcw : ∀ (x y : V) (v : Value),Cw (fun b=>n ≤ b) σ.L x y → RV g w σ.L x v → RV g' w σ'.L y v:=fun x y v h hv =>
  h.rv hg (g':=g') (fun q hq=>.inl hq) (fun b q hb hl hm=>.inr ⟨b,hb,hl,hm⟩) hv
 have hvc : ∀ (x y : V) (v : Value),VC n σ.L x y → RV g w σ.L x v → RV g' w σ'.L y v:=by
  rintro x y v (⟨rfl,hb⟩ | h) hv
  ·exact hmono x v hb hv
  ·exact hcw x y v h hv
 have hlive : ∀ b,live σ'.L b → b < n ∧ live σ.L b:=by
  rintro b ⟨y,hy,hd⟩
  have hb : b < n:=by have:=lt_of_get hy; omega
  obtain ⟨x,y',hx,hy',hbc⟩:=ex b hb
  rw [hy] at hy'; cases hy'
  exact ⟨hb,x,hx,hbc.live hd⟩
 have hgood : Good g' w σ'.L:=by
  refine ⟨fun b b' q l1 l2 m1 m2=>hg.inj b b' q (hlive b l1).2 (hlive b' l2).2 m1 m2,?_,?_,fun b y hy=>?_,hg.gl.mono (fun q hq=>.inl hq) (fun a v _ h=>h)⟩
  ·rintro q ⟨b,hl,hm⟩ hI
   obtain ⟨hb,hl'⟩:=hlive b hl
   rcases hI with hI | ⟨b',hb',hl2,hm2⟩
   ·exact hg.dis q ⟨b,hl',hm⟩ hI
   ·have:=hg.inj b b' q hl' hl2 hm hm2; omega
  ·rintro q (hI | ⟨b',_,hl2,hm2⟩)
   ·exact hg.lt q hI
   ·exact hg.owned_lt ⟨b',hl2,hm2⟩
  ·have hb : b < n:=by have:=lt_of_get hy; omega
   obtain ⟨x,y',hx,hy',hbc⟩:=ex b hb
   rw [hy] at hy'; cases hy'
   have hR:=hg.blk b x hx
   rcases hbc with ⟨rfl,hbel⟩ | ⟨gen,sz,els,els',rfl,rfl,hl,hsz,hv⟩ | ⟨cs,cs',rfl,rfl,hl,hv⟩
   ·refine RB.mono_bel hbel hmono rfl rfl (fun _ _ _ h=>h) (fun l hl=>⟨rfl,fun h=>?_⟩) hR
    subst hl
    simp only [Blk.bel,Bool.and_eq_true,decide_eq_true_eq] at hbel
    obtain ⟨x0,y0,hx0,hy0,hbc0⟩:=ex _ hbel.2
    rw [h] at hx0; cases hx0
    rcases hbc0 with ⟨rfl,_⟩ | ⟨_,_,_,_,e,_⟩ | ⟨_,_,e,_⟩
    ·exact hy0
    ·cases e
    ·cases e
   ·obtain ⟨hs0,hels,hrow⟩:=hR
    refine ⟨hs0,hsz,?_⟩
    rcases hrow with ⟨hm,he⟩ | ⟨q,cur,T,hm,hh,hcap,hbig,hone,hrc⟩
    ·left
     subst he
     exact ⟨hm,List.eq_nil_of_length_eq_zero (by simpa using hl.symm)⟩
    ·right
     refine ⟨q,cur,T,hm,hh,hcap,by rw [← hl]; exact hbig,hone,fun i j v u hu hcur=>?_⟩
     cases e' : els'[i]? with
     | none=>rw [e'] at hu; simp at hu
     | some E' =>
     have hi:=lt_of_get e'
     have e1 : els[i]? = some (els[i]'(by omega)):=List.getElem?_eq_getElem _
     rw [e'] at hu
     simp only [Option.bind_some] at hu
     have hj:=lt_of_get hu
     have hE':=hsz E' (List.mem_of_getElem? e')
     have hE:=hels _ (List.getElem_mem (show i < els.length by omega))
     have e2 : (els[i]'(by omega))[j]? = some ((els[i]'(by omega))[j]'(by omega)):=List.getElem?_eq_getElem _
     refine hvc _ _ _ (hv i j _ _ _ _ e1 e' e2 hu) (hrc i j _ u ?_ hcur)
     rw [e1]; exact e2
   ·obtain ⟨q,cur,T,hm,hh,hsz,hone,hrc⟩:=hR
    refine ⟨q,cur,T,hm,hh,by omega,hone,fun i v u hu hcur=>?_⟩
    have hi:=lt_of_get hu
    have e1 : cs[i]? = some (cs[i]'(by omega)):=List.getElem?_eq_getElem _
    exact hvc _ _ _ (hv i _ _ e1 hu) (hrc i _ u e1 hcur)
 refine ⟨g',⟨hs.n.trans h1.symm,fun i=>?_,hgood,by omega,by rw [hs.df,h2,h2'],fun i b d hb _=>?_,fun lb hlb=>?_,fun h=>hs.ro' (h3.symm.trans h)⟩,⟨rfl,rfl,rfl⟩,Nat.le_refl _,fun _ _ h _=>h,?_,?_,fun q hq=>.inl hq,fun x v hx h=>hmono x v (V.bel_le hk x hx) h,fun b q hb hL hm=>?_,fun _=>by omega⟩
 ·rcases hfr.look i with h | ⟨h,hb⟩ | h
  ·rw [h]; exact .poison _
  ·exact hmono _ _ hb (norm_eq h (hs.fr i))
  ·exact hcw _ _ _ h (hs.fr i)
 ·rw [h2'] at hb; simp at hb
 ·rw [h3] at hlb
  obtain ⟨l,y1,y2⟩:=hs.ro lb hlb
  exact ⟨l,y1,hmono _ _ (by simpa [V.bel] using h3' lb hlb) y2⟩
 ·rintro q ⟨b,hl,hm⟩ _
  exact ⟨b,(hlive b hl).2,hm⟩
 ·rintro q (hI | ⟨b,_,hl,hm⟩)
  ·exact .inl hI
  ·exact .inr (.inr ⟨b,hl,hm⟩)
 ·obtain ⟨x,y,hx,hy,hbc⟩:=ex b (by omega)
  rw [hL] at hx; cases hx
  rcases hbc with ⟨rfl,_⟩ | ⟨_,_,_,_,e,_⟩ | ⟨_,_,e,_⟩
  ·exact ⟨hy,hm⟩
  ·cases e
  ·cases e
end Go.Tidy
set_option linter.defProp false
namespace Go.Tidy
def w0 := @Br.tt
def w1 := @Br.ff
def w2 := @Br.dec
def w3 := @Br.not
def w4 := @Br.intro
def w5 := @GetE.intro
def w6 := @Need.intro
def w7 := @DrawP.go
def w8 := @Br.yes
def w9 := @Br.no
def w10 := @Idx.intro
def w11 := @Idx.map
def w12 := @QCall.intro
def w13 := @QCallW.intro
def w14 := @CallP.up
def w15 := @FinP.drop
def w16 := @FinP.data
def w18 := @Nat.le_of_ble_eq_true
def w19 := @decide_eq_true
def w20 := @decide_eq_false
def w21 := @Nat.le_refl
def w22 := @Nat.zero_le
def w23 := @Nat.le_trans
end Go.Tidy
namespace Go.Proofs.YtndlggbljkhfbaaGreat
open Go.Tidy
structure Mt where
 (home away : Int)
 deriving DecidableEq,Inhabited
def Mt.cells (m : Mt) : List D:=[DI m.home,DI m.away]
abbrev mtV (m : Mt) : V:=.agg (m.cells.map .d)
def mts (l : List Mt) : D:=.sl (l.map Mt.cells)
structure Dm where
 (kind club other round n : Int) (clubs : List Int)
 deriving DecidableEq,Inhabited
def Dm.cells (d : Dm) : List D:=[DI d.kind,DI d.club,DI d.other,DI d.round,DI d.n,ints d.clubs]
abbrev dmV (d : Dm) : V:=.agg (d.cells.map .d)
structure Pl where
 (clubs : List Int) (double : Bool) (demands : List Dm)
 deriving DecidableEq,Inhabited
def Pl.cells (p : Pl) : List D:=[ints p.clubs,.bool p.double,.sl (p.demands.map Dm.cells)]
abbrev plV (p : Pl) : V:=.agg (p.cells.map .d)
def lisD (l : List (List Mt)) : D:=.sl (l.map fun r=>[mts r])
abbrev lisV (l : List (List Mt)) : V:=.agg [.d (lisD l)]
variable {L : List Blk} {k : V → List Blk → Prop}
theorem wrap_in {n : Int} (h : -9223372036854775808 ≤ n ∧ n ≤ 9223372036854775807) : IntKind.i64.wrap n = n:=wrap_id h.1 h.2
theorem take_next {α : Type} {l : List α} {i : Nat} (h : i < l.length) : l.take (i + 1) = l.take i ++ [l[i]]:=by
 rw [List.take_add_one,List.getElem?_eq_getElem h]; rfl
def incr : List Int → Bool
 | []=>true
 | [c]=>decide (0 ≤ c ∧ c < 192)
 | c :: d :: r=>decide (0 ≤ c ∧ c < 192) && decide (c < d) && incr (d :: r)
def okAt (l : List Int) (j : Nat) : Prop:=∀ c,l[j]? = some c → (0 ≤ c ∧ c < 192) ∧ (∀ d,0 < j → l[j - 1]? = some d → d < c)
theorem incr_iff : ∀ l : List Int,incr l = true ↔ ∀ j,okAt l j
 | []=>by simp [incr,okAt]
 | [c]=>by
  simp only [incr,decide_eq_true_eq]
  refine ⟨fun h j x hx=>?_,fun h=>(h 0 c rfl).1⟩
  cases j with
  | zero=>simp at hx; subst hx; exact ⟨h,fun d hd=>absurd hd (by omega)⟩
  | succ j=>simp at hx
 | c :: d :: r=>by
  simp only [incr,Bool.and_eq_true,decide_eq_true_eq]
  rw [incr_iff (d :: r)]
  constructor
  ·rintro ⟨⟨h1,h2⟩,h3⟩ j x hx
   cases j with
   | zero=>simp at hx; subst hx; exact ⟨h1,fun d hd=>absurd hd (by omega)⟩
   | succ j =>
    have:=h3 j x (by simpa using hx)
    refine ⟨this.1,fun y _ hy=>?_⟩
    cases j with
    | zero=>simp at hx hy; subst hx hy; exact h2
    | succ j=>exact this.2 y (by omega) (by simpa using hy)
  ·intro h
   refine ⟨⟨(h 0 c rfl).1,?_⟩,fun j x hx=>⟨(h (j + 1) x (by simpa using hx)).1,fun y hj hy=>?_⟩⟩
   ·exact (h 1 d rfl).2 c (by omega) rfl
   ·refine (h (j + 1) x (by simpa using hx)).2 y (by omega) ?_
    cases j with
    | zero=>omega
    | succ j=>simpa using hy
def fieldOk (l : List Int) (least : Nat) : Bool:=incr l && decide (least ≤ l.length) && decide (l.length ≤ 24)
structure FarOk (l : List Int) where
 i : Nat
 le : i ≤ l.length
 ok : ∀ j,j < i → okAt l j
def FarOk.zero (l : List Int) : FarOk l:=⟨0,Nat.zero_le _,fun j h=>absurd h (Nat.not_lt_zero j)⟩
def FarOk.next {l : List Int} (s : FarOk l) (h : s.i < l.length) (hp : okAt l s.i) : FarOk l :=
 ⟨s.i + 1,h,fun j hj=>by
  by_cases e : j = s.i
  ·subst e; exact hp
  ·exact s.ok j (by omega)⟩
theorem FarOk.all {l : List Int} (s : FarOk l) (h : ¬ s.i < l.length) : incr l = true:=(incr_iff l).2 fun j=>by
 by_cases hj : j < s.i
 ·exact s.ok j hj
 ·intro c hc; have:=lt_of_get hc; omega
theorem okAt_no {l : List Int} {j : Nat} (h : ¬ okAt l j) : incr l = false:=by
 cases e : incr l with
 | false=>rfl
 | true=>exact absurd ((incr_iff l).1 e j) h
theorem fieldOk_no {l : List Int} {j least : Nat} (h : ¬ okAt l j) : false = fieldOk l least:=by simp [fieldOk,okAt_no h]
theorem okAt_at {l : List Int} {j : Nat} (hj : j < l.length) : okAt l j ↔ (0 ≤ l[j] ∧ l[j] < 192) ∧ ∀ h : 0 < j,l[j - 1]'(by omega) < l[j]:=by
 refine ⟨fun h=>⟨(h _ (List.getElem?_eq_getElem hj)).1,fun h0=>(h _ (List.getElem?_eq_getElem hj)).2 _ h0 (List.getElem?_eq_getElem (by omega))⟩,fun h c hc=>?_⟩
 rw [List.getElem?_eq_getElem hj] at hc
 cases hc
 refine ⟨h.1,fun d h0 hd=>?_⟩
 rw [List.getElem?_eq_getElem (by omega)] at hd
 cases hd
 exact h.2 h0
theorem incr_lt : ∀ {l : List Int},incr l = true → l.Pairwise (· < ·)
 | [],_=>.nil
 | [c],_=>by simp
 | c :: d :: r,h=>by
  simp only [incr,Bool.and_eq_true,decide_eq_true_eq] at h
  have ih:=incr_lt h.2
  refine List.pairwise_cons.2 ⟨fun x hx=>?_,ih⟩
  rcases List.mem_cons.1 hx with rfl | hx
  ·exact h.1.2
  ·exact Int.lt_trans h.1.2 ((List.pairwise_cons.1 ih).1 x hx)
end Go.Proofs.YtndlggbljkhfbaaGreat
namespace Go.Proofs.YtndlggbljkhfbaaGreat
open Go.Tidy
variable {L : List Blk} {k : V → List Blk → Prop}
theorem dIsField_c (l : List Int) (hl : l.length ≤ 4611686018427387904) (h : k (B (fieldOk l 2)) L) : CallP C 34 [.d (ints l)] L k:=by
 refine CallP.pure ?_ rfl (fun _=>rfl) h
 clear h
 refine callP_of C_ok Tryz.func34 rfl rfl (n:=_) rfl (w18 rfl) (rs:=_) rfl ?_
 conv=>whnf
 refine LoopP.intro (ι:=FarOk l) (fun s=>⟨[(0,.d (ints l)),(2,B false),(5,.d (ints l)),(6,I l.length),(7,I s.i)],40,[],[],none⟩) (fun s=>l.length - s.i) (FarOk.zero l) ?_ ?_
 ·exact Weak.forget ⟨rfl,rfl,rfl,congrArg I (by simp),rfl,trivial⟩
 intro s
 conv=>whnf
 refine w2 (fun h=>?_) (fun h=>?_)
 ·have hi : s.i < l.length:=by simpa using h
  conv=>whnf
  refine w11 s.i rfl hi ?_
  repeat' ((conv=>whnf); first|refine w0 ?_|refine w1 ?_|refine w2 (fun h=>?_) (fun h=>?_)|refine w3 ?_|refine w4 (fun h=>?_) (fun h=>?_)|refine w5 _ rfl ?_|refine w6 rfl ?_|refine w7 mixed rfl ?_|refine w11 (s.i - 1) (by rw [wrap_id] <;> omega) (by omega) ?_|refine w15 (n:=0) rfl (w21 0) rfl rfl ⟨rfl,congrArg B ?_⟩)
  ·exact fieldOk_no (j:=s.i) fun ho=>by have:=((okAt_at hi).1 ho).1; omega
  ·exact fieldOk_no (j:=s.i) fun ho=>by have:=((okAt_at hi).1 ho).1; omega
  ·rename_i h0 h2
   exact fieldOk_no (j:=s.i) fun ho=>by have:=((okAt_at hi).1 ho).2 (by omega); omega
  ·rename_i h3 h2 h1 h0
   exact ⟨s.next hi ((okAt_at hi).2 ⟨by omega,fun _=>by omega⟩),by simp only [FarOk.next]; omega,Weak.by ⟨rfl,rfl,rfl,rfl,congrArg I (by rw [wrap_id] <;> (try simp only [FarOk.next]) <;> omega),trivial⟩⟩
  ·rename_i h2 h1 h0
   exact ⟨s.next hi ((okAt_at hi).2 ⟨by omega,fun _=>by omega⟩),by simp only [FarOk.next]; omega,Weak.by ⟨rfl,rfl,rfl,rfl,congrArg I (by rw [wrap_id] <;> (try simp only [FarOk.next]) <;> omega),trivial⟩⟩
 ·have hi : ¬ s.i < l.length:=by simpa using h
  have hin:=s.all hi
  repeat' ((conv=>whnf); first|refine w0 ?_|refine w1 ?_|refine w2 (fun h=>?_) (fun h=>?_)|refine w3 ?_|refine w4 (fun h=>?_) (fun h=>?_)|refine w5 _ rfl ?_|refine w6 rfl ?_|refine w7 mixed rfl ?_|refine w15 (n:=0) rfl (w21 0) rfl rfl ⟨rfl,congrArg B ?_⟩)
  all_goals (simp at *)
  all_goals (rw [Bool.eq_iff_iff]; simp [fieldOk,hin]; omega)
theorem sindex_c (l : List Int) (n : Int) (hl : l.length ≤ 4611686018427387904) (h : k (I (findI (fun m=>decide (n = m)) l)) L) : CallP C 136 [.d (ints l),I n] L k:=by
 refine CallP.pure ?_ rfl (fun _=>rfl) h
 clear h
 refine callP_of C_ok Tryz.func136 rfl rfl (n:=_) rfl (w18 rfl) (rs:=_) rfl ?_
 conv=>whnf
 refine LoopP.intro (ι:=Far (fun m=>decide (n = m)) l) (fun s=>⟨[(0,.d (ints l)),(1,I n),(7,I l.length),(8,I s.i)],19,[],[],none⟩) (fun s=>l.length - s.i) (Far.zero _ l) ?_ ?_
 ·exact Weak.by ⟨rfl,rfl,congrArg I (by simp),rfl,trivial⟩
 intro s
 conv=>whnf
 refine w2 (fun h=>?_) (fun h=>?_)
 ·have hi : s.i < l.length:=by simpa using h
  repeat' ((conv=>whnf); first|refine w0 ?_|refine w1 ?_|refine w2 (fun h=>?_) (fun h=>?_)|refine w3 ?_|refine w4 (fun h=>?_) (fun h=>?_)|refine w5 _ rfl ?_|refine w6 rfl ?_|refine w7 mixed rfl ?_|refine w11 s.i rfl hi ?_|refine w15 (n:=0) rfl (w21 0) rfl rfl ⟨rfl,congrArg I ?_⟩)
  ·exact (findI_hit hi (w19 (by assumption)) s.no).symm
  ·exact ⟨s.next hi (decide_eq_false (by assumption)),by simp only [Far.next]; omega,Weak.by ⟨rfl,rfl,rfl,congrArg I (by rw [wrap_id] <;> (try simp only [Far.next]) <;> omega),trivial⟩⟩
 ·have hi : ¬ s.i < l.length:=by simpa using h
  repeat' ((conv=>whnf); first|refine w0 ?_|refine w1 ?_|refine w2 (fun h=>?_) (fun h=>?_)|refine w3 ?_|refine w4 (fun h=>?_) (fun h=>?_)|refine w5 _ rfl ?_|refine w6 rfl ?_|refine w7 mixed rfl ?_|refine w15 (n:=0) rfl (w21 0) rfl rfl ⟨rfl,congrArg I ?_⟩)
  exact (findI_miss fun j hj=>s.no j hj (by omega)).symm
theorem contains_c (l : List Int) (n : Int) (hl : l.length ≤ 4611686018427387904) (h : k (B (l.contains n)) L) : CallP C 103 [.d (ints l),I n] L k:=by
 refine CallP.pure ?_ rfl (fun _=>rfl) h
 clear h
 refine callP_of C_ok Tryz.func103 rfl rfl (n:=_) rfl (w18 rfl) (rs:=_) rfl ?_
 conv=>whnf
 refine sindex_c l n hl ?_
 repeat' ((conv=>whnf); first|refine w0 ?_|refine w1 ?_|refine w2 (fun h=>?_) (fun h=>?_)|refine w3 ?_|refine w4 (fun h=>?_) (fun h=>?_)|refine w5 _ rfl ?_|refine w6 rfl ?_|refine w7 mixed rfl ?_)
 conv=>whnf
 refine w15 (n:=0) rfl (w21 0) rfl rfl ⟨rfl,congrArg B ?_⟩
 rw [findI_any,List.contains_eq_any_beq]
 exact congrArg (fun f=>List.any l f) (funext fun m=>by simp [Bool.beq_eq_decide_eq])
theorem mEq (a b : Mt) : (decide (a.home = b.home) && (decide (a.away = b.away) && true)) = decide (a = b):=by
 cases a; cases b; rw [Bool.eq_iff_iff]; simp
theorem mindex_c (l : List Mt) (n : Mt) (hl : l.length ≤ 4611686018427387904) (h : k (I (findI (fun m=>decide (n = m)) l)) L) : CallP C 151 [.d (mts l),mtV n] L k:=by
 refine CallP.pure ?_ rfl (fun _=>rfl) h
 clear h
 refine callP_of C_ok Tryz.func151 rfl rfl (n:=_) rfl (w18 rfl) (rs:=_) rfl ?_
 conv=>whnf
 refine LoopP.intro (ι:=Far (fun m=>decide (n = m)) l) (fun s=>⟨[(0,.d (mts l)),(3,.ptr 0 0),(7,I l.length),(8,I s.i)],19,[.cells (n.cells.map .d)],[],none⟩) (fun s=>l.length - s.i) (Far.zero _ l) ?_ ?_
 ·exact Weak.by ⟨rfl,rfl,congrArg I (by simp),rfl,trivial⟩
 intro s
 conv=>whnf
 refine w2 (fun h=>?_) (fun h=>?_)
 ·have hi : s.i < l.length:=by simpa using h
  repeat' ((conv=>whnf); first|refine w0 ?_|refine w1 ?_|refine w2 (fun h=>?_) (fun h=>?_)|refine w3 ?_|refine w4 (fun h=>?_) (fun h=>?_)|refine w5 _ rfl ?_|refine w6 rfl ?_|refine w7 mixed rfl ?_|refine w11 s.i rfl hi ?_|refine w15 (n:=0) rfl (w21 0) rfl rfl ⟨rfl,congrArg I ?_⟩)
  ·exact (findI_hit hi ((mEq _ _).symm.trans h) s.no).symm
  ·exact ⟨s.next hi ((mEq _ _).symm.trans h),by simp only [Far.next]; omega,Weak.by ⟨rfl,rfl,rfl,congrArg I (by rw [wrap_id] <;> (try simp only [Far.next]) <;> omega),trivial⟩⟩
 ·have hi : ¬ s.i < l.length:=by simpa using h
  repeat' ((conv=>whnf); first|refine w0 ?_|refine w1 ?_|refine w2 (fun h=>?_) (fun h=>?_)|refine w3 ?_|refine w4 (fun h=>?_) (fun h=>?_)|refine w5 _ rfl ?_|refine w6 rfl ?_|refine w7 mixed rfl ?_|refine w15 (n:=0) rfl (w21 0) rfl rfl ⟨rfl,congrArg I ?_⟩)
  exact (findI_miss fun j hj=>s.no j hj (by omega)).symm
theorem mcontains_c (l : List Mt) (n : Mt) (hl : l.length ≤ 4611686018427387904) (h : k (B (l.contains n)) L) : CallP C 127 [.d (mts l),mtV n] L k:=by
 refine CallP.pure ?_ rfl (fun _=>rfl) h
 clear h
 refine callP_of C_ok Tryz.func127 rfl rfl (n:=_) rfl (w18 rfl) (rs:=_) rfl ?_
 conv=>whnf
 refine mindex_c l n hl ?_
 repeat' ((conv=>whnf); first|refine w0 ?_|refine w1 ?_|refine w2 (fun h=>?_) (fun h=>?_)|refine w3 ?_|refine w4 (fun h=>?_) (fun h=>?_)|refine w5 _ rfl ?_|refine w6 rfl ?_|refine w7 mixed rfl ?_)
 conv=>whnf
 refine w15 (n:=0) rfl (w21 0) rfl rfl ⟨rfl,congrArg B ?_⟩
 rw [findI_any,List.contains_eq_any_beq]
 exact congrArg (fun f=>List.any l f) (funext fun m=>by rw [Bool.eq_iff_iff]; simp)
def roundsN (p : Pl) : Nat:=(if p.double then 2 else 1) * ((p.clubs.length - 1) / 2 * 2 + 1)
theorem rounds_e (n : Nat) (h : 1 ≤ n ∧ n ≤ 1000) : IntKind.i64.wrap (IntKind.i64.wrap (IntKind.i64.wrap ((IntKind.i64.wrap ((n : Int) - 1)).tdiv 2) * 2) + 1) = (((n - 1) / 2 * 2 + 1 : Nat) : Int):=by
 rw [wrap_in (n:=(n : Int) - 1) (by omega),show ((n : Int) - 1) = ((n - 1 : Nat) : Int) by omega]
 have e : ((n - 1 : Nat) : Int).tdiv 2 = (((n - 1) / 2 : Nat) : Int):=(Int.ofNat_tdiv _ _).symm
 rw [e,wrap_in (n:=(((n - 1) / 2 : Nat) : Int)) (by omega),wrap_in (n:=(((n - 1) / 2 : Nat) : Int) * 2) (by omega),wrap_in (by omega)]
 omega
theorem rounds_c (p : Pl) (h1 : 1 ≤ p.clubs.length ∧ p.clubs.length ≤ 1000) (h : k (I (roundsN p)) L) : CallP C 48 [plV p] L k:=by
 refine CallP.pure ?_ rfl (fun _=>rfl) h
 clear h
 refine callP_of C_ok Tryz.func48 rfl rfl (n:=_) rfl (w18 rfl) (rs:=_) rfl ?_
 repeat' ((conv=>whnf); first|refine w0 ?_|refine w1 ?_|refine w2 (fun h=>?_) (fun h=>?_)|refine w3 ?_|refine w4 (fun h=>?_) (fun h=>?_)|refine w5 _ rfl ?_|refine w6 rfl ?_|refine w7 mixed rfl ?_|refine w6 (show (2 : Int) ≠ 0 by decide) ?_)
 all_goals conv=>whnf
 ·refine w15 (n:=0) rfl (w21 0) rfl rfl ⟨rfl,congrArg I ?_⟩
  simp only [List.length_map]
  rw [rounds_e _ h1,wrap_in (by omega),roundsN,h]
  simp only [if_true]; omega
 ·refine w15 (n:=0) rfl (w21 0) rfl rfl ⟨rfl,congrArg I ?_⟩
  simp only [List.length_map]
  rw [rounds_e _ h1,roundsN,h]
  simp
theorem hasClub_c (d : Dm) (p : Pl) (hl : p.clubs.length ≤ 4611686018427387904) (h : k (B (p.clubs.contains d.club)) L) : CallP C 70 [dmV d,plV p] L k:=by
 refine CallP.pure ?_ rfl (fun _=>rfl) h
 clear h
 refine callP_of C_ok Tryz.func70 rfl rfl (n:=_) rfl (w18 rfl) (rs:=_) rfl ?_
 conv=>whnf
 refine contains_c p.clubs d.club hl ?_
 repeat' ((conv=>whnf); first|refine w0 ?_|refine w1 ?_|refine w2 (fun h=>?_) (fun h=>?_)|refine w3 ?_|refine w4 (fun h=>?_) (fun h=>?_)|refine w5 _ rfl ?_|refine w6 rfl ?_|refine w7 mixed rfl ?_)
 conv=>whnf
 exact FinP.drop (n:=0) rfl (w21 0) rfl rfl ⟨rfl,rfl⟩
theorem hasOther_c (d : Dm) (p : Pl) (hl : p.clubs.length ≤ 4611686018427387904) (h : k (B (p.clubs.contains d.other && decide (d.other ≠ d.club))) L) : CallP C 73 [dmV d,plV p] L k:=by
 refine CallP.pure ?_ rfl (fun _=>rfl) h
 clear h
 refine callP_of C_ok Tryz.func73 rfl rfl (n:=_) rfl (w18 rfl) (rs:=_) rfl ?_
 conv=>whnf
 refine contains_c p.clubs d.other hl ?_
 repeat' ((conv=>whnf); first|refine w0 ?_|refine w1 ?_|refine w2 (fun h=>?_) (fun h=>?_)|refine w3 ?_|refine w4 (fun h=>?_) (fun h=>?_)|refine w5 _ rfl ?_|refine w6 rfl ?_|refine w7 mixed rfl ?_)
 all_goals conv=>whnf
 all_goals refine w15 (n:=0) rfl (w21 0) rfl rfl ⟨rfl,congrArg B ?_⟩
 all_goals simp_all
theorem hasRound_c (d : Dm) (p : Pl) (hl : 1 ≤ p.clubs.length ∧ p.clubs.length ≤ 1000) (h : k (B (decide (0 ≤ d.round ∧ d.round < roundsN p))) L) : CallP C 71 [dmV d,plV p] L k:=by
 refine CallP.pure ?_ rfl (fun _=>rfl) h
 clear h
 refine callP_of C_ok Tryz.func71 rfl rfl (n:=_) rfl (w18 rfl) (rs:=_) rfl ?_
 conv=>whnf
 repeat' ((conv=>whnf); first|refine w0 ?_|refine w1 ?_|refine w2 (fun h=>?_) (fun h=>?_)|refine w3 ?_|refine w4 (fun h=>?_) (fun h=>?_)|refine w5 _ rfl ?_|refine w6 rfl ?_|refine w7 mixed rfl ?_|refine w12 _ (rounds_c p hl ⟨rfl,rfl⟩) ?_|refine rounds_c p hl ?_)
 all_goals conv=>whnf
 all_goals refine w15 (n:=0) rfl (w21 0) rfl rfl ⟨rfl,congrArg B ?_⟩
 all_goals (rw [Bool.eq_iff_iff]; simp_all; try omega)
theorem within1_c (d : Dm) (p : Pl) (low high : Int) (h : k (B (decide (low ≤ d.n ∧ d.n ≤ high))) L) : CallP C 124 [dmV d,plV p,.d (.rptr [DI low]),.d (.rptr [DI high])] L k:=by
 refine CallP.pure ?_ rfl (fun _=>rfl) h
 clear h
 refine callP_of C_ok Tryz.func124 rfl rfl (n:=_) rfl (w18 rfl) (rs:=_) rfl ?_
 repeat' ((conv=>whnf); first|refine w0 ?_|refine w1 ?_|refine w2 (fun h=>?_) (fun h=>?_)|refine w3 ?_|refine w4 (fun h=>?_) (fun h=>?_)|refine w5 _ rfl ?_|refine w6 rfl ?_|refine w7 mixed rfl ?_)
 all_goals conv=>whnf
 all_goals refine w15 (n:=0) rfl (w21 0) rfl rfl ⟨rfl,congrArg B ?_⟩
 all_goals (rw [Bool.eq_iff_iff]; simp_all; try omega)
theorem first_c (m : Mt) (h : k (I (if m.away < m.home then m.away else m.home)) L) : CallP C 104 [mtV m] L k:=by
 refine CallP.pure ?_ rfl (fun _=>rfl) h
 clear h
 refine callP_of C_ok Tryz.func104 rfl rfl (n:=_) rfl (w18 rfl) (rs:=_) rfl ?_
 repeat' ((conv=>whnf); first|refine w0 ?_|refine w1 ?_|refine w2 (fun h=>?_) (fun h=>?_)|refine w3 ?_|refine w4 (fun h=>?_) (fun h=>?_)|refine w5 _ rfl ?_|refine w6 rfl ?_|refine w7 mixed rfl ?_)
 all_goals conv=>whnf
 exact FinP.drop (n:=0) rfl (w21 0) rfl rfl ⟨rfl,rfl⟩
structure Rnd where
 l : List Mt
 kn : Int → Bool
 f : FuncId
 caps : List D
 len : l.length ≤ 4611686018427387904
 ok : ∀ (n : Int) (L : List Blk) (k : V → List Blk → Prop),k (B (kn n)) L → CallP C f ([I n] ++ caps.map .d) L k
def Rnd.cells (r : Rnd) : List D:=[mts r.l,.fn r.f r.caps]
abbrev rndV (r : Rnd) : V:=.agg (r.cells.map .d)
def stateF : List Mt → (Int → Bool) → Int → Int
 | [],kn,c=>if kn c then 0 else 2
 | m :: l,kn,c=>if c = m.home then 1 else if c = m.away then -1 else stateF l kn c
theorem stateF_home {kn : Int → Bool} {c : Int} : ∀ {l : List Mt} {i : Nat} (hi : i < l.length),(∀ (j : Nat) (hj : j < l.length),j < i → c ≠ l[j].home ∧ c ≠ l[j].away) → c = l[i].home → stateF l kn c = 1
 | m :: l,0,_,_,h=>by simp only [stateF]; rw [if_pos (by simpa using h)]
 | m :: l,i + 1,hi,hb,h=>by
  have h0:=hb 0 (by simp) (by omega)
  simp only [List.getElem_cons_zero] at h0
  rw [stateF,if_neg h0.1,if_neg h0.2]
  exact stateF_home (i:=i) (by simpa using hi) (fun j hj hji=>hb (j + 1) (by simpa using hj) (by omega)) (by simpa using h)
theorem stateF_away {kn : Int → Bool} {c : Int} : ∀ {l : List Mt} {i : Nat} (hi : i < l.length),(∀ (j : Nat) (hj : j < l.length),j < i → c ≠ l[j].home ∧ c ≠ l[j].away) → c ≠ l[i].home → c = l[i].away → stateF l kn c = -1
 | m :: l,0,_,_,h,h'=>by simp only [stateF]; rw [if_neg (by simpa using h),if_pos (by simpa using h')]
 | m :: l,i + 1,hi,hb,h,h'=>by
  have h0:=hb 0 (by simp) (by omega)
  simp only [List.getElem_cons_zero] at h0
  rw [stateF,if_neg h0.1,if_neg h0.2]
  exact stateF_away (i:=i) (by simpa using hi) (fun j hj hji=>hb (j + 1) (by simpa using hj) (by omega)) (by simpa using h) (by simpa using h')
theorem stateF_none {kn : Int → Bool} {c : Int} : ∀ {l : List Mt},(∀ (j : Nat) (hj : j < l.length),c ≠ l[j].home ∧ c ≠ l[j].away) → stateF l kn c = if kn c then 0 else 2
 | [],_=>rfl
 | m :: l,hb=>by
  have h0:=hb 0 (by simp)
  simp only [List.getElem_cons_zero] at h0
  rw [stateF,if_neg h0.1,if_neg h0.2]
  exact stateF_none (fun j hj=>hb (j + 1) (by simpa using hj))
structure FarS (l : List Mt) (c : Int) where
 i : Nat
 le : i ≤ l.length
 no : ∀ (j : Nat) (hj : j < l.length),j < i → c ≠ l[j].home ∧ c ≠ l[j].away
theorem state_c (r : Rnd) (c : Int) (h : k (I (stateF r.l r.kn c)) L) : CallP C 80 [rndV r,I c] L k:=by
 have hlr:=r.len
 refine CallP.pure ?_ rfl (fun _=>rfl) h
 clear h
 refine callP_of C_ok Tryz.func80 rfl rfl (n:=_) rfl (w18 rfl) (rs:=_) rfl ?_
 conv=>whnf
 refine LoopP.intro (ι:=FarS r.l c) (fun s=>⟨[(1,I c),(2,.ptr 0 0),(8,.d (mts r.l)),(9,I r.l.length),(10,I s.i)],28,[.cells (r.cells.map .d)],[],none⟩) (fun s=>r.l.length - s.i) ⟨0,Nat.zero_le _,fun j _ h=>absurd h (Nat.not_lt_zero j)⟩ ?_ ?_
 ·exact Weak.by ⟨rfl,rfl,rfl,congrArg I (by simp),rfl,trivial⟩
 intro s
 conv=>whnf
 refine w2 (fun h=>?_) (fun h=>?_)
 ·have hi : s.i < r.l.length:=by simpa using h
  repeat' ((conv=>whnf); first|refine w0 ?_|refine w1 ?_|refine w2 (fun h=>?_) (fun h=>?_)|refine w3 ?_|refine w4 (fun h=>?_) (fun h=>?_)|refine w5 _ rfl ?_|refine w6 rfl ?_|refine w7 mixed rfl ?_|refine w11 s.i rfl hi ?_)
  all_goals conv=>whnf
  ·exact FinP.drop (n:=0) rfl (w21 0) rfl rfl ⟨rfl,congrArg I (stateF_home hi s.no h).symm⟩
  ·rename_i h1
   exact FinP.drop (n:=0) rfl (w21 0) rfl rfl ⟨rfl,congrArg I (stateF_away hi s.no h1 h).symm⟩
  ·rename_i h1
   exact ⟨⟨s.i + 1,hi,fun j hj hji=>by
    by_cases e : j = s.i
    ·subst e; exact ⟨h1,h⟩
    ·exact s.no j hj (by omega)⟩,by simp only []; omega,Weak.to 1 rfl (Nat.zero_le _) (Nat.le_of_ble_eq_true rfl) ⟨rfl,rfl,rfl,rfl,congrArg I (by rw [wrap_in (by omega)]; simp only []; omega),trivial⟩⟩
 ·have hi : ¬ s.i < r.l.length:=by simpa using h
  have hs:=stateF_none (kn:=r.kn) (c:=c) (l:=r.l) fun j hj=>s.no j hj (by omega)
  repeat' ((conv=>whnf); first|refine w0 ?_|refine w1 ?_|refine w2 (fun h=>?_) (fun h=>?_)|refine w3 ?_|refine w4 (fun h=>?_) (fun h=>?_)|refine w5 _ rfl ?_|refine w6 rfl ?_|refine w7 mixed rfl ?_|refine r.ok _ _ _ ?_)
  all_goals conv=>whnf
  ·rename_i h1
   exact FinP.drop (n:=0) rfl (Nat.le_refl 0) rfl rfl ⟨rfl,congrArg I (by rw [hs,h]; rfl)⟩
  ·rename_i h1
   exact FinP.drop (n:=0) rfl (Nat.le_refl 0) rfl rfl ⟨rfl,congrArg I (by rw [hs,h]; rfl)⟩
def meetF (l : List Mt) (a b : Int) : Bool:=l.contains ⟨a,b⟩ || l.contains ⟨b,a⟩
theorem meet_c (r : Rnd) (a b : Int) (h : k (B (meetF r.l a b)) L) : CallP C 79 [rndV r,I a,I b] L k:=by
 refine CallP.pure ?_ rfl (fun _=>rfl) h
 clear h
 refine callP_of C_ok Tryz.func79 rfl rfl (n:=_) rfl (w18 rfl) (rs:=_) rfl ?_
 conv=>whnf
 refine mcontains_c r.l ⟨a,b⟩ r.len ?_
 repeat' ((conv=>whnf); first|refine w0 ?_|refine w1 ?_|refine w2 (fun h=>?_) (fun h=>?_)|refine w3 ?_|refine w4 (fun h=>?_) (fun h=>?_)|refine w5 _ rfl ?_|refine w6 rfl ?_|refine w7 mixed rfl ?_|refine mcontains_c r.l ⟨b,a⟩ r.len ?_)
 all_goals conv=>whnf
 all_goals refine w15 (n:=0) rfl (w21 0) rfl rfl ⟨rfl,congrArg B ?_⟩
 all_goals simp_all [meetF]
def atF (r : Rnd) (clubs : List Int) : Nat:=clubs.countP fun c=>decide (stateF r.l r.kn c = 1)
theorem at_c (r : Rnd) (clubs : List Int) (hl : clubs.length ≤ 4611686018427387904) (h : k (I (atF r clubs)) L) : CallP C 130 [rndV r,.d (ints clubs)] L k:=by
 refine CallP.pure ?_ rfl (fun _=>rfl) h
 clear h
 refine callP_of C_ok Tryz.func130 rfl rfl (n:=_) rfl (w18 rfl) (rs:=_) rfl ?_
 conv=>whnf
 refine LoopP.intro (ι:={ j : Nat // j ≤ clubs.length }) (fun j=>⟨[(1,.d (ints clubs)),(2,.ptr 0 0),(4,I (atF r (clubs.take j.1))),(7,.d (ints clubs)),(8,I clubs.length),(9,I j.1)],Tryz.f130.ntmps,[.cells (r.cells.map .d)],[],none⟩) (fun j=>clubs.length - j.1) ⟨0,Nat.zero_le _⟩ ?_ ?_
 ·exact Weak.by ⟨rfl,rfl,rfl,rfl,congrArg I (by simp),rfl,trivial⟩
 rintro ⟨j,hj⟩
 conv=>whnf
 refine w2 (fun hb=>?_) (fun hb=>?_)
 ·have hj' : j < clubs.length:=by simpa using hb
  have hcnt : atF r (clubs.take j) ≤ j:=Nat.le_trans List.countP_le_length (by simp; omega)
  have hw : IntKind.i64.wrap ((j : Int) + 1) = ((j + 1 : Nat) : Int):=by rw [wrap_in (by omega)]; omega
  have hw2 : IntKind.i64.wrap ((atF r (clubs.take j) : Int) + 1) = ((atF r (clubs.take j) + 1 : Nat) : Int):=by rw [wrap_in (by omega)]; omega
  have hnext : atF r (clubs.take (j + 1)) = atF r (clubs.take j) + if stateF r.l r.kn clubs[j] = 1 then 1 else 0:=by
   unfold atF; rw [take_next hj',List.countP_append]; simp [List.countP_cons]
  repeat' ((conv=>whnf); first|refine w0 ?_|refine w1 ?_|refine w2 (fun h=>?_) (fun h=>?_)|refine w3 ?_|refine w4 (fun h=>?_) (fun h=>?_)|refine w5 _ rfl ?_|refine w6 rfl ?_|refine w7 mixed rfl ?_|refine w11 j rfl hj' ?_|refine state_c r _ ?_|refine w12 _ (state_c r _ ⟨rfl,rfl⟩) ?_)
  all_goals conv=>whnf
  ·rw [if_pos h] at hnext
   exact ⟨⟨j + 1,hj'⟩,by simp only []; omega,Weak.by ⟨rfl,rfl,congrArg I (hw2.trans (congrArg Nat.cast hnext.symm)),rfl,rfl,congrArg I hw,trivial⟩⟩
  ·rw [if_neg h] at hnext
   exact ⟨⟨j + 1,hj'⟩,by simp only []; omega,Weak.by ⟨rfl,rfl,congrArg I (congrArg Nat.cast hnext.symm),rfl,rfl,congrArg I hw,trivial⟩⟩
 ·have hje : clubs.take j = clubs:=List.take_of_length_le (by simp at hb; omega)
  repeat' ((conv=>whnf); first|refine w0 ?_|refine w1 ?_|refine w2 (fun h=>?_) (fun h=>?_)|refine w3 ?_|refine w4 (fun h=>?_) (fun h=>?_)|refine w5 _ rfl ?_|refine w6 rfl ?_|refine w7 mixed rfl ?_)
  conv=>whnf
  exact FinP.drop (n:=0) rfl (Nat.le_refl 0) rfl rfl ⟨rfl,congrArg I (by simp only [hje])⟩
end Go.Proofs.YtndlggbljkhfbaaGreat
namespace Go.Proofs.YtndlggbljkhfbaaGreat
open Go.Tidy
variable {L : List Blk} {k : V → List Blk → Prop}
structure Cnd (p : Pl) where
 f : FuncId
 caps : List D
 q : Dm → Bool
 ok : ∀ (d : Dm) (hd : d.clubs.length ≤ 4611686018427387904) (L : List Blk) (k : V → List Blk → Prop),k (B (q d)) L → CallP C f ([dmV d,plV p] ++ caps.map .d) L k
def cndsD {p : Pl} (fs : List (Cnd p)) : D:=.sl (fs.map fun f=>[.fn f.f f.caps])
def zeroF (d : Dm) : Bool:=decide (d.club = 0 ∧ d.other = 0 ∧ d.round = 0 ∧ d.n = 0 ∧ d.clubs.length = 0)
theorem all_c (clr : FuncId) (fs : D) (h : k (.d (.fn 123 [.rptr [fs],.rptr [.fn clr []]])) L) : CallP C 68 [.d (.fn clr []),.d fs] L k:=by
 refine CallP.pure ?_ rfl (fun _=>rfl) h
 clear h
 refine callP_of C_ok Tryz.func68 rfl rfl (n:=_) rfl (w18 rfl) (rs:=_) rfl ?_
 repeat' ((conv=>whnf); first|refine w0 ?_|refine w1 ?_|refine w2 (fun h=>?_) (fun h=>?_)|refine w3 ?_|refine w4 (fun h=>?_) (fun h=>?_)|refine w5 _ rfl ?_|refine w6 rfl ?_|refine w7 mixed rfl ?_)
 conv=>whnf
 exact FinP.data (L':=[]) (.d (.fnL (.cons (.ptrL (w22 _) rfl (.cons (.d _) .nil)) (.cons (.ptrL (w22 _) rfl (.cons (.d _) .nil)) .nil)))) rfl rfl ⟨rfl,rfl⟩
theorem within_c (a b : Int) (h : k (.d (.fn 124 [.rptr [DI a],.rptr [DI b]])) L) : CallP C 75 [I a,I b] L k:=by
 refine CallP.pure ?_ rfl (fun _=>rfl) h
 clear h
 refine callP_of C_ok Tryz.func75 rfl rfl (n:=_) rfl (w18 rfl) (rs:=_) rfl ?_
 repeat' ((conv=>whnf); first|refine w0 ?_|refine w1 ?_|refine w2 (fun h=>?_) (fun h=>?_)|refine w3 ?_|refine w4 (fun h=>?_) (fun h=>?_)|refine w5 _ rfl ?_|refine w6 rfl ?_|refine w7 mixed rfl ?_)
 conv=>whnf
 exact FinP.data (L':=[]) (.d (.fnL (.cons (.ptrL (w22 _) rfl (.cons (.d _) .nil)) (.cons (.ptrL (w22 _) rfl (.cons (.d _) .nil)) .nil)))) rfl rfl ⟨rfl,rfl⟩
theorem does_c (a : Int) (h : k (.d (.fn 125 [.rptr [DI a]])) L) : CallP C 76 [I a] L k:=by
 refine CallP.pure ?_ rfl (fun _=>rfl) h
 clear h
 refine callP_of C_ok Tryz.func76 rfl rfl (n:=_) rfl (w18 rfl) (rs:=_) rfl ?_
 repeat' ((conv=>whnf); first|refine w0 ?_|refine w1 ?_|refine w2 (fun h=>?_) (fun h=>?_)|refine w3 ?_|refine w4 (fun h=>?_) (fun h=>?_)|refine w5 _ rfl ?_|refine w6 rfl ?_|refine w7 mixed rfl ?_)
 conv=>whnf
 exact FinP.data (L':=[]) (.d (.fnL (.cons (.ptrL (w22 _) rfl (.cons (.d _) .nil)) .nil))) rfl rfl ⟨rfl,rfl⟩
structure FarA {p : Pl} (fs : List (Cnd p)) (d : Dm) where
 i : Nat
 le : i ≤ fs.length
 ok : ∀ (j : Nat) (hj : j < fs.length),j < i → (fs[j]).q d = true
theorem all1_c (p : Pl) (clr : FuncId) (c : Dm → Dm) (hc : ∀ d : Dm,CallP C clr [.ptr 0 0] [.cells (d.cells.map .d)] fun X L'=>L' = [.cells ((c d).cells.map .d)] ∧ X = .tup []) (fs : List (Cnd p)) (hl : fs.length ≤ 4611686018427387904) (d : Dm) (hd : d.clubs.length ≤ 4611686018427387904)
  (h : k (B ((fs.all fun f=>f.q d) && zeroF (c { d with kind:=0 }))) L) : CallP C 123 [dmV d,plV p,.d (.rptr [cndsD fs]),.d (.rptr [.fn clr []])] L k:=by
 refine CallP.pure ?_ rfl (fun _=>rfl) h
 clear h
 refine callP_of C_ok Tryz.func123 rfl rfl (n:=_) rfl (w18 rfl) (rs:=_) rfl ?_
 conv=>whnf
 refine LoopP.intro (ι:=FarA fs d) (fun s=>⟨[(3,.d (.rptr [.fn clr []])),(4,.ptr 0 0),(5,.ptr 1 0),(9,.d (cndsD fs)),(10,I fs.length),(11,I s.i)],Tryz.f123.ntmps,[.cells (d.cells.map .d),.cells (p.cells.map .d)],[],none⟩) (fun s=>fs.length - s.i) ⟨0,Nat.zero_le _,fun j _ h=>absurd h (Nat.not_lt_zero j)⟩ ?_ ?_
 ·exact Weak.by ⟨rfl,rfl,rfl,rfl,congrArg I (by simp),rfl,trivial⟩
 intro s
 conv=>whnf
 refine w2 (fun h=>?_) (fun h=>?_)
 ·have hi : s.i < fs.length:=by simpa using h
  repeat' ((conv=>whnf); first|refine w0 ?_|refine w1 ?_|refine w2 (fun h=>?_) (fun h=>?_)|refine w3 ?_|refine w4 (fun h=>?_) (fun h=>?_)|refine w5 _ rfl ?_|refine w6 rfl ?_|refine w7 mixed rfl ?_|refine w11 s.i rfl hi ?_|refine (fs[s.i]).ok d hd _ _ ?_|refine w12 _ ((fs[s.i]).ok d hd _ _ ⟨rfl,rfl⟩) ?_)
  all_goals conv=>whnf
  ·exact ⟨⟨s.i + 1,hi,fun j hj hji=>by
    by_cases e : j = s.i
    ·subst e; exact h
    ·exact s.ok j hj (by omega)⟩,by simp only []; omega,Weak.by ⟨rfl,rfl,rfl,rfl,rfl,congrArg I (by rw [wrap_in (by omega)]; simp only []; omega),trivial⟩⟩
  ·have hno : (fs.all fun f=>f.q d) = false:=by
    rw [List.all_eq_false]; exact ⟨fs[s.i],List.getElem_mem hi,by simp [h]⟩
   exact FinP.drop (n:=0) rfl (Nat.le_refl 0) rfl rfl ⟨rfl,congrArg B (by rw [hno]; rfl)⟩
 ·have hi : ¬ s.i < fs.length:=by simpa using h
  have hall : (fs.all fun f=>f.q d) = true:=List.all_eq_true.2 fun f hf=>by
   obtain ⟨j,hj,rfl⟩:=List.getElem_of_mem hf
   exact s.ok j hj (by omega)
  have hgo : ∀ b,b = zeroF (c { d with kind:=0 }) → b = ((fs.all fun f=>f.q d) && zeroF (c { d with kind:=0 })):=fun b hb=>by rw [hall,hb]; rfl
  repeat' ((conv=>whnf); first|refine w0 ?_|refine w1 ?_|refine w2 (fun h=>?_) (fun h=>?_)|refine w3 ?_|refine w4 (fun h=>?_) (fun h=>?_)|refine w5 _ rfl ?_|refine w6 rfl ?_|refine w7 mixed rfl ?_)
  conv=>whnf
  refine (hc { d with kind:=0 }).at1 (b:=0) rfl rfl rfl rfl ?_ rfl rfl rfl
  generalize c { d with kind:=0 } = e at hgo
  repeat' ((conv=>whnf); first|refine w0 ?_|refine w1 ?_|refine w2 (fun h=>?_) (fun h=>?_)|refine w3 ?_|refine w4 (fun h=>?_) (fun h=>?_)|refine w5 _ rfl ?_|refine w6 rfl ?_|refine w7 mixed rfl ?_)
  all_goals conv=>whnf
  all_goals refine w15 (n:=0) rfl (w21 0) rfl rfl ⟨rfl,congrArg B (hgo _ ?_)⟩
  all_goals unfold zeroF
  all_goals first | exact (decide_eq_false (fun hh=>by omega)).symm | exact decide_eq_decide.2 (by simp only [List.length_map]; omega)
def nilC (d : Dm) : List V:=[I d.kind,I d.club,I d.other,I d.round,I d.n,.nil]
theorem all1n_c (p : Pl) (clr : FuncId) (c : Dm → Dm) (hc : ∀ d : Dm,CallP C clr [.ptr 0 0] [.cells (d.cells.map .d)] fun X L'=>L' = [.cells (nilC (c d))] ∧ X = .tup []) (hn : ∀ d,(c d).clubs = []) (fs : List (Cnd p)) (hl : fs.length ≤ 4611686018427387904) (d : Dm) (hd : d.clubs.length ≤ 4611686018427387904)
  (h : k (B ((fs.all fun f=>f.q d) && zeroF (c { d with kind:=0 }))) L) : CallP C 123 [dmV d,plV p,.d (.rptr [cndsD fs]),.d (.rptr [.fn clr []])] L k:=by
 refine CallP.pure ?_ rfl (fun _=>rfl) h
 clear h
 refine callP_of C_ok Tryz.func123 rfl rfl (n:=_) rfl (w18 rfl) (rs:=_) rfl ?_
 conv=>whnf
 refine LoopP.intro (ι:=FarA fs d) (fun s=>⟨[(3,.d (.rptr [.fn clr []])),(4,.ptr 0 0),(5,.ptr 1 0),(9,.d (cndsD fs)),(10,I fs.length),(11,I s.i)],Tryz.f123.ntmps,[.cells (d.cells.map .d),.cells (p.cells.map .d)],[],none⟩) (fun s=>fs.length - s.i) ⟨0,Nat.zero_le _,fun j _ h=>absurd h (Nat.not_lt_zero j)⟩ ?_ ?_
 ·exact Weak.by ⟨rfl,rfl,rfl,rfl,congrArg I (by simp),rfl,trivial⟩
 intro s
 conv=>whnf
 refine w2 (fun h=>?_) (fun h=>?_)
 ·have hi : s.i < fs.length:=by simpa using h
  repeat' ((conv=>whnf); first|refine w0 ?_|refine w1 ?_|refine w2 (fun h=>?_) (fun h=>?_)|refine w3 ?_|refine w4 (fun h=>?_) (fun h=>?_)|refine w5 _ rfl ?_|refine w6 rfl ?_|refine w7 mixed rfl ?_|refine w11 s.i rfl hi ?_|refine (fs[s.i]).ok d hd _ _ ?_|refine w12 _ ((fs[s.i]).ok d hd _ _ ⟨rfl,rfl⟩) ?_)
  all_goals conv=>whnf
  ·exact ⟨⟨s.i + 1,hi,fun j hj hji=>by
    by_cases e : j = s.i
    ·subst e; exact h
    ·exact s.ok j hj (by omega)⟩,by simp only []; omega,Weak.by ⟨rfl,rfl,rfl,rfl,rfl,congrArg I (by rw [wrap_in (by omega)]; simp only []; omega),trivial⟩⟩
  ·have hno : (fs.all fun f=>f.q d) = false:=by
    rw [List.all_eq_false]; exact ⟨fs[s.i],List.getElem_mem hi,by simp [h]⟩
   exact FinP.drop (n:=0) rfl (Nat.le_refl 0) rfl rfl ⟨rfl,congrArg B (by rw [hno]; rfl)⟩
 ·have hi : ¬ s.i < fs.length:=by simpa using h
  have hall : (fs.all fun f=>f.q d) = true:=List.all_eq_true.2 fun f hf=>by
   obtain ⟨j,hj,rfl⟩:=List.getElem_of_mem hf
   exact s.ok j hj (by omega)
  have hgo : ∀ b,b = zeroF (c { d with kind:=0 }) → b = ((fs.all fun f=>f.q d) && zeroF (c { d with kind:=0 })):=fun b hb=>by rw [hall,hb]; rfl
  repeat' ((conv=>whnf); first|refine w0 ?_|refine w1 ?_|refine w2 (fun h=>?_) (fun h=>?_)|refine w3 ?_|refine w4 (fun h=>?_) (fun h=>?_)|refine w5 _ rfl ?_|refine w6 rfl ?_|refine w7 mixed rfl ?_)
  conv=>whnf
  refine (hc { d with kind:=0 }).at1 (b:=0) rfl rfl rfl rfl ?_ rfl rfl rfl
  have hne:=hn { d with kind:=0 }
  generalize c { d with kind:=0 } = e at hgo hne
  repeat' ((conv=>whnf); first|refine w0 ?_|refine w1 ?_|refine w2 (fun h=>?_) (fun h=>?_)|refine w3 ?_|refine w4 (fun h=>?_) (fun h=>?_)|refine w5 _ rfl ?_|refine w6 rfl ?_|refine w7 mixed rfl ?_)
  all_goals conv=>whnf
  all_goals refine w15 (n:=0) rfl (w21 0) rfl rfl ⟨rfl,congrArg B (hgo _ ?_)⟩
  all_goals unfold zeroF
  all_goals have hlen : e.clubs.length = 0:=by rw [hne]; rfl
  all_goals first | exact (decide_eq_true (by omega)).symm | exact (decide_eq_false (fun hh=>by omega)).symm | exact decide_eq_decide.2 (by simp only [List.length_map]; omega)
theorem clr1_c (d : Dm) : CallP C 69 [.ptr 0 0] [.cells (d.cells.map .d)] fun X L'=>L' = [.cells (({ d with club:=0,round:=0 } : Dm).cells.map .d)] ∧ X = .tup []:=by
 refine callP_of C_ok Tryz.func69 rfl rfl (n:=_) rfl (w18 rfl) (rs:=_) rfl ?_
 repeat' ((conv=>whnf); first|refine w0 ?_|refine w1 ?_|refine w2 (fun h=>?_) (fun h=>?_)|refine w3 ?_|refine w4 (fun h=>?_) (fun h=>?_)|refine w5 _ rfl ?_|refine w6 rfl ?_|refine w7 mixed rfl ?_|refine w15 (n:=1) rfl (w21 1) rfl rfl ⟨rfl,rfl⟩)
theorem clr2_c (d : Dm) : CallP C 72 [.ptr 0 0] [.cells (d.cells.map .d)] fun X L'=>L' = [.cells (({ d with club:=0,other:=0,round:=0 } : Dm).cells.map .d)] ∧ X = .tup []:=by
 refine callP_of C_ok Tryz.func72 rfl rfl (n:=_) rfl (w18 rfl) (rs:=_) rfl ?_
 repeat' ((conv=>whnf); first|refine w0 ?_|refine w1 ?_|refine w2 (fun h=>?_) (fun h=>?_)|refine w3 ?_|refine w4 (fun h=>?_) (fun h=>?_)|refine w5 _ rfl ?_|refine w6 rfl ?_|refine w7 mixed rfl ?_|refine w15 (n:=1) rfl (w21 1) rfl rfl ⟨rfl,rfl⟩)
theorem clr3_c (d : Dm) : CallP C 74 [.ptr 0 0] [.cells (d.cells.map .d)] fun X L'=>L' = [.cells (({ d with club:=0,n:=0 } : Dm).cells.map .d)] ∧ X = .tup []:=by
 refine callP_of C_ok Tryz.func74 rfl rfl (n:=_) rfl (w18 rfl) (rs:=_) rfl ?_
 repeat' ((conv=>whnf); first|refine w0 ?_|refine w1 ?_|refine w2 (fun h=>?_) (fun h=>?_)|refine w3 ?_|refine w4 (fun h=>?_) (fun h=>?_)|refine w5 _ rfl ?_|refine w6 rfl ?_|refine w7 mixed rfl ?_|refine w15 (n:=1) rfl (w21 1) rfl rfl ⟨rfl,rfl⟩)
theorem clr6_c (d : Dm) : CallP C 82 [.ptr 0 0] [.cells (d.cells.map .d)] fun X L'=>L' = [.cells (nilC ({ d with clubs:=[] } : Dm))] ∧ X = .tup []:=by
 refine callP_of C_ok Tryz.func82 rfl rfl (n:=_) rfl (w18 rfl) (rs:=_) rfl ?_
 repeat' ((conv=>whnf); first|refine w0 ?_|refine w1 ?_|refine w2 (fun h=>?_) (fun h=>?_)|refine w3 ?_|refine w4 (fun h=>?_) (fun h=>?_)|refine w5 _ rfl ?_|refine w6 rfl ?_|refine w7 mixed rfl ?_|refine w15 (n:=1) rfl (w21 1) rfl rfl ⟨rfl,rfl⟩)
theorem clr8_c (d : Dm) : CallP C 86 [.ptr 0 0] [.cells (d.cells.map .d)] fun X L'=>L' = [.cells (nilC ({ d with clubs:=[],n:=0 } : Dm))] ∧ X = .tup []:=by
 refine callP_of C_ok Tryz.func86 rfl rfl (n:=_) rfl (w18 rfl) (rs:=_) rfl ?_
 repeat' ((conv=>whnf); first|refine w0 ?_|refine w1 ?_|refine w2 (fun h=>?_) (fun h=>?_)|refine w3 ?_|refine w4 (fun h=>?_) (fun h=>?_)|refine w5 _ rfl ?_|refine w6 rfl ?_|refine w7 mixed rfl ?_|refine w15 (n:=1) rfl (w21 1) rfl rfl ⟨rfl,rfl⟩)
theorem clr10_c (d : Dm) : CallP C 88 [.ptr 0 0] [.cells (d.cells.map .d)] fun X L'=>L' = [.cells (({ d with club:=0,other:=0,n:=0 } : Dm).cells.map .d)] ∧ X = .tup []:=by
 refine callP_of C_ok Tryz.func88 rfl rfl (n:=_) rfl (w18 rfl) (rs:=_) rfl ?_
 repeat' ((conv=>whnf); first|refine w0 ?_|refine w1 ?_|refine w2 (fun h=>?_) (fun h=>?_)|refine w3 ?_|refine w4 (fun h=>?_) (fun h=>?_)|refine w5 _ rfl ?_|refine w6 rfl ?_|refine w7 mixed rfl ?_|refine w15 (n:=1) rfl (w21 1) rfl rfl ⟨rfl,rfl⟩)
end Go.Proofs.YtndlggbljkhfbaaGreat
namespace Go.Proofs.YtndlggbljkhfbaaGreat
open Go.Tidy
variable {L : List Blk} {k : V → List Blk → Prop}
def allD (clr : FuncId) (fs : List D) : D:=.fn 123 [.rptr [.sl (fs.map fun f=>[f])],.rptr [.fn clr []]]
def doesD (n : Int) : D:=.fn 125 [.rptr [DI n]]
def withinD (a b : Int) : D:=.fn 124 [.rptr [DI a],.rptr [DI b]]
def one : D:=allD 69 [.fn 70 [],.fn 71 []]
def two : D:=allD 72 [.fn 70 [],.fn 73 [],.fn 71 []]
def count : D:=allD 74 [.fn 70 [],withinD 0 46]
def kindsMap : List (V × V):=[(I 1,.agg [.d one,.d (doesD 1)]),(I 2,.agg [.d one,.d (doesD (-1))]),(I 3,.agg [.d one,.d (doesD 0)]),
 (I 4,.agg [.d two,.fn 77 []]),(I 5,.agg [.d two,.fn 81 []]),
 (I 6,.agg [.d (allD 82 [.fn 83 []]),.fn 84 []]),(I 7,.agg [.d (allD 86 [.fn 83 [],withinD 0 24]),.fn 87 []]),
 (I 8,.agg [.d (allD 88 [.fn 70 [],.fn 73 [],withinD 1 46]),.fn 89 []]),(I 9,.agg [.d count,.fn 90 []]),(I 10,.agg [.d count,.fn 91 []])]
theorem kinds_c : CallP C 35 [] [] fun X L=>L = [.map kindsMap] ∧ X = .map 0:=by
 refine callP_of C_ok Tryz.func35 rfl rfl (n:=_) rfl (w18 rfl) (rs:=_) rfl ?_
 repeat' ((conv=>whnf); first|refine w0 ?_|refine w1 ?_|refine w2 (fun h=>?_) (fun h=>?_)|refine w3 ?_|refine w4 (fun h=>?_) (fun h=>?_)|refine w5 _ rfl ?_|refine w6 rfl ?_|refine w7 mixed rfl ?_)
 conv=>whnf
 refine CallP.freeze [0] rfl rfl (.cv (.d (.fnL .nil)) (.cv (.d (.rowL (.head _) rfl (.cons (.cons (.fnL .nil) .nil) (.cons (.cons (.fnL .nil) .nil) .nil)) rfl (by simp))) .nil)) (all_c _ _ ?_)
 repeat' ((conv=>whnf); first|refine w0 ?_|refine w1 ?_|refine w2 (fun h=>?_) (fun h=>?_)|refine w3 ?_|refine w4 (fun h=>?_) (fun h=>?_)|refine w5 _ rfl ?_|refine w6 rfl ?_|refine w7 mixed rfl ?_)
 conv=>whnf
 refine CallP.freeze [1] rfl rfl (.cv (.d (.fnL .nil)) (.cv (.d (.rowL (.head _) rfl (.cons (.cons (.fnL .nil) .nil) (.cons (.cons (.fnL .nil) .nil) (.cons (.cons (.fnL .nil) .nil) .nil))) rfl (by simp))) .nil)) (all_c _ _ ?_)
 repeat' ((conv=>whnf); first|refine w0 ?_|refine w1 ?_|refine w2 (fun h=>?_) (fun h=>?_)|refine w3 ?_|refine w4 (fun h=>?_) (fun h=>?_)|refine w5 _ rfl ?_|refine w6 rfl ?_|refine w7 mixed rfl ?_|refine within_c _ _ ?_|refine w12 _ (within_c _ _ ⟨rfl,rfl⟩) ?_)
 conv=>whnf
 refine CallP.freeze [2] rfl rfl (.cv (.d (.fnL .nil)) (.cv (.d (.rowL (.head _) rfl (.cons (.cons (.fnL .nil) .nil) (.cons (.cons (.d _) .nil) .nil)) rfl (by simp))) .nil)) (all_c _ _ ?_)
 repeat' ((conv=>whnf); first|refine w0 ?_|refine w1 ?_|refine w2 (fun h=>?_) (fun h=>?_)|refine w3 ?_|refine w4 (fun h=>?_) (fun h=>?_)|refine w5 _ rfl ?_|refine w6 rfl ?_|refine w7 mixed rfl ?_|refine within_c _ _ ?_|refine does_c _ ?_|refine MapF.miss (by simp [keyV,keyTK]) (by simp) ?_)
 conv=>whnf
 refine CallP.freeze [4] rfl rfl (.cv (.d (.fnL .nil)) (.cv (.d (.rowL (.head _) rfl (.cons (.cons (.fnL .nil) .nil) .nil) rfl (by simp))) .nil)) (all_c _ _ ?_)
 repeat' ((conv=>whnf); first|refine w0 ?_|refine w1 ?_|refine w2 (fun h=>?_) (fun h=>?_)|refine w3 ?_|refine w4 (fun h=>?_) (fun h=>?_)|refine w5 _ rfl ?_|refine w6 rfl ?_|refine w7 mixed rfl ?_|refine within_c _ _ ?_|refine does_c _ ?_|refine MapF.miss (by simp [keyV,keyTK]) (by simp) ?_)
 conv=>whnf
 refine CallP.freeze [5] rfl rfl (.cv (.d (.fnL .nil)) (.cv (.d (.rowL (.head _) rfl (.cons (.cons (.fnL .nil) .nil) (.cons (.cons (.d _) .nil) .nil)) rfl (by simp))) .nil)) (all_c _ _ ?_)
 repeat' ((conv=>whnf); first|refine w0 ?_|refine w1 ?_|refine w2 (fun h=>?_) (fun h=>?_)|refine w3 ?_|refine w4 (fun h=>?_) (fun h=>?_)|refine w5 _ rfl ?_|refine w6 rfl ?_|refine w7 mixed rfl ?_|refine within_c _ _ ?_|refine does_c _ ?_|refine MapF.miss (by simp [keyV,keyTK]) (by simp) ?_)
 conv=>whnf
 refine CallP.freeze [6] rfl rfl (.cv (.d (.fnL .nil)) (.cv (.d (.rowL (.head _) rfl (.cons (.cons (.fnL .nil) .nil) (.cons (.cons (.fnL .nil) .nil) (.cons (.cons (.d _) .nil) .nil))) rfl (by simp))) .nil)) (all_c _ _ ?_)
 repeat' ((conv=>whnf); first|refine w0 ?_|refine w1 ?_|refine w2 (fun h=>?_) (fun h=>?_)|refine w3 ?_|refine w4 (fun h=>?_) (fun h=>?_)|refine w5 _ rfl ?_|refine w6 rfl ?_|refine w7 mixed rfl ?_|refine within_c _ _ ?_|refine does_c _ ?_|refine MapF.miss (by simp [keyV,keyTK]) (by simp) ?_)
 conv=>whnf
 exact FinP.part [3] [.map kindsMap] (Part.one rfl rfl rfl rfl) (fun b hb=>absurd hb (Nat.not_lt_zero b)) (X':=.map 0) rfl rfl ⟨rfl,rfl⟩
end Go.Proofs.YtndlggbljkhfbaaGreat
namespace Go.Proofs.YtndlggbljkhfbaaGreat
open Go.Tidy
variable {L : List Blk} {k : V → List Blk → Prop}
def incrP (P : Int → Bool) : List Int → Bool
 | []=>true
 | [c]=>P c
 | c :: d :: r=>P c && decide (c < d) && incrP P (d :: r)
def okAtP (P : Int → Bool) (l : List Int) (j : Nat) : Prop:=∀ c,l[j]? = some c → P c = true ∧ (∀ d,0 < j → l[j - 1]? = some d → d < c)
theorem incrP_iff (P : Int → Bool) : ∀ l : List Int,incrP P l = true ↔ ∀ j,okAtP P l j
 | []=>by simp [incrP,okAtP]
 | [c]=>by
  simp only [incrP]
  refine ⟨fun h j x hx=>?_,fun h=>(h 0 c rfl).1⟩
  cases j with
  | zero=>simp at hx; subst hx; exact ⟨h,fun d hd=>absurd hd (by omega)⟩
  | succ j=>simp at hx
 | c :: d :: r=>by
  simp only [incrP,Bool.and_eq_true,decide_eq_true_eq]
  rw [incrP_iff P (d :: r)]
  constructor
  ·rintro ⟨⟨h1,h2⟩,h3⟩ j x hx
   cases j with
   | zero=>simp at hx; subst hx; exact ⟨h1,fun d hd=>absurd hd (by omega)⟩
   | succ j =>
    have:=h3 j x (by simpa using hx)
    refine ⟨this.1,fun y _ hy=>?_⟩
    cases j with
    | zero=>simp at hx hy; subst hx hy; exact h2
    | succ j=>exact this.2 y (by omega) (by simpa using hy)
  ·intro h
   refine ⟨⟨(h 0 c rfl).1,?_⟩,fun j x hx=>⟨(h (j + 1) x (by simpa using hx)).1,fun y hj hy=>?_⟩⟩
   ·exact (h 1 d rfl).2 c (by omega) rfl
   ·refine (h (j + 1) x (by simpa using hx)).2 y (by omega) ?_
    cases j with
    | zero=>omega
    | succ j=>simpa using hy
theorem okAtP_at {P : Int → Bool} {l : List Int} {j : Nat} (hj : j < l.length) : okAtP P l j ↔ P l[j] = true ∧ ∀ h : 0 < j,l[j - 1]'(by omega) < l[j]:=by
 refine ⟨fun h=>⟨(h _ (List.getElem?_eq_getElem hj)).1,fun h0=>(h _ (List.getElem?_eq_getElem hj)).2 _ h0 (List.getElem?_eq_getElem (by omega))⟩,fun h c hc=>?_⟩
 rw [List.getElem?_eq_getElem hj] at hc
 cases hc
 refine ⟨h.1,fun d h0 hd=>?_⟩
 rw [List.getElem?_eq_getElem (by omega)] at hd
 cases hd
 exact h.2 h0
def someF (P : Int → Bool) (l : List Int) : Bool:=incrP P l && decide (2 ≤ l.length)
theorem someF_no {P : Int → Bool} {l : List Int} {j : Nat} (h : ¬ okAtP P l j) : false = someF P l:=by
 unfold someF
 cases e : incrP P l with
 | false=>rfl
 | true=>exact absurd ((incrP_iff P l).1 e j) h
structure FarP (P : Int → Bool) (l : List Int) where
 i : Nat
 le : i ≤ l.length
 ok : ∀ j,j < i → okAtP P l j
def FarP.zero (P : Int → Bool) (l : List Int) : FarP P l:=⟨0,Nat.zero_le _,fun j h=>absurd h (Nat.not_lt_zero j)⟩
def FarP.next {P : Int → Bool} {l : List Int} (s : FarP P l) (h : s.i < l.length) (hp : okAtP P l s.i) : FarP P l :=
 ⟨s.i + 1,h,fun j hj=>by
  by_cases e : j = s.i
  ·subst e; exact hp
  ·exact s.ok j (by omega)⟩
theorem FarP.all {P : Int → Bool} {l : List Int} (s : FarP P l) (h : ¬ s.i < l.length) : incrP P l = true:=(incrP_iff P l).2 fun j=>by
 by_cases hj : j < s.i
 ·exact s.ok j hj
 ·intro c hc; have:=lt_of_get hc; omega
theorem hasClubs_c (d : Dm) (p : Pl) (hl : p.clubs.length ≤ 4611686018427387904) (hd : d.clubs.length ≤ 4611686018427387904) (h : k (B (someF p.clubs.contains d.clubs)) L) : CallP C 83 [dmV d,plV p] L k:=by
 refine CallP.pure ?_ rfl (fun _=>rfl) h
 clear h
 refine callP_of C_ok Tryz.func83 rfl rfl (n:=_) rfl (w18 rfl) (rs:=_) rfl ?_
 conv=>whnf
 refine LoopP.intro (ι:=FarP p.clubs.contains d.clubs) (fun s=>⟨[(2,.ptr 0 0),(3,.ptr 1 0),(4,B false),(8,.d (ints d.clubs)),(9,I d.clubs.length),(10,I s.i)],Tryz.f83.ntmps,[.cells (d.cells.map .d),.cells (p.cells.map .d)],[],none⟩) (fun s=>d.clubs.length - s.i) (FarP.zero _ _) ?_ ?_
 ·exact Weak.by ⟨rfl,rfl,rfl,rfl,congrArg I (by simp),rfl,trivial⟩
 intro s
 conv=>whnf
 refine w2 (fun h=>?_) (fun h=>?_)
 ·have hi : s.i < d.clubs.length:=by simpa using h
  have hmi : 0 < s.i → IntKind.i64.wrap ((s.i : Int) - 1) = ((s.i - 1 : Nat) : Int):=fun h=>by rw [wrap_in (by omega)]; omega
  repeat' ((conv=>whnf); first|refine w0 ?_|refine w1 ?_|refine w2 (fun h=>?_) (fun h=>?_)|refine w3 ?_|refine w4 (fun h=>?_) (fun h=>?_)|refine w5 _ rfl ?_|refine w6 rfl ?_|refine w7 mixed rfl ?_|refine w11 s.i rfl hi ?_|refine contains_c p.clubs _ hl ?_|refine w12 _ (contains_c p.clubs _ hl ⟨rfl,rfl⟩) ?_|refine w11 (s.i - 1) (by rw [wrap_id] <;> omega) (by omega) ?_)
  all_goals conv=>whnf
  ·exact FinP.drop (n:=0) rfl (w21 0) rfl rfl ⟨rfl,congrArg B (someF_no (j:=s.i) fun ho=>by have:=((okAtP_at hi).1 ho).2 (by omega); omega)⟩
  ·rename_i h2 h1
   exact ⟨s.next hi ((okAtP_at hi).2 ⟨h2,fun _=>by omega⟩),by simp only [FarP.next]; omega,Weak.by ⟨rfl,rfl,rfl,rfl,rfl,congrArg I (by rw [wrap_id] <;> (try simp only [FarP.next]) <;> omega),trivial⟩⟩
  ·rename_i h2
   exact ⟨s.next hi ((okAtP_at hi).2 ⟨h2,fun _=>by omega⟩),by simp only [FarP.next]; omega,Weak.by ⟨rfl,rfl,rfl,rfl,rfl,congrArg I (by rw [wrap_id] <;> (try simp only [FarP.next]) <;> omega),trivial⟩⟩
  ·exact FinP.drop (n:=0) rfl (Nat.le_refl 0) rfl rfl ⟨rfl,congrArg B (someF_no (j:=s.i) fun ho=>by rw [((okAtP_at hi).1 ho).1] at h; cases h)⟩
 ·have hi : ¬ s.i < d.clubs.length:=by simpa using h
  have hall:=s.all hi
  repeat' ((conv=>whnf); first|refine w0 ?_|refine w1 ?_|refine w2 (fun h=>?_) (fun h=>?_)|refine w3 ?_|refine w4 (fun h=>?_) (fun h=>?_)|refine w5 _ rfl ?_|refine w6 rfl ?_|refine w7 mixed rfl ?_)
  conv=>whnf
  refine w15 (n:=0) rfl (w21 0) rfl rfl ⟨rfl,congrArg B ?_⟩
  rw [someF,hall,Bool.true_and]
  exact decide_eq_decide.2 (by simp only [List.length_map]; omega)
def qClub (p : Pl) (d : Dm) : Bool:=p.clubs.contains d.club
def qOther (p : Pl) (d : Dm) : Bool:=p.clubs.contains d.other && decide (d.other ≠ d.club)
def qRound (p : Pl) (d : Dm) : Bool:=decide (0 ≤ d.round ∧ d.round < roundsN p)
def qClubs (p : Pl) (d : Dm) : Bool:=someF p.clubs.contains d.clubs
def qN (a b : Int) (d : Dm) : Bool:=decide (a ≤ d.n ∧ d.n ≤ b)
def v1 (p : Pl) (d : Dm) : Bool:=(qClub p d && (qRound p d && true)) && zeroF { d with kind:=0,club:=0,round:=0 }
def v4 (p : Pl) (d : Dm) : Bool:=(qClub p d && (qOther p d && (qRound p d && true))) && zeroF { d with kind:=0,club:=0,other:=0,round:=0 }
def v6 (p : Pl) (d : Dm) : Bool:=(qClubs p d && true) && zeroF { d with kind:=0,clubs:=[] }
def v7 (p : Pl) (d : Dm) : Bool:=(qClubs p d && (qN 0 24 d && true)) && zeroF { d with kind:=0,clubs:=[],n:=0 }
def v8 (p : Pl) (d : Dm) : Bool:=(qClub p d && (qOther p d && (qN 1 46 d && true))) && zeroF { d with kind:=0,club:=0,other:=0,n:=0 }
def v9 (p : Pl) (d : Dm) : Bool:=(qClub p d && (qN 0 46 d && true)) && zeroF { d with kind:=0,club:=0,n:=0 }
def validF (p : Pl) (d : Dm) : Bool :=
 if d.kind = 1 ∨ d.kind = 2 ∨ d.kind = 3 then v1 p d else if d.kind = 4 ∨ d.kind = 5 then v4 p d else if d.kind = 6 then v6 p d else if d.kind = 7 then v7 p d
 else if d.kind = 8 then v8 p d else if d.kind = 9 ∨ d.kind = 10 then v9 p d else false
section
variable (p : Pl) (hp : 1 ≤ p.clubs.length ∧ p.clubs.length ≤ 1000)
def cClub : Cnd p:=⟨70,[],qClub p,fun d hd L k h=>hasClub_c d p (by omega) h⟩
def cOther : Cnd p:=⟨73,[],qOther p,fun d hd L k h=>hasOther_c d p (by omega) h⟩
def cRound : Cnd p:=⟨71,[],qRound p,fun d hd L k h=>hasRound_c d p hp h⟩
def cClubs : Cnd p:=⟨83,[],qClubs p,fun d hd L k h=>hasClubs_c d p (by omega) hd h⟩
def cN (a b : Int) : Cnd p:=⟨124,[.rptr [DI a],.rptr [DI b]],qN a b,fun d hd L k h=>within1_c d p a b h⟩
include hp
theorem valid1_c (d : Dm) (hd : d.clubs.length ≤ 4611686018427387904) (h : k (B (v1 p d)) L) : CallP C 123 ([dmV d,plV p] ++ [D.rptr [.sl [[.fn 70 []],[.fn 71 []]]],.rptr [.fn 69 []]].map .d) L k :=
 all1_c p _ _ clr1_c [cClub p hp,cRound p hp] (by simp) d hd h
theorem valid4_c (d : Dm) (hd : d.clubs.length ≤ 4611686018427387904) (h : k (B (v4 p d)) L) : CallP C 123 ([dmV d,plV p] ++ [D.rptr [.sl [[.fn 70 []],[.fn 73 []],[.fn 71 []]]],.rptr [.fn 72 []]].map .d) L k :=
 all1_c p _ _ clr2_c [cClub p hp,cOther p hp,cRound p hp] (by simp) d hd h
theorem valid6_c (d : Dm) (hd : d.clubs.length ≤ 4611686018427387904) (h : k (B (v6 p d)) L) : CallP C 123 ([dmV d,plV p] ++ [D.rptr [.sl [[.fn 83 []]]],.rptr [.fn 82 []]].map .d) L k :=
 all1n_c p _ _ clr6_c (fun _=>rfl) [cClubs p hp] (by simp) d hd h
theorem valid7_c (d : Dm) (hd : d.clubs.length ≤ 4611686018427387904) (h : k (B (v7 p d)) L) : CallP C 123 ([dmV d,plV p] ++ [D.rptr [.sl [[.fn 83 []],[withinD 0 24]]],.rptr [.fn 86 []]].map .d) L k :=
 all1n_c p _ _ clr8_c (fun _=>rfl) [cClubs p hp,cN p 0 24] (by simp) d hd h
theorem valid8_c (d : Dm) (hd : d.clubs.length ≤ 4611686018427387904) (h : k (B (v8 p d)) L) : CallP C 123 ([dmV d,plV p] ++ [D.rptr [.sl [[.fn 70 []],[.fn 73 []],[withinD 1 46]]],.rptr [.fn 88 []]].map .d) L k :=
 all1_c p _ _ clr10_c [cClub p hp,cOther p hp,cN p 1 46] (by simp) d hd h
theorem valid9_c (d : Dm) (hd : d.clubs.length ≤ 4611686018427387904) (h : k (B (v9 p d)) L) : CallP C 123 ([dmV d,plV p] ++ [D.rptr [.sl [[.fn 70 []],[withinD 0 46]]],.rptr [.fn 74 []]].map .d) L k :=
 all1_c p _ _ clr3_c [cClub p hp,cN p 0 46] (by simp) d hd h
end
def checkP (p : Pl) : Int:=if fieldOk p.clubs 2 then if p.demands.length ≤ 128 then if p.demands.all (validF p) then 0 else 310 else 2 else 1
def kindKs : List Int:=[1,2,3,4,5,6,7,8,9,10]
structure FarV (p : Pl) where
 i : Nat
 le : i ≤ p.demands.length
 ok : ∀ (j : Nat) (hj : j < p.demands.length),j < i → validF p p.demands[j] = true
theorem check_c (p : Pl) (hl : p.clubs.length ≤ 4611686018427387904) (hd : ∀ d ∈ p.demands,d.clubs.length ≤ 4611686018427387904) (hD : p.demands.length ≤ 4611686018427387904) (h : k (I (checkP p)) L) : CallP C 12 [plV p] L k:=by
 refine CallP.pure ?_ rfl (fun _=>rfl) h
 clear h
 refine callP_of C_ok Tryz.func12 rfl rfl (n:=_) rfl (w18 rfl) (rs:=_) rfl ?_
 conv=>whnf
 refine dIsField_c p.clubs hl ?_
 cases hf : fieldOk p.clubs 2 with
 | false =>
  repeat' ((conv=>whnf); first|refine w0 ?_|refine w1 ?_|refine w2 (fun h=>?_) (fun h=>?_)|refine w3 ?_|refine w4 (fun h=>?_) (fun h=>?_)|refine w5 _ rfl ?_|refine w6 rfl ?_|refine w7 mixed rfl ?_)
  conv=>whnf
  exact FinP.drop (n:=0) rfl (Nat.le_refl 0) rfl rfl ⟨rfl,congrArg I (by rw [checkP,hf]; rfl)⟩
 | true =>
  have hlen : 1 ≤ p.clubs.length ∧ p.clubs.length ≤ 1000:=by
   simp only [fieldOk,Bool.and_eq_true,decide_eq_true_eq] at hf; omega
  repeat' ((conv=>whnf); first|refine w0 ?_|refine w1 ?_|refine w2 (fun h=>?_) (fun h=>?_)|refine w3 ?_|refine w4 (fun h=>?_) (fun h=>?_)|refine w5 _ rfl ?_|refine w6 rfl ?_|refine w7 mixed rfl ?_)
  ·conv=>whnf
   exact FinP.drop (n:=0) rfl (Nat.le_refl 0) rfl rfl ⟨rfl,congrArg I (by rw [checkP,hf]; simp only [if_true]; rw [if_neg (by simp only [List.length_map] at h; omega)])⟩
  ·conv=>whnf
   refine kinds_c.frame rfl ?_
   rintro X L1 ⟨rfl,rfl⟩
   repeat' ((conv=>whnf); first|refine w0 ?_|refine w1 ?_|refine w2 (fun h=>?_) (fun h=>?_)|refine w3 ?_|refine w4 (fun h=>?_) (fun h=>?_)|refine w5 _ rfl ?_|refine w6 rfl ?_|refine w7 mixed rfl ?_)
   conv=>whnf
   have hc : checkP p = if p.demands.all (validF p) then 0 else 310:=by
    rw [checkP,hf]; simp only [if_true]; rw [if_pos (by simp only [List.length_map] at h; omega)]
   refine LoopP.intro (ι:=FarV p) (fun s=>⟨[(1,.ptr 0 0),(3,.map 1),(20,.d (.sl (p.demands.map Dm.cells))),(21,I p.demands.length),(22,I s.i)],Tryz.f12.ntmps,[.cells (p.cells.map .d),.map kindsMap],[],none⟩) (fun s=>p.demands.length - s.i) ⟨0,Nat.zero_le _,fun j _ h=>absurd h (Nat.not_lt_zero j)⟩ ?_ ?_
   ·exact Weak.by ⟨rfl,rfl,rfl,congrArg I (by simp),rfl,trivial⟩
   intro s
   conv=>whnf
   refine w2 (fun hb=>?_) (fun hb=>?_)
   ·have hi : s.i < p.demands.length:=by simpa using hb
    obtain ⟨d,hdi⟩ : ∃ d,d = p.demands[s.i]:=⟨_,rfl⟩
    have r1 : (p.demands.map Dm.cells)[s.i]? = some d.cells:=by rw [List.getElem?_map,List.getElem?_eq_getElem hi,hdi]; rfl
    have hdd : d.clubs.length ≤ 4611686018427387904:=hd d (hdi ▸ List.getElem_mem hi)
    have hnext : validF p d = true → ∀ (j : Nat) (hj : j < p.demands.length),j < s.i + 1 → validF p p.demands[j] = true:=fun hv j hj hji=>by
     by_cases e : j = s.i
     ·subst e; rw [← hdi]; exact hv
     ·exact s.ok j hj (by omega)
    have hno : validF p d = false → checkP p = 310:=fun hv=>by
     rw [hc,if_neg]
     intro ha
     have:=List.all_eq_true.1 ha d (hdi ▸ List.getElem_mem hi)
     rw [hv] at this; cases this
    have hw : IntKind.i64.wrap ((s.i : Int) + 1) = ((s.i + 1 : Nat) : Int):=by rw [wrap_in (by omega)]; omega
    clear hdi
    rcases d with ⟨kd,cl,ot,ro,nn,cs⟩
    have hk : kd = 1 ∨ kd = 2 ∨ kd = 3 ∨ kd = 4 ∨ kd = 5 ∨ kd = 6 ∨ kd = 7 ∨ kd = 8 ∨ kd = 9 ∨ kd = 10 ∨ kd ∉ kindKs:=by simp only [kindKs,List.mem_cons,List.not_mem_nil,or_false]; omega
    rcases hk with rfl | rfl | rfl | rfl | rfl | rfl | rfl | rfl | rfl | rfl | hk
    ·have hv : validF p ⟨1,cl,ot,ro,nn,cs⟩ = v1 p ⟨1,cl,ot,ro,nn,cs⟩:=by simp [validF]
     repeat' ((conv=>whnf); first|refine w10 s.i _ rfl r1 ?_|refine MapF.at kindKs 0 _ rfl rfl rfl ?_|refine valid1_c p hlen ⟨1,cl,ot,ro,nn,cs⟩ hdd ?_|refine w12 _ (valid1_c p hlen ⟨1,cl,ot,ro,nn,cs⟩ hdd ⟨rfl,rfl⟩) ?_|refine w0 ?_|refine w1 ?_|refine w2 (fun h=>?_) (fun h=>?_)|refine w3 ?_|refine w4 (fun h=>?_) (fun h=>?_)|refine w5 _ rfl ?_|refine w6 rfl ?_|refine w7 mixed rfl ?_)
     all_goals conv=>whnf
     ·exact ⟨⟨s.i + 1,hi,hnext (hv.trans h)⟩,by simp only []; omega,Weak.to 2 rfl (Nat.zero_le _) (Nat.le_of_ble_eq_true rfl) ⟨rfl,rfl,rfl,rfl,congrArg I hw,trivial⟩⟩
     ·exact FinP.drop (n:=0) rfl (w21 0) rfl rfl ⟨rfl,congrArg I (hno (hv.trans h)).symm⟩
    ·have hv : validF p ⟨2,cl,ot,ro,nn,cs⟩ = v1 p ⟨2,cl,ot,ro,nn,cs⟩:=by simp [validF]
     repeat' ((conv=>whnf); first|refine w10 s.i _ rfl r1 ?_|refine MapF.at kindKs 1 _ rfl rfl rfl ?_|refine valid1_c p hlen ⟨2,cl,ot,ro,nn,cs⟩ hdd ?_|refine w12 _ (valid1_c p hlen ⟨2,cl,ot,ro,nn,cs⟩ hdd ⟨rfl,rfl⟩) ?_|refine w0 ?_|refine w1 ?_|refine w2 (fun h=>?_) (fun h=>?_)|refine w3 ?_|refine w4 (fun h=>?_) (fun h=>?_)|refine w5 _ rfl ?_|refine w6 rfl ?_|refine w7 mixed rfl ?_)
     all_goals conv=>whnf
     ·exact ⟨⟨s.i + 1,hi,hnext (hv.trans h)⟩,by simp only []; omega,Weak.to 2 rfl (Nat.zero_le _) (Nat.le_of_ble_eq_true rfl) ⟨rfl,rfl,rfl,rfl,congrArg I hw,trivial⟩⟩
     ·exact FinP.drop (n:=0) rfl (w21 0) rfl rfl ⟨rfl,congrArg I (hno (hv.trans h)).symm⟩
    ·have hv : validF p ⟨3,cl,ot,ro,nn,cs⟩ = v1 p ⟨3,cl,ot,ro,nn,cs⟩:=by simp [validF]
     repeat' ((conv=>whnf); first|refine w10 s.i _ rfl r1 ?_|refine MapF.at kindKs 2 _ rfl rfl rfl ?_|refine valid1_c p hlen ⟨3,cl,ot,ro,nn,cs⟩ hdd ?_|refine w12 _ (valid1_c p hlen ⟨3,cl,ot,ro,nn,cs⟩ hdd ⟨rfl,rfl⟩) ?_|refine w0 ?_|refine w1 ?_|refine w2 (fun h=>?_) (fun h=>?_)|refine w3 ?_|refine w4 (fun h=>?_) (fun h=>?_)|refine w5 _ rfl ?_|refine w6 rfl ?_|refine w7 mixed rfl ?_)
     all_goals conv=>whnf
     ·exact ⟨⟨s.i + 1,hi,hnext (hv.trans h)⟩,by simp only []; omega,Weak.to 2 rfl (Nat.zero_le _) (Nat.le_of_ble_eq_true rfl) ⟨rfl,rfl,rfl,rfl,congrArg I hw,trivial⟩⟩
     ·exact FinP.drop (n:=0) rfl (w21 0) rfl rfl ⟨rfl,congrArg I (hno (hv.trans h)).symm⟩
    ·have hv : validF p ⟨4,cl,ot,ro,nn,cs⟩ = v4 p ⟨4,cl,ot,ro,nn,cs⟩:=by simp [validF]
     repeat' ((conv=>whnf); first|refine w10 s.i _ rfl r1 ?_|refine MapF.at kindKs 3 _ rfl rfl rfl ?_|refine valid4_c p hlen ⟨4,cl,ot,ro,nn,cs⟩ hdd ?_|refine w12 _ (valid4_c p hlen ⟨4,cl,ot,ro,nn,cs⟩ hdd ⟨rfl,rfl⟩) ?_|refine w0 ?_|refine w1 ?_|refine w2 (fun h=>?_) (fun h=>?_)|refine w3 ?_|refine w4 (fun h=>?_) (fun h=>?_)|refine w5 _ rfl ?_|refine w6 rfl ?_|refine w7 mixed rfl ?_)
     all_goals conv=>whnf
     ·exact ⟨⟨s.i + 1,hi,hnext (hv.trans h)⟩,by simp only []; omega,Weak.to 2 rfl (Nat.zero_le _) (Nat.le_of_ble_eq_true rfl) ⟨rfl,rfl,rfl,rfl,congrArg I hw,trivial⟩⟩
     ·exact FinP.drop (n:=0) rfl (w21 0) rfl rfl ⟨rfl,congrArg I (hno (hv.trans h)).symm⟩
    ·have hv : validF p ⟨5,cl,ot,ro,nn,cs⟩ = v4 p ⟨5,cl,ot,ro,nn,cs⟩:=by simp [validF]
     repeat' ((conv=>whnf); first|refine w10 s.i _ rfl r1 ?_|refine MapF.at kindKs 4 _ rfl rfl rfl ?_|refine valid4_c p hlen ⟨5,cl,ot,ro,nn,cs⟩ hdd ?_|refine w12 _ (valid4_c p hlen ⟨5,cl,ot,ro,nn,cs⟩ hdd ⟨rfl,rfl⟩) ?_|refine w0 ?_|refine w1 ?_|refine w2 (fun h=>?_) (fun h=>?_)|refine w3 ?_|refine w4 (fun h=>?_) (fun h=>?_)|refine w5 _ rfl ?_|refine w6 rfl ?_|refine w7 mixed rfl ?_)
     all_goals conv=>whnf
     ·exact ⟨⟨s.i + 1,hi,hnext (hv.trans h)⟩,by simp only []; omega,Weak.to 2 rfl (Nat.zero_le _) (Nat.le_of_ble_eq_true rfl) ⟨rfl,rfl,rfl,rfl,congrArg I hw,trivial⟩⟩
     ·exact FinP.drop (n:=0) rfl (w21 0) rfl rfl ⟨rfl,congrArg I (hno (hv.trans h)).symm⟩
    ·have hv : validF p ⟨6,cl,ot,ro,nn,cs⟩ = v6 p ⟨6,cl,ot,ro,nn,cs⟩:=by simp [validF]
     repeat' ((conv=>whnf); first|refine w10 s.i _ rfl r1 ?_|refine MapF.at kindKs 5 _ rfl rfl rfl ?_|refine valid6_c p hlen ⟨6,cl,ot,ro,nn,cs⟩ hdd ?_|refine w12 _ (valid6_c p hlen ⟨6,cl,ot,ro,nn,cs⟩ hdd ⟨rfl,rfl⟩) ?_|refine w0 ?_|refine w1 ?_|refine w2 (fun h=>?_) (fun h=>?_)|refine w3 ?_|refine w4 (fun h=>?_) (fun h=>?_)|refine w5 _ rfl ?_|refine w6 rfl ?_|refine w7 mixed rfl ?_)
     all_goals conv=>whnf
     ·exact ⟨⟨s.i + 1,hi,hnext (hv.trans h)⟩,by simp only []; omega,Weak.to 2 rfl (Nat.zero_le _) (Nat.le_of_ble_eq_true rfl) ⟨rfl,rfl,rfl,rfl,congrArg I hw,trivial⟩⟩
     ·exact FinP.drop (n:=0) rfl (w21 0) rfl rfl ⟨rfl,congrArg I (hno (hv.trans h)).symm⟩
    ·have hv : validF p ⟨7,cl,ot,ro,nn,cs⟩ = v7 p ⟨7,cl,ot,ro,nn,cs⟩:=by simp [validF]
     repeat' ((conv=>whnf); first|refine w10 s.i _ rfl r1 ?_|refine MapF.at kindKs 6 _ rfl rfl rfl ?_|refine valid7_c p hlen ⟨7,cl,ot,ro,nn,cs⟩ hdd ?_|refine w12 _ (valid7_c p hlen ⟨7,cl,ot,ro,nn,cs⟩ hdd ⟨rfl,rfl⟩) ?_|refine w0 ?_|refine w1 ?_|refine w2 (fun h=>?_) (fun h=>?_)|refine w3 ?_|refine w4 (fun h=>?_) (fun h=>?_)|refine w5 _ rfl ?_|refine w6 rfl ?_|refine w7 mixed rfl ?_)
     all_goals conv=>whnf
     ·exact ⟨⟨s.i + 1,hi,hnext (hv.trans h)⟩,by simp only []; omega,Weak.to 2 rfl (Nat.zero_le _) (Nat.le_of_ble_eq_true rfl) ⟨rfl,rfl,rfl,rfl,congrArg I hw,trivial⟩⟩
     ·exact FinP.drop (n:=0) rfl (w21 0) rfl rfl ⟨rfl,congrArg I (hno (hv.trans h)).symm⟩
    ·have hv : validF p ⟨8,cl,ot,ro,nn,cs⟩ = v8 p ⟨8,cl,ot,ro,nn,cs⟩:=by simp [validF]
     repeat' ((conv=>whnf); first|refine w10 s.i _ rfl r1 ?_|refine MapF.at kindKs 7 _ rfl rfl rfl ?_|refine valid8_c p hlen ⟨8,cl,ot,ro,nn,cs⟩ hdd ?_|refine w12 _ (valid8_c p hlen ⟨8,cl,ot,ro,nn,cs⟩ hdd ⟨rfl,rfl⟩) ?_|refine w0 ?_|refine w1 ?_|refine w2 (fun h=>?_) (fun h=>?_)|refine w3 ?_|refine w4 (fun h=>?_) (fun h=>?_)|refine w5 _ rfl ?_|refine w6 rfl ?_|refine w7 mixed rfl ?_)
     all_goals conv=>whnf
     ·exact ⟨⟨s.i + 1,hi,hnext (hv.trans h)⟩,by simp only []; omega,Weak.to 2 rfl (Nat.zero_le _) (Nat.le_of_ble_eq_true rfl) ⟨rfl,rfl,rfl,rfl,congrArg I hw,trivial⟩⟩
     ·exact FinP.drop (n:=0) rfl (w21 0) rfl rfl ⟨rfl,congrArg I (hno (hv.trans h)).symm⟩
    ·have hv : validF p ⟨9,cl,ot,ro,nn,cs⟩ = v9 p ⟨9,cl,ot,ro,nn,cs⟩:=by simp [validF]
     repeat' ((conv=>whnf); first|refine w10 s.i _ rfl r1 ?_|refine MapF.at kindKs 8 _ rfl rfl rfl ?_|refine valid9_c p hlen ⟨9,cl,ot,ro,nn,cs⟩ hdd ?_|refine w12 _ (valid9_c p hlen ⟨9,cl,ot,ro,nn,cs⟩ hdd ⟨rfl,rfl⟩) ?_|refine w0 ?_|refine w1 ?_|refine w2 (fun h=>?_) (fun h=>?_)|refine w3 ?_|refine w4 (fun h=>?_) (fun h=>?_)|refine w5 _ rfl ?_|refine w6 rfl ?_|refine w7 mixed rfl ?_)
     all_goals conv=>whnf
     ·exact ⟨⟨s.i + 1,hi,hnext (hv.trans h)⟩,by simp only []; omega,Weak.to 2 rfl (Nat.zero_le _) (Nat.le_of_ble_eq_true rfl) ⟨rfl,rfl,rfl,rfl,congrArg I hw,trivial⟩⟩
     ·exact FinP.drop (n:=0) rfl (w21 0) rfl rfl ⟨rfl,congrArg I (hno (hv.trans h)).symm⟩
    ·have hv : validF p ⟨10,cl,ot,ro,nn,cs⟩ = v9 p ⟨10,cl,ot,ro,nn,cs⟩:=by simp [validF]
     repeat' ((conv=>whnf); first|refine w10 s.i _ rfl r1 ?_|refine MapF.at kindKs 9 _ rfl rfl rfl ?_|refine valid9_c p hlen ⟨10,cl,ot,ro,nn,cs⟩ hdd ?_|refine w12 _ (valid9_c p hlen ⟨10,cl,ot,ro,nn,cs⟩ hdd ⟨rfl,rfl⟩) ?_|refine w0 ?_|refine w1 ?_|refine w2 (fun h=>?_) (fun h=>?_)|refine w3 ?_|refine w4 (fun h=>?_) (fun h=>?_)|refine w5 _ rfl ?_|refine w6 rfl ?_|refine w7 mixed rfl ?_)
     all_goals conv=>whnf
     ·exact ⟨⟨s.i + 1,hi,hnext (hv.trans h)⟩,by simp only []; omega,Weak.to 2 rfl (Nat.zero_le _) (Nat.le_of_ble_eq_true rfl) ⟨rfl,rfl,rfl,rfl,congrArg I hw,trivial⟩⟩
     ·exact FinP.drop (n:=0) rfl (w21 0) rfl rfl ⟨rfl,congrArg I (hno (hv.trans h)).symm⟩
    ·have hv : validF p ⟨kd,cl,ot,ro,nn,cs⟩ = false:=by
      simp only [kindKs,List.mem_cons,List.not_mem_nil,or_false,not_or] at hk
      simp [validF,hk]
     repeat' ((conv=>whnf); first|refine w10 s.i _ rfl r1 ?_|refine MapF.no kindKs rfl hk ?_|refine w0 ?_|refine w1 ?_|refine w2 (fun h=>?_) (fun h=>?_)|refine w3 ?_|refine w4 (fun h=>?_) (fun h=>?_)|refine w5 _ rfl ?_|refine w6 rfl ?_|refine w7 mixed rfl ?_)
     all_goals conv=>whnf
     exact FinP.drop (n:=0) rfl (w21 0) rfl rfl ⟨rfl,congrArg I (hno hv).symm⟩
   ·have hi : ¬ s.i < p.demands.length:=by simpa using hb
    have hall : p.demands.all (validF p) = true:=List.all_eq_true.2 fun d hd=>by
     obtain ⟨j,hj,rfl⟩:=List.getElem_of_mem hd
     exact s.ok j hj (by omega)
    repeat' ((conv=>whnf); first|refine w0 ?_|refine w1 ?_|refine w2 (fun h=>?_) (fun h=>?_)|refine w3 ?_|refine w4 (fun h=>?_) (fun h=>?_)|refine w5 _ rfl ?_|refine w6 rfl ?_|refine w7 mixed rfl ?_)
    conv=>whnf
    exact FinP.drop (n:=0) rfl (Nat.le_refl 0) rfl rfl ⟨rfl,congrArg I (by rw [hc,hall]; rfl)⟩
end Go.Proofs.YtndlggbljkhfbaaGreat
namespace Go.Proofs.YtndlggbljkhfbaaGreat
open Go.Tidy
variable {L : List Blk} {k : V → List Blk → Prop}
structure FarN (l : List Int) (n : Int) where
 i : Nat
 le : i ≤ l.length
 no : ∀ (j : Nat) (hj : j < l.length),j < i → l[j] ≠ n
end Go.Proofs.YtndlggbljkhfbaaGreat
namespace Go.Proofs.YtndlggbljkhfbaaGreat
open Go.Tidy
variable {L : List Blk} {k : V → List Blk → Prop}
def rndsD (R : List Rnd) : D:=.sl (R.map Rnd.cells)
theorem noRnd_c (n : Int) (h : k (B false) L) : CallP C 126 [I n] L k:=by
 refine CallP.pure ?_ rfl (fun _=>rfl) h
 clear h
 refine callP_of C_ok Tryz.func126 rfl rfl (n:=_) rfl (w18 rfl) (rs:=_) rfl ?_
 repeat' ((conv=>whnf); first|refine w0 ?_|refine w1 ?_|refine w2 (fun h=>?_) (fun h=>?_)|refine w3 ?_|refine w4 (fun h=>?_) (fun h=>?_)|refine w5 _ rfl ?_|refine w6 rfl ?_|refine w7 mixed rfl ?_)
 conv=>whnf
 exact FinP.drop (n:=0) rfl (w21 0) rfl rfl ⟨rfl,rfl⟩
def noRnd : Rnd:=⟨[],fun _=>false,126,[],by simp,fun n L k h=>noRnd_c n h⟩
def roundAt (R : List Rnd) (n : Int) : Rnd:=if h : 0 ≤ n ∧ n < R.length then R[n.toNat]'(by omega) else noRnd
theorem lround_c (R : List Rnd) (n : Int) (hl : R.length ≤ 4611686018427387904) (h : k (rndV (roundAt R n)) L) : CallP C 78 [.d (rndsD R),I n] L k:=by
 refine CallP.pure ?_ rfl (fun _=>rfl) h
 clear h
 refine callP_of C_ok Tryz.func78 rfl rfl (n:=_) rfl (w18 rfl) (rs:=_) rfl ?_
 conv=>whnf
 refine w2 (fun h1=>?_) (fun h1=>?_)
 ·repeat' (conv => whnf
           first|refine w0 ?_|refine w1 ?_|refine w2 (fun h=>?_) (fun h=>?_)|refine w3 ?_|refine w4 (fun h=>?_) (fun h=>?_)|refine w5 _ rfl ?_|refine w6 rfl ?_|refine w7 mixed rfl ?_)
  ·have hin : 0 ≤ n ∧ n < R.length:=by simp only [List.length_map] at h; omega
   have hn : n = (n.toNat : Int):=by omega
   have hlt : n.toNat < R.length:=by omega
   repeat' ((conv=>whnf); first|refine w0 ?_|refine w1 ?_|refine w2 (fun h=>?_) (fun h=>?_)|refine w3 ?_|refine w4 (fun h=>?_) (fun h=>?_)|refine w5 _ rfl ?_|refine w6 rfl ?_|refine w7 mixed rfl ?_|refine w11 n.toNat hn hlt ?_)
   conv=>whnf
   exact FinP.drop (n:=0) rfl (Nat.le_refl 0) rfl rfl ⟨rfl,by rw [roundAt,dif_pos hin]; rfl⟩
  ·have hout : ¬ (0 ≤ n ∧ n < R.length):=by simp only [List.length_map] at h; omega
   conv=>whnf
   exact FinP.data (L':=[]) (.agg _ [.sl [],.fn 126 []] rfl (fun j x y hx hy=>by
    match j with
    | 0=>cases hx; cases hy; exact .nil
    | 1=>cases hx; cases hy; exact .fnL .nil
    | j + 2=>simp at hy)) rfl rfl ⟨rfl,by rw [roundAt,dif_neg hout]; rfl⟩
 ·have hout : ¬ (0 ≤ n ∧ n < R.length):=by omega
  repeat' ((conv=>whnf); first|refine w0 ?_|refine w1 ?_|refine w2 (fun h=>?_) (fun h=>?_)|refine w3 ?_|refine w4 (fun h=>?_) (fun h=>?_)|refine w5 _ rfl ?_|refine w6 rfl ?_|refine w7 mixed rfl ?_)
  conv=>whnf
  exact FinP.data (L':=[]) (.agg _ [.sl [],.fn 126 []] rfl (fun j x y hx hy=>by
    match j with
    | 0=>cases hx; cases hy; exact .nil
    | 1=>cases hx; cases hy; exact .fnL .nil
    | j + 2=>simp at hy)) rfl rfl ⟨rfl,by rw [roundAt,dif_neg hout]; rfl⟩
def stR (r : Rnd) (c : Int) : Int:=stateF r.l r.kn c
def doesF (R : List Rnd) (what : Int) (d : Dm) : Bool:=!decide (stR (roundAt R d.round) d.club = 2) && !decide (stR (roundAt R d.round) d.club = what)
theorem does1_c (R : List Rnd) (what : Int) (d : Dm) (hl : R.length ≤ 4611686018427387904) (h : k (B (doesF R what d)) L) : CallP C 125 [.d (rndsD R),dmV d,.d (.rptr [DI what])] L k:=by
 refine CallP.pure ?_ rfl (fun _=>rfl) h
 clear h
 refine callP_of C_ok Tryz.func125 rfl rfl (n:=_) rfl (w18 rfl) (rs:=_) rfl ?_
 repeat' ((conv=>whnf); first|refine w0 ?_|refine w1 ?_|refine w2 (fun h=>?_) (fun h=>?_)|refine w3 ?_|refine w4 (fun h=>?_) (fun h=>?_)|refine w5 _ rfl ?_|refine w6 rfl ?_|refine w7 mixed rfl ?_|refine lround_c R d.round hl ?_|refine w12 _ (lround_c R d.round hl ⟨rfl,rfl⟩) ?_|refine state_c (roundAt R d.round) _ ?_|refine w12 _ (state_c (roundAt R d.round) _ ⟨rfl,rfl⟩) ?_|refine meet_c (roundAt R d.round) _ _ ?_|refine w12 _ (meet_c (roundAt R d.round) _ _ ⟨rfl,rfl⟩) ?_)
 all_goals conv=>whnf
 all_goals refine w15 (n:=0) rfl (w21 0) rfl rfl ⟨rfl,congrArg B ?_⟩
 all_goals (simp_all [doesF,stR] <;> exact decide_eq_decide.2 Iff.rfl)
def meets (R : List Rnd) (d : Dm) : Bool:=meetF (roundAt R d.round).l d.club d.other
def k4F (R : List Rnd) (d : Dm) : Bool:=!meets R d && (!decide (stR (roundAt R d.round) d.club = 2) || !decide (stR (roundAt R d.round) d.other = 2))
theorem k4_c (R : List Rnd) (d : Dm) (hl : R.length ≤ 4611686018427387904) (h : k (B (k4F R d)) L) : CallP C 77 [.d (rndsD R),dmV d] L k:=by
 refine CallP.pure ?_ rfl (fun _=>rfl) h
 clear h
 refine callP_of C_ok Tryz.func77 rfl rfl (n:=_) rfl (w18 rfl) (rs:=_) rfl ?_
 repeat' ((conv=>whnf); first|refine w0 ?_|refine w1 ?_|refine w2 (fun h=>?_) (fun h=>?_)|refine w3 ?_|refine w4 (fun h=>?_) (fun h=>?_)|refine w5 _ rfl ?_|refine w6 rfl ?_|refine w7 mixed rfl ?_|refine lround_c R d.round hl ?_|refine w12 _ (lround_c R d.round hl ⟨rfl,rfl⟩) ?_|refine state_c (roundAt R d.round) _ ?_|refine w12 _ (state_c (roundAt R d.round) _ ⟨rfl,rfl⟩) ?_|refine meet_c (roundAt R d.round) _ _ ?_|refine w12 _ (meet_c (roundAt R d.round) _ _ ⟨rfl,rfl⟩) ?_)
 all_goals conv=>whnf
 all_goals refine w15 (n:=0) rfl (w21 0) rfl rfl ⟨rfl,congrArg B ?_⟩
 all_goals (simp_all [k4F,stR,meets] <;> exact decide_eq_decide.2 Iff.rfl)
theorem k5_c (R : List Rnd) (d : Dm) (hl : R.length ≤ 4611686018427387904) (h : k (B (meets R d)) L) : CallP C 81 [.d (rndsD R),dmV d] L k:=by
 refine CallP.pure ?_ rfl (fun _=>rfl) h
 clear h
 refine callP_of C_ok Tryz.func81 rfl rfl (n:=_) rfl (w18 rfl) (rs:=_) rfl ?_
 repeat' ((conv=>whnf); first|refine w0 ?_|refine w1 ?_|refine w2 (fun h=>?_) (fun h=>?_)|refine w3 ?_|refine w4 (fun h=>?_) (fun h=>?_)|refine w5 _ rfl ?_|refine w6 rfl ?_|refine w7 mixed rfl ?_|refine lround_c R d.round hl ?_|refine w12 _ (lround_c R d.round hl ⟨rfl,rfl⟩) ?_|refine state_c (roundAt R d.round) _ ?_|refine w12 _ (state_c (roundAt R d.round) _ ⟨rfl,rfl⟩) ?_|refine meet_c (roundAt R d.round) _ _ ?_|refine w12 _ (meet_c (roundAt R d.round) _ _ ⟨rfl,rfl⟩) ?_)
 all_goals conv=>whnf
 all_goals exact FinP.drop (n:=0) rfl (w21 0) rfl rfl ⟨rfl,rfl⟩
theorem lindexFunc_c (l : List Rnd) (hl : l.length ≤ 4611686018427387904) (f : FuncId) (caps : List D) (p : Rnd → Bool) (hp : ∀ n (L : List Blk) (k : V → List Blk → Prop),k (B (p n)) L → CallP C f ([rndV n] ++ caps.map .d) L k)
  (h : k (I (findI p l)) L) : CallP C 152 [.d (rndsD l),.d (.fn f caps)] L k:=by
 refine CallP.pure ?_ rfl (fun _=>rfl) h
 clear h
 refine callP_of C_ok Tryz.func152 rfl rfl (n:=_) rfl (w18 rfl) (rs:=_) rfl ?_
 conv=>whnf
 refine LoopP.intro (ι:=Far p l) (fun s=>⟨[(0,.d (rndsD l)),(1,.d (.fn f caps)),(7,I l.length),(8,I s.i)],Tryz.f152.ntmps,[],[],none⟩) (fun s=>l.length - s.i) (Far.zero p l) ?_ ?_
 ·exact Weak.by ⟨rfl,rfl,congrArg I (by simp),rfl,trivial⟩
 intro s
 conv=>whnf
 refine w4 (fun h=>?_) (fun h=>?_)
 ·have hi : s.i < l.length:=by simpa using h
  repeat' ((conv=>whnf); first|refine w0 ?_|refine w1 ?_|refine w2 (fun h=>?_) (fun h=>?_)|refine w3 ?_|refine w4 (fun h=>?_) (fun h=>?_)|refine w5 _ rfl ?_|refine w6 rfl ?_|refine w7 mixed rfl ?_|refine w11 s.i rfl hi ?_|refine hp _ _ _ ?_)
  all_goals conv=>whnf
  ·exact FinP.drop (n:=0) rfl (w21 0) rfl rfl ⟨rfl,congrArg I (findI_hit hi h s.no).symm⟩
  ·exact ⟨s.next hi h,by simp only [Far.next]; omega,Weak.by ⟨rfl,rfl,rfl,congrArg I (by rw [wrap_id] <;> (try simp only [Far.next]) <;> omega),trivial⟩⟩
 ·have hi : ¬ s.i < l.length:=by simpa using h
  repeat' ((conv=>whnf); first|refine w0 ?_|refine w1 ?_|refine w2 (fun h=>?_) (fun h=>?_)|refine w3 ?_|refine w4 (fun h=>?_) (fun h=>?_)|refine w5 _ rfl ?_|refine w6 rfl ?_|refine w7 mixed rfl ?_)
  conv=>whnf
  exact FinP.drop (n:=0) rfl (w21 0) rfl rfl ⟨rfl,congrArg I (findI_miss fun j hj=>s.no j hj (by omega)).symm⟩
theorem lcontainsFunc_c (l : List Rnd) (hl : l.length ≤ 4611686018427387904) (f : FuncId) (caps : List D) (p : Rnd → Bool) (hp : ∀ n (L : List Blk) (k : V → List Blk → Prop),k (B (p n)) L → CallP C f ([rndV n] ++ caps.map .d) L k)
  (h : k (B (l.any p)) L) : CallP C 128 [.d (rndsD l),.d (.fn f caps)] L k:=by
 refine CallP.pure ?_ rfl (fun _=>rfl) h
 clear h
 refine callP_of C_ok Tryz.func128 rfl rfl (n:=_) rfl (w18 rfl) (rs:=_) rfl ?_
 conv=>whnf
 refine lindexFunc_c l hl f caps p hp ?_
 repeat' ((conv=>whnf); first|refine w0 ?_|refine w1 ?_|refine w2 (fun h=>?_) (fun h=>?_)|refine w3 ?_|refine w4 (fun h=>?_) (fun h=>?_)|refine w5 _ rfl ?_|refine w6 rfl ?_|refine w7 mixed rfl ?_)
 conv=>whnf
 exact FinP.drop (n:=0) rfl (w21 0) rfl rfl ⟨rfl,congrArg B (findI_any p l)⟩
def overF (d : Dm) (n : Int) (r : Rnd) : Bool:=decide (n < atF r d.clubs)
theorem crowded1_c (r : Rnd) (d : Dm) (n : Int) (hd : d.clubs.length ≤ 4611686018427387904) (h : k (B (overF d n r)) L) : CallP C 129 [rndV r,.d (.rptr d.cells),.d (.rptr [DI n])] L k:=by
 refine CallP.pure ?_ rfl (fun _=>rfl) h
 clear h
 refine callP_of C_ok Tryz.func129 rfl rfl (n:=_) rfl (w18 rfl) (rs:=_) rfl ?_
 repeat' ((conv=>whnf); first|refine w0 ?_|refine w1 ?_|refine w2 (fun h=>?_) (fun h=>?_)|refine w3 ?_|refine w4 (fun h=>?_) (fun h=>?_)|refine w5 _ rfl ?_|refine w6 rfl ?_|refine w7 mixed rfl ?_|refine at_c r d.clubs hd ?_|refine w12 _ (at_c r d.clubs hd ⟨rfl,rfl⟩) ?_)
 conv=>whnf
 exact FinP.drop (n:=0) rfl (w21 0) rfl rfl ⟨rfl,rfl⟩
theorem crowded_c (R : List Rnd) (d : Dm) (n : Int) (hl : R.length ≤ 4611686018427387904) (hd : d.clubs.length ≤ 4611686018427387904) (h : k (B (R.any (overF d n))) L) : CallP C 85 [.d (rndsD R),dmV d,I n] L k:=by
 refine CallP.pure ?_ rfl (fun _=>rfl) h
 clear h
 refine callP_of C_ok Tryz.func85 rfl rfl (n:=_) rfl (w18 rfl) (rs:=_) rfl ?_
 conv=>whnf
 refine CallP.lent (lcontainsFunc_c R hl 129 [.rptr d.cells,.rptr [DI n]] (overF d n) (fun r L k h=>crowded1_c r d n hd h) ⟨rfl,rfl⟩) (.keep (.cv (.d (.fnL (.cons (.ptrL trivial rfl (.data d.cells)) (.cons (.ptrL trivial rfl (.data [DI n])) .nil)))) .nil)) rfl rfl ?_
 repeat' ((conv=>whnf); first|refine w0 ?_|refine w1 ?_|refine w2 (fun h=>?_) (fun h=>?_)|refine w3 ?_|refine w4 (fun h=>?_) (fun h=>?_)|refine w5 _ rfl ?_|refine w6 rfl ?_|refine w7 mixed rfl ?_)
 conv=>whnf
 exact FinP.drop (n:=0) rfl (w21 0) rfl rfl ⟨rfl,rfl⟩
theorem k7_c (R : List Rnd) (d : Dm) (hl : R.length ≤ 4611686018427387904) (hd : d.clubs.length ≤ 4611686018427387904) (h : k (B (R.any (overF d 1))) L) : CallP C 84 [.d (rndsD R),dmV d] L k:=by
 refine CallP.pure ?_ rfl (fun _=>rfl) h
 clear h
 refine callP_of C_ok Tryz.func84 rfl rfl (n:=_) rfl (w18 rfl) (rs:=_) rfl ?_
 conv=>whnf
 refine crowded_c R d 1 hl hd ?_
 repeat' ((conv=>whnf); first|refine w0 ?_|refine w1 ?_|refine w2 (fun h=>?_) (fun h=>?_)|refine w3 ?_|refine w4 (fun h=>?_) (fun h=>?_)|refine w5 _ rfl ?_|refine w6 rfl ?_|refine w7 mixed rfl ?_)
 conv=>whnf
 exact FinP.drop (n:=0) rfl (w21 0) rfl rfl ⟨rfl,rfl⟩
theorem k9_c (R : List Rnd) (d : Dm) (hl : R.length ≤ 4611686018427387904) (hd : d.clubs.length ≤ 4611686018427387904) (h : k (B (R.any (overF d d.n))) L) : CallP C 87 [.d (rndsD R),dmV d] L k:=by
 refine CallP.pure ?_ rfl (fun _=>rfl) h
 clear h
 refine callP_of C_ok Tryz.func87 rfl rfl (n:=_) rfl (w18 rfl) (rs:=_) rfl ?_
 conv=>whnf
 refine crowded_c R d d.n hl hd ?_
 repeat' ((conv=>whnf); first|refine w0 ?_|refine w1 ?_|refine w2 (fun h=>?_) (fun h=>?_)|refine w3 ?_|refine w4 (fun h=>?_) (fun h=>?_)|refine w5 _ rfl ?_|refine w6 rfl ?_|refine w7 mixed rfl ?_)
 conv=>whnf
 exact FinP.drop (n:=0) rfl (w21 0) rfl rfl ⟨rfl,rfl⟩
def closeGo (d : Dm) : List Rnd → Int → Int → Bool → Bool
 | [],_,_,_=>false
 | r :: R,i,last,met=>if meetF r.l d.club d.other then (if met && decide (i - last < d.n) then true else closeGo d R (i + 1) i true) else closeGo d R (i + 1) last met
structure Cl (R : List Rnd) (d : Dm) where
 i : Nat
 last : Int
 met : Bool
 le : i ≤ R.length
 b : 0 ≤ last ∧ last ≤ i
 eq : closeGo d (R.drop i) i last met = closeGo d R 0 0 false
theorem drop_cons {α : Type} {l : List α} {i : Nat} (h : i < l.length) : l.drop i = l[i] :: l.drop (i + 1):=List.drop_eq_getElem_cons h
theorem tooClose_c (R : List Rnd) (d : Dm) (hl : R.length ≤ 4611686018427387904) (h : k (B (closeGo d R 0 0 false)) L) : CallP C 89 [.d (rndsD R),dmV d] L k:=by
 refine CallP.pure ?_ rfl (fun _=>rfl) h
 clear h
 refine callP_of C_ok Tryz.func89 rfl rfl (n:=_) rfl (w18 rfl) (rs:=_) rfl ?_
 conv=>whnf
 refine LoopP.intro (ι:=Cl R d) (fun s=>⟨[(3,.ptr 0 0),(5,I s.last),(6,B s.met),(9,.d (rndsD R)),(10,I R.length),(11,I s.i)],Tryz.f89.ntmps,[.cells (d.cells.map .d)],[],none⟩) (fun s=>R.length - s.i) ⟨0,0,false,Nat.zero_le _,⟨Int.le_refl _,Int.le_refl _⟩,rfl⟩ ?_ ?_
 ·exact Weak.by ⟨rfl,rfl,rfl,rfl,congrArg I (by simp),rfl,trivial⟩
 intro s
 conv=>whnf
 refine w2 (fun h=>?_) (fun h=>?_)
 ·have hi : s.i < R.length:=by simpa using h
  have hw : IntKind.i64.wrap ((s.i : Int) + 1) = ((s.i + 1 : Nat) : Int):=by rw [wrap_in (by omega)]; omega
  have hb:=s.b
  have hsub : IntKind.i64.wrap ((s.i : Int) - s.last) = (s.i : Int) - s.last:=wrap_in (by omega)
  have heq:=s.eq
  rw [drop_cons hi,closeGo] at heq
  repeat' ((conv=>whnf); first|refine w0 ?_|refine w1 ?_|refine w2 (fun h=>?_) (fun h=>?_)|refine w3 ?_|refine w4 (fun h=>?_) (fun h=>?_)|refine w5 _ rfl ?_|refine w6 rfl ?_|refine w7 mixed rfl ?_|refine w11 s.i rfl hi ?_|refine meet_c R[s.i] _ _ ?_|refine w12 _ (meet_c R[s.i] _ _ ⟨rfl,rfl⟩) ?_)
  all_goals conv=>whnf
  ·rename_i h1 h2
   rw [hsub] at h
   rw [if_pos h1,h2,decide_eq_true h] at heq
   exact FinP.drop (n:=0) rfl (w21 0) rfl rfl ⟨rfl,congrArg B heq⟩
  ·rename_i h1 h2
   rw [hsub] at h
   rw [if_pos h1,h2,decide_eq_false h] at heq
   exact ⟨⟨s.i + 1,s.i,true,hi,⟨by omega,by omega⟩,by rw [show ((s.i + 1 : Nat) : Int) = (s.i : Int) + 1 by omega]; exact heq⟩,by simp only []; omega,Weak.to 1 rfl (Nat.zero_le _) (Nat.le_of_ble_eq_true rfl) ⟨rfl,rfl,rfl,rfl,rfl,congrArg I hw,trivial⟩⟩
  ·rename_i h1
   rw [if_pos h1,h] at heq
   exact ⟨⟨s.i + 1,s.i,true,hi,⟨by omega,by omega⟩,by rw [show ((s.i + 1 : Nat) : Int) = (s.i : Int) + 1 by omega]; exact heq⟩,by simp only []; omega,Weak.to 1 rfl (Nat.zero_le _) (Nat.le_of_ble_eq_true rfl) ⟨rfl,rfl,rfl,rfl,rfl,congrArg I hw,trivial⟩⟩
  ·rw [h] at heq
   exact ⟨⟨s.i + 1,s.last,s.met,hi,⟨by omega,by omega⟩,by rw [show ((s.i + 1 : Nat) : Int) = (s.i : Int) + 1 by omega]; exact heq⟩,by simp only []; omega,Weak.to 1 rfl (Nat.zero_le _) (Nat.le_of_ble_eq_true rfl) ⟨rfl,rfl,rfl,rfl,rfl,congrArg I hw,trivial⟩⟩
 ·have hi : ¬ s.i < R.length:=by simpa using h
  have heq:=s.eq
  rw [List.drop_of_length_le (by omega),closeGo] at heq
  repeat' ((conv=>whnf); first|refine w0 ?_|refine w1 ?_|refine w2 (fun h=>?_) (fun h=>?_)|refine w3 ?_|refine w4 (fun h=>?_) (fun h=>?_)|refine w5 _ rfl ?_|refine w6 rfl ?_|refine w7 mixed rfl ?_)
  conv=>whnf
  exact FinP.drop (n:=0) rfl (w21 0) rfl rfl ⟨rfl,congrArg B heq⟩
end Go.Proofs.YtndlggbljkhfbaaGreat
namespace Go.Proofs.YtndlggbljkhfbaaGreat
open Go.Tidy
variable {L : List Blk} {k : V → List Blk → Prop}
theorem getN {A : List Blk} {N : Nat} (h : A.length = N) (x : Blk) : (A ++ [x])[N]? = some x:=by subst h; exact List.getElem?_concat_length
theorem setN {A : List Blk} {N : Nat} (h : A.length = N) (x y : Blk) : (A ++ [x]).set N y = A ++ [y]:=by subst h; simp
def Rounds (N : Nat) (k : V → List Blk → Prop) (P : Prop) (M : List Blk) (X : List D) (v : V) (M' : List Blk) : Prop :=
 (v = .d (.bool true) ∧ M' = M ++ [.cells (X.map .d)] ∧ P) ∨ (v = .d (.bool false) ∧ ∃ Z,M' = Z ++ [.cells (X.map .d)] ∧ Z.length = N ∧ belB N Z = true ∧ k (.tup []) Z)
theorem states_c (R : List Rnd) (c : Int) (h : k (.d (.fn 153 [.rptr [rndsD R],.rptr [DI c]])) L) : CallP C 131 [.d (rndsD R),I c] L k:=by
 refine CallP.pure ?_ rfl (fun _=>rfl) h
 clear h
 refine callP_of C_ok Tryz.func131 rfl rfl (n:=_) rfl (w18 rfl) (rs:=_) rfl ?_
 repeat' ((conv=>whnf); first|refine w0 ?_|refine w1 ?_|refine w2 (fun h=>?_) (fun h=>?_)|refine w3 ?_|refine w4 (fun h=>?_) (fun h=>?_)|refine w5 _ rfl ?_|refine w6 rfl ?_|refine w7 mixed rfl ?_)
 conv=>whnf
 exact FinP.data (L':=[]) (.d (.fnL (.cons (.ptrL (w22 _) rfl (.cons (.d _) .nil)) (.cons (.ptrL (w22 _) rfl (.cons (.d _) .nil)) .nil)))) rfl rfl ⟨rfl,rfl⟩
theorem states1_c (R : List Rnd) (c : Int) (hl : R.length ≤ 4611686018427387904) (b N : Nat) (P : Nat → Prop) (S : Nat → List Blk) (hS : ∀ i,(S i).length = N) (hbS : ∀ i,belB N (S i) = true) (hb : b < N)
  (hy : ∀ (i : Nat) (hi : i < R.length) (X : List D),P i → stR R[i] c ≠ 2 → YieldP C b [I i,I (stR R[i] c)] (S i ++ [.cells (X.map .d)]) (Rounds N k (P (i + 1)) (S (i + 1)) X))
  (h0 : ∀ (i : Nat),i ≤ R.length → P i → (∀ h : i < R.length,stR R[i] c = 2) → k (.tup []) (S i)) (hP : P 0) :
  CallP C 153 [.yld b,.d (.rptr [rndsD R]),.d (.rptr [DI c])] (S 0) k:=by
 have gS : ∀ i x,(S i ++ [x])[N]? = some x:=fun i x=>getN (hS i) x
 have sS : ∀ i x y,(S i ++ [x]).set N y = S i ++ [y]:=fun i x y=>setN (hS i) x y
 refine callP_of C_ok Tryz.func153 rfl rfl (n:=_) rfl (w18 rfl) (rs:=_) rfl ?_
 conv=>whnf
 refine LoopP.intro (ι:={ i : Nat // i ≤ R.length ∧ P i }) (fun i=>⟨[(0,.yld b),(2,.d (.rptr [DI c])),(7,.d (rndsD R)),(8,I R.length),(9,I i.1)],Tryz.f153.ntmps,S i.1,[],none⟩) (fun i=>R.length - i.1) ⟨0,Nat.zero_le _,hP⟩ ?_ ?_
 ·exact Weak.by ⟨rfl,rfl,rfl,congrArg I (by simp),rfl,trivial⟩
 rintro ⟨i,hi,hPi⟩
 conv=>whnf
 refine w2 (fun h=>?_) (fun h=>?_)
 ·have hi' : i < R.length:=by simpa using h
  repeat' ((conv=>whnf); first|refine w0 ?_|refine w1 ?_|refine w2 (fun h=>?_) (fun h=>?_)|refine w3 ?_|refine w4 (fun h=>?_) (fun h=>?_)|refine w5 _ rfl ?_|refine w6 rfl ?_|refine w7 mixed rfl ?_|refine w11 i rfl hi' ?_|simp only [gS,hS,sS]|refine state_c R[i] c ?_|refine w12 _ (state_c R[i] c ⟨rfl,rfl⟩) ?_)
  all_goals conv=>whnf
  ·exact FinP.drop (n:=N) (List.take_left' (hS _)) (w21 _) rfl (hbS _) (h0 i hi hPi fun _=>h)
  ·refine YieldP.mono (hy i hi' R[i].cells hPi h) ?_
   rintro v M' (⟨rfl,rfl,hPn⟩ | ⟨rfl,Z,rfl,hz1,hz2,hz3⟩)
   ·repeat' (conv => whnf
             first|refine w0 ?_|refine w1 ?_|refine w2 (fun h=>?_) (fun h=>?_)|refine w3 ?_|refine w4 (fun h=>?_) (fun h=>?_)|refine w5 _ rfl ?_|refine w6 rfl ?_|refine w7 mixed rfl ?_|simp only [gS,hS,sS])
    conv=>whnf
    refine ⟨⟨i + 1,hi',hPn⟩,by simp only []; omega,Weak.to N ?_ (w21 _) (by simp [hS]) ⟨rfl,rfl,rfl,rfl,congrArg I (by rw [wrap_id] <;> (try simp only []) <;> omega),trivial⟩ (hf:=?_) (hB:=hbS _)⟩
    ·exact List.take_left' (hS _)
    ·simp [belF,V.bel,hb]
   ·repeat' (conv => whnf
             first|refine w0 ?_|refine w1 ?_|refine w2 (fun h=>?_) (fun h=>?_)|refine w3 ?_|refine w4 (fun h=>?_) (fun h=>?_)|refine w5 _ rfl ?_|refine w6 rfl ?_|refine w7 mixed rfl ?_|simp only [gS,hS,sS])
    conv=>whnf
    exact FinP.drop (n:=N) (List.take_left' hz1) (w21 _) rfl hz2 hz3
 ·have hie : ¬ i < R.length:=by simpa using h
  repeat' ((conv=>whnf); first|refine w0 ?_|refine w1 ?_|refine w2 (fun h=>?_) (fun h=>?_)|refine w3 ?_|refine w4 (fun h=>?_) (fun h=>?_)|refine w5 _ rfl ?_|refine w6 rfl ?_|refine w7 mixed rfl ?_)
  conv=>whnf
  exact FinP.same (h0 i hi hPi fun h=>absurd h hie)
def kst (R : List Rnd) (c : Int) : List Int:=(R.map fun r=>stR r c).takeWhile fun s=>decide (s ≠ 2)
def brkStep (a : Int × Int) (s : Int) : Int × Int:=if s = 0 then a else (s,if s = a.1 then a.2 + 1 else a.2)
def brkF (l : List Int) : Int × Int:=l.foldl brkStep (0,0)
theorem brkF_snoc (l : List Int) (s : Int) : brkF (l ++ [s]) = brkStep (brkF l) s:=by unfold brkF; rw [List.foldl_append]; rfl
theorem brkF_bound (l : List Int) : 0 ≤ (brkF l).2 ∧ (brkF l).2 ≤ l.length:=by
 unfold brkF
 suffices h : ∀ (l : List Int) (a : Int × Int),a.2 ≤ (l.foldl brkStep a).2 ∧ (l.foldl brkStep a).2 ≤ a.2 + l.length by simpa using h l (0,0)
 intro l
 induction l with
 | nil=>intro a; simp
 | cons s l ih =>
  intro a
  have:=ih (brkStep a s)
  have h2 : a.2 ≤ (brkStep a s).2 ∧ (brkStep a s).2 ≤ a.2 + 1:=by
   unfold brkStep; split
   ·omega
   ·simp only; split <;> omega
  simp only [List.foldl_cons,List.length_cons]
  omega
theorem kst_take {R : List Rnd} {c : Int} : ∀ {i : Nat},i ≤ R.length → (∀ (j : Nat) (hj : j < R.length),j < i → stR R[j] c ≠ 2) → (∀ h : i < R.length,stR R[i] c = 2) → kst R c = (R.take i).map fun r=>stR r c:=by
 induction R with
 | nil=>intro i hi _ _; simp [kst]
 | cons r R ih =>
  intro i hi hP hend
  unfold kst
  cases i with
  | zero =>
   have h0:=hend (by simp)
   simp only [List.getElem_cons_zero] at h0
   simp [h0]
  | succ i =>
   have h0:=hP 0 (by simp) (by omega)
   simp only [List.getElem_cons_zero] at h0
   rw [List.map_cons,List.takeWhile_cons_of_pos (by simpa using h0),List.take_succ_cons,List.map_cons]
   exact congrArg (stR r c :: ·) (ih (i:=i) (by simpa using hi) (fun j hj hji=>hP (j + 1) (by simpa using hj) (by omega)) (fun h=>hend (by simpa using h)))
def brkM (d : Dm) (a : Int × Int) (blk : Blk) : List Blk:=[.cells (d.cells.map .d),.cells [I a.1],.cells [I a.2],.defr,blk]
theorem brkM_bel {n : Nat} {d : Dm} {a : Int × Int} {blk : Blk} (hb : blk.bel n = true) : belB n (brkM d a blk) = true:=by
 show (V.belL n (d.cells.map .d) && (V.belL n [I a.1] && (V.belL n [I a.2] && (true && (blk.bel n && true))))) = true
 rw [hb,V.belL_d]; rfl
theorem brkM_bel1 {n : Nat} {d : Dm} {a : Int × Int} {blk : Blk} {X : List D} (hb : blk.bel n = true) : belB n (brkM d a blk ++ [.cells (X.map .d)]) = true:=by
 show (V.belL n (d.cells.map .d) && (V.belL n [I a.1] && (V.belL n [I a.2] && (true && (blk.bel n && (V.belL n (X.map .d) && true)))))) = true
 rw [hb,V.belL_d,V.belL_d]; rfl
theorem CallP.conv {f : FuncId} {args args' : List V} {L' : List Blk} (ha : args = args') (hL : L = L') (h : CallP C f args' L' k) : CallP C f args L k:=by subst ha hL; exact h
theorem broken_c (R : List Rnd) (d : Dm) (hl : R.length ≤ 4611686018427387904) (h : k (B (decide (d.n < (brkF (kst R d.club)).2))) L) : CallP C 90 [.d (rndsD R),dmV d] L k:=by
 refine CallP.pure ?_ rfl (fun _=>rfl) h
 clear h
 refine callP_of C_ok Tryz.func90 rfl rfl (n:=_) rfl (w18 rfl) (rs:=_) rfl ?_
 repeat' ((conv=>whnf); first|refine w0 ?_|refine w1 ?_|refine w2 (fun h=>?_) (fun h=>?_)|refine w3 ?_|refine w4 (fun h=>?_) (fun h=>?_)|refine w5 _ rfl ?_|refine w6 rfl ?_|refine w7 mixed rfl ?_|refine states_c R d.club ?_)
 conv=>whnf
 refine CallP.conv (args':=[.yld 4,.d (.rptr [rndsD R]),.d (.rptr [DI d.club])]) (L':=brkM d (0,0) (.loop _)) rfl rfl ?_
 generalize hblk : Blk.loop _ = blk
 have hb5 : blk.bel 5 = true:=by rw [← hblk]; rfl
 have hb6 : blk.bel 6 = true:=by rw [← hblk]; rfl
 have hB : ∀ (a : Int × Int) (X : List D),belB 6 (brkM d a blk ++ [.cells (X.map .d)]) = true:=fun a X=>brkM_bel1 hb6
 have hB5 : ∀ (a : Int × Int),belB 5 (brkM d a blk) = true:=fun a=>brkM_bel hb5
 have step : ∀ (a : Int × Int) (i s : Int) (X : List D),0 ≤ a.2 ∧ a.2 ≤ 4611686018427387904 → YieldP C 4 [I i,I s] (brkM d a blk ++ [.cells (X.map .d)]) (fun v M'=>v = .d (.bool true) ∧ M' = brkM d (brkStep a s) blk ++ [.cells (X.map .d)]):=by
  rintro ⟨last,n⟩ i s X hn
  subst hblk
  refine YieldP.round C_ok (fun _=>false) ?_
  repeat' ((conv=>whnf); first|refine w0 ?_|refine w1 ?_|refine w2 (fun h=>?_) (fun h=>?_)|refine w3 ?_|refine w4 (fun h=>?_) (fun h=>?_)|refine w5 _ rfl ?_|refine w6 rfl ?_|refine w7 mixed rfl ?_)
  all_goals conv=>whnf
  ·refine w15 (n:=6) (L':=brkM d (last,n) _ ++ [.cells (X.map .d)]) rfl (w21 6) rfl (hB (last,n) X) ⟨rfl,?_⟩
   rw [brkStep,if_pos h]
  ·rename_i h1
   refine w15 (n:=6) (L':=brkM d (s,IntKind.i64.wrap (n + 1)) _ ++ [.cells (X.map .d)]) rfl (w21 6) rfl (hB _ X) ⟨rfl,?_⟩
   rw [brkStep,if_neg h1,if_pos h,wrap_in (by simp only at hn; omega)]
  ·rename_i h1
   refine w15 (n:=6) (L':=brkM d (s,n) _ ++ [.cells (X.map .d)]) rfl (w21 6) rfl (hB _ X) ⟨rfl,?_⟩
   rw [brkStep,if_neg h1,if_neg h]
 refine states1_c R d.club hl 4 5 (fun i=>∀ (j : Nat) (hj : j < R.length),j < i → stR R[j] d.club ≠ 2) (fun i=>brkM d (brkF ((R.take i).map fun r=>stR r d.club)) blk) (fun _=>rfl) (fun i=>hB5 _) (by decide) ?_ ?_ (fun j _ h=>absurd h (Nat.not_lt_zero j))
 ·intro i hi X hP hne
  have hbd:=brkF_bound ((R.take i).map fun r=>stR r d.club)
  rw [List.length_map,List.length_take] at hbd
  refine YieldP.mono (step (brkF ((R.take i).map fun r=>stR r d.club)) i _ X ⟨hbd.1,by omega⟩) ?_
  rintro v M' ⟨rfl,rfl⟩
  refine .inl ⟨rfl,?_,fun j hj hji=>?_⟩
  ·have e : brkF ((R.take (i + 1)).map fun r=>stR r d.club) = brkStep (brkF ((R.take i).map fun r=>stR r d.club)) (stR R[i] d.club):=by rw [take_next hi,List.map_append,← brkF_snoc]; rfl
   exact congrArg (fun a=>brkM d a blk ++ [Blk.cells (X.map V.d)]) e.symm
  ·by_cases e : j = i
   ·subst e; exact hne
   ·exact hP j hj (by omega)
 ·intro i hi hP hend
  rw [← kst_take hi hP hend]
  subst hblk
  repeat' ((conv=>whnf); first|refine w0 ?_|refine w1 ?_|refine w2 (fun h=>?_) (fun h=>?_)|refine w3 ?_|refine w4 (fun h=>?_) (fun h=>?_)|refine w5 _ rfl ?_|refine w6 rfl ?_|refine w7 mixed rfl ?_)
  conv=>whnf
  exact FinP.drop (n:=0) rfl (w21 0) rfl rfl ⟨rfl,rfl⟩
def doneB : Blk → Blk
 | .loop r=>.loop { r with st:=.done,pend:=some .ret }
 | b=>b
def tiltGo (n : Int) : List Int → Int → Bool
 | [],_=>false
 | s :: l,sum=>if n < sum + s ∨ n < -(sum + s) then true else tiltGo n l (sum + s)
def tiM (d : Dm) (r : Bool) (sum : Int) (blk : Blk) : List Blk:=[.cells (d.cells.map .d),.cells [B r],.cells [I sum],.defr,blk]
theorem tiM_bel {n : Nat} {d : Dm} {r : Bool} {a : Int} {blk : Blk} (hb : blk.bel n = true) : belB n (tiM d r a blk) = true:=by
 show (V.belL n (d.cells.map .d) && (V.belL n [B r] && (V.belL n [I a] && (true && (blk.bel n && true))))) = true
 rw [hb,V.belL_d]; rfl
theorem tiM_bel1 {n : Nat} {d : Dm} {r : Bool} {a : Int} {blk : Blk} {X : List D} (hb : blk.bel n = true) : belB n (tiM d r a blk ++ [.cells (X.map .d)]) = true:=by
 show (V.belL n (d.cells.map .d) && (V.belL n [B r] && (V.belL n [I a] && (true && (blk.bel n && (V.belL n (X.map .d) && true)))))) = true
 rw [hb,V.belL_d,V.belL_d]; rfl
theorem stateF_range (kn : Int → Bool) (c : Int) : ∀ l : List Mt,-1 ≤ stateF l kn c ∧ stateF l kn c ≤ 2
 | []=>by rw [stateF]; split <;> omega
 | m :: l=>by
  rw [stateF]
  split
  ·omega
  ·split
   ·omega
   ·exact stateF_range kn c l
theorem stR_range (r : Rnd) (c : Int) : -1 ≤ stR r c ∧ stR r c ≤ 2:=stateF_range _ _ _
def sumAt (R : List Rnd) (c : Int) (i : Nat) : Int:=((R.take i).map fun r=>stR r c).sum
theorem sumAt_next {R : List Rnd} {c : Int} {i : Nat} (h : i < R.length) : sumAt R c (i + 1) = sumAt R c i + stR R[i] c:=by
 unfold sumAt; rw [take_next h,List.map_append,List.sum_append]; simp
theorem sumAt_bound (R : List Rnd) (c : Int) : ∀ i : Nat,-2 * (R.length : Int) ≤ sumAt R c i ∧ sumAt R c i ≤ 2 * R.length:=by
 have key : ∀ l : List Rnd,-2 * (l.length : Int) ≤ (l.map fun r=>stR r c).sum ∧ (l.map fun r=>stR r c).sum ≤ 2 * l.length:=by
  intro l
  induction l with
  | nil=>simp
  | cons r l ih =>
   have:=stR_range r c
   simp only [List.map_cons,List.sum_cons,List.length_cons]
   omega
 intro i
 have h:=key (R.take i)
 have : (R.take i).length ≤ R.length:=by rw [List.length_take]; omega
 unfold sumAt
 omega
theorem kst_drop {R : List Rnd} {c : Int} : ∀ {i : Nat} (hi : i < R.length),(∀ (j : Nat) (hj : j < R.length),j ≤ i → stR R[j] c ≠ 2) → (kst R c).drop i = stR R[i] c :: (kst R c).drop (i + 1):=by
 induction R with
 | nil=>intro i hi; simp at hi
 | cons r R ih =>
  intro i hi hP
  have h0:=hP 0 (by simp) (by omega)
  simp only [List.getElem_cons_zero] at h0
  have hk : kst (r :: R) c = stR r c :: kst R c:=by
   unfold kst; rw [List.map_cons,List.takeWhile_cons_of_pos (by simpa using h0)]
  rw [hk]
  cases i with
  | zero=>rfl
  | succ i =>
   simp only [List.drop_succ_cons]
   exact ih (i:=i) (by simpa using hi) fun j hj hji=>hP (j + 1) (by simpa using hj) (by omega)
theorem tilted_c (R : List Rnd) (d : Dm) (hl : R.length ≤ 1073741824) (h : k (B (tiltGo d.n (kst R d.club) 0)) L) : CallP C 91 [.d (rndsD R),dmV d] L k:=by
 refine CallP.pure ?_ rfl (fun _=>rfl) h
 clear h
 refine callP_of C_ok Tryz.func91 rfl rfl (n:=_) rfl (w18 rfl) (rs:=_) rfl ?_
 repeat' ((conv=>whnf); first|refine w0 ?_|refine w1 ?_|refine w2 (fun h=>?_) (fun h=>?_)|refine w3 ?_|refine w4 (fun h=>?_) (fun h=>?_)|refine w5 _ rfl ?_|refine w6 rfl ?_|refine w7 mixed rfl ?_|refine states_c R d.club ?_)
 conv=>whnf
 refine CallP.conv (args':=[.yld 4,.d (.rptr [rndsD R]),.d (.rptr [DI d.club])]) (L':=tiM d false 0 (.loop _)) rfl rfl ?_
 generalize hblk : Blk.loop _ = blk
 have hb5 : blk.bel 5 = true:=by rw [← hblk]; rfl
 have hb6 : blk.bel 6 = true:=by rw [← hblk]; rfl
 have step : ∀ (a i s : Int) (X : List D),(-4611686018427387904 ≤ a ∧ a ≤ 4611686018427387904) → (-2 ≤ s ∧ s ≤ 2) → YieldP C 4 [I i,I s] (tiM d false a blk ++ [.cells (X.map .d)]) (fun v M' =>
   (¬ (d.n < a + s ∨ d.n < -(a + s)) ∧ v = .d (.bool true) ∧ M' = tiM d false (a + s) blk ++ [.cells (X.map .d)]) ∨ ((d.n < a + s ∨ d.n < -(a + s)) ∧ v = .d (.bool false) ∧ M' = tiM d true (a + s) (doneB blk) ++ [.cells (X.map .d)])):=by
  intro a i s X ha hs
  subst hblk
  have e1 : IntKind.i64.wrap (a + s) = a + s:=wrap_in (by omega)
  have e2 : IntKind.i64.wrap (-(a + s)) = -(a + s):=wrap_in (by omega)
  have e3 : IntKind.i64.wrap (0 - (a + s)) = -(a + s):=by rw [wrap_in (by omega)]; omega
  refine YieldP.round C_ok (fun _=>false) ?_
  repeat' ((conv=>whnf); first|refine w0 ?_|refine w1 ?_|refine w2 (fun h=>?_) (fun h=>?_)|refine w3 ?_|refine w4 (fun h=>?_) (fun h=>?_)|refine w5 _ rfl ?_|refine w6 rfl ?_|refine w7 mixed rfl ?_)
  all_goals conv=>whnf
  ·rw [e1] at h
   exact FinP.drop (n:=6) (L':=tiM d true (IntKind.i64.wrap (a + s)) _ ++ [.cells (X.map .d)]) rfl (Nat.le_refl 6) rfl (tiM_bel1 rfl) (.inr ⟨.inl h,rfl,by rw [e1]; rfl⟩)
  ·rw [e1,e3] at h
   exact FinP.drop (n:=6) (L':=tiM d true (IntKind.i64.wrap (a + s)) _ ++ [.cells (X.map .d)]) rfl (Nat.le_refl 6) rfl (tiM_bel1 rfl) (.inr ⟨.inr h,rfl,by rw [e1]; rfl⟩)
  ·rename_i h1
   rw [e1,e3] at h
   rw [e1] at h1
   exact FinP.drop (n:=6) (L':=tiM d false (IntKind.i64.wrap (a + s)) _ ++ [.cells (X.map .d)]) rfl (Nat.le_refl 6) rfl (tiM_bel1 hb6) (.inl ⟨fun hh=>hh.elim h1 h,rfl,by rw [e1]⟩)
 refine states1_c R d.club (by omega) 4 5 (fun i=>(∀ (j : Nat) (hj : j < R.length),j < i → stR R[j] d.club ≠ 2) ∧ tiltGo d.n (kst R d.club) 0 = tiltGo d.n ((kst R d.club).drop i) (sumAt R d.club i)) (fun i=>tiM d false (sumAt R d.club i) blk) (fun _=>rfl) (fun i=>tiM_bel hb5) (by decide) ?_ ?_ ⟨fun j _ h=>absurd h (Nat.not_lt_zero j),rfl⟩
 ·intro i hi X hP hne
  obtain ⟨hP,heq⟩:=hP
  have hbd:=sumAt_bound R d.club i
  have hst:=stR_range R[i] d.club
  have hdrop:=kst_drop hi (fun j hj hji=>by
   by_cases e : j = i
   ·subst e; exact hne
   ·exact hP j hj (by omega) : ∀ (j : Nat) (hj : j < R.length),j ≤ i → stR R[j] d.club ≠ 2)
  rw [hdrop,tiltGo,← sumAt_next hi] at heq
  refine YieldP.mono (step (sumAt R d.club i) i _ X (by omega) (by omega)) ?_
  rintro v M' (⟨hno,rfl,rfl⟩ | ⟨hyes,rfl,rfl⟩)
  ·refine .inl ⟨rfl,by rw [sumAt_next hi],fun j hj hji=>?_,?_⟩
   ·by_cases e : j = i
    ·subst e; exact hne
    ·exact hP j hj (by omega)
   ·rw [← sumAt_next hi] at hno
    rw [heq,if_neg hno]
  ·rw [← sumAt_next hi] at hyes
   rw [if_pos hyes] at heq
   refine .inr ⟨rfl,_,rfl,rfl,tiM_bel (by subst hblk; rfl),?_⟩
   rw [heq]
   subst hblk
   repeat' ((conv=>whnf); first|refine w0 ?_|refine w1 ?_|refine w2 (fun h=>?_) (fun h=>?_)|refine w3 ?_|refine w4 (fun h=>?_) (fun h=>?_)|refine w5 _ rfl ?_|refine w6 rfl ?_|refine w7 mixed rfl ?_)
   conv=>whnf
   exact FinP.drop (n:=0) rfl (w21 0) rfl rfl ⟨rfl,rfl⟩
 ·intro i hi hP hend
  obtain ⟨hP,heq⟩:=hP
  have hk:=kst_take hi hP hend
  rw [List.drop_of_length_le (by rw [hk,List.length_map,List.length_take]; omega),tiltGo] at heq
  rw [heq]
  subst hblk
  repeat' ((conv=>whnf); first|refine w0 ?_|refine w1 ?_|refine w2 (fun h=>?_) (fun h=>?_)|refine w3 ?_|refine w4 (fun h=>?_) (fun h=>?_)|refine w5 _ rfl ?_|refine w6 rfl ?_|refine w7 mixed rfl ?_)
  conv=>whnf
  exact FinP.drop (n:=0) rfl (w21 0) rfl rfl ⟨rfl,rfl⟩
end Go.Proofs.YtndlggbljkhfbaaGreat
namespace Go.Proofs.YtndlggbljkhfbaaGreat
open Go.Tidy
variable {L : List Blk} {k : V → List Blk → Prop}
def doomsF (R : List Rnd) (d : Dm) : Bool :=
 if d.kind = 1 then doesF R 1 d else if d.kind = 2 then doesF R (-1) d else if d.kind = 3 then doesF R 0 d else if d.kind = 4 then k4F R d else if d.kind = 5 then meets R d
 else if d.kind = 6 then R.any (overF d 1) else if d.kind = 7 then R.any (overF d d.n) else if d.kind = 8 then closeGo d R 0 0 false
 else if d.kind = 9 then decide (d.n < (brkF (kst R d.club)).2) else tiltGo d.n (kst R d.club) 0
theorem hold1_c (n : Int) (h : k (B true) L) : CallP C 111 [I n] L k:=by
 refine CallP.pure ?_ rfl (fun _=>rfl) h
 clear h
 refine callP_of C_ok Tryz.func111 rfl rfl (n:=_) rfl (w18 rfl) (rs:=_) rfl ?_
 repeat' ((conv=>whnf); first|refine w0 ?_|refine w1 ?_|refine w2 (fun h=>?_) (fun h=>?_)|refine w3 ?_|refine w4 (fun h=>?_) (fun h=>?_)|refine w5 _ rfl ?_|refine w6 rfl ?_|refine w7 mixed rfl ?_)
 conv=>whnf
 exact FinP.drop (n:=0) rfl (w21 0) rfl rfl ⟨rfl,rfl⟩
def hRnd (l : List Mt) : Rnd:=if h : l.length ≤ 4611686018427387904 then ⟨l,fun _=>true,111,[],h,fun n L k h=>hold1_c n h⟩ else noRnd
def hE (l : List Mt) : List V:=[.d (mts l),.fn 111 []]
theorem hRnd_cells {l : List Mt} (h : l.length ≤ 4611686018427387904) : (hRnd l).cells = [mts l,.fn 111 []]:=by unfold hRnd; rw [dif_pos h]; rfl
theorem belR_of {n : Nat} : ∀ {A : List (List V)},(∀ x ∈ A,V.belL n x = true) → belR n A = true
 | [],_=>rfl
 | x :: A,h=>by
  rw [belR,h x (by simp),belR_of fun y hy=>h y (by simp [hy])]; rfl
theorem hE_bel (n m g : Nat) (l : List (List Mt)) : belB n [.row g m (l.map hE)] = true:=by
 simp only [belB,Blk.bel,Bool.and_true]
 refine belR_of fun x hx=>?_
 obtain ⟨c,_,rfl⟩:=List.mem_map.1 hx
 rfl
theorem hE_rows {S : Nat → Prop} {L : List Blk} : ∀ {l : List (List Mt)},(∀ r ∈ l,r.length ≤ 4611686018427387904) → CvLL S L (l.map hE) ((l.map hRnd).map Rnd.cells)
 | [],_=>.nil
 | r :: l,h=>by
  simp only [List.map_cons]
  rw [hRnd_cells (h r (by simp))]
  exact .cons (.cons (.d _) (.cons (.fnL .nil) .nil)) (hE_rows fun r hr=>h r (by simp [hr]))
def holdsF (l : List (List Mt)) (d : Dm) : Bool:=decide (1 ≤ d.kind ∧ d.kind ≤ 10) && !(decide (d.kind ≤ 4) && (decide (d.round < 0) || decide (l.length ≤ d.round))) && !doomsF (l.map hRnd) d
def DoomsOk (R : List Rnd) (d : Dm) (f : FuncId) (caps : List D) : Prop:=∀ (L : List Blk) (k : V → List Blk → Prop),k (B (doomsF R d)) L → CallP C f (.d (rndsD R) :: dmV d :: caps.map .d) L k
theorem kind_entry (R : List Rnd) (d : Dm) (hl : R.length ≤ 1073741824) (hd : d.clubs.length ≤ 4611686018427387904) (hk : 1 ≤ d.kind ∧ d.kind ≤ 10) :
  ∃ i w,firstAt d.kind kindKs i = true ∧ ((∃ f c,kindsMap[i]? = some (I d.kind,.agg [.d w,.d (.fn f [c])]) ∧ DoomsOk R d f [c]) ∨ (∃ f,kindsMap[i]? = some (I d.kind,.agg [.d w,.fn f []]) ∧ DoomsOk R d f [])):=by
 rcases d with ⟨kd,cl,ot,ro,nn,cs⟩
 simp only at hk
 have hk' : kd = 1 ∨ kd = 2 ∨ kd = 3 ∨ kd = 4 ∨ kd = 5 ∨ kd = 6 ∨ kd = 7 ∨ kd = 8 ∨ kd = 9 ∨ kd = 10:=by omega
 rcases hk' with rfl | rfl | rfl | rfl | rfl | rfl | rfl | rfl | rfl | rfl
 ·exact ⟨0,_,rfl,.inl ⟨_,_,rfl,fun L k h=>does1_c R 1 _ (by omega) h⟩⟩
 ·exact ⟨1,_,rfl,.inl ⟨_,_,rfl,fun L k h=>does1_c R (-1) _ (by omega) h⟩⟩
 ·exact ⟨2,_,rfl,.inl ⟨_,_,rfl,fun L k h=>does1_c R 0 _ (by omega) h⟩⟩
 ·exact ⟨3,_,rfl,.inr ⟨_,rfl,fun L k h=>k4_c R _ (by omega) h⟩⟩
 ·exact ⟨4,_,rfl,.inr ⟨_,rfl,fun L k h=>k5_c R _ (by omega) h⟩⟩
 ·exact ⟨5,_,rfl,.inr ⟨_,rfl,fun L k h=>k7_c R _ (by omega) hd h⟩⟩
 ·exact ⟨6,_,rfl,.inr ⟨_,rfl,fun L k h=>k9_c R _ (by omega) hd h⟩⟩
 ·exact ⟨7,_,rfl,.inr ⟨_,rfl,fun L k h=>tooClose_c R _ (by omega) h⟩⟩
 ·exact ⟨8,_,rfl,.inr ⟨_,rfl,fun L k h=>broken_c R _ (by omega) h⟩⟩
 ·exact ⟨9,_,rfl,.inr ⟨_,rfl,fun L k h=>tilted_c R _ hl h⟩⟩
theorem hld_bel (n : Nat) (d : Dm) (w : D) (v : V) (j m : Nat) (l : List (List Mt)) (hv : v.bel n = true) : belB n [.cells [.d (lisD l)],.cells (d.cells.map .d),.cells [.d w,v],.row j 2 ((l.take m).map hE)] = true:=by
 have h:=hE_bel n 2 j (l.take m)
 simp only [belB,Bool.and_true] at h
 show (V.belL n [.d (lisD l)] && (V.belL n (d.cells.map .d) && (V.belL n [.d w,v] && (_ && true)))) = true
 rw [h,V.belL_d]
 simp [V.belL,V.bel,hv]
theorem hld_rows {S : Nat → Prop} {L : List Blk} {l : List (List Mt)} (hr : ∀ r ∈ l,r.length ≤ 4611686018427387904) : CvLL S L ((((l.take l.length).map hE).drop 0).take l.length) ((l.map hRnd).map Rnd.cells):=by
 rw [List.take_length,List.drop_zero,List.take_of_length_le (by simp)]
 exact hE_rows hr
theorem hld_len (l : List (List Mt)) (hr : ∀ r ∈ l,r.length ≤ 4611686018427387904) : ∀ e ∈ (l.map hRnd).map Rnd.cells,e.length = 2:=by
 intro e he
 obtain ⟨r,hr',rfl⟩:=List.mem_map.1 he
 rfl
theorem kinds_L (h : k (.map L.length) (L ++ [.map kindsMap])) : CallP C 35 [] L k:=by
 refine kinds_c.frame rfl fun X L' h'=>?_
 obtain ⟨rfl,rfl⟩:=h'
 have e : V.sh L.length (.map 0) = .map L.length:=by simp [V.sh]
 rw [e]
 exact h
theorem holds_c (l : List (List Mt)) (d : Dm) (hl : l.length ≤ 1073741824) (hr : ∀ r ∈ l,r.length ≤ 4611686018427387904) (hd : d.clubs.length ≤ 4611686018427387904) (h : k (B (holdsF l d)) L) : CallP C 54 [lisV l,dmV d] L k:=by
 refine CallP.pure ?_ rfl (fun _=>rfl) h
 clear h
 refine callP_of C_ok Tryz.func54 rfl rfl (n:=_) rfl (w18 rfl) (rs:=_) rfl ?_
 have hlR : (l.map hRnd).length ≤ 1073741824:=by simpa using hl
 by_cases hk : 1 ≤ d.kind ∧ d.kind ≤ 10
 ·obtain ⟨i,w,hi,⟨f,c,hm,hok⟩ | ⟨f,hm,hok⟩⟩:=kind_entry (l.map hRnd) d hlR hd hk
  ·repeat' (conv => whnf
            first|refine w0 ?_|refine w1 ?_|refine w2 (fun h=>?_) (fun h=>?_)|refine w3 ?_|refine w4 (fun h=>?_) (fun h=>?_)|refine w5 _ rfl ?_|refine w6 rfl ?_)
   conv=>whnf
   refine DrawP.por mixed [0,2,3] [[(1,0),(0,2),(2,2),(3,2),(4,0),(5,0),(6,0),(7,0),(8,0),(9,0)],[(1,0),(0,2),(2,2),(7,0),(3,2),(4,0),(5,0),(6,0),(8,0),(9,0)],[(1,0),(0,2),(7,0),(2,2),(3,2),(4,0),(5,0),(6,0),(8,0),(9,0)],[(1,0),(2,2),(0,2),(3,2),(4,0),(5,0),(6,0),(7,0),(8,0),(9,0)],[(1,0),(2,2),(0,2),(7,0),(3,2),(4,0),(5,0),(6,0),(8,0),(9,0)],[(1,0),(2,2),(7,0),(0,2),(3,2),(4,0),(5,0),(6,0),(8,0),(9,0)],[(1,0),(7,0),(0,2),(2,2),(3,2),(4,0),(5,0),(6,0),(8,0),(9,0)],[(1,0),(7,0),(2,2),(0,2),(3,2),(4,0),(5,0),(6,0),(8,0),(9,0)]] (by kernel_rfl) ?_
   conv=>whnf
   refine And.intro ?_ ?_
   rotate_left 1
   conv=>whnf
   refine And.intro ?_ ?_
   rotate_left 1
   conv=>whnf
   refine And.intro ?_ ?_
   rotate_left 1
   conv=>whnf
   refine And.intro ?_ ?_
   rotate_left 1
   conv=>whnf
   refine And.intro ?_ ?_
   rotate_left 1
   conv=>whnf
   refine And.intro ?_ ?_
   rotate_left 1
   conv=>whnf
   refine And.intro ?_ ?_
   all_goals
    repeat' ((conv=>whnf); first|refine w0 ?_|refine w1 ?_|refine w2 (fun h=>?_) (fun h=>?_)|refine w3 ?_|refine w4 (fun h=>?_) (fun h=>?_)|refine w5 _ rfl ?_|refine w6 rfl ?_|refine w13 _ _ (kinds_L ⟨rfl,rfl⟩) ?_|refine w13 _ _ (MapF.at kindKs i _ rfl hi hm ⟨rfl,rfl⟩) ?_|refine w13 (I d.kind) _ ⟨rfl,rfl⟩ ?_)
   all_goals conv=>whnf
   all_goals first | exact FinP.drop (n:=0) rfl (Nat.le_refl 0) rfl rfl ⟨rfl,congrArg B (by simp_all [holdsF] <;> omega)⟩ | skip
   all_goals
    refine LoopP.intro (ι:={ j : Nat // j ≤ l.length }) (fun j=>⟨[(3,.ptr 1 0),(5,.ptr 2 0),(7,.own 3 j.1 0 j.1),(38,.d (lisD l)),(39,I l.length),(40,I j.1)],Tryz.f54.ntmps,[.cells [.d (lisD l)],.cells (d.cells.map .d),.cells [.d w,.d (.fn f [c])],.row j.1 2 ((l.take j.1).map hE)],[],none⟩) (fun j=>l.length - j.1) ⟨0,Nat.zero_le _⟩ ?_ ?_
    ·have e : I (l.map fun r=>[mts r]).length = I l.length:=congrArg I (by simp)
     first
     | exact (Weak.nilOwn 7 2 rfl (by decide)).trans (Weak.re [0,1,3,4] ⟨rfl,rfl,rfl,rfl,e,rfl,trivial⟩ rfl (by decide) rfl)
     | exact (Weak.nilOwn 7 2 rfl (by decide)).trans (Weak.re [0,1,2,4] ⟨rfl,rfl,rfl,rfl,e,rfl,trivial⟩ rfl (by decide) rfl)
    rintro ⟨j,hj⟩
    conv=>whnf
    refine w2 (fun hb=>?_) (fun hb=>?_)
    ·have hj' : j < l.length:=by simpa using hb
     repeat' ((conv=>whnf); first|refine w0 ?_|refine w1 ?_|refine w2 (fun h=>?_) (fun h=>?_)|refine w3 ?_|refine w4 (fun h=>?_) (fun h=>?_)|refine w5 _ rfl ?_|refine w6 rfl ?_|refine w7 mixed rfl ?_|refine w11 j rfl hj' ?_|simp only [Nat.beq_refl,Bool.and_self]|refine w6 (by first|omega|(simp; omega)|(refine w23 (m:=4294967296) ?_ (apLim_ge _); first|omega|(simp; omega))) ?_)
     conv=>whnf
     refine ⟨⟨j + 1,hj'⟩,by simp only []; omega,Weak.to 4 (Eq.trans (b:=[Blk.cells [.d (lisD l)],.cells (d.cells.map .d),.cells [.d w,.d (.fn f [c])],Blk.row (j + 1) 2 (((l.take j).map hE).take j ++ [hE l[j]])]) rfl ?_) (w22 _) (w18 rfl)
      ⟨rfl,rfl,Eq.trans (b:=V.own 3 (j + 1) 0 (j + 1)) rfl ?_,rfl,rfl,congrArg I ?_,trivial⟩ (hB:=?_)⟩
     ·rw [take_next hj',List.map_append,List.take_of_length_le (l:=(l.take j).map hE) (by rw [List.length_map,List.length_take]; omega)]; rfl
     ·rfl
     ·rw [wrap_in (by omega)]; simp only []; omega
     ·exact hld_bel 4 d w _ _ _ l rfl
    ·have hje : j = l.length:=by simp at hb; omega
     subst hje
     repeat' ((conv=>whnf); first|refine w0 ?_|refine w1 ?_|refine w2 (fun h=>?_) (fun h=>?_)|refine w3 ?_|refine w4 (fun h=>?_) (fun h=>?_)|refine w5 _ rfl ?_|refine w6 rfl ?_|refine w7 mixed rfl ?_)
     conv=>whnf
     refine CallP.lent (x:=B (doomsF (l.map hRnd) d)) (hok _ _ ⟨rfl,rfl⟩) (.cv (.d (.rowL trivial rfl (hld_rows hr) (by simp) (hld_len l hr))) (.keep (.keep .nil))) rfl rfl ?_
     repeat' ((conv=>whnf); first|refine w0 ?_|refine w1 ?_|refine w2 (fun h=>?_) (fun h=>?_)|refine w3 ?_|refine w4 (fun h=>?_) (fun h=>?_)|refine w5 _ rfl ?_|refine w6 rfl ?_|refine w7 mixed rfl ?_)
     conv=>whnf
     refine w15 (n:=0) rfl (w21 0) rfl rfl ⟨rfl,congrArg B ?_⟩
     simp_all [holdsF]
  ·repeat' (conv => whnf
            first|refine w0 ?_|refine w1 ?_|refine w2 (fun h=>?_) (fun h=>?_)|refine w3 ?_|refine w4 (fun h=>?_) (fun h=>?_)|refine w5 _ rfl ?_|refine w6 rfl ?_)
   conv=>whnf
   refine DrawP.por mixed [0,2,3] [[(1,0),(0,2),(2,2),(3,2),(4,0),(5,0),(6,0),(7,0),(8,0),(9,0)],[(1,0),(0,2),(2,2),(7,0),(3,2),(4,0),(5,0),(6,0),(8,0),(9,0)],[(1,0),(0,2),(7,0),(2,2),(3,2),(4,0),(5,0),(6,0),(8,0),(9,0)],[(1,0),(2,2),(0,2),(3,2),(4,0),(5,0),(6,0),(7,0),(8,0),(9,0)],[(1,0),(2,2),(0,2),(7,0),(3,2),(4,0),(5,0),(6,0),(8,0),(9,0)],[(1,0),(2,2),(7,0),(0,2),(3,2),(4,0),(5,0),(6,0),(8,0),(9,0)],[(1,0),(7,0),(0,2),(2,2),(3,2),(4,0),(5,0),(6,0),(8,0),(9,0)],[(1,0),(7,0),(2,2),(0,2),(3,2),(4,0),(5,0),(6,0),(8,0),(9,0)]] (by kernel_rfl) ?_
   conv=>whnf
   refine And.intro ?_ ?_
   rotate_left 1
   conv=>whnf
   refine And.intro ?_ ?_
   rotate_left 1
   conv=>whnf
   refine And.intro ?_ ?_
   rotate_left 1
   conv=>whnf
   refine And.intro ?_ ?_
   rotate_left 1
   conv=>whnf
   refine And.intro ?_ ?_
   rotate_left 1
   conv=>whnf
   refine And.intro ?_ ?_
   rotate_left 1
   conv=>whnf
   refine And.intro ?_ ?_
   all_goals
    repeat' ((conv=>whnf); first|refine w0 ?_|refine w1 ?_|refine w2 (fun h=>?_) (fun h=>?_)|refine w3 ?_|refine w4 (fun h=>?_) (fun h=>?_)|refine w5 _ rfl ?_|refine w6 rfl ?_|refine w13 _ _ (kinds_L ⟨rfl,rfl⟩) ?_|refine w13 _ _ (MapF.at kindKs i _ rfl hi hm ⟨rfl,rfl⟩) ?_|refine w13 (I d.kind) _ ⟨rfl,rfl⟩ ?_)
   all_goals conv=>whnf
   all_goals first | exact FinP.drop (n:=0) rfl (Nat.le_refl 0) rfl rfl ⟨rfl,congrArg B (by simp_all [holdsF] <;> omega)⟩ | skip
   all_goals
    refine LoopP.intro (ι:={ j : Nat // j ≤ l.length }) (fun j=>⟨[(3,.ptr 1 0),(5,.ptr 2 0),(7,.own 3 j.1 0 j.1),(38,.d (lisD l)),(39,I l.length),(40,I j.1)],Tryz.f54.ntmps,[.cells [.d (lisD l)],.cells (d.cells.map .d),.cells [.d w,.fn f []],.row j.1 2 ((l.take j.1).map hE)],[],none⟩) (fun j=>l.length - j.1) ⟨0,Nat.zero_le _⟩ ?_ ?_
    ·have e : I (l.map fun r=>[mts r]).length = I l.length:=congrArg I (by simp)
     first
     | exact (Weak.nilOwn 7 2 rfl (by decide)).trans (Weak.re [0,1,3,4] ⟨rfl,rfl,rfl,rfl,e,rfl,trivial⟩ rfl (by decide) rfl)
     | exact (Weak.nilOwn 7 2 rfl (by decide)).trans (Weak.re [0,1,2,4] ⟨rfl,rfl,rfl,rfl,e,rfl,trivial⟩ rfl (by decide) rfl)
    rintro ⟨j,hj⟩
    conv=>whnf
    refine w2 (fun hb=>?_) (fun hb=>?_)
    ·have hj' : j < l.length:=by simpa using hb
     repeat' ((conv=>whnf); first|refine w0 ?_|refine w1 ?_|refine w2 (fun h=>?_) (fun h=>?_)|refine w3 ?_|refine w4 (fun h=>?_) (fun h=>?_)|refine w5 _ rfl ?_|refine w6 rfl ?_|refine w7 mixed rfl ?_|refine w11 j rfl hj' ?_|simp only [Nat.beq_refl,Bool.and_self]|refine w6 (by first|omega|(simp; omega)|(refine w23 (m:=4294967296) ?_ (apLim_ge _); first|omega|(simp; omega))) ?_)
     conv=>whnf
     refine ⟨⟨j + 1,hj'⟩,by simp only []; omega,Weak.to 4 (Eq.trans (b:=[Blk.cells [.d (lisD l)],.cells (d.cells.map .d),.cells [.d w,.fn f []],Blk.row (j + 1) 2 (((l.take j).map hE).take j ++ [hE l[j]])]) rfl ?_) (w22 _) (w18 rfl)
      ⟨rfl,rfl,Eq.trans (b:=V.own 3 (j + 1) 0 (j + 1)) rfl ?_,rfl,rfl,congrArg I ?_,trivial⟩ (hB:=?_)⟩
     ·rw [take_next hj',List.map_append,List.take_of_length_le (l:=(l.take j).map hE) (by rw [List.length_map,List.length_take]; omega)]; rfl
     ·rfl
     ·rw [wrap_in (by omega)]; simp only []; omega
     ·exact hld_bel 4 d w _ _ _ l rfl
    ·have hje : j = l.length:=by simp at hb; omega
     subst hje
     repeat' ((conv=>whnf); first|refine w0 ?_|refine w1 ?_|refine w2 (fun h=>?_) (fun h=>?_)|refine w3 ?_|refine w4 (fun h=>?_) (fun h=>?_)|refine w5 _ rfl ?_|refine w6 rfl ?_|refine w7 mixed rfl ?_)
     conv=>whnf
     refine CallP.lent (x:=B (doomsF (l.map hRnd) d)) (hok _ _ ⟨rfl,rfl⟩) (.cv (.d (.rowL trivial rfl (hld_rows hr) (by simp) (hld_len l hr))) (.keep .nil)) rfl rfl ?_
     repeat' ((conv=>whnf); first|refine w0 ?_|refine w1 ?_|refine w2 (fun h=>?_) (fun h=>?_)|refine w3 ?_|refine w4 (fun h=>?_) (fun h=>?_)|refine w5 _ rfl ?_|refine w6 rfl ?_|refine w7 mixed rfl ?_)
     conv=>whnf
     refine w15 (n:=0) rfl (w21 0) rfl rfl ⟨rfl,congrArg B ?_⟩
     simp_all [holdsF]
 ·have hno : holdsF l d = false:=by simp [holdsF,hk]
  rw [hno]
  repeat' ((conv=>whnf); first|refine w0 ?_|refine w1 ?_|refine w2 (fun h=>?_) (fun h=>?_)|refine w3 ?_|refine w4 (fun h=>?_) (fun h=>?_)|refine w5 _ rfl ?_|refine w6 rfl ?_)
  conv=>whnf
  refine DrawP.por mixed [0,2,3] [[(1,0),(0,2),(2,2),(3,2),(4,0),(5,0),(6,0),(7,0),(8,0),(9,0)],[(1,0),(0,2),(2,2),(7,0),(3,2),(4,0),(5,0),(6,0),(8,0),(9,0)],[(1,0),(0,2),(7,0),(2,2),(3,2),(4,0),(5,0),(6,0),(8,0),(9,0)],[(1,0),(2,2),(0,2),(3,2),(4,0),(5,0),(6,0),(7,0),(8,0),(9,0)],[(1,0),(2,2),(0,2),(7,0),(3,2),(4,0),(5,0),(6,0),(8,0),(9,0)],[(1,0),(2,2),(7,0),(0,2),(3,2),(4,0),(5,0),(6,0),(8,0),(9,0)],[(1,0),(7,0),(0,2),(2,2),(3,2),(4,0),(5,0),(6,0),(8,0),(9,0)],[(1,0),(7,0),(2,2),(0,2),(3,2),(4,0),(5,0),(6,0),(8,0),(9,0)]] (by kernel_rfl) ?_
  conv=>whnf
  refine And.intro ?_ ?_
  rotate_left 1
  conv=>whnf
  refine And.intro ?_ ?_
  rotate_left 1
  conv=>whnf
  refine And.intro ?_ ?_
  rotate_left 1
  conv=>whnf
  refine And.intro ?_ ?_
  rotate_left 1
  conv=>whnf
  refine And.intro ?_ ?_
  rotate_left 1
  conv=>whnf
  refine And.intro ?_ ?_
  rotate_left 1
  conv=>whnf
  refine And.intro ?_ ?_
  all_goals
   repeat' ((conv=>whnf); first|refine w0 ?_|refine w1 ?_|refine w2 (fun h=>?_) (fun h=>?_)|refine w3 ?_|refine w4 (fun h=>?_) (fun h=>?_)|refine w5 _ rfl ?_|refine w6 rfl ?_|refine w13 _ _ (kinds_L ⟨rfl,rfl⟩) ?_|refine w13 _ _ (MapF.no kindKs rfl (by simp only [kindKs,List.mem_cons,List.not_mem_nil,or_false]; omega) ⟨rfl,rfl⟩) ?_|refine w13 (I d.kind) _ ⟨rfl,rfl⟩ ?_)
  all_goals conv=>whnf
  all_goals exact FinP.drop (n:=0) rfl (w21 0) rfl rfl ⟨rfl,rfl⟩
end Go.Proofs.YtndlggbljkhfbaaGreat
namespace Go.Tidy
theorem LoopP.introI {k : Nat} {body : TS → (Exit → TS → Prop) → Prop} {σ : TS} {Q : Exit → TS → Prop} {α : Type} (I : α → Prop) (s : α → TS) (μ : α → Nat) (i0 : α) (hi0 : I i0) (h0 : Weak k σ (s i0))
  (h : ∀ i,I i → body (s i) fun e σ'=>match e with
   | .normal=>∃ j,I j ∧ μ j < μ i ∧ Weak k σ' (s j)
   | e=>Q e σ') (hb : ∀ σ R R',(∀ e σ',R e σ' → R' e σ') → body σ R → body σ R') : LoopP k body σ Q:=by
 refine LoopP.intro (ι:={ a : α // I a }) (fun a=>s a.1) (fun a=>μ a.1) ⟨i0,hi0⟩ h0 ?_
 intro a
 refine hb _ _ _ ?_ (h a.1 a.2)
 intro e σ' hr
 cases e with
 | normal=>obtain ⟨j,hj,hm,hw⟩:=hr; exact ⟨⟨j,hj⟩,hm,hw⟩
 | _=>exact hr
theorem LoopP.inv {C : Ctx} {cut : Code → Bool} {c : Code} {k : Nat} {σ : TS} {Q : Exit → TS → Prop} {α : Type} (I : α → Prop) (s : α → TS) (μ : α → Nat) (i0 : α) (hi0 : I i0) (h0 : Weak k σ (s i0))
  (h : ∀ i,I i → vc C cut k c (s i) fun e σ'=>match e with
   | .normal=>∃ j,I j ∧ μ j < μ i ∧ Weak k σ' (s j)
   | e=>Q e σ') : LoopP k (vc C cut k c) σ Q :=
 LoopP.introI I s μ i0 hi0 h0 h fun σ R R' hr=>vc_mono c σ R R' hr
end Go.Tidy
namespace Go.Tidy
section
variable {C : Ctx} {L L0 : List Blk}
theorem YieldP.embed [Quiet C] {b : Nat} {args : List V} {q k : V → List Blk → Prop} (bs : List Nat) (h : YieldP C b args L0 q) (hp : Part bs L0 L) (hb : b < L0.length) (ha : V.belL L0.length args = true)
  (hk : ∀ X L1,q X L1 → k (X.rn (rnI bs L.length)) (putB bs (rnB (rnI bs L.length) L1) L)) : YieldP C (rnI bs L.length b) (V.rnL (rnI bs L.length) args) L k:=by
 rw [YieldP_q] at h ⊢
 intro g w vs l hg hv hy
 obtain ⟨f,tmps,assign,body,h1,h2⟩:=h _ w vs l (hp.good hg) ⟨by rw [← hv.1,V.rnL_len],fun j x v hx hvj=>(hv.2 j (x.rn _) v (by rw [V.rnL_get,hx]; rfl) hvj).dn hp.emb x rfl (V.belL_get ha hx)⟩
  (hy.dn hp.emb (.yld b) rfl (by simpa [V.bel] using hb))
 refine ⟨f,tmps,assign,body,h1,RoundIn.mono h2 ?_⟩
 rintro e w' ⟨v,X,L1,g1,he,hX,hr,hg1,hpr⟩
 obtain ⟨h0,h1,h2⟩:=hp.fin hg hg1 hpr
 exact ⟨v,_,_,_,he,hk X L1 hX,hr.up h0,h1,h2⟩
theorem rnF_id {ρ : Nat → Nat} {k : Nat} (hρ : ∀ b,b < k → ρ b = b) : ∀ fr : List (Nat × V),belF k fr = true → rnF ρ fr = fr
 | [],_=>rfl
 | p :: r,h=>by simp only [belF,Bool.and_eq_true] at h; simp only [rnF,V.rn_id hρ _ h.1,rnF_id hρ r h.2]
theorem rnM_id {ρ : Nat → Nat} {k : Nat} (hρ : ∀ b,b < k → ρ b = b) : ∀ fr : List (V × V),belM k fr = true → rnM ρ fr = fr
 | [],_=>rfl
 | p :: r,h=>by simp only [belM,Bool.and_eq_true] at h; simp only [rnM,V.rn_id hρ _ h.1.1,V.rn_id hρ _ h.1.2,rnM_id hρ r h.2]
theorem rnR_id {ρ : Nat → Nat} {k : Nat} (hρ : ∀ b,b < k → ρ b = b) : ∀ fr : List (List V),belR k fr = true → rnR ρ fr = fr
 | [],_=>rfl
 | p :: r,h=>by simp only [belR,Bool.and_eq_true] at h; simp only [rnR,V.rnL_id hρ _ h.1,rnR_id hρ r h.2]
theorem Blk.rn_id {ρ : Nat → Nat} {k : Nat} (hρ : ∀ b,b < k → ρ b = b) (x : Blk) (h : x.bel k = true) : x.rn ρ = x:=by
 cases x with
 | cells cs=>simp only [Blk.bel] at h; simp only [Blk.rn,V.rnL_id hρ _ h]
 | row g sz els=>simp only [Blk.bel] at h; simp only [Blk.rn,rnR_id hρ _ h]
 | map es=>simp only [Blk.bel] at h; simp only [Blk.rn,rnM_id hρ _ h]
 | loop l =>
  simp only [Blk.bel,Bool.and_eq_true,decide_eq_true_eq] at h
  simp only [Blk.rn,rnF_id hρ _ h.1,hρ _ h.2]
 | defr=>rfl
 | dead=>rfl
theorem rnB_id {ρ : Nat → Nat} {k : Nat} (hρ : ∀ b,b < k → ρ b = b) : ∀ l : List Blk,belB k l = true → rnB ρ l = l
 | [],_=>rfl
 | p :: r,h=>by simp only [belB,Bool.and_eq_true] at h; simp only [rnB,Blk.rn_id hρ _ h.1,rnB_id hρ r h.2]
theorem rnI_range {n N b : Nat} (hb : b < n) : rnI (List.range n) N b = b:=by
 unfold rnI; rw [List.getElem?_range hb]
theorem putB_seg : ∀ (A0 A B E : List Blk),A.length = B.length → putB (List.range' A0.length A.length) B (A0 ++ (A ++ E)) = A0 ++ (B ++ E)
 | A0,[],[],E,_=>by simp [putB]
 | A0,a :: A,b :: B,E,h=>by
  simp only [List.length_cons,List.range'_succ,putB]
  have e1 : (A0 ++ (a :: A ++ E)).set A0.length b = (A0 ++ [b]) ++ (A ++ E):=by simp
  have e2 : A0.length + 1 = (A0 ++ [b]).length:=by simp
  rw [e1,e2,putB_seg (A0 ++ [b]) A B E (by simpa using h)]
  simp
theorem putB_range {S B E : List Blk} (h : B.length = S.length) : putB (List.range S.length) B (S ++ E) = B ++ E:=by
 rw [List.range_eq_range']
 simpa using putB_seg [] S B E h.symm
theorem Part.pre {S E : List Blk} (hb : belB S.length S = true) (hd : dfB S = true) : Part (List.range S.length) S (S ++ E):=by
 refine ⟨List.nodup_range,fun b hb=>?_,by simp,fun b c hc=>?_,hb,hd⟩
 ·have:=List.mem_range.1 hb; rw [List.length_append]; omega
 ·have hlt:=lt_of_get hc
  rw [List.length_range] at hlt
  rw [List.getElem?_range hlt] at hc
  cases hc
  rw [List.getElem?_append_left hlt,List.getElem?_eq_getElem hlt]
  simp only [Option.map_some]
  rw [Blk.rn_id (k:=S.length) (fun c hc=>rnI_range hc) _ (belB_get hb (List.getElem?_eq_getElem hlt))]
theorem YieldP.frame [Quiet C] {b : Nat} {args : List V} {S E : List Blk} {q k : V → List Blk → Prop} (h : YieldP C b args S q) (hS : belB S.length S = true) (hd : dfB S = true) (hb : b < S.length) (ha : V.belL S.length args = true)
  (hk : ∀ X L1,q X L1 → L1.length = S.length ∧ belB S.length L1 = true ∧ X.bel S.length = true ∧ k X (L1 ++ E)) : YieldP C b args (S ++ E) k:=by
 have hρ : ∀ c,c < S.length → rnI (List.range S.length) (S ++ E).length c = c:=fun c hc=>rnI_range hc
 have:=YieldP.embed (k:=k) (List.range S.length) h (Part.pre (E:=E) hS hd) hb ha fun X L1 hX=>by
  obtain ⟨h1,h2,h3,h4⟩:=hk X L1 hX
  rw [V.rn_id hρ _ h3,rnB_id hρ _ h2,putB_range h1]
  exact h4
 rw [hρ b hb,V.rnL_id hρ _ ha] at this
 exact this
def YR (N : Nat) (k : V → List Blk → Prop) (P : Prop) (M : List Blk) (v : V) (M' : List Blk) : Prop :=
 (v = .d (.bool true) ∧ M' = M ∧ P) ∨ (v = .d (.bool false) ∧ M'.length = N ∧ belB N M' = true ∧ k (.tup []) M')
def IterP (C : Ctx) (f : FuncId) (caps : List D) (xs : List (List V)) : Prop :=
 ∀ (b N : Nat) (P : Nat → Prop) (S : Nat → List Blk) (k : V → List Blk → Prop),(∀ i,(S i).length = N) → (∀ i,belB N (S i) = true) → (∀ i,dfB (S i) = true) → b < N →
  (∀ (i : Nat) (hi : i < xs.length),P i → YieldP C b xs[i] (S i) (YR N k (P (i + 1)) (S (i + 1)))) → (P xs.length → k (.tup []) (S xs.length)) → P 0 → CallP C f (.yld b :: caps.map .d) (S 0) k
theorem YR.frame [Quiet C] {b N : Nat} {args : List V} {S S' E : List Blk} {P : Prop} {k k' : V → List Blk → Prop} (h : YieldP C b args S (YR N k P S')) (hN : S.length = N) (hN' : S'.length = N) (hS : belB N S = true) (hS' : belB N S' = true) (hd : dfB S = true) (hb : b < N) (ha : V.belL N args = true)
  (h1 : ∀ M,M = S' ++ E → P → k' (.d (.bool true)) M) (h2 : ∀ Z M,M = Z ++ E → Z.length = N → belB N Z = true → k (.tup []) Z → k' (.d (.bool false)) M) : YieldP C b args (S ++ E) k':=by
 subst hN
 refine h.frame hS hd hb ha fun X L1 hX=>?_
 rcases hX with ⟨rfl,rfl,hP⟩ | ⟨rfl,hl,hb',hk⟩
 ·exact ⟨hN',hS',rfl,h1 _ rfl hP⟩
 ·exact ⟨hl,hb',rfl,h2 _ _ rfl hl hb' hk⟩
theorem YieldP.conv {b : Nat} {args : List V} {L L' : List Blk} {k : V → List Blk → Prop} (hL : L = L') (h : YieldP C b args L' k) : YieldP C b args L k:=by subst hL; exact h
end
end Go.Tidy
/-
 The base layer: a part of the memory,in contexts in which calls may end by a panic.
-/
namespace Go.Tidy
section
variable {C : Ctx} {L L0 : List Blk}
theorem PanS.embed {bs : List Nat} {L' : List Blk} {g g1 : Gh} {w w' : World} {v : Value} {X : V} (hp : Part bs L0 L) (hid : ∀ b,b < C.pn → rnI bs L.length b = b) (hg : Good g w L)
  (h : PanS C L0.length (g.small (rnI bs L.length)) w L0 v X L' g1 w') : PanS C L.length g w L v X L' g1 w':=by
 have up : ∀ r,owned (g.small (rnI bs L.length)) L0 r → owned g L r:=fun r ⟨b,hl,hm⟩=>⟨_,hp.lives hl,hm⟩
 have imm : ∀ r,g1.I r → g.I r ∨ w.heap.size ≤ r ∨ owned (g.small (rnI bs L.length)) L0 r:=fun r hr=>h.prog.imm r hr
 have hpl : C.pn ≤ L.length:=by
  rcases Nat.eq_zero_or_pos C.pn with e | hpos
  ·omega
  ·obtain ⟨c,_,h2,h3⟩:=hp.rn (b:=C.pn - 1) (by have:=h.hpn; omega)
   rw [hid _ (by omega)] at h2
   omega
 have same : ∀ b,b < C.pn → ∀ k : Blk,L[b]? = some k → ∃ k0,L0[b]? = some k0 ∧ k = k0.rn (rnI bs L.length):=fun b hb k hk=>by
  obtain ⟨c,h1,h2,_⟩:=hp.rn (b:=b) (by have:=h.hpn; omega)
  rw [hid b hb] at h2
  subst h2
  have:=hp.get b b h1
  rw [hk] at this
  obtain ⟨k0,e1,e2⟩:=map_some this.symm
  exact ⟨k0,e1,e2.symm⟩
 have defr : ∀ k0 : Blk,Blk.defr = k0.rn (rnI bs L.length) → k0 = .defr:=fun k0 e=>by
  cases k0 <;> simp only [Blk.rn,reduceCtorEq] at e
  rfl
 refine ⟨h.pan,hpl,h.rv,h.good,⟨h.prog.env,h.prog.size,fun r o ho hn=>h.prog.kept r o ho fun hh=>hn (up r hh),fun r hr hs=>up r (h.prog.own r hr hs),fun r hr=>?_,h.prog.immk,fun x v hb hx=>?_,fun b r hb hL hm=>?_,fun _=>h.prog.len h.hpn⟩,fun b q hb hL hm=>?_⟩
 ·rcases imm r hr with h1 | h1 | h1
  ·exact .inl h1
  ·exact .inr (.inl h1)
  ·exact .inr (.inr (up r h1))
 ·exact h.prog.mono x v hb (hx.dn hp.emb x (V.rn_id hid x hb).symm (V.bel_le h.hpn _ hb))
 ·obtain ⟨k0,h1,h2⟩:=same b hb _ hL
  rw [defr k0 h2] at h1
  exact h.prog.defr b r hb h1 (by rw [show (g.small (rnI bs L.length)).m b = g.m (rnI bs L.length b) from rfl,hid b hb]; exact hm)
 ·have hlive : live L b:=⟨_,hL,by simp⟩
  by_cases hin : b ∈ bs
  ·obtain ⟨b0,hb0⟩:=List.mem_iff_getElem?.1 hin
   have e:=hp.get b0 b hb0
   rw [hL] at e
   obtain ⟨k0,e1,e2⟩:=map_some e.symm
   rw [defr k0 e2.symm] at e1
   have hb0' : b0 < L0.length:=lt_of_get e1
   obtain ⟨c,h1,h2,_⟩:=hp.rn hb0'
   rw [hb0] at h1; cases h1
   exact h.df b0 q hb0' e1 (by rw [show (g.small (rnI bs L.length)).m b0 = g.m (rnI bs L.length b0) from rfl,h2]; exact hm)
  ·have hno : ¬ owned (g.small (rnI bs L.length)) L0 q:=by
    rintro ⟨b0,hl0,hm0⟩
    have:=hg.inj _ _ q (hp.lives hl0) hlive hm0 hm
    obtain ⟨k0,hk0,_⟩:=hl0
    obtain ⟨c,h1,h2,_⟩:=hp.rn (lt_of_get hk0)
    rw [h2] at this
    exact hin (this ▸ List.mem_of_getElem? h1)
   have hlt:=hg.owned_lt ⟨b,hlive,hm⟩
   obtain ⟨q',h1,h2⟩:=hg.blk b _ hL
   rw [hm] at h1; cases h1
   refine ⟨h.prog.kept q _ h2 hno,fun hI=>?_,fun ho=>hno (h.prog.own q ho hlt)⟩
   rcases imm q hI with h3 | h3 | h3
   ·exact hg.dis q ⟨b,hlive,hm⟩ h3
   ·omega
   ·exact hno h3
theorem CallP.embedP {f : FuncId} {args : List V} {q k : V → List Blk → Prop} (bs : List Nat) (h : CallP C f args L0 q) (hp : Part bs L0 L) (hid : ∀ b,b < C.pn → rnI bs L.length b = b) (ha : V.belL L0.length args = true)
  (hk : ∀ X L1,q X L1 → k (X.rn (rnI bs L.length)) (putB bs (rnB (rnI bs L.length) L1) L)) : CallP C f (V.rnL (rnI bs L.length) args) L k:=by
 unfold CallP at h ⊢
 refine ⟨h.1,fun g w vs hg hv=>(h.2 _ w vs (hp.good hg) ⟨by rw [← hv.1,V.rnL_len],fun j x v hx hvj=>?_⟩).mono ?_⟩
 ·exact (hv.2 j (x.rn _) v (by rw [V.rnL_get,hx]; rfl) hvj).dn hp.emb x rfl (V.belL_get ha hx)
 ·rintro e w' (⟨v,X,L1,g1,he,hX,hr,hg1,hpr⟩ | ⟨v,X,L',g1,he,hS⟩)
  ·obtain ⟨h0,h1,h2⟩:=hp.fin hg hg1 hpr
   exact .inl ⟨v,_,_,_,he,hk X L1 hX,hr.up h0,h1,h2⟩
  ·exact .inr ⟨v,X,L',g1,he,hS.embed hp hid hg⟩
theorem YieldP.embedP {b : Nat} {args : List V} {q k : V → List Blk → Prop} (bs : List Nat) (h : YieldP C b args L0 q) (hp : Part bs L0 L) (hid : ∀ b,b < C.pn → rnI bs L.length b = b) (hb : b < L0.length) (ha : V.belL L0.length args = true)
  (hk : ∀ X L1,q X L1 → k (X.rn (rnI bs L.length)) (putB bs (rnB (rnI bs L.length) L1) L)) : YieldP C (rnI bs L.length b) (V.rnL (rnI bs L.length) args) L k:=by
 unfold YieldP at h ⊢
 intro g w vs l hg hv hy
 obtain ⟨f,tmps,assign,body,h1,h2⟩:=h _ w vs l (hp.good hg) ⟨by rw [← hv.1,V.rnL_len],fun j x v hx hvj=>(hv.2 j (x.rn _) v (by rw [V.rnL_get,hx]; rfl) hvj).dn hp.emb x rfl (V.belL_get ha hx)⟩
  (hy.dn hp.emb (.yld b) rfl (by simpa [V.bel] using hb))
 refine ⟨f,tmps,assign,body,h1,RoundIn.mono h2 ?_⟩
 rintro e w' (⟨v,X,L1,g1,he,hX,hr,hg1,hpr⟩ | ⟨v,X,L',g1,he,hS⟩)
 ·obtain ⟨h0,h1,h2⟩:=hp.fin hg hg1 hpr
  exact .inl ⟨v,_,_,_,he,hk X L1 hX,hr.up h0,h1,h2⟩
 ·exact .inr ⟨v,X,L',g1,he,hS.embed hp hid hg⟩
theorem YieldP.frameP {b : Nat} {args : List V} {S E : List Blk} {q k : V → List Blk → Prop} (hpn : C.pn ≤ S.length) (h : YieldP C b args S q) (hS : belB S.length S = true) (hd : dfB S = true) (hb : b < S.length) (ha : V.belL S.length args = true)
  (hk : ∀ X L1,q X L1 → L1.length = S.length ∧ belB S.length L1 = true ∧ X.bel S.length = true ∧ k X (L1 ++ E)) : YieldP C b args (S ++ E) k:=by
 have hρ : ∀ c,c < S.length → rnI (List.range S.length) (S ++ E).length c = c:=fun c hc=>rnI_range hc
 have:=YieldP.embedP (k:=k) (List.range S.length) h (Part.pre (E:=E) hS hd) (fun c hc=>hρ c (by omega)) hb ha fun X L1 hX=>by
  obtain ⟨h1,h2,h3,h4⟩:=hk X L1 hX
  rw [V.rn_id hρ _ h3,rnB_id hρ _ h2,putB_range h1]
  exact h4
 rw [hρ b hb,V.rnL_id hρ _ ha] at this
 exact this
theorem CallP.frameP {f : FuncId} {args : List V} {S E : List Blk} {q k : V → List Blk → Prop} (hpn : C.pn ≤ S.length) (h : CallP C f args S q) (hS : belB S.length S = true) (hd : dfB S = true) (ha : V.belL S.length args = true)
  (hk : ∀ X L1,q X L1 → L1.length = S.length ∧ belB S.length L1 = true ∧ X.bel S.length = true ∧ k X (L1 ++ E)) : CallP C f args (S ++ E) k:=by
 have hρ : ∀ c,c < S.length → rnI (List.range S.length) (S ++ E).length c = c:=fun c hc=>rnI_range hc
 have:=CallP.embedP (k:=k) (List.range S.length) h (Part.pre (E:=E) hS hd) (fun c hc=>hρ c (by omega)) ha fun X L1 hX=>by
  obtain ⟨h1,h2,h3,h4⟩:=hk X L1 hX
  rw [V.rn_id hρ _ h3,rnB_id hρ _ h2,putB_range h1]
  exact h4
 rw [V.rnL_id hρ _ ha] at this
 exact this
theorem YR.frameP {b N : Nat} {args : List V} {S S' E : List Blk} {P : Prop} {k k' : V → List Blk → Prop} (hpn : C.pn ≤ N) (h : YieldP C b args S (YR N k P S')) (hN : S.length = N) (hN' : S'.length = N) (hS : belB N S = true) (hS' : belB N S' = true) (hd : dfB S = true) (hb : b < N) (ha : V.belL N args = true)
  (h1 : ∀ M,M = S' ++ E → P → k' (.d (.bool true)) M) (h2 : ∀ Z M,M = Z ++ E → Z.length = N → belB N Z = true → k (.tup []) Z → k' (.d (.bool false)) M) : YieldP C b args (S ++ E) k':=by
 subst hN
 refine h.frameP hpn hS hd hb ha fun X L1 hX=>?_
 rcases hX with ⟨rfl,rfl,hP⟩ | ⟨rfl,hl,hb',hk⟩
 ·exact ⟨hN',hS',rfl,h1 _ rfl hP⟩
 ·exact ⟨hl,hb',rfl,h2 _ _ rfl hl hb' hk⟩
def IterQ (C : Ctx) (f : FuncId) (caps : List D) (xs : List (List V)) : Prop :=
 ∀ (b N : Nat) (P : Nat → Prop) (S : Nat → List Blk) (k : V → List Blk → Prop),C.pn ≤ N → (∀ i,(S i).length = N) → (∀ i,belB N (S i) = true) → (∀ i,dfB (S i) = true) → b < N →
  (∀ (i : Nat) (hi : i < xs.length),P i → YieldP C b xs[i] (S i) (YR N k (P (i + 1)) (S (i + 1)))) → (P xs.length → k (.tup []) (S xs.length)) → P 0 → CallP C f (.yld b :: caps.map .d) (S 0) k
theorem IterQ.p {f : FuncId} {caps : List D} {xs : List (List V)} (h : IterQ C f caps xs) (hn : C.pn = 0) : IterP C f caps xs :=
 fun b N P S k h1 h2 h3 h4 h5 h6 h7=>h b N P S k (by omega) h1 h2 h3 h4 h5 h6 h7
theorem Ctx.OK.wp (h : C.OK) (pn : Nat) (pan : V → List Blk → Prop) : (C.wp pn pan).OK:=⟨h.ty,h.fs,h.ex⟩
theorem pre_len (S X : List Blk) {N : Nat} (h : S.length = N) : (S ++ X).length = N + X.length:=by rw [List.length_append,h]
theorem pre_get (S X : List Blk) {N : Nat} (h : S.length = N) (i : Nat) : (S ++ X)[N + i]? = X[i]?:=by
 rw [List.getElem?_append_right (by omega)]; congr 1; omega
theorem pre_get0 (S X : List Blk) {N : Nat} (h : S.length = N) : (S ++ X)[N]? = X[0]?:=pre_get S X h 0
theorem pre_set (S X : List Blk) {N : Nat} (h : S.length = N) (i : Nat) (y : Blk) : (S ++ X).set (N + i) y = S ++ X.set i y:=by
 rw [List.set_append,if_neg (by omega)]; congr 2; omega
theorem pre_set0 (S X : List Blk) {N : Nat} (h : S.length = N) (y : Blk) : (S ++ X).set N y = S ++ X.set 0 y:=pre_set S X h 0 y
theorem pre_take (S X : List Blk) {N : Nat} (h : S.length = N) (i : Nat) : (S ++ X).take (N + i) = S ++ X.take i:=by
 subst h; rw [List.take_length_add_append]
end
end Go.Tidy
namespace Go.Proofs.YtndlggbljkhfbaaGreat
open Go.Tidy
variable {L : List Blk} {k : V → List Blk → Prop}
def firstM (m : Mt) : Int:=if m.away < m.home then m.away else m.home
def halfN (p : Pl) : Nat:=p.clubs.length / 2
def lastM (r : List Mt) : Int:=match r.getLast? with | some m=>firstM m | none=>0
def busyL (l : List Mt) : List Int:=l.flatMap fun m=>[m.home,m.away]
theorem part1_c (n : Int) (r : List Mt) (half last : Int) (h : k (B (decide ((r.length : Int) = half) || decide (n < last))) L) : CallP C 105 [I n,.d (.rptr [mts r]),.d (.rptr [DI half]),.d (.rptr [DI last])] L k:=by
 refine CallP.pure ?_ rfl (fun _=>rfl) h
 clear h
 refine callP_of C_ok Tryz.func105 rfl rfl (n:=_) rfl (w18 rfl) (rs:=_) rfl ?_
 repeat' ((conv=>whnf); first|refine w0 ?_|refine w1 ?_|refine w2 (fun h=>?_) (fun h=>?_)|refine w3 ?_|refine w4 (fun h=>?_) (fun h=>?_)|refine w5 _ rfl ?_|refine w6 rfl ?_|refine w7 mixed rfl ?_)
 all_goals conv=>whnf
 all_goals refine w15 (n:=0) rfl (w21 0) rfl rfl ⟨rfl,congrArg B ?_⟩
 all_goals simp_all
def pE (p : Pl) (r : List Mt) : List D:=[mts r,.fn 105 [.rptr [mts r],.rptr [DI (halfN p)],.rptr [DI (lastM r)]]]
def pRnd (p : Pl) (r : List Mt) : Rnd:=if h : r.length ≤ 4611686018427387904 then
 ⟨r,fun c=>decide ((r.length : Int) = halfN p) || decide (c < lastM r),105,[.rptr [mts r],.rptr [DI (halfN p)],.rptr [DI (lastM r)]],h,fun n L k h=>part1_c n r _ _ h⟩ else noRnd
theorem pRnd_cells {p : Pl} {r : List Mt} (h : r.length ≤ 4611686018427387904) : (pRnd p r).cells = pE p r:=by unfold pRnd; rw [dif_pos h]; rfl
def leftGo (odd : Nat) (last : Int) (busy : List Int) : List Int → Nat → Bool
 | [],_=>true
 | c :: cs,n=>if last ≤ c then true else if c ∈ busy then leftGo odd last busy cs n else if odd < n + 1 then false else leftGo odd last busy cs (n + 1)
def OkI (p : Pl) (met r : List Mt) (k : Nat) (hk : k < r.length) : Prop :=
 r[k].home ≠ r[k].away ∧ r[k].home ∈ p.clubs ∧ r[k].away ∈ p.clubs ∧ r[k].home ∉ busyL (r.take k) ∧ r[k].away ∉ busyL (r.take k) ∧ r[k] ∉ met ++ r.take k ∧ (p.double = false → (⟨r[k].away,r[k].home⟩ : Mt) ∉ met ++ r.take k) ∧
  (0 < k → firstM (r[k - 1]'(by omega)) < firstM r[k])
instance (p : Pl) (met r : List Mt) (k : Nat) (hk : k < r.length) : Decidable (OkI p met r k hk):=by unfold OkI; infer_instance
def RoundP (l : List (List Mt)) (p : Pl) (i : Nat) (hi : i < l.length) : Prop :=
 l[i].length ≠ 0 ∧ l[i].length ≤ halfN p ∧ (i + 1 < l.length → halfN p ≤ l[i].length) ∧ (∀ (k : Nat) (hk : k < l[i].length),OkI p (l.take i).flatten l[i] k hk) ∧ leftGo (p.clubs.length % 2) (lastM l[i]) (busyL l[i]) p.clubs 0 = true
instance (l : List (List Mt)) (p : Pl) (i : Nat) (hi : i < l.length) : Decidable (RoundP l p i hi):=by unfold RoundP; infer_instance
def PartP (l : List (List Mt)) (p : Pl) : Prop:=l.length ≤ roundsN p ∧ ∀ (i : Nat) (hi : i < l.length),RoundP l p i hi
instance (l : List (List Mt)) (p : Pl) : Decidable (PartP l p):=by unfold PartP; infer_instance
def esI (ks : List Int) : List (V × V):=ks.map fun c=>(I c,B true)
def esM (ks : List Mt) : List (V × V):=ks.map fun m=>(mtV m,B true)
theorem first_of {α : Type} {a : α} : ∀ {ks : List α},a ∈ ks → ∃ i : Nat,ks[i]? = some a ∧ ∀ j,j < i → ks[j]? ≠ some a
 | [],h=>by simp at h
 | x :: ks,h=>by
  by_cases e : x = a
  ·subst e; exact ⟨0,rfl,fun j hj=>absurd hj (Nat.not_lt_zero j)⟩
  ·obtain ⟨i,h1,h2⟩:=first_of (ks:=ks) (by simpa [Ne.symm e] using h)
   refine ⟨i + 1,by simpa using h1,fun j hj=>?_⟩
   cases j with
   | zero=>simpa using e
   | succ j=>simpa using h2 j (by omega)
theorem MapF.memG {α : Type} {tk : TK} (f : α → V) (hf : ∀ a b,f a = f b → a = b) (hk : ∀ a,keyV tk (f a) = true) (ks : List α) (a : α) {q : Option (Nat × V) → Prop} (h1 : a ∈ ks → ∀ i,q (some (i,B true))) (h2 : a ∉ ks → q none) :
  MapF tk (ks.map fun a=>(f a,B true)) (f a) q:=by
 have hall : ∀ kv ∈ ks.map (fun a=>(f a,B true)),keyV tk kv.1 = true:=fun kv h=>by
  obtain ⟨b,_,rfl⟩:=List.mem_map.1 h; exact hk b
 rcases Classical.em (a ∈ ks) with h | h
 ·obtain ⟨i,e1,e2⟩:=first_of h
  refine MapF.hit i (B true) hall (by rw [List.getElem?_map,e1]; rfl) (fun j kv hj hkv he=>?_) (h1 h i)
  rw [List.getElem?_map] at hkv
  cases hb : ks[j]? with
  | none=>rw [hb] at hkv; cases hkv
  | some b =>
   rw [hb] at hkv
   simp only [Option.map_some,Option.some.injEq] at hkv
   subst hkv
   have:=hf _ _ he
   subst this
   exact e2 j hj hb
 ·refine MapF.miss hall (fun kv hkv he=>?_) (h2 h)
  obtain ⟨b,hb,rfl⟩:=List.mem_map.1 hkv
  exact h (hf _ _ he ▸ hb)
theorem mtV_inj (a b : Mt) (h : mtV a = mtV b) : a = b:=by
 cases a; cases b
 simp [Mt.cells,mtV,DI] at h ⊢
 exact h
theorem MapF.memI (ks : List Int) (a : Int) {q : Option (Nat × V) → Prop} (h1 : a ∈ ks → ∀ i,q (some (i,B true))) (h2 : a ∉ ks → q none) : MapF (.int .i64) (esI ks) (I a) q :=
 MapF.memG (fun c : Int=>I c) (fun a b h=>by simpa using h) (fun a=>rfl) ks a h1 h2
theorem MapF.memM (ks : List Mt) (a : Mt) {q : Option (Nat × V) → Prop} (h1 : a ∈ ks → ∀ i,q (some (i,B true))) (h2 : a ∉ ks → q none) : MapF (.keys [.i64,.i64]) (esM ks) (mtV a) q :=
 MapF.memG mtV mtV_inj (fun a=>rfl) ks a h1 h2
end Go.Proofs.YtndlggbljkhfbaaGreat
