import Derived.Test.YtihibgcojdfndaaGreatDoorJGC
import Derived.SizedLaws
set_option maxRecDepth 100000
set_option maxHeartbeats 0
set_option linter.unusedSimpArgs false
set_option linter.unusedVariables false
namespace Go.Tidy
abbrev I (n : Int) : V:=.d (.int .i64 n)
abbrev B (b : Bool) : V:=.d (.bool b)
abbrev DI (n : Int) : D:=.int .i64 n
theorem wrap_id {n : Int} (h1 : -9223372036854775808 ≤ n) (h2 : n ≤ 9223372036854775807) : IntKind.i64.wrap n = n:=by
 simp only [IntKind.wrap,IntKind.bits,IntKind.signed]
 simp
 split <;> omega
theorem Idx.map {α β : Type} {f : α → β} {l : List α} {i : Int} {k : Nat → β → Prop} (n : Nat) (hi : i = n) (h : n < l.length) (hk : k n (f l[n])) : Idx (l.map f) i k :=
 Idx.intro n (f l[n]) hi (by rw [List.getElem?_map,List.getElem?_eq_getElem h]; rfl) hk
end Go.Tidy
/-
 The base layer: a round of a loop over a function.
-/
namespace Go.Tidy
def zipF : List Tmp → List V → List (Nat × V) → List (Nat × V)
 | p :: ps,x :: xs,fr=>zipF ps xs ((p,x) :: fr)
 | _,_,fr=>fr
def vRoundEnd (b k0 : Nat) (k : V → List Blk → Prop) (e : Exit) (σ : TS) : Prop :=
 match σ.L[b]? with
 | some (.loop r)=>match e with
  | .normal=>setB σ.L b (.loop { r with st:=.ready,pend:=none }) fun L=>FinP k0 (.d (.bool true)) L k
  | .ret=>setB σ.L b (.loop { r with st:=.done,pend:=some .ret }) fun L=>FinP k0 (.d (.bool false)) L k
  | .exit id=>setB σ.L b (.loop { r with st:=.done,pend:=some (.exit id) }) fun L=>FinP k0 (.d (.bool false)) L k
  | _=>False
 | _=>False
def vRound (C : Ctx) (cut : Code → Bool) (b : Nat) (args : List V) (L : List Blk) (k : V → List Blk → Prop) : Prop :=
 match L[b]? with
 | some (.loop r)=>match r.st with
  | .ready=>bif Nat.beq r.ps.length args.length && r.ps.all (fun p=>Nat.blt p r.n) then
    vc C cut L.length r.assign ⟨zipF r.ps args r.fr,r.n,L,[],some b⟩ fun e σ=>match e with
     | .normal=>match σ.L[b]? with
      | some (.loop r1)=>match r1.st with
       | .ready=>setB σ.L b (.loop { r1 with st:=.busy }) fun L1=>vc C cut L.length r.body { σ with L:=L1 } (vRoundEnd b L.length k)
       | _=>False
      | _=>False
     | _=>False
   else False
  | _=>False
 | _=>False
section
variable {C : Ctx} {g : Gh} {w : World} {L : List Blk}
theorem zip_frame : ∀ (ps : List Tmp) (xs : List V) (vs : List Value) (fr : List (Nat × V)) (tmps : Array Value),ps.length = xs.length → xs.length = vs.length → (∀ p ∈ ps,p < tmps.size) →
  (∀ (j : Nat) (x : V) (v : Value),xs[j]? = some x → vs[j]? = some v → RV g w L x v) → (∀ i,RV g w L (look fr i) (tmps.getD i undef)) →
  ((ps.zip vs).foldl (fun tmps ta=>tmps.setIfInBounds ta.1 ta.2) tmps).size = tmps.size ∧ ∀ i,RV g w L (look (zipF ps xs fr) i) (((ps.zip vs).foldl (fun tmps ta=>tmps.setIfInBounds ta.1 ta.2) tmps).getD i undef)
 | [],[],[],fr,tmps,_,_,_,_,h=>⟨rfl,h⟩
 | p :: ps,x :: xs,v :: vs,fr,tmps,h1,h2,h3,h4,h=>by
  have ih:=zip_frame ps xs vs ((p,x) :: fr) (tmps.setIfInBounds p v) (by simpa using h1) (by simpa using h2) (fun q hq=>by simpa using h3 q (by simp [hq]))
   (fun j x v hx hv=>h4 (j + 1) x v (by simpa using hx) (by simpa using hv)) (fun i=>by
    rw [look_cons]
    have hp:=h3 p (by simp)
    by_cases e : p = i
    ·subst e
     rw [if_pos rfl]
     simp [Array.getD,hp]
     exact h4 0 x v rfl rfl
    ·rw [if_neg e]
     have : (tmps.setIfInBounds p v).getD i undef = tmps.getD i undef:=by
      simp only [Array.getD_eq_getD_getElem?,Array.getElem?_setIfInBounds_ne e]
     rw [this]
     exact h i)
  refine ⟨?_,?_⟩
  ·simpa using ih.1
  ·simpa [zipF] using ih.2
 | [],_ :: _,_,_,_,h1,_,_,_,_=>by simp at h1
 | _ :: _,[],_,_,_,h1,_,_,_,_=>by simp at h1
 | [],[],_ :: _,_,_,_,h2,_,_,_=>by simp at h2
 | _ :: _,_ :: _,[],_,_,_,h2,_,_,_=>by simp at h2
theorem loop_step (hg : Good g w L) {b q : Nat} {l : LoopR} {rec : Loop} (hL : L[b]? = some (.loop l)) (hm : g.m b = some q) (hh : w.heap[q]? = some (.loop rec)) (st : LoopState) (pd : Option Code) :
  Good g (w.putObj q (.loop { rec with state:=st,pending:=pd })) (L.set b (.loop { l with st:=st,pend:=pd })) ∧
  Prog L.length g w L g (w.putObj q (.loop { rec with state:=st,pending:=pd })) (L.set b (.loop { l with st:=st,pend:=pd })):=by
 have hbl:=lt_of_get hL
 have hql : q < w.heap.size:=(Array.getElem?_eq_some_iff.1 hh).1
 have S : Step g w L b (.loop { l with st:=st,pend:=pd }) g (w.putObj q (.loop { rec with state:=st,pending:=pd })):=by
  refine ⟨hg,⟨_,hL,by simp⟩,by rw [hL]; simp,⟨rfl,rfl,rfl⟩,by simp,rfl,fun _ _=>rfl,fun _ _=>rfl,fun p o' hp hne=>putObj_ext p o' hp (by rw [← hm]; exact hne),fun r hr=>.inl hr,?_⟩
  exact ⟨fun cs e=>(by rw [hL] at e; cases e),fun gen sz els e=>(by rw [hL] at e; cases e),fun es e=>(by rw [hL] at e; cases e),fun l0 _=>.inr ⟨_,List.getElem?_set_self hbl,rfl⟩,fun e=>(by rw [hL] at e; cases e)⟩
 obtain ⟨q',rec',h1,h2,h3,h4,h5,h6,h7,h8,h9,h10,h11⟩:=hg.blk b _ hL
 rw [hm] at h1; cases h1
 rw [hh] at h2; cases h2
 have hne : l.df ≠ b:=fun e=>by have h11:=h11.1; rw [e,hL] at h11; cases h11
 refine ⟨S.good' ⟨q,_,hm,World.putObj_heap_same hql,rfl,rfl,h5,h6,h7,h8,fun i=>S.mono (h9 i),h10,?_,h11.2⟩,S.prog⟩
 rw [List.getElem?_set_ne (Ne.symm hne)]; exact h11.1
theorem yld_at {b q l : Nat} {r : LoopR} (hL : L[b]? = some (.loop r)) (hm : g.m b = some q) (h : RV g w L (.yld b) (.func (.yield l) #[] #[])) : q = l:=by
 generalize hv : Value.func (.yield l) #[] #[] = v at h
 cases h with
 | yld _ r' _ hL' hm'=>rw [hm] at hm'; cases hm'; cases hv; rfl
 | yldX _ r' hL'=>rw [hL] at hL'; cases hL'
def RoundPan (P : Program) (fn : Func) (R : Ending → World → Prop) (e : Exit) (a : Act) (w : World) : Prop :=
 ∃ ch,e = .panic ch ∧ LeavesInM Fence.wide 0 P fn a.tmps (fun e w=>(∃ ch,e = .panicked ch) ∧ R e w) a.defers (.panicking ch) w
theorem roundIn_of_wpV {P : Program} {l : Nat} {f : FuncId} {tmps : Array Value} {assign body : Code} {w : World} {R : Ending → World → Prop} {fn : Func} (hf : P.funcs[f]? = some fn)
  (h : wpV (some l) P assign (fun e a1 w1=>(e = .normal ∧ ∃ w2,(Instr.beginRound l).run P w1 = .ok () w2 ∧ wpV (some l) P body (fun e a w=>roundPost P l R e a w ∨ RoundPan P fn R e a w) a1 w2) ∨ RoundPan P fn R e a1 w1) { tmps:=tmps,defers:=[] } w) :
  RoundIn Fence.wide 0 P l f tmps assign body w R:=by
 refine ⟨trivial,fun c cs _=>?_⟩
 obtain ⟨b,hbd⟩ : ∃ b : Frame,b = { (default : Frame) with fn:=f,kind:=.normal,roundOf:=some l }:=⟨_,rfl⟩
 have hbf : b.fn = f:=by rw [hbd]
 have hbk : b.kind = .normal:=by rw [hbd]
 have hbr : b.roundOf = some l:=by rw [hbd]
 have hb0 : Frame.round l f tmps assign body .normal = b.atR { tmps:=tmps,defers:=[] } [.code assign,.beginRound,.code body]:=by
  rw [hbd]; simp [Frame.round,Frame.atR]
 have hv : ∃ fn,P.funcs[b.fn]? = some fn:=⟨fn,by rw [hbf]; exact hf⟩
 have pan : ∀ (a : Act) (todo : List Item) (w1 : World) (ch : List PanicEntry),StepsIn (Machine.fenced P (Fx (some l))) P (lone (Frame.round l f tmps assign body .normal) (c :: cs) w) (lone { b.atR a todo with mode:=.panicking ch } (c :: cs) w1) →
   LeavesInM Fence.wide 0 P fn a.tmps (fun e w=>(∃ ch,e = .panicked ch) ∧ R e w) a.defers (.panicking ch) w1 →
   ∃ e w',R e w' ∧ ComesIn (Machine.fenced P Fence.wide) P (lone (Frame.round l f tmps assign body .normal) (c :: cs) w)
    (match e with
     | .returned v=>lone (c.finish v) cs w'
     | .panicked chain=>lone (c.raise chain) cs w'
     | .outgrown=>lone c cs w') e:=by
  intro a todo w1 ch s hl
  obtain ⟨e2,w2,fr2,⟨⟨ch2,rfl⟩,hR⟩,hs2,hfn,hlv⟩:=leaves_stepsInM a.defers (.panicking ch) w1 { b.atR a todo with mode:=.panicking ch } (c :: cs) rfl rfl rfl (by simpa [Frame.atR,hbf] using hf) (by simpa [Frame.atR] using hbk) trivial (room_wide _) hl
  have hs3 : StepsIn (Machine.fenced P Fence.wide) P _ _:=hs2
  exact ⟨.panicked ch2,w2,hR,(stepsIn_wide.2 s.steps).trans (hs3.trans (.one (fenced_wide _ _) (step_leave_panicked hlv)))⟩
 obtain ⟨e,a1,w1,hq,s1⟩:=h b [.beginRound,.code body] (c :: cs) hbr hv
 rw [← hb0] at s1
 rcases hq with ⟨rfl,w2,hbr2,hbody⟩ | ⟨ch,rfl,hl⟩
 rotate_left
 ·obtain ⟨todo,s⟩:=s1; exact pan a1 todo w1 ch s hl
 have s2:=StepsIn.trans s1 (.one (fenced_Fx P _) (stepR_beginRound hbr hbr2))
 obtain ⟨e2,a2,w3,hq2,s3⟩:=hbody b [] (c :: cs) hbr hv
 have wide : ∀ {m m' : Machine},StepsIn (Machine.fenced P (Fx (some l))) P m m' → StepsIn (Machine.fenced P Fence.wide) P m m':=fun s=>stepsIn_wide.2 s.steps
 rcases hq2 with hq2 | ⟨ch,rfl,hl⟩
 rotate_left
 ·obtain ⟨todo,s⟩:=s3; exact pan a2 todo w3 ch (s2.trans s) hl
 cases e2 with
 | normal =>
  obtain ⟨v,w4,hend,hR⟩:=hq2
  exact ⟨.returned v,w4,hR,wide ((s2.trans s3).trans (.one (fenced_Fx P _) (stepR_round_end hbr (by simpa using hbk) hend)))⟩
 | ret =>
  obtain ⟨v,w4,hend,hR⟩:=hq2
  obtain ⟨k1,s⟩:=s3.2 (by rw [hbr]; rfl)
  exact ⟨.returned v,w4,hR,wide ((s2.trans s).trans (.one (fenced_Fx P _) (stepR_round_ret hbr (by simpa using hbk) hend)))⟩
 | exit id =>
  obtain ⟨v,w4,hend,hR⟩:=hq2
  obtain ⟨k1,hk,s⟩:=s3.2 (by rw [hbr]; rfl) rfl
  exact ⟨.returned v,w4,hR,wide ((s2.trans s).trans (.one (fenced_Fx P _) (stepR_round_exit hbr (by simpa using hbk) hk hend)))⟩
 | goto t =>
  obtain ⟨v,w4,hend,hR⟩:=hq2
  obtain ⟨k1,hk,s⟩:=s3.2 (by rw [hbr]; rfl) rfl
  exact ⟨.returned v,w4,hR,wide ((s2.trans s).trans (.one (fenced_Fx P _) (stepR_round_goto hbr (by simpa using hbk) hk hend)))⟩
 | panic chain=>exact hq2.elim
 | outgrown=>exact hq2.elim
theorem YieldP.round (hC : C.OK) (cut : Code → Bool) {b : Nat} {args : List V} {k : V → List Blk → Prop} (h : vRound C cut b args L k) (hpn : C.pn ≤ L.length:=by exact Nat.zero_le _) : YieldP C b args L k:=by
 unfold YieldP
 intro g w vs l hg hvs hy
 unfold vRound at h
 split at h
 case h_2=>exact h.elim
 rename_i r hL
 split at h
 case h_2=>exact h.elim
 rename_i hst
 cases hcond : (Nat.beq r.ps.length args.length && r.ps.all (fun p=>Nat.blt p r.n)) with
 | false=>simp only [hcond,cond_false] at h
 | true =>
 simp only [hcond,cond_true] at h
 rw [Bool.and_eq_true] at hcond
 have hpl:=Nat.eq_of_beq_eq_true hcond.1
 obtain ⟨q,rec,h1,h2,h3,h4,h5,h6,h7,h8,h9,h10,h11,hvf⟩:=hg.blk b _ hL
 obtain ⟨fn,hfn⟩:=hC.ex _ hvf
 have hq : q = l:=yld_at hL h1 hy
 subst hq
 have hps : ∀ p ∈ r.ps,p < rec.tmps.size:=fun p hp=>by
  have:=List.all_eq_true.1 hcond.2 p hp
  rw [h8]; simpa [Nat.blt_eq] using this
 have hsz : vs.size = rec.params.size:=by rw [h5]; simp; have:=hvs.1; omega
 have hz:=zip_frame (g:=g) (w:=w) (L:=L) r.ps args vs.toList r.fr rec.tmps hpl (by simpa using hvs.1) hps (fun j x v hx hv=>hvs.2 j x v hx (by simpa using hv)) h9
 have hfold : (rec.params.zip vs).foldl (fun tmps ta=>tmps.setIfInBounds ta.1 ta.2) rec.tmps = (r.ps.zip vs.toList).foldl (fun tmps ta=>tmps.setIfInBounds ta.1 ta.2) rec.tmps:=by
  rw [← Array.foldl_toList]
  rw [h5]
  simp
 refine ⟨_,_,_,_,run_yield h2 hsz,?_⟩
 rw [h6,h7]
 refine roundIn_of_wpV hfn ?_
 have hs0 : St L.length (some q) g ⟨zipF r.ps args r.fr,r.n,L,[],some b⟩ { tmps:=(rec.params.zip vs).foldl (fun tmps x=>match x with | (t,a)=>tmps.setIfInBounds t a) rec.tmps,defers:=[] } w:=by
  have hf' : (rec.params.zip vs).foldl (fun tmps x=>match x with | (t,a)=>tmps.setIfInBounds t a) rec.tmps = (r.ps.zip vs.toList).foldl (fun tmps ta=>tmps.setIfInBounds ta.1 ta.2) rec.tmps:=hfold
  refine ⟨by rw [hf']; exact hz.1.trans h8,fun i=>by rw [hf']; exact hz.2 i,hg,Nat.le_refl _,rfl,fun i b d hb=>by simp at hb,fun lb hlb=>?_,fun h=>by cases h⟩
  cases hlb
  exact ⟨q,rfl,.yld _ _ _ hL h1⟩
 have pan : ∀ {Q : Exit → TS → Prop} {e : Exit} {a' : Act} {w' : World},PostP C L.length g w L e a' w' → NewD { tmps:=(rec.params.zip vs).foldl (fun tmps x=>match x with | (t,a)=>tmps.setIfInBounds t a) rec.tmps,defers:=[] } w a' →
   RoundPan C.P fn (fun e w'=>(∃ v X L' g',e = .returned v ∧ k X L' ∧ RV g' w' L' X v ∧ Good g' w' L' ∧ Prog L.length g w L g' w' L') ∨ PanO C g w L e w') e a' w':=by
  rintro Q e a' w' ⟨v,X,L',g',rfl,hS,hi⟩ hnew
  refine ⟨_,rfl,marks_pan a'.defers w' (hnew.2 List.nodup_nil) (fun d hd=>?_) hg hS (fun w2 hS2=>⟨⟨_,rfl⟩,.inr ⟨v,X,L',g',rfl,hS2⟩⟩)⟩
  obtain ⟨q,h1,h2,h3,h4⟩:=hi d hd
  refine ⟨q,h1,h2,h3,h4,?_⟩
  rcases hnew.1 d hd with h5 | ⟨q',h5,h6⟩
  ·simp at h5
  ·rw [h1] at h5; cases h5; exact h6
 refine wpV_mono (vc_ok hC hpn _ _ _ g _ w h hs0) ?_
 rintro e a1 w1 ⟨⟨σ1,g1,hq1,hs1,hp1⟩ | hpp,hn1,-⟩
 rotate_left
 ·exact .inr (pan (Q:=fun _ _=>False) hpp hn1)
 refine .inl ?_
 cases e
 case normal =>
  simp only [] at hq1
  split at hq1
  case h_2=>exact hq1.elim
  rename_i r1 hL1
  split at hq1
  case h_2=>exact hq1.elim
  rename_i hst1
  rw [setB_eq] at hq1
  obtain ⟨q1,rec1,m1,m2,m3,m4⟩:=RB.loop_of hs1.good hL1
  have hy1 : RV g1 w1 σ1.L (.yld b) (.func (.yield q) #[] #[]):=hp1.mono _ _ hy.bel hy
  have e1 : q1 = q:=yld_at hL1 m1 hy1
  subst e1
  obtain ⟨s1,s2⟩:=loop_step hs1.good hL1 m1 m2 .busy rec1.pending
  rw [m4] at s1 s2
  have hb : (Instr.beginRound q1).run C.P w1 = .ok () (w1.putObj q1 (.loop { rec1 with state:=.busy,pending:=r1.pend })):=by
   rw [run_beginRound m2 (m3.trans hst1),← m4]
  refine ⟨rfl,_,hb,?_⟩
  have hs2 : St L.length (some q1) g1 { σ1 with L:=σ1.L.set b (.loop { r1 with st:=.busy }) } a1 (w1.putObj q1 (.loop { rec1 with state:=.busy,pending:=r1.pend })) :=
   hs1.of_at ⟨hs1.n,fun i=>s2.mono _ _ (hs1.fr i).bel (hs1.fr i),s1⟩ rfl s2
  refine wpV_mono (vc_ok hC hpn _ _ _ g1 a1 _ hq1 hs2) ?_
  intro e a2 w2 hpost
  have hp12:=hp1.trans (s2.le hs1.k (Nat.le_refl _))
  obtain ⟨⟨σ2,g2,hq2,hs2',hp02⟩ | hpp,hn2,-⟩:=Post.later (Nat.le_refl _) hp12 hn1 hpost
  rotate_left
  ·exact .inr (pan (Q:=fun _ _=>False) hpp hn2)
  refine .inl ?_
  unfold vRoundEnd at hq2
  split at hq2
  case h_2=>exact hq2.elim
  rename_i r2 hL2
  obtain ⟨q2,rec2,n1,n2,n3,n4⟩:=RB.loop_of hs2'.good hL2
  have hy2 : RV g2 w2 σ2.L (.yld b) (.func (.yield q1) #[] #[]):=hp02.mono _ _ hy.bel hy
  have e2 : q2 = q1:=yld_at hL2 n1 hy2
  subst e2
  have fin : ∀ (jump : Option Code) (st : LoopState),st = (if jump.isNone then .ready else .done) → FinP L.length (.d (.bool jump.isNone)) (σ2.L.set b (.loop { r2 with st:=st,pend:=jump })) k →
    ∃ v w',(Instr.endRound q2 jump).run C.P w2 = .ok v w' ∧ ((∃ v' X L' g',Ending.returned v = .returned v' ∧ k X L' ∧ RV g' w' L' X v' ∧ Good g' w' L' ∧ Prog L.length g w L g' w' L') ∨ PanO C g w L (.returned v) w'):=by
   intro jump st hst hF
   unfold FinP at hF
   obtain ⟨X',L',hret,hk⟩:=hF
   obtain ⟨t1,t2⟩:=loop_step hs2'.good hL2 n1 n2 st jump
   have hlen:=hs2'.k
   obtain ⟨g',c1,c2,c3⟩:=hret g2 _ (.bool jump.isNone) t1 (by simpa using hlen) (.d _ _ (.bool _))
   refine ⟨_,_,run_endRound jump n2,.inl ⟨_,X',L',g',rfl,hk,?_⟩⟩
   rw [← hst]
   exact ⟨c2,c1,hp02.trans ((t2.le hlen (Nat.le_refl _)).trans c3)⟩
  cases e
  case normal =>
   simp only [setB_eq] at hq2
   exact fin none .ready rfl hq2
  case ret =>
   simp only [setB_eq] at hq2
   exact fin (some .ret) .done rfl hq2
  case exit id =>
   simp only [setB_eq] at hq2
   exact fin (some (.exit id)) .done rfl hq2
  all_goals exact hq2.elim
 all_goals exact hq1.elim
end
end Go.Tidy
/-
 The base layer: what a function owns,handed to a contract that speaks of data.
-/
namespace Go.Tidy
inductive CwL (S : Nat → Prop) (L : List Blk) : List V → List V → Prop
 | nil : CwL S L [] []
 | keep {x : V} {xs ys : List V} (h : CwL S L xs ys) : CwL S L (x :: xs) (x :: ys)
 | cv {x y : V} {xs ys : List V} (h : Cw S L x y) (hs : CwL S L xs ys) : CwL S L (x :: xs) (y :: ys)
section
variable {C : Ctx} {g : Gh} {w : World} {L : List Blk}
theorem CwL.len {S : Nat → Prop} {xs ys : List V} (h : CwL S L xs ys) : xs.length = ys.length:=by
 induction h with
 | nil=>rfl
 | keep _ ih=>simp [ih]
 | cv _ _ ih=>simp [ih]
theorem CwL.rvs {S : Nat → Prop} (hg : Good g w L) {g' : Gh} {L' : List Blk} {xs ys : List V} (h : CwL S L xs ys) (hI : ∀ q,g.I q → g'.I q) (hI' : ∀ b q,S b → live L b → g.m b = some q → g'.I q)
  (hkeep : ∀ (x : V) (v : Value),x ∈ ys → RV g w L x v → RV g' w L' x v) : ∀ (vs : List Value),(∀ (j : Nat) (x : V) (v : Value),xs[j]? = some x → vs[j]? = some v → RV g w L x v) →
  ∀ (j : Nat) (y : V) (v : Value),ys[j]? = some y → vs[j]? = some v → RV g' w L' y v:=by
 induction h with
 | nil=>intro vs _ j y v hy; simp at hy
 | keep h ih =>
  intro vs hr j y v hy hv
  cases vs with
  | nil=>simp at hv
  | cons u us =>
   cases j with
   | zero=>simp at hy hv; subst hy hv; exact hkeep _ _ (by simp) (hr 0 _ _ rfl rfl)
   | succ j=>exact ih (fun x v hx=>hkeep x v (by simp [hx])) us (fun j x v hx hv=>hr (j + 1) x v (by simpa using hx) (by simpa using hv)) j y v (by simpa using hy) (by simpa using hv)
 | cv hc h ih =>
  intro vs hr j y v hy hv
  cases vs with
  | nil=>simp at hv
  | cons u us =>
   cases j with
   | zero=>simp at hy hv; subst hy hv; exact hc.rv hg hI hI' (hr 0 _ _ rfl rfl)
   | succ j=>exact ih (fun x v hx=>hkeep x v (by simp [hx])) us (fun j x v hx hv=>hr (j + 1) x v (by simpa using hx) (by simpa using hv)) j y v (by simpa using hy) (by simpa using hv)
def D.scalar : D → Bool
 | .bool _ | .int _ _ | .str _ | .nilptr | .nilfn | .niliface | .nilmap=>true
 | .sl els=>els.isEmpty
 | .fn _ caps=>caps.isEmpty
 | _=>false
mutual
def V.scalar : V → Bool
 | .d x=>x.scalar
 | .poison | .tt | .ff | .nil | .glob _=>true
 | .agg cs=>V.scalarL cs
 | .tup cs=>V.scalarL cs
 | .fn _ cs=>V.scalarL cs
 | _=>false
def V.scalarL : List V → Bool
 | []=>true
 | x :: r=>V.scalar x && V.scalarL r
end
theorem V.scalarL_get : ∀ {cs : List V} {j : Nat} {x : V},V.scalarL cs = true → cs[j]? = some x → x.scalar = true
 | [],j,x,_,h=>by simp at h
 | c :: r,0,x,hb,h=>by simp only [V.scalarL,Bool.and_eq_true] at hb; simp at h; exact h ▸ hb.1
 | c :: r,j + 1,x,hb,h=>by simp only [V.scalarL,Bool.and_eq_true] at hb; exact V.scalarL_get hb.2 (by simpa using h)
theorem RV.scalar {g' : Gh} {w' : World} {L' : List Blk} {x : V} {v : Value} (h : RV g w L x v) : x.scalar = true → RV g' w' L' x v:=by
 induction h with
 | poison v=>exact fun _=>.poison v
 | tt=>exact fun _=>.tt
 | ff=>exact fun _=>.ff
 | nil=>exact fun _=>.nil
 | glob k=>exact fun _=>.glob k
 | clp els a h=>exact fun hs=>by simp [V.scalar] at hs
 | d x v h =>
  intro hs
  refine .d _ _ ?_
  cases h with
  | bool b=>exact .bool b
  | int k n=>exact .int k n
  | str s=>exact .str s
  | nilptr=>exact .nilptr
  | nilfn=>exact .nilfn
  | niliface=>exact .niliface
  | nilmap=>exact .nilmap
  | slNil a c=>exact .slNil a c
  | sl els ad c sz cs hsz hcell hi hlc hrec =>
   have : els = []:=by simpa [V.scalar,D.scalar] using hs
   subst this
   exact .slNil _ _
  | fn f caps vs hlen hrec =>
   have : caps = []:=by simpa [V.scalar,D.scalar] using hs
   subst this
   exact .fn f [] vs hlen (fun j x v hx=>by simp at hx)
  | rptr | ifaceA | ifaceL=>simp [V.scalar,D.scalar] at hs
 | agg cs vs hlen hone _ ih=>exact fun hs=>.agg cs vs hlen hone fun j x v hx hv=>ih j x v hx hv (V.scalarL_get (by simpa [V.scalar] using hs) hx)
 | tup cs vs hlen _ ih=>exact fun hs=>.tup cs vs hlen fun j x v hx hv=>ih j x v hx hv (V.scalarL_get (by simpa [V.scalar] using hs) hx)
 | fn f cs vs hlen _ ih=>exact fun hs=>.fn f cs vs hlen fun j x v hx hv=>ih j x v hx hv (V.scalarL_get (by simpa [V.scalar] using hs) hx)
 | _=>intro hs; simp [V.scalar] at hs
theorem CallP.borrow [Quiet C] {f : FuncId} {args dargs : List V} {q k : V → List Blk → Prop} (h : CallP C f dargs [] q) (hc : CwL (fun _=>True) L args dargs) (ha : V.belL 0 dargs = true)
  (hk : ∀ X L',q X L' → L' = [] ∧ X.scalar = true ∧ k X L) : CallP C f args L k:=by
 rw [CallP_q] at h ⊢
 have hbel : ∀ x ∈ dargs,x.bel 0 = true:=fun x hx=>by
  obtain ⟨j,hj⟩:=List.mem_iff_getElem?.1 hx
  exact V.belL_get ha hj
 refine ⟨h.1,fun g w vs hg hv=>(h.2 { I:=fun r=>r < w.heap.size,m:=fun _=>none,cap:=fun _=>0 } w vs ⟨?_,?_,?_,?_,hg.gl.mono (fun r h=>hg.lt r h) (fun a v _ h=>h)⟩ ?_).mono ?_⟩
 ·rintro b b' r ⟨k,hk,_⟩; simp at hk
 ·rintro r ⟨b,⟨k,hk,_⟩,_⟩; simp at hk
 ·exact fun r h=>h
 ·intro b k hk; simp at hk
 ·refine ⟨hc.len ▸ hv.1,fun j y v hy hvj=>?_⟩
  refine hc.rvs hg (g':={ I:=fun r=>r < w.heap.size,m:=fun _=>none,cap:=fun _=>0 }) (L':=[]) (fun r hr=>hg.lt r hr) (fun b r _ hl hm=>hg.owned_lt ⟨b,hl,hm⟩) (fun x u hx hu=>?_) vs.toList
   (fun j x v hx hv'=>hv.2 j x v hx (by simpa using hv')) j y v hy (by simpa using hvj)
  exact RV.mono (g:=g) (g':={ I:=fun r=>r < w.heap.size,m:=fun _=>none,cap:=fun _=>0 }) (L:=L) (k:=0) (fun r h=>hg.lt r h) (fun a v _ h=>h) (fun b hb=>absurd hb (Nat.not_lt_zero _)) (hbel x hx) hu
 ·rintro e w' ⟨v,X,L1,g1,he,hX,hr,hg1,hp⟩
  obtain ⟨rfl,hsc,hkX⟩:=hk X L1 hX
  have no : ∀ (g' : Gh) q,¬ owned g' ([] : List Blk) q:=fun g' q ⟨b,⟨k,hk,_⟩,_⟩=>by simp at hk
  have heap : ∀ (q : Nat) (o : Obj),w.heap[q]? = some o → w'.heap[q]? = some o:=fun q o h=>hp.kept q o h (no _ q)
  have cells : ∀ (a : Addr) (v : Value),g.I a.block → w.cell? a = some v → w'.cell? a = some v:=by
   intro a v hI hc
   have hlt:=hg.lt _ hI
   have hh:=heap a.block (w.heap[a.block]) (Array.getElem?_eq_getElem hlt)
   rw [World.cell?_of_block (w:=w) (w':=w') (by rw [hh,Array.getElem?_eq_getElem hlt])]
   exact hc
  have mono : ∀ (x : V) (v : Value),RV g w L x v → RV g w' L x v:=fun x v h =>
   RV.mono (g:=g) (g':=g) (L:=L) (L':=L) (k:=L.length) (fun q hq=>hq) cells (fun b _=>Keep.refl g L b) h.bel h
  refine ⟨v,X,L,g,he,hkX,hr.scalar hsc,⟨hg.inj,hg.dis,fun q hq=>Nat.lt_of_lt_of_le (hg.lt q hq) hp.size,fun b k hk=>?_,hg.gl.mono (fun q hq=>hq) cells⟩,
   ⟨hp.env,hp.size,fun q o h _=>heap q o h,fun q h _=>h,fun q h=>.inl h,fun q h=>h,fun x v _ h=>mono x v h,fun b r _ h1 h2=>⟨h1,h2⟩,fun h=>h⟩⟩
  exact RB.mono' mono rfl rfl (fun q o _ ho=>heap q o ho) (fun l _=>⟨rfl,fun h=>h⟩) (hg.blk b k hk)
def plainBlk (L : List Blk) (bs : List Nat) : Bool:=bs.all fun b=>match L[b]? with | some (.row ..)=>true | some (.cells _)=>true | _=>false
def killB : List Nat → List Blk → List Blk
 | [],L=>L
 | b :: r,L=>killB r (L.set b .dead)
theorem killB_len : ∀ (bs : List Nat) (L : List Blk),(killB bs L).length = L.length
 | [],L=>rfl
 | b :: r,L=>by simp [killB,killB_len r]
theorem killB_out : ∀ (bs : List Nat) (L : List Blk) (b : Nat),b ∉ bs → (killB bs L)[b]? = L[b]?
 | [],L,b,_=>rfl
 | c :: r,L,b,h=>by
  simp at h
  rw [killB,killB_out r _ b h.2,List.getElem?_set_ne (fun e=>h.1 e.symm)]
theorem killB_in : ∀ (bs : List Nat) (L : List Blk) (b : Nat),b ∈ bs → b < L.length → (killB bs L)[b]? = some .dead
 | [],L,b,h,_=>by simp at h
 | c :: r,L,b,h,hl=>by
  by_cases hr : b ∈ r
  ·exact killB_in r _ b hr (by simpa using hl)
  ·have : b = c:=by simpa [hr] using h
   subst this
   rw [killB,killB_out r _ b hr,List.getElem?_set_self hl]
theorem CallP.freeze [Quiet C] {f : FuncId} {args dargs : List V} {L' : List Blk} {k : V → List Blk → Prop} (bs : List Nat) (hL : killB bs L = L') (hbs : plainBlk L bs = true) (hc : CwL (· ∈ bs) L args dargs) (h : CallP C f dargs L' k) : CallP C f args L k:=by
 subst hL
 rw [CallP_q] at h ⊢
 refine ⟨h.1,fun g w vs hg hv=>?_⟩
 have hp : ∀ b ∈ bs,∃ k0,L[b]? = some k0 ∧ k0 ≠ .defr ∧ b < L.length:=fun b hb=>by
  have:=List.all_eq_true.1 hbs b hb
  split at this
  ·rename_i e; exact ⟨_,e,by simp,lt_of_get e⟩
  ·rename_i e; exact ⟨_,e,by simp,lt_of_get e⟩
  ·cases this
 let g' : Gh:={ g with I:=fun q=>g.I q ∨ ∃ b ∈ bs,live L b ∧ g.m b = some q }
 have hkeep : ∀ b,Keep g L g' (killB bs L) b:=by
  intro b
  by_cases hb : b ∈ bs
  ·obtain ⟨_,_,_,hlt⟩:=hp b hb
   have hd:=killB_in bs L b hb hlt
   exact ⟨fun _ _=>.inl hd,fun _ _ _ _=>.inl hd,fun _ _=>.inl hd,fun _ _=>.inl hd,fun _=>hd⟩
  ·exact Keep.same (killB_out bs L b hb) rfl rfl
 have mono : ∀ (x : V) (v : Value),RV g w L x v → RV g' w (killB bs L) x v:=fun x v hx=>RV.mono (g:=g) (g':=g') (k:=L.length) (fun q hq=>.inl hq) (fun a v _ h=>h) (fun b _=>hkeep b) hx.bel hx
 have lv : ∀ b,live (killB bs L) b → b ∉ bs ∧ live L b:=by
  rintro b ⟨k0,hk0,hd⟩
  by_cases hb : b ∈ bs
  ·obtain ⟨_,_,_,hlt⟩:=hp b hb
   rw [killB_in bs L b hb hlt] at hk0
   exact absurd (by cases hk0; rfl) hd
  ·rw [killB_out bs L b hb] at hk0
   exact ⟨hb,k0,hk0,hd⟩
 have hgood : Good g' w (killB bs L):=by
  refine ⟨fun b b' r h1 h2 m1 m2=>hg.inj b b' r (lv b h1).2 (lv b' h2).2 m1 m2,?_,?_,fun b k0 hk0=>?_,hg.gl.mono (fun q hq=>.inl hq) (fun a v _ h=>h)⟩
  ·rintro r ⟨b,hl,hm⟩ hI
   obtain ⟨hb,hl'⟩:=lv b hl
   rcases hI with hI | ⟨b',hb',hl2,hm2⟩
   ·exact hg.dis r ⟨b,hl',hm⟩ hI
   ·exact hb (hg.inj b b' r hl' hl2 hm hm2 ▸ hb')
  ·rintro r (hI | ⟨b',_,hl2,hm2⟩)
   ·exact hg.lt r hI
   ·exact hg.owned_lt ⟨b',hl2,hm2⟩
  ·by_cases hb : b ∈ bs
   ·obtain ⟨_,_,_,hlt⟩:=hp b hb
    rw [killB_in bs L b hb hlt] at hk0
    cases hk0; trivial
   ·rw [killB_out bs L b hb] at hk0
    refine RB.mono' mono rfl rfl (fun _ _ _ h=>h) (fun l hl=>⟨rfl,fun h=>?_⟩) (hg.blk b k0 hk0)
    by_cases hd : l.df ∈ bs
    ·obtain ⟨k1,e1,e2,_⟩:=hp _ hd
     rw [h] at e1; cases e1; exact absurd rfl e2
    ·rw [killB_out bs L _ hd]; exact h
 have hprog : Prog L.length g w L g' w (killB bs L):=by
  refine ⟨⟨rfl,rfl,rfl⟩,Nat.le_refl _,fun _ _ h _=>h,fun r ⟨b,hl,hm⟩ _=>⟨b,(lv b hl).2,hm⟩,?_,fun _ h=>.inl h,fun x v _ h=>mono x v h,fun b r _ h1 h2=>⟨?_,h2⟩,fun _=>by rw [killB_len]; exact Nat.le_refl _⟩
  ·rintro r (hI | ⟨b',_,hl2,hm2⟩)
   ·exact .inl hI
   ·exact .inr (.inr ⟨b',hl2,hm2⟩)
  ·by_cases hd : b ∈ bs
   ·obtain ⟨k1,e1,e2,_⟩:=hp _ hd
    rw [h1] at e1; cases e1; exact absurd rfl e2
   ·rw [killB_out bs L _ hd]; exact h1
 refine (h.2 g' w vs hgood ⟨hc.len ▸ hv.1,fun j y v hy hvj=>?_⟩).mono ?_
 ·exact hc.rvs hg (g':=g') (L':=killB bs L) (fun r hr=>.inl hr) (fun b r hb hl hm=>.inr ⟨b,hb,hl,hm⟩) (fun x u _ hu=>mono x u hu) vs.toList
   (fun j x v hx hv'=>hv.2 j x v hx (by simpa using hv')) j y v hy (by simpa using hvj)
 ·rintro e w' ⟨v,X,L1,g1,he,hX,hr,hg1,hp1⟩
  exact ⟨v,X,L1,g1,he,hX,hr,hg1,hprog.trans (hp1.le (by rw [killB_len]; exact Nat.le_refl _) (Nat.le_refl _))⟩
end
end Go.Tidy
/-
 The base layer: contracts,as the callers use them.
-/
namespace Go.Tidy
theorem CallP.pure {C : Ctx} [Quiet C] {f : FuncId} {args : List V} {x : V} (h : CallP C f args [] fun X L=>L = [] ∧ X = x) (ha : V.belL 0 args = true) (hx : ∀ n,x.sh n = x) {L : List Blk} {k : V → List Blk → Prop} (hk : k x L) : CallP C f args L k :=
 h.frame ha fun X L' ⟨h1,h2⟩=>by subst h1 h2; rw [hx]; simpa [shB] using hk
theorem CallP.lent {C : Ctx} [Quiet C] {f : FuncId} {args dargs : List V} {x : V} {L : List Blk} {k : V → List Blk → Prop} (h : CallP C f dargs [] fun X L=>L = [] ∧ X = x) (hc : CwL (fun _=>True) L args dargs) (ha : V.belL 0 dargs = true) (hx : x.scalar = true)
  (hk : k x L) : CallP C f args L k :=
 h.borrow hc ha fun X L' ⟨h1,h2⟩=>by subst h1 h2; exact ⟨rfl,hx,hk⟩
inductive CvL (S : Nat → Prop) (L : List Blk) : List V → List D → Prop
 | nil : CvL S L [] []
 | cons {x : V} {y : D} {xs : List V} {ys : List D} (h : Cv S L x y) (hs : CvL S L xs ys) : CvL S L (x :: xs) (y :: ys)
theorem CvL.get {S : Nat → Prop} {L : List Blk} {xs : List V} {ys : List D} (h : CvL S L xs ys) : xs.length = ys.length ∧ ∀ (j : Nat) (x : V) (y : D),xs[j]? = some x → ys[j]? = some y → Cv S L x y:=by
 induction h with
 | nil=>exact ⟨rfl,fun j x y hx=>by simp at hx⟩
 | cons h hs ih =>
  refine ⟨by simp [ih.1],fun j x y hx hy=>?_⟩
  cases j with
  | zero=>simp at hx hy; subst hx hy; exact h
  | succ j=>exact ih.2 j x y (by simpa using hx) (by simpa using hy)
theorem CvL.data {S : Nat → Prop} {L : List Blk} : ∀ ds : List D,CvL S L (ds.map .d) ds
 | []=>.nil
 | d :: ds=>.cons (.d d) (CvL.data ds)
theorem Cv.fnL {S : Nat → Prop} {L : List Blk} {f : FuncId} {xs : List V} {ys : List D} (h : CvL S L xs ys) : Cv S L (.fn f xs) (.fn f ys):=.fn f xs ys h.get.1 h.get.2
theorem Cv.ptrL {S : Nat → Prop} {L : List Blk} {b off : Nat} {cs : List V} {ys : List D} (hb : S b) (hL : L[b]? = some (.cells cs)) (h : CvL S L (cs.drop off) ys) : Cv S L (.ptr b off) (.rptr ys):=.ptr b off cs ys hb hL h.get.1 h.get.2
theorem Cw.aggL {S : Nat → Prop} {L : List Blk} {xs : List V} {ys : List D} (h : CvL S L xs ys) : Cw S L (.agg xs) (.agg (ys.map .d)):=.agg xs ys h.get.1 h.get.2
end Go.Tidy
/-
 The base layer: searching lists.
-/
namespace Go.Tidy
def ints (l : List Int) : D:=.sl (l.map fun n=>[DI n])
def findI {α : Type} (p : α → Bool) (l : List α) : Int:=match l.findIdx? p with | some i=>i | none=>-1
theorem findI_hit {α : Type} {p : α → Bool} {l : List α} {i : Nat} (h : i < l.length) (hp : p l[i] = true) (hb : ∀ (j : Nat) (hj : j < l.length),j < i → p l[j] = false) : findI p l = i:=by
 have : l.findIdx? p = some i:=by
  rw [List.findIdx?_eq_some_iff_getElem]
  exact ⟨h,hp,fun j hj=>by simp [hb j (by omega) hj]⟩
 simp [findI,this]
theorem findI_miss {α : Type} {p : α → Bool} {l : List α} (hb : ∀ (j : Nat) (hj : j < l.length),p l[j] = false) : findI p l = -1:=by
 have : l.findIdx? p = none:=by
  rw [List.findIdx?_eq_none_iff]
  intro x hx
  obtain ⟨j,hj,rfl⟩:=List.getElem_of_mem hx
  exact hb j hj
 simp [findI,this]
theorem findI_any {α : Type} (p : α → Bool) (l : List α) : decide (0 ≤ findI p l) = l.any p:=by
 unfold findI
 cases h : l.findIdx? p with
 | none =>
  rw [List.findIdx?_eq_none_iff] at h
  have : l.any p = false:=by rw [List.any_eq_false]; intro x hx; simp [h x hx]
  simp [this]
 | some i =>
  rw [List.findIdx?_eq_some_iff_getElem] at h
  obtain ⟨hi,hp,_⟩:=h
  have : l.any p = true:=List.any_eq_true.2 ⟨l[i],List.getElem_mem hi,hp⟩
  simp [this]
structure Far {α : Type} (p : α → Bool) (l : List α) where
 i : Nat
 le : i ≤ l.length
 no : ∀ (j : Nat) (hj : j < l.length),j < i → p l[j] = false
def Far.zero {α : Type} (p : α → Bool) (l : List α) : Far p l:=⟨0,Nat.zero_le _,fun j _ h=>absurd h (Nat.not_lt_zero j)⟩
def Far.next {α : Type} {p : α → Bool} {l : List α} (s : Far p l) (h : s.i < l.length) (hp : p l[s.i] = false) : Far p l :=
 ⟨s.i + 1,h,fun j hj hji=>by
  by_cases e : j = s.i
  ·subst e; exact hp
  ·exact s.no j hj (by omega)⟩
end Go.Tidy
/-
 The base layer: a call's contract under a small memory holds wherever that memory is a part,under other numbers,of a greater one.
-/
namespace Go.Tidy
mutual
def V.rn (ρ : Nat → Nat) : V → V
 | .own b g lo len=>.own (ρ b) g lo len
 | .ptr b off=>.ptr (ρ b) off
 | .eptr b g i off=>.eptr (ρ b) g i off
 | .map b=>.map (ρ b)
 | .yld b=>.yld (ρ b)
 | .fn f caps=>.fn f (V.rnL ρ caps)
 | .iface t x=>.iface t (V.rn ρ x)
 | .agg cs=>.agg (V.rnL ρ cs)
 | .tup cs=>.tup (V.rnL ρ cs)
 | .poison=>.poison
 | .tt=>.tt
 | .ff=>.ff
 | .d x=>.d x
 | .nil=>.nil
 | .glob k=>.glob k
 | .clp els=>.clp els
def V.rnL (ρ : Nat → Nat) : List V → List V
 | []=>[]
 | x :: r=>V.rn ρ x :: V.rnL ρ r
end
def rnF (ρ : Nat → Nat) : List (Nat × V) → List (Nat × V)
 | []=>[]
 | p :: r=>(p.1,p.2.rn ρ) :: rnF ρ r
def rnM (ρ : Nat → Nat) : List (V × V) → List (V × V)
 | []=>[]
 | p :: r=>(p.1.rn ρ,p.2.rn ρ) :: rnM ρ r
def rnR (ρ : Nat → Nat) : List (List V) → List (List V)
 | []=>[]
 | p :: r=>V.rnL ρ p :: rnR ρ r
def Blk.rn (ρ : Nat → Nat) : Blk → Blk
 | .cells cs=>.cells (V.rnL ρ cs)
 | .row g sz els=>.row g sz (rnR ρ els)
 | .map es=>.map (rnM ρ es)
 | .loop l=>.loop { l with fr:=rnF ρ l.fr,df:=ρ l.df }
 | .defr=>.defr
 | .dead=>.dead
def rnB (ρ : Nat → Nat) : List Blk → List Blk
 | []=>[]
 | p :: r=>p.rn ρ :: rnB ρ r
section
variable (ρ : Nat → Nat)
theorem V.rnL_get : ∀ (cs : List V) (j : Nat),(V.rnL ρ cs)[j]? = (cs[j]?).map (V.rn ρ)
 | [],j=>by simp [V.rnL]
 | x :: r,0=>by simp [V.rnL]
 | x :: r,j + 1=>by simp [V.rnL,V.rnL_get r j]
theorem V.rnL_len : ∀ (cs : List V),(V.rnL ρ cs).length = cs.length
 | []=>rfl
 | x :: r=>by simp [V.rnL,V.rnL_len r]
theorem rnB_get : ∀ (cs : List Blk) (j : Nat),(rnB ρ cs)[j]? = (cs[j]?).map (Blk.rn ρ)
 | [],j=>by simp [rnB]
 | x :: r,0=>by simp [rnB]
 | x :: r,j + 1=>by simp [rnB,rnB_get r j]
theorem rnB_len : ∀ (cs : List Blk),(rnB ρ cs).length = cs.length
 | []=>rfl
 | x :: r=>by simp [rnB,rnB_len r]
theorem rnM_get : ∀ (cs : List (V × V)) (j : Nat),(rnM ρ cs)[j]? = (cs[j]?).map fun p=>(p.1.rn ρ,p.2.rn ρ)
 | [],j=>by simp [rnM]
 | x :: r,0=>by simp [rnM]
 | x :: r,j + 1=>by simp [rnM,rnM_get r j]
theorem rnM_len : ∀ (cs : List (V × V)),(rnM ρ cs).length = cs.length
 | []=>rfl
 | x :: r=>by simp [rnM,rnM_len r]
theorem rnR_get : ∀ (cs : List (List V)) (j : Nat),(rnR ρ cs)[j]? = (cs[j]?).map (V.rnL ρ)
 | [],j=>by simp [rnR]
 | x :: r,0=>by simp [rnR]
 | x :: r,j + 1=>by simp [rnR,rnR_get r j]
theorem rnR_len : ∀ (cs : List (List V)),(rnR ρ cs).length = cs.length
 | []=>rfl
 | x :: r=>by simp [rnR,rnR_len r]
theorem rnF_look : ∀ (fr : List (Nat × V)) (i : Nat),look (rnF ρ fr) i = (look fr i).rn ρ
 | [],i=>by simp [rnF,look,V.rn]
 | p :: r,i=>by
  simp only [rnF,look]
  cases Nat.beq p.1 i
  ·simpa using rnF_look r i
  ·rfl
end
theorem map_some {α β : Type} {f : α → β} {o : Option α} {y : β} (h : o.map f = some y) : ∃ x,o = some x ∧ f x = y:=by
 cases o with
 | none=>cases h
 | some x=>exact ⟨x,rfl,by simpa using h⟩
structure Emb (ρ : Nat → Nat) (n0 : Nat) (g : Gh) (L : List Blk) (g0 : Gh) (L0 : List Blk) : Prop where
 len : L0.length = n0
 get : ∀ b,b < n0 → L[ρ b]? = (L0[b]?).map (Blk.rn ρ)
 m : ∀ b,b < n0 → g0.m b = g.m (ρ b)
 cap : ∀ b,b < n0 → g0.cap b = g.cap (ρ b)
 I : ∀ r,g.I r → g0.I r
section
variable {ρ : Nat → Nat} {n0 : Nat} {g g0 : Gh} {L L0 : List Blk} {w : World}
theorem Emb.at (e : Emb ρ n0 g L g0 L0) {b : Nat} (hb : b < n0) {k : Blk} (h : L[ρ b]? = some k) : ∃ k0,L0[b]? = some k0 ∧ k0.rn ρ = k:=by
 rw [e.get b hb] at h
 exact map_some h
theorem RV.dn (e : Emb ρ n0 g L g0 L0) {y : V} {v : Value} (h : RV g w L y v) : ∀ x : V,y = x.rn ρ → x.bel n0 = true → RV g0 w L0 x v:=by
 induction h with
 | poison v=>intro x hx _; cases x <;> simp only [V.rn,reduceCtorEq] at hx; exact .poison v
 | tt=>intro x hx _; cases x <;> simp only [V.rn,reduceCtorEq] at hx; exact .tt
 | ff=>intro x hx _; cases x <;> simp only [V.rn,reduceCtorEq] at hx; exact .ff
 | d y v h =>
  intro x hx _
  cases x <;> simp only [V.rn,reduceCtorEq,V.d.injEq] at hx
  subst hx; exact .d _ v (h.mono e.I fun _ _ _ h=>h)
 | nil=>intro x hx _; cases x <;> simp only [V.rn,reduceCtorEq] at hx; exact .nil
 | ptr b off r cs hL hm =>
  intro x hx hb
  cases x <;> simp only [V.rn,reduceCtorEq,V.ptr.injEq] at hx
  obtain ⟨rfl,rfl⟩:=hx
  simp only [V.bel,decide_eq_true_eq] at hb
  obtain ⟨k0,h1,h2⟩:=e.at hb hL
  cases k0 <;> simp only [Blk.rn,reduceCtorEq] at h2
  exact .ptr _ _ r _ h1 ((e.m _ hb).trans hm)
 | ptrX b off a hL =>
  intro x hx hb
  cases x <;> simp only [V.rn,reduceCtorEq,V.ptr.injEq] at hx
  obtain ⟨rfl,rfl⟩:=hx
  simp only [V.bel,decide_eq_true_eq] at hb
  obtain ⟨k0,h1,h2⟩:=e.at hb hL
  cases k0 <;> simp only [Blk.rn,reduceCtorEq] at h2
  exact .ptrX _ _ a h1
 | own b gen lo len sz r o c els hL hm ho hc hlc hle =>
  intro x hx hb
  cases x <;> simp only [V.rn,reduceCtorEq,V.own.injEq] at hx
  obtain ⟨rfl,rfl,rfl,rfl⟩:=hx
  simp only [V.bel,decide_eq_true_eq] at hb
  obtain ⟨k0,h1,h2⟩:=e.at hb hL
  cases k0 <;> simp only [Blk.rn,reduceCtorEq,Blk.row.injEq] at h2
  obtain ⟨rfl,rfl,rfl⟩:=h2
  exact .own _ _ _ _ _ r o c _ h1 ((e.m _ hb).trans hm) ho (by rw [e.cap _ hb]; exact hc) hlc (by rwa [rnR_len] at hle)
 | ownN b gen sz els hL hm =>
  intro x hx hb
  cases x <;> simp only [V.rn,reduceCtorEq,V.own.injEq] at hx
  obtain ⟨rfl,rfl,rfl,rfl⟩:=hx
  simp only [V.bel,decide_eq_true_eq] at hb
  obtain ⟨k0,h1,h2⟩:=e.at hb hL
  cases k0 <;> simp only [Blk.rn,reduceCtorEq,Blk.row.injEq] at h2
  obtain ⟨rfl,rfl,rfl⟩:=h2
  exact .ownN _ _ _ _ h1 ((e.m _ hb).trans hm)
 | ownO b gen gen' sz lo len els a c hL hg =>
  intro x hx hb
  cases x <;> simp only [V.rn,reduceCtorEq,V.own.injEq] at hx
  obtain ⟨rfl,rfl,rfl,rfl⟩:=hx
  simp only [V.bel,decide_eq_true_eq] at hb
  obtain ⟨k0,h1,h2⟩:=e.at hb hL
  cases k0 <;> simp only [Blk.rn,reduceCtorEq,Blk.row.injEq] at h2
  obtain ⟨rfl,rfl,rfl⟩:=h2
  exact .ownO _ _ _ _ _ _ _ _ _ h1 hg
 | ownX b gen lo len a c hL =>
  intro x hx hb
  cases x <;> simp only [V.rn,reduceCtorEq,V.own.injEq] at hx
  obtain ⟨rfl,rfl,rfl,rfl⟩:=hx
  simp only [V.bel,decide_eq_true_eq] at hb
  obtain ⟨k0,h1,h2⟩:=e.at hb hL
  cases k0 <;> simp only [Blk.rn,reduceCtorEq] at h2
  exact .ownX _ _ _ _ a c h1
 | eptr b gen i off sz r els hL hm =>
  intro x hx hb
  cases x <;> simp only [V.rn,reduceCtorEq,V.eptr.injEq] at hx
  obtain ⟨rfl,rfl,rfl,rfl⟩:=hx
  simp only [V.bel,decide_eq_true_eq] at hb
  obtain ⟨k0,h1,h2⟩:=e.at hb hL
  cases k0 <;> simp only [Blk.rn,reduceCtorEq,Blk.row.injEq] at h2
  obtain ⟨rfl,rfl,rfl⟩:=h2
  exact .eptr _ _ _ _ _ r _ h1 ((e.m _ hb).trans hm)
 | eptrO b gen gen' sz i off els a hL hg =>
  intro x hx hb
  cases x <;> simp only [V.rn,reduceCtorEq,V.eptr.injEq] at hx
  obtain ⟨rfl,rfl,rfl,rfl⟩:=hx
  simp only [V.bel,decide_eq_true_eq] at hb
  obtain ⟨k0,h1,h2⟩:=e.at hb hL
  cases k0 <;> simp only [Blk.rn,reduceCtorEq,Blk.row.injEq] at h2
  obtain ⟨rfl,rfl,rfl⟩:=h2
  exact .eptrO _ _ _ _ _ _ _ a h1 hg
 | eptrX b gen i off a hL =>
  intro x hx hb
  cases x <;> simp only [V.rn,reduceCtorEq,V.eptr.injEq] at hx
  obtain ⟨rfl,rfl,rfl,rfl⟩:=hx
  simp only [V.bel,decide_eq_true_eq] at hb
  obtain ⟨k0,h1,h2⟩:=e.at hb hL
  cases k0 <;> simp only [Blk.rn,reduceCtorEq] at h2
  exact .eptrX _ _ _ _ a h1
 | map b r es hL hm =>
  intro x hx hb
  cases x <;> simp only [V.rn,reduceCtorEq,V.map.injEq] at hx
  subst hx
  simp only [V.bel,decide_eq_true_eq] at hb
  obtain ⟨k0,h1,h2⟩:=e.at hb hL
  cases k0 <;> simp only [Blk.rn,reduceCtorEq] at h2
  exact .map _ r _ h1 ((e.m _ hb).trans hm)
 | mapX b a hL =>
  intro x hx hb
  cases x <;> simp only [V.rn,reduceCtorEq,V.map.injEq] at hx
  subst hx
  simp only [V.bel,decide_eq_true_eq] at hb
  obtain ⟨k0,h1,h2⟩:=e.at hb hL
  cases k0 <;> simp only [Blk.rn,reduceCtorEq] at h2
  exact .mapX _ a h1
 | yld b r l hL hm =>
  intro x hx hb
  cases x <;> simp only [V.rn,reduceCtorEq,V.yld.injEq] at hx
  subst hx
  simp only [V.bel,decide_eq_true_eq] at hb
  obtain ⟨k0,h1,h2⟩:=e.at hb hL
  cases k0 <;> simp only [Blk.rn,reduceCtorEq] at h2
  exact .yld _ r _ h1 ((e.m _ hb).trans hm)
 | yldX b r hL =>
  intro x hx hb
  cases x <;> simp only [V.rn,reduceCtorEq,V.yld.injEq] at hx
  subst hx
  simp only [V.bel,decide_eq_true_eq] at hb
  obtain ⟨k0,h1,h2⟩:=e.at hb hL
  cases k0 <;> simp only [Blk.rn,reduceCtorEq] at h2
  exact .yldX _ r h1
 | fn f caps vs hlen _ ih =>
  intro x hx hb
  cases x <;> simp only [V.rn,reduceCtorEq,V.fn.injEq] at hx
  rename_i f' xs
  obtain ⟨rfl,rfl⟩:=hx
  rw [V.rnL_len] at hlen
  refine .fn _ xs vs hlen fun j y u hy hu=>ih j (y.rn ρ) u (by rw [V.rnL_get,hy]; rfl) hu y rfl (V.belL_get (by simpa [V.bel] using hb) hy)
 | iface t y v _ ih =>
  intro x hx hb
  cases x <;> simp only [V.rn,reduceCtorEq,V.iface.injEq] at hx
  obtain ⟨rfl,rfl⟩:=hx
  exact .iface _ _ v (ih _ rfl (by simpa [V.bel] using hb))
 | agg cs vs hlen hone _ ih =>
  intro x hx hb
  cases x <;> simp only [V.rn,reduceCtorEq,V.agg.injEq] at hx
  rename_i xs
  subst hx
  rw [V.rnL_len] at hlen
  refine .agg xs vs hlen hone fun j y u hy hu=>ih j (y.rn ρ) u (by rw [V.rnL_get,hy]; rfl) hu y rfl (V.belL_get (by simpa [V.bel] using hb) hy)
 | tup cs vs hlen _ ih =>
  intro x hx hb
  cases x <;> simp only [V.rn,reduceCtorEq,V.tup.injEq] at hx
  rename_i xs
  subst hx
  rw [V.rnL_len] at hlen
  refine .tup xs vs hlen fun j y u hy hu=>ih j (y.rn ρ) u (by rw [V.rnL_get,hy]; rfl) hu y rfl (V.belL_get (by simpa [V.bel] using hb) hy)
 | glob k=>intro x hx _; cases x <;> simp only [V.rn,reduceCtorEq,V.glob.injEq] at hx; subst hx; exact .glob _
 | clp els a h=>intro x hx _; cases x <;> simp only [V.rn,reduceCtorEq,V.clp.injEq] at hx; subst hx; exact .clp _ a (h.mono e.I fun _ _ _ h=>h)
theorem RB.dn (e : Emb ρ n0 g L g0 L0) {b : Nat} (hb : b < n0) {k : Blk} (hk : k.bel n0 = true) (hdf : ∀ l,k = .loop l → L0[l.df]? = some .defr) (h : RB g w L (ρ b) (k.rn ρ)) : RB g0 w L0 b k:=by
 cases k with
 | cells cs =>
  obtain ⟨r,cur,T,h1,h2,h3,h4,h5⟩:=h
  rw [V.rnL_len] at h3
  exact ⟨r,cur,T,(e.m b hb).trans h1,h2,h3,h4,fun i x v hx hv=>(h5 i (x.rn ρ) v (by rw [V.rnL_get,hx]; rfl) hv).dn e x rfl (V.belL_get hk hx)⟩
 | row gen sz els =>
  obtain ⟨h0,h1,hh⟩:=h
  refine ⟨h0,fun el hel=>?_,?_⟩
  ·obtain ⟨i,hi⟩:=List.mem_iff_getElem?.1 hel
   have:=h1 (V.rnL ρ el) (List.mem_of_getElem? (i:=i) (by rw [rnR_get,hi]; rfl))
   rwa [V.rnL_len] at this
  ·rcases hh with ⟨h2,h3⟩ | ⟨r,cur,T,h2,h3,h4,h5,h6,h7⟩
   ·refine .inl ⟨(e.m b hb).trans h2,?_⟩
    cases els with
    | nil=>rfl
    | cons a l=>simp [rnR] at h3
   ·rw [rnR_len] at h5
    refine .inr ⟨r,cur,T,(e.m b hb).trans h2,h3,by rw [e.cap b hb]; exact h4,h5,h6,fun i j x v hx hv=>?_⟩
    refine (h7 i j (x.rn ρ) v ?_ hv).dn e x rfl (belR_get hk hx)
    rw [rnR_get]
    cases e1 : els[i]? with
    | none=>rw [e1] at hx; cases hx
    | some y =>
     rw [e1] at hx
     simp only [Option.map_some,Option.bind_some] at hx ⊢
     rw [V.rnL_get,hx]; rfl
 | map es =>
  obtain ⟨r,ents,clock,h1,h2,h3,hst,h4⟩:=h
  rw [rnM_len] at h3
  refine ⟨r,ents,clock,(e.m b hb).trans h1,h2,h3,hst,fun i x en hx he=>?_⟩
  obtain ⟨b1,b2⟩:=belM_get hk hx
  obtain ⟨c1,c2⟩:=h4 i (x.1.rn ρ,x.2.rn ρ) en (by rw [rnM_get,hx]; rfl) he
  exact ⟨c1.dn e _ rfl b1,c2.dn e _ rfl b2⟩
 | loop l =>
  obtain ⟨r,rec,h1,h2,h3,h4,h5,h6,h7,h8,h9,h10,h11⟩:=h
  simp only [Blk.bel,Bool.and_eq_true,decide_eq_true_eq] at hk
  exact ⟨r,rec,(e.m b hb).trans h1,h2,h3,h4,h5,h6,h7,h8,fun i=>(h9 i).dn e _ (rnF_look ρ _ i) (belF_look hk.1 i),(e.m _ hk.2).trans h10,hdf l rfl,h11.2⟩
 | defr =>
  obtain ⟨r,h1,h2⟩:=h
  exact ⟨r,(e.m b hb).trans h1,h2⟩
 | dead=>trivial
end
structure Emu (ρ : Nat → Nat) (g1 : Gh) (L1 : List Blk) (g : Gh) (L : List Blk) : Prop where
 get : ∀ b k,L1[b]? = some k → L[ρ b]? = some (k.rn ρ)
 m : ∀ b,b < L1.length → g.m (ρ b) = g1.m b
 cap : ∀ b,b < L1.length → g.cap (ρ b) = g1.cap b
 I : ∀ r,g1.I r → g.I r
section
variable {ρ : Nat → Nat} {g g1 : Gh} {L L1 : List Blk} {w : World}
theorem RV.up (e : Emu ρ g1 L1 g L) {x : V} {v : Value} (h : RV g1 w L1 x v) : RV g w L (x.rn ρ) v:=by
 induction h with
 | poison v=>exact .poison v
 | tt=>exact .tt
 | ff=>exact .ff
 | d x v h=>exact .d x v (h.mono e.I fun _ _ _ h=>h)
 | nil=>exact .nil
 | ptr b off r cs hL hm=>exact .ptr _ off r _ (e.get _ _ hL) ((e.m b (lt_of_get hL)).trans hm)
 | ptrX b off a hL=>exact .ptrX _ off a (e.get _ _ hL)
 | own b gen lo len sz r o c els hL hm ho hcap hlc hle =>
  exact .own _ gen lo len sz r o c _ (e.get _ _ hL) ((e.m b (lt_of_get hL)).trans hm) ho (by rw [e.cap b (lt_of_get hL)]; exact hcap) hlc (by rw [rnR_len]; exact hle)
 | ownN b gen sz els hL hm=>exact .ownN _ gen sz _ (e.get _ _ hL) ((e.m b (lt_of_get hL)).trans hm)
 | ownO b gen gen1 sz lo len els a c hL hg0=>exact .ownO _ gen gen1 sz lo len _ _ _ (e.get _ _ hL) hg0
 | ownX b gen lo len a c hL=>exact .ownX _ gen lo len a c (e.get _ _ hL)
 | eptr b gen i off sz r els hL hm=>exact .eptr _ gen i off sz r _ (e.get _ _ hL) ((e.m b (lt_of_get hL)).trans hm)
 | eptrO b gen gen1 sz i off els a hL hg0=>exact .eptrO _ gen gen1 sz i off _ _ (e.get _ _ hL) hg0
 | eptrX b gen i off a hL=>exact .eptrX _ gen i off a (e.get _ _ hL)
 | map b r es hL hm=>exact .map _ r _ (e.get _ _ hL) ((e.m b (lt_of_get hL)).trans hm)
 | mapX b a hL=>exact .mapX _ a (e.get _ _ hL)
 | yld b r l hL hm=>exact .yld _ r _ (e.get _ _ hL) ((e.m b (lt_of_get hL)).trans hm)
 | yldX b r hL=>exact .yldX _ r (e.get _ _ hL)
 | fn f caps vs hlen _ ih =>
  refine .fn f _ vs (by rw [V.rnL_len]; exact hlen) fun j x v h1 h2=>?_
  rw [V.rnL_get] at h1
  obtain ⟨y,h3,rfl⟩:=map_some h1
  exact ih j y v h3 h2
 | iface t x v _ ih=>exact .iface t _ v ih
 | agg cs vs hlen hone _ ih =>
  refine .agg _ vs (by rw [V.rnL_len]; exact hlen) hone fun j x v h1 h2=>?_
  rw [V.rnL_get] at h1
  obtain ⟨y,h3,rfl⟩:=map_some h1
  exact ih j y v h3 h2
 | tup cs vs hlen _ ih =>
  refine .tup _ vs (by rw [V.rnL_len]; exact hlen) fun j x v h1 h2=>?_
  rw [V.rnL_get] at h1
  obtain ⟨y,h3,rfl⟩:=map_some h1
  exact ih j y v h3 h2
 | glob k=>exact .glob k
 | clp els a h=>exact .clp els a (h.mono e.I fun _ _ _ h=>h)
theorem RB.up (e : Emu ρ g1 L1 g L) {b : Nat} (hb : b < L1.length) {k : Blk} (h : RB g1 w L1 b k) : RB g w L (ρ b) (k.rn ρ):=by
 cases k with
 | cells cs =>
  obtain ⟨r,cur,T,h1,h2,h3,h4,h5⟩:=h
  refine ⟨r,cur,T,(e.m b hb).trans h1,h2,by rw [V.rnL_len]; exact h3,h4,fun i x v hx hv=>?_⟩
  rw [V.rnL_get] at hx
  obtain ⟨y,h6,rfl⟩:=map_some hx
  exact (h5 i y v h6 hv).up e
 | row gen sz els =>
  obtain ⟨h0,h1,hh⟩:=h
  refine ⟨h0,fun el he=>?_,?_⟩
  ·obtain ⟨i,hi⟩:=List.mem_iff_getElem?.1 he
   rw [rnR_get] at hi
   obtain ⟨y,h6,rfl⟩:=map_some hi
   rw [V.rnL_len]; exact h1 y (List.mem_of_getElem? h6)
  ·rcases hh with ⟨h2,h3⟩ | ⟨r,cur,T,h2,h3,h4,h5,h6,h7⟩
   ·exact .inl ⟨(e.m b hb).trans h2,by rw [h3]; rfl⟩
   ·refine .inr ⟨r,cur,T,(e.m b hb).trans h2,h3,by rw [e.cap b hb]; exact h4,by rw [rnR_len]; exact h5,h6,fun i j x v hx hv=>?_⟩
    rw [rnR_get] at hx
    cases e1 : els[i]? with
    | none=>rw [e1] at hx; cases hx
    | some y =>
     rw [e1] at hx
     simp only [Option.map_some,Option.bind_some] at hx
     rw [V.rnL_get] at hx
     obtain ⟨z,e2,rfl⟩:=map_some hx
     exact (h7 i j z v (by rw [e1]; exact e2) hv).up e
 | map es =>
  obtain ⟨r,ents,clock,h1,h2,h3,hst,h4⟩:=h
  refine ⟨r,ents,clock,(e.m b hb).trans h1,h2,by rw [rnM_len]; exact h3,hst,fun i x en hx he=>?_⟩
  rw [rnM_get] at hx
  obtain ⟨y,e1,rfl⟩:=map_some hx
  exact ⟨(h4 i y en e1 he).1.up e,(h4 i y en e1 he).2.up e⟩
 | loop l =>
  obtain ⟨r,rec,h1,h2,h3,h4,h5,h6,h7,h8,h9,h10,h11⟩:=h
  exact ⟨r,rec,(e.m b hb).trans h1,h2,h3,h4,h5,h6,h7,h8,fun i=>by rw [show (LoopR.fr _) = rnF ρ l.fr from rfl,rnF_look]; exact (h9 i).up e,(e.m _ (lt_of_get h11.1)).trans h10,e.get _ _ h11.1,h11.2⟩
 | defr =>
  obtain ⟨r,h1,h2⟩:=h
  exact ⟨r,(e.m b hb).trans h1,h2⟩
 | dead=>trivial
end
def rnI (bs : List Nat) (N : Nat) (b : Nat) : Nat:=match bs[b]? with | some c=>c | none=>b - bs.length + N
def inI (bs : List Nat) (N : Nat) (c : Nat) : Option Nat:=match Nat.blt c N with | true=>bs.findIdx? (Nat.beq c) | false=>some (c - N + bs.length)
def putB : List Nat → List Blk → List Blk → List Blk
 | b :: bs,k :: ks,L=>putB bs ks (L.set b k)
 | [],ks,L=>L ++ ks
 | _ :: _,[],L=>L
theorem blt_of {a b : Nat} (h : a < b) : Nat.blt a b = true:=by rw [Nat.blt_eq]; exact h
theorem inI_some {bs : List Nat} {N c b : Nat} (_hlt : ∀ b ∈ bs,b < N) (h : inI bs N c = some b) : rnI bs N b = c:=by
 unfold inI at h
 cases hc : Nat.blt c N with
 | true =>
  rw [hc] at h
  simp only at h
  rw [List.findIdx?_eq_some_iff_getElem] at h
  obtain ⟨h1,h2,_⟩:=h
  unfold rnI
  rw [List.getElem?_eq_getElem h1]
  exact (Nat.eq_of_beq_eq_true h2).symm
 | false =>
  rw [hc] at h
  simp only [Option.some.injEq] at h
  have : N ≤ c:=by
   rcases Nat.lt_or_ge c N with h' | h'
   ·rw [← Nat.blt_eq] at h'; rw [h'] at hc; cases hc
   ·exact h'
  unfold rnI
  rw [List.getElem?_eq_none (by omega)]
  simp only; omega
theorem inI_none {bs : List Nat} {N c : Nat} (h : inI bs N c = none) : c < N ∧ c ∉ bs:=by
 unfold inI at h
 cases hc : Nat.blt c N with
 | true =>
  rw [hc] at h
  simp only at h
  rw [List.findIdx?_eq_none_iff] at h
  refine ⟨by rwa [Nat.blt_eq] at hc,fun hm=>?_⟩
  have:=h c hm
  rw [Nat.beq_refl] at this; cases this
 | false=>rw [hc] at h; cases h
theorem inI_rn {bs : List Nat} {N b : Nat} (hnd : bs.Nodup) (hlt : ∀ b ∈ bs,b < N) : inI bs N (rnI bs N b) = some b:=by
 unfold rnI inI
 cases e : bs[b]? with
 | some c =>
  have hb:=lt_of_get e
  have hc : c < N:=hlt c (List.mem_of_getElem? e)
  simp only [blt_of hc]
  rw [List.findIdx?_eq_some_iff_getElem]
  rw [List.getElem?_eq_getElem hb] at e
  cases e
  refine ⟨hb,Nat.beq_refl _,fun j hj=>?_⟩
  intro hh
  have:=Nat.eq_of_beq_eq_true hh
  have:=(List.getElem_inj hnd).1 this
  omega
 | none =>
  have hb : bs.length ≤ b:=by
   rcases Nat.lt_or_ge b bs.length with h | h
   ·rw [List.getElem?_eq_getElem h] at e; cases e
   ·exact h
  have : Nat.blt (b - bs.length + N) N = false:=by
   cases h : Nat.blt (b - bs.length + N) N with
   | false=>rfl
   | true=>rw [Nat.blt_eq] at h; omega
  simp only [this]
  congr 1; omega
theorem putB_len : ∀ (bs : List Nat) (ks L : List Blk),bs.length ≤ ks.length → (putB bs ks L).length = L.length + (ks.length - bs.length)
 | b :: bs,k :: ks,L,h=>by
  simp only [putB]
  rw [putB_len bs ks _ (by simpa using h)]
  simp
 | [],ks,L,_=>by simp [putB]
 | _ :: _,[],L,h=>by simp at h
theorem putB_out : ∀ (bs : List Nat) (ks L : List Blk) (c : Nat),c < L.length → c ∉ bs → (putB bs ks L)[c]? = L[c]?
 | b :: bs,k :: ks,L,c,h,hc=>by
  simp only [List.mem_cons,not_or] at hc
  rw [putB,putB_out bs ks _ c (by simpa using h) hc.2,List.getElem?_set_ne (fun e=>hc.1 e.symm)]
 | [],ks,L,c,h,_=>by rw [putB,List.getElem?_append_left h]
 | _ :: _,[],L,c,_,_=>rfl
theorem putB_in : ∀ (bs : List Nat) (ks L : List Blk),bs.Nodup → (∀ b ∈ bs,b < L.length) → bs.length ≤ ks.length → ∀ (b : Nat) (k : Blk),ks[b]? = some k → (putB bs ks L)[rnI bs L.length b]? = some k
 | c :: bs,k0 :: ks,L,hnd,hlt,hle,b,k,h=>by
  rw [List.nodup_cons] at hnd
  rw [putB]
  have hl : (L.set c k0).length = L.length:=by simp
  cases b with
  | zero =>
   simp at h; subst h
   show (putB bs ks (L.set c k0))[c]? = _
   rw [putB_out bs ks _ c (by rw [hl]; exact hlt c (by simp)) hnd.1,List.getElem?_set_self (hlt c (by simp))]
  | succ b =>
   have:=putB_in bs ks (L.set c k0) hnd.2 (fun x hx=>by rw [hl]; exact hlt x (by simp [hx])) (by simpa using hle) b k (by simpa using h)
   rw [hl] at this
   have e : rnI (c :: bs) L.length (b + 1) = rnI bs L.length b:=by
    unfold rnI
    rw [List.getElem?_cons_succ]
    cases bs[b]? with
    | none=>simp
    | some _=>rfl
   rw [e]; exact this
 | [],ks,L,_,_,_,b,k,h=>by
  have : rnI [] L.length b = L.length + b:=by simp [rnI,Nat.add_comm]
  rw [this,putB,List.getElem?_append_right (by omega)]
  simpa using h
 | _ :: _,[],L,_,_,h,_,_,_=>by simp at h
def Gh.small (g : Gh) (ρ : Nat → Nat) : Gh:={ I:=g.I,m:=fun b=>g.m (ρ b),cap:=fun b=>g.cap (ρ b) }
def Gh.great (g : Gh) (bs : List Nat) (N : Nat) (g1 : Gh) : Gh :=
 { I:=g1.I,m:=fun c=>match inI bs N c with | some b=>g1.m b | none=>g.m c,cap:=fun c=>match inI bs N c with | some b=>g1.cap b | none=>g.cap c }
def dfB (L : List Blk) : Bool:=L.all fun k=>match k with | .loop l=>(match L[l.df]? with | some .defr=>true | _=>false) | _=>true
section
variable {C : Ctx} {g g1 : Gh} {w0 w : World} {L L0 L1 : List Blk} {bs : List Nat}
structure Part (bs : List Nat) (L0 L : List Blk) : Prop where
 nd : bs.Nodup
 lt : ∀ b ∈ bs,b < L.length
 len : bs.length = L0.length
 get : ∀ b c : Nat,bs[b]? = some c → L[c]? = (L0[b]?).map (Blk.rn (rnI bs L.length))
 bel : belB L0.length L0 = true
 df : dfB L0 = true
theorem Part.rn (h : Part bs L0 L) {b : Nat} (hb : b < L0.length) : ∃ c,bs[b]? = some c ∧ rnI bs L.length b = c ∧ c < L.length:=by
 have : b < bs.length:=by rw [h.len]; exact hb
 exact ⟨bs[b],List.getElem?_eq_getElem this,by unfold rnI; rw [List.getElem?_eq_getElem this],h.lt _ (List.getElem_mem this)⟩
theorem Part.emb (h : Part bs L0 L) : Emb (rnI bs L.length) L0.length g L (g.small (rnI bs L.length)) L0 :=
 ⟨rfl,fun b hb=>by obtain ⟨c,h1,h2,_⟩:=h.rn hb; rw [h2]; exact h.get b c h1,fun _ _=>rfl,fun _ _=>rfl,fun _ h=>h⟩
theorem Part.lives (h : Part bs L0 L) {b : Nat} (hl : live L0 b) : live L (rnI bs L.length b):=by
 obtain ⟨k,hk,hd⟩:=hl
 obtain ⟨c,h1,h2,_⟩:=h.rn (lt_of_get hk)
 refine ⟨k.rn _,by rw [h2,h.get b c h1,hk]; rfl,fun e=>hd ?_⟩
 cases k <;> simp only [Blk.rn,reduceCtorEq] at e
 rfl
theorem Part.good (h : Part bs L0 L) (hg : Good g w L) : Good (g.small (rnI bs L.length)) w L0:=by
 refine ⟨fun b b' r h1 h2 m1 m2=>?_,?_,hg.lt,fun b k hk=>?_,hg.gl⟩
 ·have:=hg.inj _ _ r (h.lives h1) (h.lives h2) m1 m2
  have e1:=inI_rn (N:=L.length) (b:=b) h.nd h.lt
  have e2:=inI_rn (N:=L.length) (b:=b') h.nd h.lt
  rw [this,e2] at e1
  cases e1; rfl
 ·rintro r ⟨b,hl,hm⟩
  exact hg.dis r ⟨_,h.lives hl,hm⟩
 ·obtain ⟨c,h1,h2,_⟩:=h.rn (lt_of_get hk)
  refine RB.dn h.emb (lt_of_get hk) (belB_get h.bel hk) (fun l hl=>?_) ?_
  ·subst hl
   have:=List.all_eq_true.1 h.df _ (List.mem_of_getElem? hk)
   simp only at this
   split at this
   ·assumption
   ·cases this
  ·exact hg.blk _ _ (by rw [h2,h.get b c h1,hk]; rfl)
theorem Part.owns (h : Part bs L0 L) {r : Nat} (ho : owned (g.small (rnI bs L.length)) L0 r) : owned g L r:=by
 obtain ⟨b,hl,hm⟩:=ho
 exact ⟨_,h.lives hl,hm⟩
theorem Part.other (h : Part bs L0 L) (hg : Good g w0 L) {c r : Nat} (hc : c ∉ bs) (hl : live L c) (hm : g.m c = some r) : ¬ owned (g.small (rnI bs L.length)) L0 r:=by
 rintro ⟨b,hb,hm'⟩
 have:=hg.inj _ _ r (h.lives hb) hl hm' hm
 obtain ⟨k,hk,_⟩:=hb
 obtain ⟨c',h1,h2,_⟩:=h.rn (lt_of_get hk)
 exact hc (this ▸ h2 ▸ List.mem_of_getElem? h1)
theorem Part.fin (h : Part bs L0 L) (hg : Good g w0 L) (hg1 : Good g1 w L1) (hp : Prog L0.length (g.small (rnI bs L.length)) w0 L0 g1 w L1) :
  let ρ:=rnI bs L.length
  Emu ρ g1 L1 (g.great bs L.length g1) (putB bs (rnB ρ L1) L) ∧ Good (g.great bs L.length g1) w (putB bs (rnB ρ L1) L) ∧ Prog L.length g w0 L (g.great bs L.length g1) w (putB bs (rnB ρ L1) L):=by
 intro ρ
 have hle : bs.length ≤ (rnB ρ L1).length:=by rw [rnB_len,h.len]; exact hp.len (Nat.le_refl _)
 have mem : ∀ b,(g.great bs L.length g1).m (ρ b) = g1.m b:=fun b=>by simp only [Gh.great,ρ,inI_rn h.nd h.lt]
 have cap : ∀ b,(g.great bs L.length g1).cap (ρ b) = g1.cap b:=fun b=>by simp only [Gh.great,ρ,inI_rn h.nd h.lt]
 have up : Emu ρ g1 L1 (g.great bs L.length g1) (putB bs (rnB ρ L1) L) :=
  ⟨fun b k hk=>putB_in bs _ L h.nd h.lt hle b _ (by rw [rnB_get,hk]; rfl),fun b _=>mem b,fun b _=>cap b,fun _ h=>h⟩
 have oldm : ∀ c,c < L.length → c ∉ bs → (g.great bs L.length g1).m c = g.m c ∧ (g.great bs L.length g1).cap c = g.cap c:=fun c hc hb=>by
  have : inI bs L.length c = none:=by
   cases e : inI bs L.length c with
   | none=>rfl
   | some b =>
    exfalso
    have hr:=inI_some h.lt e
    unfold inI at e
    rw [blt_of hc] at e
    simp only at e
    rw [List.findIdx?_eq_some_iff_getElem] at e
    obtain ⟨e1,e2,_⟩:=e
    have:=Nat.eq_of_beq_eq_true e2
    exact hb (this ▸ List.getElem_mem e1)
  simp only [Gh.great,this,and_self]
 have oldL : ∀ c,c < L.length → c ∉ bs → (putB bs (rnB ρ L1) L)[c]? = L[c]?:=fun c hc hb=>putB_out bs _ L c hc hb
 -- what a block of the great memory is
 have look : ∀ c k,(putB bs (rnB ρ L1) L)[c]? = some k → (c < L.length ∧ c ∉ bs ∧ L[c]? = some k) ∨ ∃ b k1,c = ρ b ∧ L1[b]? = some k1 ∧ k = k1.rn ρ:=by
  intro c k hk
  cases e : inI bs L.length c with
  | none =>
   obtain ⟨h1,h2⟩:=inI_none e
   rw [oldL c h1 h2] at hk
   exact .inl ⟨h1,h2,hk⟩
  | some b =>
   have hr : ρ b = c:=inI_some h.lt e
   cases e1 : L1[b]? with
   | some k1 =>
    have:=up.get b k1 e1
    rw [hr,hk] at this
    cases this
    exact .inr ⟨b,k1,hr.symm,e1,rfl⟩
   | none =>
    exfalso
    have hb : L1.length ≤ b:=by
     rcases Nat.lt_or_ge b L1.length with h' | h'
     ·rw [List.getElem?_eq_getElem h'] at e1; cases e1
     ·exact h'
    have hl1:=hp.len (Nat.le_refl _)
    have hc:=lt_of_get hk
    rw [putB_len bs _ L hle,rnB_len] at hc
    have : ρ b = b - bs.length + L.length:=by
     show rnI bs L.length b = _
     unfold rnI
     rw [List.getElem?_eq_none (by rw [h.len]; omega)]
    rw [← hr,this] at hc
    omega
 have kept : ∀ (q : Nat) (o : Obj),w0.heap[q]? = some o → ¬ owned (g.small ρ) L0 q → w.heap[q]? = some o:=fun q o ho hn=>hp.kept q o ho hn
 have cells : ∀ (a : Addr) (v : Value),g.I a.block → w0.cell? a = some v → w.cell? a = some v:=by
  intro a v hI hc
  have hlt:=hg.lt _ hI
  have hh:=kept a.block (w0.heap[a.block]) (Array.getElem?_eq_getElem hlt) fun ho=>hg.dis _ (h.owns ho) hI
  rw [World.cell?_of_block (w:=w0) (w':=w) (by rw [hh,Array.getElem?_eq_getElem hlt])]
  exact hc
 have small : ∀ (x : V) (v : Value),x.bel L0.length = true → RV g w0 L (x.rn ρ) v → RV (g.great bs L.length g1) w (putB bs (rnB ρ L1) L) (x.rn ρ) v:=fun x v hx hv =>
  (hp.mono x v hx (hv.dn h.emb x rfl hx)).up up
 have inbs : ∀ c,c ∈ bs → ∃ b,b < L0.length ∧ ρ b = c:=fun c hc=>by
  obtain ⟨b,hb⟩:=List.mem_iff_getElem?.1 hc
  refine ⟨b,by rw [← h.len]; exact lt_of_get hb,?_⟩
  show rnI bs L.length b = c
  unfold rnI; rw [hb]
 have mono : ∀ (x : V) (v : Value),RV g w0 L x v → RV (g.great bs L.length g1) w (putB bs (rnB ρ L1) L) x v:=by
  intro x v hx
  induction hx with
  | poison v=>exact .poison v
  | tt=>exact .tt
  | ff=>exact .ff
  | d x v h=>exact .d x v (h.mono (fun r hr=>hp.immk r hr) cells)
  | nil=>exact .nil
  | ptr b off r cs hL hm =>
   by_cases hb : b ∈ bs
   ·obtain ⟨b0,h1,rfl⟩:=inbs b hb
    exact small (.ptr b0 off) _ (by simp [V.bel,h1]) (.ptr _ off r cs hL hm)
   ·have:=lt_of_get hL
    exact .ptr b off r cs ((oldL b this hb).trans hL) ((oldm b this hb).1.trans hm)
  | ptrX b off a hL =>
   by_cases hb : b ∈ bs
   ·obtain ⟨b0,h1,rfl⟩:=inbs b hb
    exact small (.ptr b0 off) _ (by simp [V.bel,h1]) (.ptrX _ off a hL)
   ·exact .ptrX b off a ((oldL b (lt_of_get hL) hb).trans hL)
  | own b gen lo len sz r o c els hL hm ho hc hlc hle' =>
   by_cases hb : b ∈ bs
   ·obtain ⟨b0,h1,rfl⟩:=inbs b hb
    exact small (.own b0 gen lo len) _ (by simp [V.bel,h1]) (.own _ gen lo len sz r o c els hL hm ho hc hlc hle')
   ·have:=lt_of_get hL
    exact .own b gen lo len sz r o c els ((oldL b this hb).trans hL) ((oldm b this hb).1.trans hm) ho (by rw [(oldm b this hb).2]; exact hc) hlc hle'
  | ownN b gen sz els hL hm =>
   by_cases hb : b ∈ bs
   ·obtain ⟨b0,h1,rfl⟩:=inbs b hb
    exact small (.own b0 gen 0 0) _ (by simp [V.bel,h1]) (.ownN _ gen sz els hL hm)
   ·have:=lt_of_get hL
    exact .ownN b gen sz els ((oldL b this hb).trans hL) ((oldm b this hb).1.trans hm)
  | ownO b gen gen' sz lo len els a c hL hg' =>
   by_cases hb : b ∈ bs
   ·obtain ⟨b0,h1,rfl⟩:=inbs b hb
    exact small (.own b0 gen lo len) _ (by simp [V.bel,h1]) (.ownO _ gen gen' sz lo len els a c hL hg')
   ·exact .ownO b gen gen' sz lo len els a c ((oldL b (lt_of_get hL) hb).trans hL) hg'
  | ownX b gen lo len a c hL =>
   by_cases hb : b ∈ bs
   ·obtain ⟨b0,h1,rfl⟩:=inbs b hb
    exact small (.own b0 gen lo len) _ (by simp [V.bel,h1]) (.ownX _ gen lo len a c hL)
   ·exact .ownX b gen lo len a c ((oldL b (lt_of_get hL) hb).trans hL)
  | eptr b gen i off sz r els hL hm =>
   by_cases hb : b ∈ bs
   ·obtain ⟨b0,h1,rfl⟩:=inbs b hb
    exact small (.eptr b0 gen i off) _ (by simp [V.bel,h1]) (.eptr _ gen i off sz r els hL hm)
   ·have:=lt_of_get hL
    exact .eptr b gen i off sz r els ((oldL b this hb).trans hL) ((oldm b this hb).1.trans hm)
  | eptrO b gen gen' sz i off els a hL hg' =>
   by_cases hb : b ∈ bs
   ·obtain ⟨b0,h1,rfl⟩:=inbs b hb
    exact small (.eptr b0 gen i off) _ (by simp [V.bel,h1]) (.eptrO _ gen gen' sz i off els a hL hg')
   ·exact .eptrO b gen gen' sz i off els a ((oldL b (lt_of_get hL) hb).trans hL) hg'
  | eptrX b gen i off a hL =>
   by_cases hb : b ∈ bs
   ·obtain ⟨b0,h1,rfl⟩:=inbs b hb
    exact small (.eptr b0 gen i off) _ (by simp [V.bel,h1]) (.eptrX _ gen i off a hL)
   ·exact .eptrX b gen i off a ((oldL b (lt_of_get hL) hb).trans hL)
  | map b r es hL hm =>
   by_cases hb : b ∈ bs
   ·obtain ⟨b0,h1,rfl⟩:=inbs b hb
    exact small (.map b0) _ (by simp [V.bel,h1]) (.map _ r es hL hm)
   ·have:=lt_of_get hL
    exact .map b r es ((oldL b this hb).trans hL) ((oldm b this hb).1.trans hm)
  | mapX b a hL =>
   by_cases hb : b ∈ bs
   ·obtain ⟨b0,h1,rfl⟩:=inbs b hb
    exact small (.map b0) _ (by simp [V.bel,h1]) (.mapX _ a hL)
   ·exact .mapX b a ((oldL b (lt_of_get hL) hb).trans hL)
  | yld b r l hL hm =>
   by_cases hb : b ∈ bs
   ·obtain ⟨b0,h1,rfl⟩:=inbs b hb
    exact small (.yld b0) _ (by simp [V.bel,h1]) (.yld _ r l hL hm)
   ·have:=lt_of_get hL
    exact .yld b r l ((oldL b this hb).trans hL) ((oldm b this hb).1.trans hm)
  | yldX b r hL =>
   by_cases hb : b ∈ bs
   ·obtain ⟨b0,h1,rfl⟩:=inbs b hb
    exact small (.yld b0) _ (by simp [V.bel,h1]) (.yldX _ r hL)
   ·exact .yldX b r ((oldL b (lt_of_get hL) hb).trans hL)
  | fn f caps vs hlen _ ih=>exact .fn f caps vs hlen ih
  | iface t x v _ ih=>exact .iface t x v ih
  | agg cs vs hlen hone _ ih=>exact .agg cs vs hlen hone ih
  | tup cs vs hlen _ ih=>exact .tup cs vs hlen ih
  | glob k=>exact .glob k
  | clp els a h=>exact .clp els a (h.mono (fun r hr=>hp.immk r hr) cells)
 have lives : ∀ c q,live (putB bs (rnB ρ L1) L) c → (g.great bs L.length g1).m c = some q → (c < L.length ∧ c ∉ bs ∧ live L c ∧ g.m c = some q) ∨ ∃ b,c = ρ b ∧ live L1 b ∧ g1.m b = some q:=by
  rintro c q ⟨k,hk,hd⟩ hm
  rcases look c k hk with ⟨h1,h2,h3⟩ | ⟨b,k1,rfl,h3,rfl⟩
  ·exact .inl ⟨h1,h2,⟨k,h3,hd⟩,(oldm c h1 h2).1 ▸ hm⟩
  ·refine .inr ⟨b,rfl,⟨k1,h3,fun e=>hd (by subst e; rfl)⟩,by rw [← mem]; exact hm⟩
 have cross : ∀ c b q,c ∉ bs → live L c → g.m c = some q → live L1 b → g1.m b = some q → False:=by
  intro c b q hc hl hm hl1 hm1
  have hq:=hg.owned_lt ⟨c,hl,hm⟩
  exact h.other hg hc hl hm (hp.own q ⟨b,hl1,hm1⟩ hq)
 refine ⟨up,⟨?_,?_,?_,?_,hg1.gl⟩,⟨hp.env,hp.size,fun q o ho hn=>kept q o ho fun hs=>hn (h.owns hs),?_,?_,hp.immk,fun x v _ hx=>mono x v hx,?_,fun _=>by rw [putB_len bs _ L hle]; omega⟩⟩
 ·intro c c' q h1 h2 m1 m2
  rcases lives c q h1 m1 with ⟨a1,a2,a3,a4⟩ | ⟨b,rfl,a3,a4⟩ <;> rcases lives c' q h2 m2 with ⟨d1,d2,d3,d4⟩ | ⟨b',rfl,d3,d4⟩
  ·exact hg.inj c c' q a3 d3 a4 d4
  ·exact (cross c b' q a2 a3 a4 d3 d4).elim
  ·exact (cross c' b q d2 d3 d4 a3 a4).elim
  ·rw [hg1.inj b b' q a3 d3 a4 d4]
 ·rintro q ⟨c,hl,hm⟩ hq
  rcases lives c q hl hm with ⟨a1,a2,a3,a4⟩ | ⟨b,rfl,a3,a4⟩
  ·rcases hp.imm q hq with h1 | h1 | h1
   ·exact hg.dis q ⟨c,a3,a4⟩ h1
   ·have:=hg.owned_lt ⟨c,a3,a4⟩; omega
   ·exact h.other hg a2 a3 a4 h1
  ·exact hg1.dis q ⟨b,a3,a4⟩ hq
 ·exact hg1.lt
 ·intro c k hk
  rcases look c k hk with ⟨h1,h2,h3⟩ | ⟨b,k1,rfl,h3,rfl⟩
  ·by_cases hdead : k = .dead
   ·subst hdead; trivial
   refine RB.mono' mono (oldm c h1 h2).1 (oldm c h1 h2).2 (fun q o hq ho=>kept q o ho ?_) (fun l hl=>?_) (hg.blk c k h3)
   ·exact h.other hg h2 ⟨k,h3,hdead⟩ hq
   ·subst hl
    obtain ⟨_,_,_,_,_,_,_,_,_,_,_,h10,h11,_⟩:=hg.blk c _ h3
    by_cases hd : l.df ∈ bs
    ·obtain ⟨b0,e1,e2⟩:=inbs _ hd
     have hL0 : L0[b0]? = some .defr:=by
      have:=h.emb (g:=g).get b0 e1
      rw [show rnI bs L.length b0 = l.df from e2,h11] at this
      obtain ⟨k0,e3,e4⟩:=map_some this.symm
      cases k0 <;> simp only [Blk.rn,reduceCtorEq] at e4
      exact e3
     obtain ⟨d1,d2⟩:=hp.defr b0 _ e1 hL0 (show (g.small (rnI bs L.length)).m b0 = _ by rw [show (g.small (rnI bs L.length)).m b0 = g.m (ρ b0) from rfl,e2]; exact h10)
     refine ⟨?_,fun _=>?_⟩
     ·rw [← e2,mem,d2,e2,h10]
     ·rw [← e2]; exact up.get b0 _ d1
    ·have:=lt_of_get h11
     exact ⟨(oldm _ this hd).1,fun hh=>(oldL _ this hd).trans hh⟩
  ·exact (hg1.blk b k1 h3).up up (lt_of_get h3)
 ·rintro q ⟨c,hl,hm⟩ hlt
  rcases lives c q hl hm with ⟨a1,a2,a3,a4⟩ | ⟨b,rfl,a3,a4⟩
  ·exact ⟨c,a3,a4⟩
  ·exact h.owns (hp.own q ⟨b,a3,a4⟩ hlt)
 ·intro q hq
  exact (hp.imm q hq).imp_right fun h1=>h1.imp_right fun h2=>h.owns h2
 ·intro b q hb hL hm
  by_cases hd : b ∈ bs
  ·obtain ⟨b0,e1,rfl⟩:=inbs b hd
   have hL0 : L0[b0]? = some .defr:=by
    have:=h.emb (g:=g).get b0 e1
    rw [show L[rnI bs L.length b0]? = some .defr from hL] at this
    obtain ⟨k0,e3,e4⟩:=map_some this.symm
    cases k0 <;> simp only [Blk.rn,reduceCtorEq] at e4
    exact e3
   obtain ⟨d1,d2⟩:=hp.defr b0 q e1 hL0 hm
   exact ⟨up.get b0 _ d1,by rw [mem]; exact d2⟩
  ·exact ⟨(oldL b hb hd).trans hL,(oldm b hb hd).1.trans hm⟩
theorem CallP.embed [Quiet C] {f : FuncId} {args : List V} {q k : V → List Blk → Prop} (bs : List Nat) (h : CallP C f args L0 q) (hp : Part bs L0 L) (ha : V.belL L0.length args = true)
  (hk : ∀ X L1,q X L1 → k (X.rn (rnI bs L.length)) (putB bs (rnB (rnI bs L.length) L1) L)) : CallP C f (V.rnL (rnI bs L.length) args) L k:=by
 rw [CallP_q] at h ⊢
 refine ⟨h.1,fun g w vs hg hv=>(h.2 _ w vs (hp.good hg) ⟨by rw [← hv.1,V.rnL_len],fun j x v hx hvj=>?_⟩).mono ?_⟩
 ·exact (hv.2 j (x.rn _) v (by rw [V.rnL_get,hx]; rfl) hvj).dn hp.emb x rfl (V.belL_get ha hx)
 ·rintro e w' ⟨v,X,L1,g1,he,hX,hr,hg1,hpr⟩
  obtain ⟨h0,h1,h2⟩:=hp.fin hg hg1 hpr
  exact ⟨v,_,_,_,he,hk X L1 hX,hr.up h0,h1,h2⟩
end
end Go.Tidy
namespace Go.Tidy
theorem Br.tt {k : Bool → Prop} (h : k true) : Br true k:=Br.intro (fun _=>h) (fun e=>by cases e)
theorem Br.ff {k : Bool → Prop} (h : k false) : Br false k:=Br.intro (fun e=>by cases e) (fun _=>h)
theorem Br.dec {p : Prop} {_ : Decidable p} {k : Bool → Prop} (h1 : p → k true) (h2 : ¬ p → k false) : Br (decide p) k :=
 Br.intro (fun h=>h1 (of_decide_eq_true h)) (fun h=>h2 (of_decide_eq_false h))
theorem Br.not {t : Bool} {k : Bool → Prop} (h : Br t fun b=>k (!b)) : Br (!t) k:=by
 have:=h.out
 cases t
 ·exact Br.tt this
 ·exact Br.ff this
theorem Br.nn {t : Bool} {k : Bool → Prop} (h : Br t k) : Br (!!t) k:=by
 rw [Bool.not_not]; exact h
theorem Br.yes {t : Bool} {k : Bool → Prop} (ht : t = true) (h : k true) : Br t k:=by subst ht; exact Br.tt h
theorem Br.no {t : Bool} {k : Bool → Prop} (ht : t = false) (h : k false) : Br t k:=by subst ht; exact Br.ff h
section
variable {C : Ctx} {L L0 : List Blk}
theorem Part.one {b : Nat} {k0 k1 : Blk} (hb : L[b]? = some k1) (hr : k0.rn (rnI [b] L.length) = k1) (hbel : k0.bel 1 = true) (hdf : dfB [k0] = true) : Part [b] [k0] L:=by
 refine ⟨by simp,fun c hc=>?_,rfl,fun b' c h=>?_,by simp [belB,hbel],hdf⟩
 ·simp at hc; subst hc; exact lt_of_get hb
 ·cases b' with
  | zero=>simp at h; subst h; rw [hb,← hr]; rfl
  | succ b'=>simp at h
theorem CallP.at1 [Quiet C] {f : FuncId} {args0 args : List V} {k : V → List Blk → Prop} {b : Nat} {k0 k1 k0' : Blk} {x x' : V} (h : CallP C f args0 [k0] fun X L1=>L1 = [k1] ∧ X = x) (hb : L[b]? = some k0') (hr : k0.rn (rnI [b] L.length) = k0')
  (ha : V.belL 1 args0 = true) (hargs : V.rnL (rnI [b] L.length) args0 = args) (hk : k x' (L.set b (k1.rn (rnI [b] L.length)))) (hx : x.rn (rnI [b] L.length) = x') (hbel : k0.bel 1 = true) (hdf : dfB [k0] = true) : CallP C f args L k:=by
 subst hargs hx
 refine CallP.embed [b] h (Part.one hb hr hbel hdf) ha fun X L1 ⟨h1,h2⟩=>?_
 subst h1 h2
 simpa [putB,rnB] using hk
theorem V.rnL_d (ρ : Nat → Nat) : ∀ ds : List D,V.rnL ρ (ds.map .d) = ds.map .d
 | []=>rfl
 | y :: ys=>by simp [V.rnL,V.rn,V.rnL_d ρ ys]
theorem V.belL_d (n : Nat) : ∀ ds : List D,V.belL n (ds.map .d) = true
 | []=>rfl
 | y :: ys=>by simp [V.belL,V.bel,V.belL_d n ys]
end
end Go.Tidy
/-
 The base layer: what is asked behind a piece of code may be weakened; a loop's round,walked as it stands.
-/
namespace Go.Tidy
section
variable {C : Ctx} {cut : Code → Bool} {k : Nat}
theorem vcOps_mono {n : Nat} {all : List Oper} : ∀ (l : List Oper) (fr : List (Nat × V)) (L : List Blk) (K K' : List (Nat × V) → List Blk → Prop),vcOps C n all l fr L K → (∀ fr' L',K fr' L' → K' fr' L') → vcOps C n all l fr L K'
 | [],_fr,_L,_K,_K',h,hk=>hk _ _ h
 | _o :: l,_fr,_L,K,K',h,hk=>vcOp1_mono h fun fr' L' h'=>vcOps_mono l fr' L' K K' h' hk
theorem vOpsC_mono {n : Nat} {all : List Oper} : ∀ (l : List Oper) (fr : List (Nat × V)) (L : List Blk) (K K' : List (Nat × V) → List Blk → Prop),vOpsC C n all l fr L K → (∀ fr' L',K fr' L' → K' fr' L') → vOpsC C n all l fr L K'
 | [],_fr,_L,_K,_K',⟨fr1,h1,h2⟩,hk=>⟨fr1,h1,hk _ _ h2⟩
 | _o :: l,_fr,_L,K,K',⟨fr1,h1,h2⟩,hk=>⟨fr1,h1,vcOp1_mono h2 fun fr' L' h'=>vOpsC_mono l fr' L' K K' h' hk⟩
theorem DrawP.mono {n : Nat} {ops : Array Oper} {fr : List (Nat × V)} {L : List Blk} {K K' : List (Nat × V) → List Blk → Prop} (h : DrawP C n ops fr L K) (hk : ∀ fr' L',K fr' L' → K' fr' L') : DrawP C n ops fr L K':=by
 unfold DrawP at *
 exact fun t=>vOpsC_mono _ _ _ _ _ (h t) hk
theorem cutIf_mono {b : Bool} {f f' : (Exit → TS → Prop) → Prop} {Q Q' : Exit → TS → Prop} (hf : ∀ R R' : Exit → TS → Prop,(∀ e σ,R e σ → R' e σ) → f R → f' R') (hq : ∀ e σ,Q e σ → Q' e σ) (h : cutIf b k f Q) : cutIf b k f' Q':=by
 cases b with
 | false=>exact hf _ _ hq h
 | true =>
  unfold cutIf at *
  simp only at *
  unfold CutP at *
  obtain ⟨ι,s,h1,h2⟩:=h
  refine ⟨ι,s,hf _ _ (fun e σ hr=>?_) h1,fun i=>hq _ _ (h2 i)⟩
  cases e <;> first | exact hr | exact hq _ _ hr
theorem vCallF_mono {f : V} {args : List V} {L : List Blk} {q q' : V → List Blk → Prop} (h : vCallF C f args L q) (hq : ∀ X L',q X L' → q' X L') : vCallF C f args L q':=by
 unfold vCallF at *
 split at h
 ·exact h.mono hq
 ·exact h.mono hq
 ·exact h.elim
theorem vRange_mono {f : Operand} {ps : Array Tmp} {assign body : Code} {σ : TS} {Q Q' : Exit → TS → Prop} (hq : ∀ e σ,Q e σ → Q' e σ) (h : vRange C f ps assign body σ Q) : vRange C f ps assign body σ Q':=by
 unfold vRange at *
 split at h
 ·refine vCallF_mono h fun X L' h'=>?_
  split at h'
  ·split at h'
   ·exact h'
   ·exact hq _ _ h'
   ·split at h'
    ·exact hq _ _ h'
    ·exact h'
  ·exact h'
 ·split at h
  ·refine vCallF_mono h fun X L' h'=>?_
   split at h'
   ·split at h'
    ·exact h'
    ·exact hq _ _ h'
    ·split at h'
     ·exact hq _ _ h'
     ·exact h'
   ·exact h'
  ·exact h
theorem LoopP.mono {body body' : TS → (Exit → TS → Prop) → Prop} {σ : TS} {Q Q' : Exit → TS → Prop} (hb : ∀ σ R R',(∀ e σ',R e σ' → R' e σ') → body σ R → body' σ R') (hq : ∀ e σ',Q e σ' → Q' e σ') (h : LoopP k body σ Q) : LoopP k body' σ Q':=by
 unfold LoopP at *
 obtain ⟨ι,s,lt,i0,wf,h0,h1⟩:=h
 refine ⟨ι,s,lt,i0,wf,h0,fun i=>hb _ _ _ (fun e σ' hr=>?_) (h1 i)⟩
 cases e <;> first | exact hr | exact hq _ _ hr
theorem vc_mono : ∀ (c : Code) (σ : TS) (Q Q' : Exit → TS → Prop),(∀ e σ',Q e σ' → Q' e σ') → vc C cut k c σ Q → vc C cut k c σ Q':=by
 intro c
 induction c with
 | skip=>exact fun σ Q Q' hq h=>hq _ _ h
 | label _=>exact fun σ Q Q' hq h=>hq _ _ h
 | region id ops drawn =>
  intro σ Q Q' hq h
  cases drawn with
  | false=>exact cutIf_mono (fun R R' hr h=>vcOps_mono _ _ _ _ _ h fun fr' L' h'=>hr _ _ h') hq h
  | true=>exact cutIf_mono (fun R R' hr h=>DrawP.mono h fun fr' L' h'=>hr _ _ h') hq h
 | seq a b iha ihb =>
  intro σ Q Q' hq h
  refine cutIf_mono (fun R R' hr h=>iha _ _ _ (fun e σ' h'=>?_) h) hq h
  cases e <;> first | exact ihb _ _ _ hr h' | exact hr _ _ h'
 | cond c x y ihx ihy =>
  intro σ Q Q' hq h
  refine cutIf_mono (fun R R' hr h=>?_) hq h
  split at h
  ·exact ihx _ _ _ hr h
  ·exact ihy _ _ _ hr h
  ·rename_i t _
   have h:=h.out
   refine Br.lit t rfl ?_
   split at h
   ·exact ihx _ _ _ hr h
   ·exact ihy _ _ _ hr h
  ·exact h
 | block id c ih =>
  intro σ Q Q' hq h
  refine cutIf_mono (fun R R' hr h=>ih _ _ _ (fun e σ' h'=>?_) h) hq h
  cases e <;> first | exact hr _ _ h' | skip
  rename_i id'
  cases hb : Nat.beq id' id <;> simp only [hb] at h' ⊢ <;> exact hr _ _ h'
 | loop c ih=>exact fun σ Q Q' hq h=>LoopP.mono (fun σ R R' hr h=>ih σ R R' hr h) hq h
 | rangeFunc f ps assign body _ _=>exact fun σ Q Q' hq h=>vRange_mono hq h
 | exit id=>exact fun σ Q Q' hq h=>hq _ _ h
 | scope c ih =>
  intro σ Q Q' hq h
  refine cutIf_mono (fun R R' hr h=>ih _ _ _ (fun e σ' h'=>?_) h) hq h
  cases e <;> first | exact hr _ _ h' | exact h'
 | ret=>exact fun σ Q Q' hq h=>hq _ _ h
 | _=>intro σ Q Q' hq h; exact h.elim
theorem LoopP.unroll' {body : TS → (Exit → TS → Prop) → Prop} {σ : TS} {Q : Exit → TS → Prop} (hb : ∀ σ R R',(∀ e σ',R e σ' → R' e σ') → body σ R → body σ R')
  (h : body σ fun e σ'=>match e with | .normal=>LoopP k body σ' Q | e=>Q e σ') : LoopP k body σ Q:=by
 let X:={ σ' : TS // LoopP k body σ' Q }
 have op : ∀ x : X,∃ (ι : Type) (s : ι → TS) (lt : ι → ι → Prop) (i0 : ι),WellFounded lt ∧ Weak k x.1 (s i0) ∧ ∀ i,body (s i) fun e σ'=>match e with
  | .normal=>∃ j,lt j i ∧ Weak k σ' (s j)
  | e=>Q e σ':=fun x=>by have:=x.2; unfold LoopP at this; exact this
 let ι : X → Type:=fun x=>Classical.choose (op x)
 have o1:=fun x=>Classical.choose_spec (op x)
 let s : (x : X) → ι x → TS:=fun x=>Classical.choose (o1 x)
 have o2:=fun x=>Classical.choose_spec (o1 x)
 let lt : (x : X) → ι x → ι x → Prop:=fun x=>Classical.choose (o2 x)
 have o3:=fun x=>Classical.choose_spec (o2 x)
 let i0 : (x : X) → ι x:=fun x=>Classical.choose (o3 x)
 have o4 : ∀ x : X,WellFounded (lt x) ∧ Weak k x.1 (s x (i0 x)) ∧ ∀ i,body (s x i) fun e σ'=>match e with
  | .normal=>∃ j,lt x j i ∧ Weak k σ' (s x j)
  | e=>Q e σ':=fun x=>Classical.choose_spec (o3 x)
 unfold LoopP
 let J:=Option (Σ x : X,ι x)
 let S : J → TS:=fun | none=>σ | some ⟨x,i⟩=>s x i
 let lt' : J → J → Prop:=fun a b=>match a,b with
  | some a,some b=>∃ x i j,a = ⟨x,i⟩ ∧ b = ⟨x,j⟩ ∧ lt x i j
  | some _,none=>True
  | none,_=>False
 have acc1 : ∀ (x : X) (i : ι x),Acc lt' (some ⟨x,i⟩):=by
  intro x i
  induction i using (o4 x).1.induction with
  | _ i ih =>
   refine ⟨_,fun b hb=>?_⟩
   cases b with
   | none=>exact hb.elim
   | some b =>
    obtain ⟨x',i',j',rfl,h2,h3⟩:=hb
    cases h2
    exact ih _ h3
 refine ⟨J,S,lt',none,⟨fun a=>?_⟩,Weak.refl _ _,fun a=>?_⟩
 ·cases a with
  | some a=>exact acc1 a.1 a.2
  | none =>
   refine ⟨_,fun b hb=>?_⟩
   cases b with
   | none=>exact hb.elim
   | some b=>exact acc1 b.1 b.2
 ·cases a with
  | none =>
   refine hb _ _ _ (fun e σ' hr=>?_) h
   cases e <;> first | exact hr | skip
   exact ⟨some ⟨⟨σ',hr⟩,i0 ⟨σ',hr⟩⟩,trivial,(o4 ⟨σ',hr⟩).2.1⟩
  | some a =>
   obtain ⟨x,i⟩:=a
   refine hb _ _ _ (fun e σ' hr=>?_) ((o4 x).2.2 i)
   cases e <;> first | exact hr | skip
   obtain ⟨j,h1,h2⟩:=hr
   exact ⟨some ⟨x,j⟩,⟨x,j,i,rfl,rfl,h1⟩,h2⟩
theorem LoopP.unroll {c : Code} {σ : TS} {Q : Exit → TS → Prop} (h : vc C cut k c σ fun e σ'=>match e with | .normal=>LoopP k (vc C cut k c) σ' Q | e=>Q e σ') : LoopP k (vc C cut k c) σ Q :=
 LoopP.unroll' (fun σ R R' hr h=>vc_mono c σ R R' hr h) h
end
end Go.Tidy
namespace Go.Tidy
theorem Weak.to {k : Nat} {σ σ' : TS} (n : Nat) (hL : σ.L.take n = σ'.L) (hk : k ≤ n) (hn : n ≤ σ.L.length) (hfr : SubF σ.fr σ'.fr) (h1 : σ'.n = σ.n:=by rfl) (h2 : σ'.df = σ.df:=by rfl) (h3 : σ'.ro = σ.ro:=by rfl) (hf : belF n σ'.fr = true:=by rfl) (hB : belB n σ'.L = true:=by rfl)
  (hdf : σ.df.all (fun b=>decide (b < n)) = true:=by rfl) (hro : (match σ.ro with | some b=>decide (b < n) | none=>true) = true:=by rfl) : Weak k σ σ':=by
 rcases σ' with ⟨fr',n',L',df',ro'⟩
 simp only at h1 h2 h3
 subst h1 h2 h3
 exact Weak.fd hfr hL hk hn hf hB hdf hro
theorem Weak.by {k : Nat} {σ σ' : TS} (hfr : SubF σ.fr σ'.fr) (hL : σ.L = σ'.L:=by rfl) (h1 : σ'.n = σ.n:=by rfl) (h2 : σ'.df = σ.df:=by rfl) (h3 : σ'.ro = σ.ro:=by rfl) : Weak k σ σ':=by
 rcases σ' with ⟨fr',n',L',df',ro'⟩
 simp only at h1 h2 h3 hL
 subst h1 h2 h3 hL
 exact Weak.forget hfr
end Go.Tidy
/-
 The base layer: blocks dropped and numbered anew.
-/
namespace Go.Tidy
mutual
theorem V.rn_id {ρ : Nat → Nat} {k : Nat} (hρ : ∀ b,b < k → ρ b = b) : ∀ x : V,x.bel k = true → x.rn ρ = x
 | .own b _ _ _,h | .ptr b _,h | .eptr b _ _ _,h | .map b,h | .yld b,h=>by
  simp only [V.bel,decide_eq_true_eq] at h
  simp only [V.rn,hρ b h]
 | .fn _ caps,h=>by simp only [V.bel] at h; simp only [V.rn,V.rnL_id hρ caps h]
 | .iface _ x,h=>by simp only [V.bel] at h; simp only [V.rn,V.rn_id hρ x h]
 | .agg cs,h=>by simp only [V.bel] at h; simp only [V.rn,V.rnL_id hρ cs h]
 | .tup cs,h=>by simp only [V.bel] at h; simp only [V.rn,V.rnL_id hρ cs h]
 | .poison,_ | .tt,_ | .ff,_ | .d _,_ | .nil,_ | .glob _,_ | .clp _,_=>rfl
theorem V.rnL_id {ρ : Nat → Nat} {k : Nat} (hρ : ∀ b,b < k → ρ b = b) : ∀ cs : List V,V.belL k cs = true → V.rnL ρ cs = cs
 | [],_=>rfl
 | x :: r,h=>by
  simp only [V.belL,Bool.and_eq_true] at h
  simp only [V.rnL,V.rn_id hρ x h.1,V.rnL_id hρ r h.2]
end
section
variable {g : Gh} {w : World} {L L' : List Blk} {bs : List Nat} {k : Nat}
theorem Part.below (h : Part bs L' L) (hk : ∀ b,b < k → bs[b]? = some b) : (∀ b,b < k → rnI bs L.length b = b) ∧ k ≤ L'.length:=by
 refine ⟨fun b hb=>by unfold rnI; rw [hk b hb],?_⟩
 rw [← h.len]
 rcases Nat.lt_or_ge bs.length k with hlt | hge
 ·have:=hk bs.length hlt
  simp at this
 ·exact hge
theorem Part.prog (h : Part bs L' L) (hk : ∀ b,b < k → bs[b]? = some b) : Prog k g w L (g.small (rnI bs L.length)) w L':=by
 obtain ⟨hρ,hlen⟩:=h.below hk
 refine ⟨⟨rfl,rfl,rfl⟩,Nat.le_refl _,fun _ _ ho _=>ho,fun r ho _=>h.owns ho,fun r hr=>.inl hr,fun r hr=>hr,fun x v hx hv=>?_,fun b r hb hL hm=>?_,fun _=>hlen⟩
 ·exact hv.dn h.emb x (V.rn_id hρ x hx).symm (V.bel_le hlen x hx)
 ·have:=h.get b b (hk b hb)
  rw [hL] at this
  obtain ⟨k0,e1,e2⟩:=map_some this.symm
  refine ⟨?_,by show g.m (rnI bs L.length b) = _; rw [hρ b hb]; exact hm⟩
  cases k0 <;> simp only [Blk.rn,reduceCtorEq] at e2
  exact e1
theorem FinP.part {X X' : V} {q : V → List Blk → Prop} (bs : List Nat) (L' : List Blk) (h : Part bs L' L) (hk : ∀ b,b < k → bs[b]? = some b) (hX : X'.rn (rnI bs L.length) = X) (hb : X'.bel L'.length = true) (hq : q X' L') : FinP k X L q:=by
 unfold FinP
 refine ⟨X',L',fun g w v hg _ hv=>⟨_,h.good hg,hv.dn h.emb X' hX.symm hb,h.prog hk⟩,hq⟩
theorem Weak.part {σ σ' : TS} (bs : List Nat) (h : Part bs σ'.L σ.L) (hk : ∀ b,b < k → bs[b]? = some b) (hfr : SubF σ.fr (rnF (rnI bs σ.L.length) σ'.fr)) (hn : σ'.n = σ.n) (hf : belF σ'.L.length σ'.fr = true)
  (hdf : σ.df = σ'.df.map (rnI bs σ.L.length)) (hdb : ∀ b ∈ σ'.df,b < σ'.L.length) (hro : σ.ro = σ'.ro.map (rnI bs σ.L.length)) (hrb : ∀ b,σ'.ro = some b → b < σ'.L.length) : Weak k σ σ':=by
 intro r g a w hs
 have e:=h.emb (g:=g)
 have dn : ∀ (x : V) (v : Value),x.bel σ'.L.length = true → RV g w σ.L (x.rn (rnI bs σ.L.length)) v → RV (g.small (rnI bs σ.L.length)) w σ'.L x v:=fun x v hx hv=>hv.dn e x rfl hx
 refine ⟨g.small (rnI bs σ.L.length),⟨hs.n.trans hn.symm,fun i=>?_,h.good hs.good,(h.below hk).2,?_,fun i b d hb hd=>?_,fun lb hlb=>?_,fun hn=>hs.ro' (by rw [hro,hn]; rfl)⟩,h.prog hk⟩
 ·refine dn _ _ (belF_look hf i) ?_
  rw [← rnF_look]
  rcases hfr.look i with h0 | h0
  ·rw [h0]; exact .poison _
  ·exact norm_eq h0 (hs.fr i)
 ·rw [hs.df,hdf]; simp
 ·have hbl:=hdb b (List.mem_of_getElem? hb)
  obtain ⟨q,h1,h2,h3⟩:=hs.dfs i (rnI bs σ.L.length b) d (by rw [hdf,List.getElem?_map,hb]; rfl) hd
  refine ⟨q,h1,h2,?_⟩
  obtain ⟨c,c1,c2,_⟩:=h.rn hbl
  rw [c2,h.get b c c1] at h3
  obtain ⟨k0,e1,e2⟩:=map_some h3
  cases k0 <;> simp only [Blk.rn,reduceCtorEq] at e2
  exact e1
 ·obtain ⟨l,h1,h2⟩:=hs.ro (rnI bs σ.L.length lb) (by rw [hro,hlb]; rfl)
  exact ⟨l,h1,dn (.yld lb) _ (by simp [V.bel,hrb lb hlb]) h2⟩
end
end Go.Tidy
namespace Go.Tidy
theorem MapF.ints {kk : IntKind} {es : List (V × V)} {n : Int} {k : Option (Nat × V) → Prop} (ks : List Int) (hks : es.map (·.1) = ks.map fun m=>.d (.int kk m))
  (h : (∃ i v,ks[i]? = some n ∧ (∀ j,j < i → ks[j]? ≠ some n) ∧ es[i]? = some (.d (.int kk n),v) ∧ k (some (i,v))) ∨ (n ∉ ks ∧ k none)) : MapF (.int kk) es (.d (.int kk n)) k:=by
 have hkey : ∀ j : Nat,(es[j]?).map (·.1) = (ks[j]?).map fun m=>V.d (.int kk m):=fun j=>by
  rw [← List.getElem?_map,← List.getElem?_map,hks]
 have hok : ∀ kv ∈ es,keyV (.int kk) kv.1 = true:=by
  intro kv hkv
  have : kv.1 ∈ es.map (·.1):=List.mem_map_of_mem hkv
  rw [hks] at this
  obtain ⟨m,_,hm⟩:=List.mem_map.1 this
  rw [← hm]
  cases kk <;> rfl
 rcases h with ⟨i,v,h1,h2,h3,h4⟩ | ⟨h1,h2⟩
 ·refine MapF.hit i v hok h3 (fun j kv hj hkv he=>?_) h4
  have:=hkey j
  rw [hkv] at this
  obtain ⟨m,e1,e2⟩:=map_some this.symm
  simp only [he] at e2
  cases e2
  exact h2 j hj e1
 ·refine MapF.miss hok (fun kv hkv he=>?_) h2
  obtain ⟨j,hj⟩:=List.mem_iff_getElem?.1 hkv
  have:=hkey j
  rw [hj] at this
  obtain ⟨m,e1,e2⟩:=map_some this.symm
  simp only [he] at e2
  cases e2
  exact h1 (List.mem_of_getElem? e1)
def firstAt (n : Int) : List Int → Nat → Bool
 | [],_=>false
 | m :: _,0=>m == n
 | m :: r,i + 1=>m != n && firstAt n r i
theorem firstAt_ok {n : Int} : ∀ {ks : List Int} {i : Nat},firstAt n ks i = true → ks[i]? = some n ∧ ∀ j,j < i → ks[j]? ≠ some n
 | [],_,h=>by simp [firstAt] at h
 | m :: r,0,h=>by simp [firstAt] at h; subst h; exact ⟨rfl,fun j hj=>by omega⟩
 | m :: r,i + 1,h=>by
  simp [firstAt] at h
  obtain ⟨h1,h2⟩:=firstAt_ok h.2
  refine ⟨by simpa using h1,fun j hj=>?_⟩
  cases j with
  | zero=>simpa using h.1
  | succ j=>simpa using h2 j (by omega)
theorem MapF.at {kk : IntKind} {es : List (V × V)} {n : Int} {k : Option (Nat × V) → Prop} (ks : List Int) (i : Nat) (v : V) (hks : es.map (·.1) = ks.map fun m=>.d (.int kk m)) (hi : firstAt n ks i = true) (hv : es[i]? = some (.d (.int kk n),v)) (h : k (some (i,v))) :
  MapF (.int kk) es (.d (.int kk n)) k :=
 MapF.ints ks hks (.inl ⟨i,v,(firstAt_ok hi).1,(firstAt_ok hi).2,hv,h⟩)
theorem MapF.no {kk : IntKind} {es : List (V × V)} {n : Int} {k : Option (Nat × V) → Prop} (ks : List Int) (hks : es.map (·.1) = ks.map fun m=>.d (.int kk m)) (hn : n ∉ ks) (h : k none) : MapF (.int kk) es (.d (.int kk n)) k :=
 MapF.ints ks hks (.inr ⟨hn,h⟩)
end Go.Tidy
namespace Go.Tidy
theorem DrawP.go {C : Ctx} {n : Nat} {ops : Array Oper} {fr : List (Nat × V)} {L : List Blk} {K : List (Nat × V) → List Blk → Prop} (hm : C.P.follows .mixedOrders = true) (hst : stableB ops.toList (tblGo ops.toList []) = true)
  (h : qOps C n ops.toList ops.toList fr L K) : DrawP C n ops fr L K:=DrawP.quiet hm _ hst h
end Go.Tidy
namespace Go.Tidy
theorem Weak.nilCell {k : Nat} {σ : TS} (b j sz : Nat) (cs : List V) (hb : σ.L[b]? = some (.cells cs)) (hj : cs[j]? = some .nil) (hsz : 0 < sz) :
  Weak k σ { σ with L:=(σ.L ++ [Blk.row 0 sz []]).set b (.cells (cs.set j (.own σ.L.length 0 0 0))) }:=by
 intro r g a w hs
 have hp:=add_prog hs.good (Ext.refl w) (.row 0 sz []) none (fun q h=>by cases h) 0
 have hg:=add_good (k':=.row 0 sz []) hs.good (Ext.refl w) none (fun q h=>by cases h) 0 ⟨hsz,by simp,.inl ⟨by simp [Gh.add],rfl⟩⟩
 have hbl:=lt_of_get hb
 have hb1 : (σ.L ++ [Blk.row 0 sz []])[b]? = some (.cells cs):=by rw [List.getElem?_append_left hbl]; exact hb
 have S : Step (g.add σ.L.length none 0) w (σ.L ++ [Blk.row 0 sz []]) b (.cells (cs.set j (.own σ.L.length 0 0 0))) (g.add σ.L.length none 0) w:=by
  refine ⟨hg,⟨_,hb1,by simp⟩,by rw [hb1]; simp,⟨rfl,rfl,rfl⟩,Nat.le_refl _,rfl,fun _ _=>rfl,fun _ _=>rfl,fun p o' hp hne=>hp,fun r hr=>.inl hr,?_⟩
  exact ⟨fun cs0 e=>.inr ⟨_,List.getElem?_set_self (by simp; omega),rfl⟩,fun gen sz els e=>(by rw [hb1] at e; cases e),fun es e=>(by rw [hb1] at e; cases e),fun l0 e=>(by rw [hb1] at e; cases e),fun e=>(by rw [hb1] at e; cases e)⟩
 have hrow : ((σ.L ++ [Blk.row 0 sz []]).set b (.cells (cs.set j (.own σ.L.length 0 0 0))))[σ.L.length]? = some (.row 0 sz []):=by
  rw [List.getElem?_set_ne (by omega),List.getElem?_append_right (Nat.le_refl _),Nat.sub_self]; rfl
 obtain ⟨q,cur,T,h1,h2,h3,h4,h5⟩:=hg.blk b _ hb1
 have hg2:=S.good' ⟨q,cur,T,h1,h2,by simpa using h3,h4,fun i x v hx hv=>by
  rw [List.getElem?_set] at hx
  by_cases e : j = i
  ·subst e
   rw [if_pos rfl] at hx
   split at hx
   ·cases hx
    have hv':=h5 j .nil v hj hv
    cases hv' with
    | nil=>exact .ownN _ _ sz [] hrow (by simp [Gh.add])
   ·cases hx
  ·rw [if_neg e] at hx
   exact S.mono (h5 i x v hx hv)⟩
 have hs':=(hs.prog hp hg).prog (L':=(σ.L ++ [Blk.row 0 sz []]).set b (.cells (cs.set j (.own σ.L.length 0 0 0)))) S.prog hg2
 exact ⟨_,hs',(hp.le hs.k (Nat.le_refl _)).trans (S.prog.le (by simp; exact Nat.le_succ_of_le hs.k) (Nat.le_refl _))⟩
end Go.Tidy
namespace Go.Tidy
theorem Weak.nilCellTo {k : Nat} {σ σ' : TS} (b j sz : Nat) (cs : List V) (hb : σ.L[b]? = some (.cells cs)) (hj : cs[j]? = some .nil) (hsz : 0 < sz) (hL : (σ.L ++ [Blk.row 0 sz []]).set b (.cells (cs.set j (.own σ.L.length 0 0 0))) = σ'.L)
  (hfr : SubF σ.fr σ'.fr) (h1 : σ'.n = σ.n:=by rfl) (h2 : σ'.df = σ.df:=by rfl) (h3 : σ'.ro = σ.ro:=by rfl) : Weak k σ σ':=by
 have h:=Weak.nilCell (k:=k) (σ:=σ) b j sz cs hb hj hsz
 rw [hL] at h
 refine h.trans (Weak.by hfr rfl h1 h2 h3)
theorem Cw.pair {S : Nat → Prop} {L : List Blk} {x x' y y' : V} (hx : Cw S L x x') (hy : Cw S L y y') : Cw S L (.tup [x,y]) (.tup [x',y']):=by
 refine .tup [x,y] [x',y'] rfl fun j a b ha hb=>?_
 match j with
 | 0=>simp at ha hb; subst ha hb; exact hx
 | 1=>simp at ha hb; subst ha hb; exact hy
 | j + 2=>simp at ha
theorem Cw.triple {S : Nat → Prop} {L : List Blk} {x x' y y' z z' : V} (hx : Cw S L x x') (hy : Cw S L y y') (hz : Cw S L z z') : Cw S L (.tup [x,y,z]) (.tup [x',y',z']):=by
 refine .tup [x,y,z] [x',y',z'] rfl fun j a b ha hb=>?_
 match j with
 | 0=>simp at ha hb; subst ha hb; exact hx
 | 1=>simp at ha hb; subst ha hb; exact hy
 | 2=>simp at ha hb; subst ha hb; exact hz
 | j + 3=>simp at ha
end Go.Tidy
/-
 The base layer: what data of a type look like.
-/
namespace Go.Tidy
section
variable {P : Program} {t : TypeId} {xs : List D}
theorem TyI.intI {k : IntKind} (h : TyI P t xs) (hu : P.underlying t = some (.int k)) : ∃ n : Int,xs = [.int k n] ∧ (Lit.int k n).wf = true:=by
 cases h with
 | int h n hw=>rw [hu] at h; cases h; exact ⟨n,rfl,hw⟩
 | bool h | str h | sl h | struct h=>rw [hu] at h; cases h
theorem TyI.boolI (h : TyI P t xs) (hu : P.underlying t = some .bool) : ∃ b : Bool,xs = [.bool b]:=by
 cases h with
 | bool h b=>exact ⟨b,rfl⟩
 | int h | str h | sl h | struct h=>rw [hu] at h; cases h
theorem TyI.strI (h : TyI P t xs) (hu : P.underlying t = some .string) : ∃ s : ByteArray,xs = [.str s] ∧ s.size ≤ maxLen:=by
 cases h with
 | str h s hs=>exact ⟨s,rfl,hs⟩
 | int h | bool h | sl h | struct h=>rw [hu] at h; cases h
theorem TyI.slI {e : TypeId} (h : TyI P t xs) (hu : P.underlying t = some (.slice e)) : ∃ els : List (List D),xs = [.sl els] ∧ els.length ≤ maxLen ∧ ∀ y ∈ els,TyI P e y:=by
 cases h with
 | sl h els hl hsz he=>rw [hu] at h; cases h; exact ⟨els,rfl,hl,he⟩
 | int h | bool h | str h | struct h=>rw [hu] at h; cases h
theorem TyI.structI {fs : Array Field} (h : TyI P t xs) (hu : P.underlying t = some (.struct fs)) : xs.length = P.cellsOf t ∧ ∀ f ∈ fs.toList,TyI P f.type ((xs.drop f.offset).take (P.cellsOf f.type)):=by
 cases h with
 | struct h xs hl hf=>rw [hu] at h; cases h; exact ⟨hl,hf⟩
 | int h | bool h | str h | sl h=>rw [hu] at h; cases h
end
end Go.Tidy
/-
 The base layer: a drawn region by some of its orders: what looks at no memory of the activation's own may go ahead of what writes there.
-/
namespace Go.Tidy
section
variable {C : Ctx} {n : Nat} {all : List Oper}
theorem vLoad_far {t : TypeId} {x : V} {k : V → Prop} (h : vLoad C t x [] k) (L : List Blk) : vLoad C t x L k:=by
 unfold vLoad at h ⊢
 repeat' (first | exact h | (exfalso; exact h) | (split at h) )
 all_goals simp_all
theorem vIndexAddr_far {t : TypeId} {x i : V} {k : V → Prop} (h : vIndexAddr C t x i k []) (L : List Blk) : vIndexAddr C t x i k L:=by
 unfold vIndexAddr at h ⊢
 repeat' (first | exact h | (exfalso; exact h) | (split at h) )
 all_goals simp_all
theorem vSlice_far {t : TypeId} {x : V} {lo hi mx : Option V} {k : V → Prop} (h : vSlice C t x lo hi mx [] k) (L : List Blk) : vSlice C t x lo hi mx L k:=by
 unfold vSlice at h ⊢
 repeat' (first | exact h | (exfalso; exact h) | (split at h) )
 all_goals simp_all
theorem vConvL_far {s t : TypeId} {x : V} {k : V → Prop} (h : vConvL C s t x [] k) (L : List Blk) : vConvL C s t x L k:=by
 unfold vConvL at h ⊢
 cases hb : isSlT C s with
 | false=>rw [hb] at h; exact h
 | true =>
  rw [hb] at h
  simp only [cond_true] at h ⊢
  unfold vBytes vSrc at h ⊢
  repeat' (split at h <;> try (exact h.elim))
  all_goals first | exact h | simp_all
theorem vLookup_far {t : TypeId} {x i : V} {ok : Bool} {k : V → Prop} (h : vLookup C t x i ok [] k) (L : List Blk) : vLookup C t x i ok L k:=by
 unfold vLookup at h ⊢
 repeat' (first | exact h | (exfalso; exact h) | (split at h) )
 all_goals simp_all
theorem vLenL_far {t : TypeId} {x : V} {k : V → Prop} (h : vLenL C t x [] k) (_L : List Blk) : vLenL C t x _L k:=h
def MapEq (L L2 : List Blk) : Prop:=∀ b : Nat,L[b]? = none ∨ L2[b]? = L[b]? ∨ ∃ es es' : List (V × V),L[b]? = some (.map es) ∧ L2[b]? = some (.map es')
theorem MapEq.refl (L : List Blk) : MapEq L L:=fun _=>.inr (.inl rfl)
theorem MapEq.trans {L L2 L3 : List Blk} (h : MapEq L L2) (h' : MapEq L2 L3) : MapEq L L3:=fun b=>by
 rcases h b with e | e | ⟨es,es',e1,e2⟩ <;> rcases h' b with e' | e' | ⟨fs,fs',e3,e4⟩
 ·exact .inl e
 ·exact .inl e
 ·exact .inl e
 ·exact .inl (e ▸ e')
 ·exact .inr (.inl (e'.trans e))
 ·exact .inr (.inr ⟨fs,fs',e ▸ e3,e4⟩)
 ·rw [e2] at e'; cases e'
 ·exact .inr (.inr ⟨es,es',e1,e'.trans e2⟩)
 ·exact .inr (.inr ⟨es,fs',e1,e4⟩)
theorem MapEq.cells {L L2 : List Blk} (h : MapEq L L2) {b : Nat} {cs : List V} (hb : L[b]? = some (.cells cs)) : L2[b]? = some (.cells cs):=by
 rcases h b with e | e | ⟨es,es',e1,_⟩
 ·rw [hb] at e; cases e
 ·exact e.trans hb
 ·rw [hb] at e1; cases e1
theorem MapEq.row {L L2 : List Blk} (h : MapEq L L2) {b g sz : Nat} {els : List (List V)} (hb : L[b]? = some (.row g sz els)) : L2[b]? = some (.row g sz els):=by
 rcases h b with e | e | ⟨es,es',e1,_⟩
 ·rw [hb] at e; cases e
 ·exact e.trans hb
 ·rw [hb] at e1; cases e1
theorem MapEq.set {L : List Blk} {b : Nat} {es es' : List (V × V)} (hb : L[b]? = some (.map es)) : MapEq L (L.set b (.map es')):=fun c=>by
 by_cases e : b = c
 ·subst e
  exact .inr (.inr ⟨es,es',hb,by rw [List.getElem?_set_self (lt_of_get hb)]⟩)
 ·exact .inr (.inl (List.getElem?_set_ne e))
theorem MapEq.push (L : List Blk) (x : Blk) : MapEq L (L ++ [x]):=fun c=>by
 rcases Nat.lt_or_ge c L.length with h | h
 ·exact .inr (.inl (List.getElem?_append_left h))
 ·exact .inl (List.getElem?_eq_none h)
def CellEq (L L2 : List Blk) : Prop:=∀ (b : Nat) (cs : List V),L[b]? = some (.cells cs) → L2[b]? = some (.cells cs)
theorem CellEq.refl (L : List Blk) : CellEq L L:=fun _ _ h=>h
theorem CellEq.trans {L L2 L3 : List Blk} (h : CellEq L L2) (h' : CellEq L2 L3) : CellEq L L3:=fun b cs hb=>h' b cs (h b cs hb)
theorem MapEq.cellEq {L L2 : List Blk} (h : MapEq L L2) : CellEq L L2:=fun _ _ hb=>h.cells hb
theorem CellEq.set {L : List Blk} {b g sz : Nat} {els : List (List V)} {x : Blk} (hb : L[b]? = some (.row g sz els)) : CellEq L (L.set b x):=fun c cs hc=>by
 by_cases e : b = c
 ·subst e; rw [hb] at hc; cases hc
 ·rw [List.getElem?_set_ne e]; exact hc
def vLoadC (C : Ctx) (t : TypeId) (x : V) (L : List Blk) (k : V → Prop) : Prop:=match x with
 | .eptr ..=>False
 | x=>vLoad C t x L k
theorem vLoadC_load {t : TypeId} {x : V} {k : V → Prop} {L : List Blk} (h : vLoadC C t x L k) : vLoad C t x L k:=by
 cases x <;> first | exact h | exact h.elim
theorem vLoadC_cellEq {t : TypeId} {x : V} {k : V → Prop} {L L2 : List Blk} (he : CellEq L L2) (h : vLoadC C t x L k) : vLoad C t x L2 k:=by
 have h0:=vLoadC_load h
 unfold vLoadC at h
 unfold vLoad at h0 ⊢
 split at h0
 ·exact h0
 ·split at h0
  ·split at h0
   ·rename_i hb; simp only [he _ _ hb]; exact h0
   ·exact h0.elim
  ·exact h.elim
  ·exact h0
  ·exact h0.elim
theorem vLoad_mapEq {t : TypeId} {x : V} {k : V → Prop} {L L2 : List Blk} (he : MapEq L L2) (h : vLoad C t x L k) : vLoad C t x L2 k:=by
 unfold vLoad at h ⊢
 split at h
 ·exact h
 ·split at h
  ·split at h
   ·rename_i hb; simp only [he.cells hb]; exact h
   ·exact h.elim
  ·split at h
   ·rename_i hb; simp only [he.row hb]; exact h
   ·exact h.elim
  ·exact h
  ·exact h.elim
theorem vIndexAddr_mapEq {t : TypeId} {x i : V} {k : V → Prop} {L L2 : List Blk} (he : MapEq L L2) (h : vIndexAddr C t x i k L) : vIndexAddr C t x i k L2:=by
 unfold vIndexAddr at h ⊢
 repeat' (first | exact h | (exfalso; exact h) | (split at h) )
 all_goals first | (rename_i hb; simp_all [he.row hb]; done) | simp_all
theorem vLenL_mapEq {t : TypeId} {x : V} {k : V → Prop} {L L2 : List Blk} (_he : MapEq L L2) (h : vLenL C t x L k) : vLenL C t x L2 k:=h
def isMapW : Op → Bool
 | .mapUpdate .. | .insert .. | .buildSlice .. | .alloc .. | .box .. | .makeSlice .. | .makeMap ..=>true
 | _=>false
def isCellK : Op → Bool
 | .mapUpdate .. | .insert .. | .buildSlice .. | .alloc .. | .box .. | .makeSlice .. | .makeMap ..=>true
 | .call c=>match c.callee with | .builtin .append=>true | _=>false
 | _=>false
theorem bif_out {b : Bool} {p : Prop} (h : bif b then p else False) : p:=by cases b; exact h.elim; exact h
theorem vBuildSlice_mapEq {t : TypeId} {len : Nat} {ps : List (Nat × V)} {L L' : List Blk} {v : V} (h : vBuildSlice C t len ps L fun x M=>x = v ∧ M = L') : MapEq L L':=by
 unfold vBuildSlice at h
 split at h
 ·split at h
  ·split at h
   ·have h:=bif_out h
    split at h
    ·exact h.2 ▸ MapEq.push L _
    ·exact h.elim
   ·exact h.elim
  ·exact h.elim
 ·exact h.elim
theorem vSrc_out {sz : Nat} {x : V} {L : List Blk} {k : List (List V) → Prop} (h : vSrc L sz x k) : ∃ news,k news:=by
 unfold vSrc at h
 split at h
 ·exact ⟨_,h⟩
 ·exact ⟨_,h.out.2⟩
 ·split at h
  ·exact ⟨_,bif_out h⟩
  ·exact h.elim
 ·exact h.elim
theorem vAppend_cellEq {t : TypeId} {s x : V} {L L' : List Blk} {v : V} (h : vAppend C t s x L fun x M=>x = v ∧ M = L') : CellEq L L':=by
 unfold vAppend at h
 split at h
 ·split at h
  ·split at h
   ·obtain ⟨news,h⟩:=vSrc_out (bif_out h)
    split at h
    ·exact h.out.2.2 ▸ (MapEq.push L _).cellEq
    ·split at h
     ·rename_i hL
      have h:=bif_out h
      exact h.out.2.2 ▸ CellEq.set hL
     ·exact h.elim
    ·exact h.out.2.out.2.2 ▸ (MapEq.push L _).cellEq
    ·exact h.elim
   ·exact h.elim
  ·exact h.elim
 ·exact h.elim
theorem vMapUpdate_mapEq {t : TypeId} {m key x : V} {L L' : List Blk} (h : vMapUpdate C t m key x L fun M=>M = L') : MapEq L L':=by
 unfold vMapUpdate at h
 split at h
 ·split at h
  ·split at h
   ·rename_i ki _
    cases hb : keyV (keyTK C ki) key with
    | false=>rw [hb] at h; exact h.elim
    | true =>
     simp only [hb,cond_true] at h
     split at h
     ·rename_i b
      split at h
      ·rename_i es hL
       unfold MapF at h
       rcases h with ⟨_,⟨i,v,_,_,h⟩ | ⟨_,h⟩⟩
       ·exact h ▸ MapEq.set hL
       ·exact h ▸ MapEq.set hL
      ·exact h.elim
     ·exact h.elim
   ·exact h.elim
  ·exact h.elim
 ·exact h.elim
theorem vAlloc_mapEq {t : TypeId} {L L' : List Blk} {v : V} (h : vAlloc C t L fun x M=>x = v ∧ M = L') : MapEq L L':=by
 unfold vAlloc at h
 split at h
 ·exact h.elim
 ·obtain ⟨_,rfl⟩:=bif_out h; exact MapEq.push _ _
theorem vBox_mapEq {x : V} {L L' : List Blk} {v : V} (h : vBox x L fun x M=>x = v ∧ M = L') : MapEq L L':=by
 unfold vBox at h
 obtain ⟨_,rfl⟩:=bif_out h; exact MapEq.push _ _
theorem vMakeSlice_mapEq {t : TypeId} {x y : V} {L L' : List Blk} {v : V} (h : vMakeSlice C t x y L fun x M=>x = v ∧ M = L') : MapEq L L':=by
 unfold vMakeSlice at h
 split at h
 ·split at h
  ·split at h
   ·have h:=bif_out h
    split at h
    ·unfold MakeP at h
     obtain ⟨_,_,_,_,_,_,_,rfl⟩:=h
     exact MapEq.push _ _
    ·exact h.elim
   ·exact h.elim
  ·exact h.elim
 ·exact h.elim
theorem vOp_mapEq {o : Oper} {fr : List (Nat × V)} {L L' : List Blk} {v : V} (hm : isMapW o.op = true) (h : vOp C o fr L fun x M=>x = v ∧ M = L') : MapEq L L':=by
 unfold vOp at h
 have key : ∀ (t : TypeId) (m key x : V),(vMapUpdate C t m key x L fun M=>V.poison = v ∧ M = L') → MapEq L L':=fun t m key x h=>by
  have h2 : vMapUpdate C t m key x L fun M=>M = L':=by
   obtain ⟨p,u,N,hd⟩:=vMapUpdate_det C t m key x L
   have:=(hd fun x M=>x = v ∧ M = L').1 h
   exact (hd fun _ M=>M = L').2 ⟨this.1,this.2.2⟩
  exact vMapUpdate_mapEq h2
 cases hop : o.op <;> rw [hop] at hm <;> first | (cases hm; done) | skip
 case makeMap ty r =>
  cases r with
  | none=>simp only [hop] at h; obtain ⟨_,rfl⟩:=h; exact MapEq.push _ _
  | some r=>simp only [hop] at h
 all_goals
  simp only [hop] at h
  first | exact key _ _ _ _ h | exact vBuildSlice_mapEq h | exact vAlloc_mapEq h | exact vBox_mapEq h | exact vMakeSlice_mapEq h
theorem vOp_cellEq {o : Oper} {fr : List (Nat × V)} {L L' : List Blk} {v : V} (hm : isCellK o.op = true) (h : vOp C o fr L fun x M=>x = v ∧ M = L') : CellEq L L':=by
 cases hw : isMapW o.op with
 | true=>exact (vOp_mapEq hw h).cellEq
 | false =>
  unfold vOp at h
  cases hop : o.op <;> rw [hop] at hm hw <;> first | (cases hm; done) | (cases hw; done) | skip
  rename_i c
  obtain ⟨cal,args,tys⟩:=c
  simp only [hop] at h
  simp only [isCellK] at hm
  cases cal with
  | value f=>cases hm
  | invoke r m=>cases hm
  | builtin b =>
   cases b <;> first | (cases hm; done) | skip
   simp only at h
   split at h
   ·exact vAppend_cellEq (bif_out h)
   ·exact h.elim
@[irreducible] def QCallW (f : (V → List Blk → Prop) → Prop) (k : V → List Blk → Prop) : Prop:=∃ v M,f (fun x N=>x = v ∧ N = M) ∧ k v M
theorem QCallW.intro {f : (V → List Blk → Prop) → Prop} {k : V → List Blk → Prop} (v : V) (M : List Blk) (h : f fun x N=>x = v ∧ N = M) (hk : k v M) : QCallW f k:=by
 unfold QCallW; exact ⟨v,M,h,hk⟩
@[irreducible] def QCallK (f : (V → List Blk → Prop) → Prop) (L : List Blk) (k : V → List Blk → Prop) : Prop:=∃ v M,f (fun x N=>x = v ∧ N = M) ∧ CellEq L M ∧ k v M
theorem QCallK.intro {f : (V → List Blk → Prop) → Prop} {L : List Blk} {k : V → List Blk → Prop} (v : V) (M : List Blk) (h : f fun x N=>x = v ∧ N = M) (hc : CellEq L M) (hk : k v M) : QCallK f L k:=by
 unfold QCallK; exact ⟨v,M,h,hc,hk⟩
def qOpL (C : Ctx) (md : Nat) (o : Oper) (fr : List (Nat × V)) (L : List Blk) (k : V → List Blk → Prop) : Prop :=
 match md with
 | 0=>qOp C o fr L k
 | 2=>QCallW (fun k=>vOpF C o fr L k) k
 | 5=>QCallK (fun k=>vOpF C o fr L k) L k
 | 1=>match o.op with
  | .call c=>match c.callee with
   | .value f=>match ev fr f with
    | .fn _ []=>Need (V.belL 0 (c.args.toList.map (ev fr)) = true) (QCall (fun k=>vOpF C o fr [] k) [] fun v _=>Need (v.bel 0 = true) (k v L))
    | _=>False
   | .builtin .len=>vOpF C o fr [] fun v _=>k v L
   | _=>False
  | .load _ _=>vOpF C o fr [] fun v _=>k v L
  | .indexAddr _ _ _=>vOpF C o fr [] fun v _=>k v L
  | .slice _ _ _ _ none=>vOpF C o fr [] fun v _=>k v L
  | .lookup _ _ _ _=>vOpF C o fr [] fun v _=>k v L
  | .convert _ _ _=>vOpF C o fr [] fun v _=>k v L
  | _=>False
 | 3=>match o.op with
  | .call c=>match c.callee with
   | .builtin .len=>vOpF C o fr L k
   | _=>False
  | .load _ _=>vOpF C o fr L k
  | .indexAddr _ _ _=>vOpF C o fr L k
  | _=>False
 | 4=>match o.op with
  | .load _ a=>match ev fr a with
   | .eptr ..=>False
   | _=>vOpF C o fr L k
  | _=>False
 | _=>False
def MdEq (md : Nat) (L L2 : List Blk) : Prop:=match md with | 3=>MapEq L L2 | 4=>CellEq L L2 | _=>L2 = L
theorem MdEq.refl (md : Nat) (L : List Blk) : MdEq md L L:=by
 unfold MdEq; split
 ·exact MapEq.refl L
 ·exact CellEq.refl L
 ·rfl
theorem MdEq.trans {md : Nat} {L L2 L3 : List Blk} (h : MdEq md L L2) (h' : MdEq md L2 L3) : MdEq md L L3:=by
 unfold MdEq at h h' ⊢
 split at h
 ·exact MapEq.trans h h'
 ·exact CellEq.trans h h'
 ·split at h'
  ·exact absurd rfl (by assumption)
  ·exact absurd rfl (by assumption)
  ·exact h ▸ h'
def mdW (md b : Nat) (op : Op) : Bool:=match md with | 3=>isMapW op | 4=>isCellK op || Nat.beq b 5 | _=>false
theorem vOp_mdEq {md b : Nat} {o : Oper} {fr : List (Nat × V)} {L L' : List Blk} {v : V} (hm : mdW md b o.op = true) (hb : b ≠ 5) (h : vOp C o fr L fun x M=>x = v ∧ M = L') : MdEq md L L':=by
 unfold mdW at hm
 split at hm
 ·exact vOp_mapEq hm h
 ·rw [Bool.or_eq_true] at hm
  exact vOp_cellEq (hm.resolve_right fun e=>hb (Nat.eq_of_beq_eq_true e)) h
 ·cases hm
mutual
theorem V.sh0 (n : Nat) : ∀ x : V,x.bel 0 = true → x.sh n = x
 | .own ..,h | .ptr ..,h | .eptr ..,h | .map _,h | .yld _,h=>by simp [V.bel] at h
 | .fn f caps,h=>by simp only [V.bel] at h; simp only [V.sh,V.shL0 n caps h]
 | .iface t x,h=>by simp only [V.bel] at h; simp only [V.sh,V.sh0 n x h]
 | .agg cs,h=>by simp only [V.bel] at h; simp only [V.sh,V.shL0 n cs h]
 | .tup cs,h=>by simp only [V.bel] at h; simp only [V.sh,V.shL0 n cs h]
 | .poison,_ | .tt,_ | .ff,_ | .d _,_ | .nil,_ | .glob _,_ | .clp _,_=>rfl
theorem V.shL0 (n : Nat) : ∀ cs : List V,V.belL 0 cs = true → V.shL n cs = cs
 | [],_=>rfl
 | x :: r,h=>by
  simp only [V.belL,Bool.and_eq_true] at h
  simp only [V.shL,V.sh0 n x h.1,V.shL0 n r h.2]
end
theorem qOpL_out {md : Nat} {o : Oper} {fr : List (Nat × V)} {L : List Blk} {k : V → List Blk → Prop} (h : qOpL C md o fr L k) :
  ∃ v L',vOp C o fr L (fun x M=>x = v ∧ M = L') ∧ k v L' ∧ (md ≠ 2 → md ≠ 5 → isWriter o.op = false → L' = L) ∧ (md = 5 → CellEq L L') ∧ (md = 1 → isWriter o.op = false ∧ ∀ L2,vOp C o fr L2 (fun x M=>x = v ∧ M = L2)) ∧
   (md = 3 ∨ md = 4 → isWriter o.op = false ∧ ∀ L2,MdEq md L L2 → vOp C o fr L2 (fun x M=>x = v ∧ M = L2)):=by
 unfold qOpL at h
 split at h
 ·obtain ⟨v,L',h1,h2,h3⟩:=qOp_out h
  exact ⟨v,L',h1,h2,fun _ _=>h3,fun e=>(by cases e),fun e=>(by cases e),fun e=>by rcases e with e | e <;> cases e⟩
 ·unfold QCallW at h
  obtain ⟨v,M,h1,h2⟩:=h
  simp only [vOpF_eq] at h1
  exact ⟨v,M,h1,h2,fun e=>absurd rfl e,fun e=>(by cases e),fun e=>(by cases e),fun e=>by rcases e with e | e <;> cases e⟩
 ·unfold QCallK at h
  obtain ⟨v,M,h1,h3,h2⟩:=h
  simp only [vOpF_eq] at h1
  exact ⟨v,M,h1,h2,fun _ e=>absurd rfl e,fun _=>h3,fun e=>(by cases e),fun e=>by rcases e with e | e <;> cases e⟩
 ·-- at no memory
  suffices hs : ∃ v L',vOp C o fr L (fun x M=>x = v ∧ M = L') ∧ k v L' ∧ (1 ≠ 2 → isWriter o.op = false → L' = L) ∧ (1 = 1 → isWriter o.op = false ∧ ∀ L2,vOp C o fr L2 (fun x M=>x = v ∧ M = L2)) by
   obtain ⟨v,L',h1,h2,h3,h4⟩:=hs
   exact ⟨v,L',h1,h2,fun e _=>h3 e,fun e=>(by cases e),h4,fun e=>by rcases e with e | e <;> cases e⟩
  simp only [vOpF_eq] at h
  have rd : isRead o.op = true → (∀ (v : V),vOp C o fr [] (fun x _=>x = v) → ∀ L2,vOp C o fr L2 (fun x M=>x = v ∧ M = L2)) → vOp C o fr [] (fun v _=>k v L) → ∃ v L',vOp C o fr L (fun x M=>x = v ∧ M = L') ∧ k v L' ∧ (1 ≠ 2 → isWriter o.op = false → L' = L) ∧ (1 = 1 → isWriter o.op = false ∧ ∀ L2,vOp C o fr L2 (fun x M=>x = v ∧ M = L2)):=by
   intro hr far h
   obtain ⟨p,v,hd⟩:=vOp_rd C o fr [] (.inr hr)
   obtain ⟨h1,h2⟩:=(hd _).1 h
   have h3 : vOp C o fr [] fun x _=>x = v:=(hd _).2 ⟨h1,rfl⟩
   exact ⟨v,L,far v h3 L,h2,fun _ _=>rfl,fun _=>⟨by simp [isWriter,hr],far v h3⟩⟩
  split at h
  ·rename_i c hop
   split at h
   ·rename_i f hcal
    split at h
    ·rename_i g hf
     obtain ⟨hb,h⟩:=h.out
     unfold QCall at h
     obtain ⟨v,h1,h2⟩:=h
     obtain ⟨h3,h4⟩:=h2.out
     have far : ∀ L2,vOp C o fr L2 (fun x M=>x = v ∧ M = L2):=fun L2=>by
      unfold vOp at h1 ⊢
      simp only [hop,hcal,hf,vCallV,vCallF,List.append_nil] at h1 ⊢
      refine h1.frame hb fun X L' hX=>?_
      obtain ⟨rfl,rfl⟩:=hX
      exact ⟨V.sh0 _ _ h3,by simp [shB]⟩
     exact ⟨v,L,far L,h4,fun _ _=>rfl,fun _=>⟨by simp [isWriter,hop,isCall,hcal],far⟩⟩
    ·exact h.elim
   ·rename_i hcal
    refine rd (by rw [hop]; simp [isRead,hcal]) (fun v h L2=>?_) h
    unfold vOp at h ⊢
    simp only [hop,hcal] at h ⊢
    split at h
    ·simp only [and_true]
     exact vLenL_far h L2
    ·exact h.elim
   ·exact h.elim
  ·rename_i t a hop
   refine rd (by rw [hop]; rfl) (fun v h L2=>?_) h
   unfold vOp at h ⊢
   simp only [hop,and_true] at h ⊢
   exact vLoad_far h L2
  ·rename_i t x i hop
   refine rd (by rw [hop]; rfl) (fun v h L2=>?_) h
   unfold vOp at h ⊢
   simp only [hop,and_true] at h ⊢
   exact vIndexAddr_far h L2
  ·rename_i t x l1 l2 hop
   refine rd (by rw [hop]; rfl) (fun v h L2=>?_) h
   unfold vOp at h ⊢
   simp only [hop] at h ⊢
   have h':=vSlice_far (lo:=l1.map (ev fr)) (hi:=l2.map (ev fr)) (mx:=none) (k:=fun x=>x = v) h L2
   show vSlice C t (ev fr x) (l1.map (ev fr)) (l2.map (ev fr)) none L2 fun x=>x = v ∧ L2 = L2
   simp only [and_true]
   exact h'
  ·rename_i t x i ok hop
   refine rd (by rw [hop]; rfl) (fun v h L2=>?_) h
   unfold vOp at h ⊢
   simp only [hop,and_true] at h ⊢
   exact vLookup_far h L2
  ·rename_i s t x hop
   refine rd (by rw [hop]; rfl) (fun v h L2=>?_) h
   unfold vOp at h ⊢
   simp only [hop,and_true] at h ⊢
   exact vConvL_far h L2
  ·exact h.elim
 ·-- at no map
  simp only [vOpF_eq] at h
  have rd : isRead o.op = true → (∀ (v : V),vOp C o fr L (fun x _=>x = v) → ∀ L2,MapEq L L2 → vOp C o fr L2 (fun x M=>x = v ∧ M = L2)) → vOp C o fr L k → ∃ v L',vOp C o fr L (fun x M=>x = v ∧ M = L') ∧ k v L' ∧ (3 ≠ 2 → 3 ≠ 5 → isWriter o.op = false → L' = L) ∧ (3 = 5 → CellEq L L') ∧
    (3 = 1 → isWriter o.op = false ∧ ∀ L2,vOp C o fr L2 (fun x M=>x = v ∧ M = L2)) ∧ (3 = 3 ∨ 3 = 4 → isWriter o.op = false ∧ ∀ L2,MdEq 3 L L2 → vOp C o fr L2 (fun x M=>x = v ∧ M = L2)):=by
   intro hr far h
   obtain ⟨p,v,hd⟩:=vOp_rd C o fr L (.inr hr)
   obtain ⟨h1,h2⟩:=(hd _).1 h
   have h3 : vOp C o fr L fun x _=>x = v:=(hd _).2 ⟨h1,rfl⟩
   exact ⟨v,L,far v h3 L (MapEq.refl L),h2,fun _ _ _=>rfl,fun e=>(by cases e),fun e=>(by cases e),fun _=>⟨by simp [isWriter,hr],far v h3⟩⟩
  split at h
  ·rename_i c hop
   split at h
   ·rename_i hcal
    refine rd (by rw [hop]; simp [isRead,hcal]) (fun v h L2 he=>?_) h
    unfold vOp at h ⊢
    simp only [hop,hcal] at h ⊢
    split at h
    ·simp only [and_true]
     exact vLenL_mapEq he h
    ·exact h.elim
   ·exact h.elim
  ·rename_i t a hop
   refine rd (by rw [hop]; rfl) (fun v h L2 he=>?_) h
   unfold vOp at h ⊢
   simp only [hop,and_true] at h ⊢
   exact vLoad_mapEq he h
  ·rename_i t x i hop
   refine rd (by rw [hop]; rfl) (fun v h L2 he=>?_) h
   unfold vOp at h ⊢
   simp only [hop,and_true] at h ⊢
   exact vIndexAddr_mapEq he h
  ·exact h.elim
 ·-- a load out of cells
  simp only [vOpF_eq] at h
  split at h
  ·rename_i t a hop
   split at h
   ·exact h.elim
   ·rename_i hne
    obtain ⟨p,v,hd⟩:=vOp_rd C o fr L (.inr (by rw [hop]; rfl))
    obtain ⟨h1,h2⟩:=(hd _).1 h
    have h3 : vOp C o fr L fun x _=>x = v:=(hd _).2 ⟨h1,rfl⟩
    refine ⟨v,L,(hd _).2 ⟨h1,rfl,rfl⟩,h2,fun _ _ _=>rfl,fun e=>(by cases e),fun e=>(by cases e),fun _=>⟨by rw [hop]; rfl,fun L2 he=>?_⟩⟩
    unfold vOp at h3 ⊢
    simp only [hop,and_true] at h3 ⊢
    refine vLoadC_cellEq he ?_
    unfold vLoadC
    split
    ·rename_i e; exact absurd e (by simpa using hne _ _ _ _)
    ·exact h3
  ·exact h.elim
 ·exact h.elim
end
end Go.Tidy
/-
 The base layer: a drawn region by some of its orders: runs and their exchanges.
-/
namespace Go.Tidy
section
variable {C : Ctx} {n : Nat} {all : List Oper} {o : Oper} {fr : List (Nat × V)} {L : List Blk} {K : List (Nat × V) → List Blk → Prop}
def qOp1L (C : Ctx) (n : Nat) (all : List Oper) (md : Nat) (o : Oper) (fr : List (Nat × V)) (L : List Blk) (K : List (Nat × V) → List Blk → Prop) : Prop :=
 match o.guard with
 | none=>qOpL C md o fr L fun v L'=>vPut n o.dst fr v fun fr'=>K fr' L'
 | some (j,want) =>
  match dstAt all j with
  | none=>False
  | some d=>match look fr d with
   | .tt=>match want with
    | true=>qOpL C md o fr L fun v L'=>vPut n o.dst fr v fun fr'=>K fr' L'
    | false=>vPut n o.dst fr (.tup []) fun fr'=>K fr' L
   | .ff=>match want with
    | false=>qOpL C md o fr L fun v L'=>vPut n o.dst fr v fun fr'=>K fr' L'
    | true=>vPut n o.dst fr (.tup []) fun fr'=>K fr' L
   | .d (.bool t)=>Br t fun b=>match b,want with
    | true,true=>qOpL C md o ((d,.tt) :: fr) L fun v L'=>vPut n o.dst ((d,.tt) :: fr) v fun fr'=>K fr' L'
    | false,false=>qOpL C md o ((d,.ff) :: fr) L fun v L'=>vPut n o.dst ((d,.ff) :: fr) v fun fr'=>K fr' L'
    | true,false=>vPut n o.dst ((d,.tt) :: fr) (.tup []) fun fr'=>K fr' L
    | false,true=>vPut n o.dst ((d,.ff) :: fr) (.tup []) fun fr'=>K fr' L
   | .tup []=>vPut n o.dst fr (.tup []) fun fr'=>K fr' L
   | _=>False
structure PlX (C : Ctx) (n : Nat) (all : List Oper) (o : Oper) (fr : List (Nat × V)) (L : List Blk) (v : V) (ex : Bool) (L' : List Blk) : Prop where
 run : ex = true → vOp C o fr L fun x M=>x = v ∧ M = L'
 skip : ex = false → v = .tup [] ∧ L' = L
 guard : match o.guard with | none=>ex = true | some (j,want)=>∃ d,dstAt all j = some d ∧ (look fr d = (if ex == want then .tt else .ff) ∨ (look fr d = .tup [] ∧ ex = false))
 dst : ∀ d,o.dst = some d → Nat.blt d n = true
def isW (md : Nat) (op : Op) : Bool:=Nat.beq md 2 || Nat.beq md 5 || isWriter op
def FarO (C : Ctx) (n : Nat) (all : List Oper) (o : Oper) (fr : List (Nat × V)) (v : V) (ex : Bool) : Prop:=∀ L,PlX C n all o fr L v ex L
def FarM (C : Ctx) (n : Nat) (all : List Oper) (md : Nat) (o : Oper) (fr : List (Nat × V)) (L : List Blk) (v : V) (ex : Bool) : Prop:=∀ L2,MdEq md L L2 → PlX C n all o fr L2 v ex L2
def FarK (C : Ctx) (n : Nat) (all : List Oper) (md : Nat) (o : Oper) (fr : List (Nat × V)) (L : List Blk) (v : V) (ex : Bool) (L' : List Blk) : Prop:=(md = 3 ∨ md = 4 → FarM C n all md o fr L v ex) ∧ (md = 5 → CellEq L L')
theorem PlX.mdEq {v : V} {ex : Bool} {md b : Nat} {L' : List Blk} (h : PlX C n all o fr L v ex L') (hm : mdW md b o.op = true) (hb : b = 5 → CellEq L L') (ha : md = 3 ∨ md = 4) : MdEq md L L':=by
 by_cases b5 : b = 5
 ·rcases ha with rfl | rfl
  ·cases ex with
   | true=>exact vOp_mapEq hm (h.run rfl)
   | false=>rw [(h.skip rfl).2]; exact MdEq.refl 3 L
  ·exact hb b5
 cases ex with
 | true=>exact vOp_mdEq hm b5 (h.run rfl)
 | false=>rw [(h.skip rfl).2]; exact MdEq.refl md L
theorem qOp1L_out {md : Nat} (h : qOp1L C n all md o fr L K) : ∃ fr1 v ex L',Eqv fr1 fr ∧ PlX C n all o fr1 L v ex L' ∧ (md = 1 → FarO C n all o fr1 v ex) ∧ FarK C n all md o fr1 L v ex L' ∧ (isW md o.op = false → L' = L) ∧ K (putF o.dst v fr1) L':=by
 unfold qOp1L at h
 have exec : ∀ fr1,Eqv fr1 fr → (match o.guard with | none=>True | some (j,want)=>∃ d,dstAt all j = some d ∧ (look fr1 d = (if true == want then .tt else .ff) ∨ (look fr1 d = .tup [] ∧ true = false))) →
   (qOpL C md o fr1 L fun v L'=>vPut n o.dst fr1 v fun fr'=>K fr' L') → ∃ fr1 v ex L',Eqv fr1 fr ∧ PlX C n all o fr1 L v ex L' ∧ (md = 1 → FarO C n all o fr1 v ex) ∧ FarK C n all md o fr1 L v ex L' ∧ (isW md o.op = false → L' = L) ∧ K (putF o.dst v fr1) L':=by
  intro fr1 he hg h
  obtain ⟨v,L',h1,h2,h3,h8,h6,h7⟩:=qOpL_out h
  obtain ⟨h4,h5⟩:=vPut_out h2
  have hgd : match o.guard with | none=>true = true | some (j,want)=>∃ d,dstAt all j = some d ∧ (look fr1 d = (if true == want then .tt else .ff) ∨ (look fr1 d = .tup [] ∧ true = false)):=by
   split
   ·rfl
   ·rename_i hgd; rw [hgd] at hg; exact hg
  refine ⟨fr1,v,true,L',he,⟨fun _=>h1,fun h=>(by cases h),hgd,h5⟩,fun hlo L2=>⟨fun _=>(h6 hlo).2 L2,fun h=>(by cases h),hgd,h5⟩,⟨fun hlo L2 he=>⟨fun _=>(h7 hlo).2 L2 he,fun h=>(by cases h),hgd,h5⟩,h8⟩,fun hw=>?_,h4⟩
  unfold isW at hw
  simp only [Bool.or_eq_false_iff] at hw
  exact h3 (fun e=>by rw [e] at hw; cases hw.1.1) (fun e=>by rw [e] at hw; cases hw.1.2) hw.2
 have skip : ∀ fr1,Eqv fr1 fr → (∃ j want,o.guard = some (j,want) ∧ ∃ d,dstAt all j = some d ∧ (look fr1 d = (if false == want then .tt else .ff) ∨ (look fr1 d = .tup [] ∧ false = false))) →
   (vPut n o.dst fr1 (.tup []) fun fr'=>K fr' L) → ∃ fr1 v ex L',Eqv fr1 fr ∧ PlX C n all o fr1 L v ex L' ∧ (md = 1 → FarO C n all o fr1 v ex) ∧ FarK C n all md o fr1 L v ex L' ∧ (isW md o.op = false → L' = L) ∧ K (putF o.dst v fr1) L':=by
  rintro fr1 he ⟨j,want,hg,hd⟩ h
  obtain ⟨h4,h5⟩:=vPut_out h
  have hgd : match o.guard with | none=>false = true | some (j,want)=>∃ d,dstAt all j = some d ∧ (look fr1 d = (if false == want then .tt else .ff) ∨ (look fr1 d = .tup [] ∧ false = false)):=by
   rw [hg]; exact hd
  exact ⟨fr1,.tup [],false,L,he,⟨fun h=>(by cases h),fun _=>⟨rfl,rfl⟩,hgd,h5⟩,fun _ L2=>⟨fun h=>(by cases h),fun _=>⟨rfl,rfl⟩,hgd,h5⟩,⟨fun _ L2 _=>⟨fun h=>(by cases h),fun _=>⟨rfl,rfl⟩,hgd,h5⟩,fun _=>CellEq.refl L⟩,fun _=>rfl,h4⟩
 cases hgd : o.guard with
 | none =>
  simp only [hgd] at h
  exact exec fr (Eqv.refl _) (by rw [hgd]; trivial) h
 | some jw =>
  obtain ⟨j,want⟩:=jw
  simp only [hgd] at h
  cases hd : dstAt all j with
  | none=>simp [hd] at h
  | some d =>
   simp only [hd] at h
   split at h
   ·rename_i hl
    cases want with
    | true=>exact exec fr (Eqv.refl _) (by rw [hgd]; exact ⟨d,hd,.inl hl⟩) h
    | false=>exact skip fr (Eqv.refl _) ⟨j,false,hgd,d,hd,.inl hl⟩ h
   ·rename_i hl
    cases want with
    | false=>exact exec fr (Eqv.refl _) (by rw [hgd]; exact ⟨d,hd,.inl hl⟩) h
    | true=>exact skip fr (Eqv.refl _) ⟨j,true,hgd,d,hd,.inl hl⟩ h
   ·rename_i t hl
    have h:=h.out
    cases t with
    | true =>
     have he : Eqv ((d,.tt) :: fr) fr:=fun s=>by
      rw [look_cons]
      by_cases e : d = s
      ·subst e; rw [if_pos rfl,hl]; exact VEq.tt.symm
      ·rw [if_neg e]; exact VEq.refl _
     have hl' : look ((d,V.tt) :: fr) d = .tt:=by rw [look_cons,if_pos rfl]
     cases want with
     | true=>exact exec _ he (by rw [hgd]; exact ⟨d,hd,.inl hl'⟩) h
     | false=>exact skip _ he ⟨j,false,hgd,d,hd,.inl hl'⟩ h
    | false =>
     have he : Eqv ((d,.ff) :: fr) fr:=fun s=>by
      rw [look_cons]
      by_cases e : d = s
      ·subst e; rw [if_pos rfl,hl]; exact VEq.ff.symm
      ·rw [if_neg e]; exact VEq.refl _
     have hl' : look ((d,V.ff) :: fr) d = .ff:=by rw [look_cons,if_pos rfl]
     cases want with
     | false=>exact exec _ he (by rw [hgd]; exact ⟨d,hd,.inl hl'⟩) h
     | true=>exact skip _ he ⟨j,true,hgd,d,hd,.inl hl'⟩ h
   ·rename_i hl
    exact skip fr (Eqv.refl _) ⟨j,want,hgd,d,hd,.inr ⟨hl,rfl⟩⟩ h
   ·exact h.elim
def Runs (C : Ctx) (n : Nat) (all : List Oper) : List (Nat × Nat) → List (Nat × V) → List Blk → (List (Nat × V) → List Blk → Prop) → Prop
 | [],fr,L,K=>∃ fr1,Eqv fr1 fr ∧ K fr1 L
 | (i,md) :: r,fr,L,K=>∃ o fr1 v ex L',all[i]? = some o ∧ Eqv fr1 fr ∧ PlX C n all o fr1 L v ex L' ∧ (md = 1 → FarO C n all o fr1 v ex) ∧ FarK C n all md o fr1 L v ex L' ∧ (isW md o.op = false → L' = L) ∧ Runs C n all r (putF o.dst v fr1) L' K
def qOrd (C : Ctx) (n : Nat) (all : List Oper) : List (Nat × Nat) → List (Nat × V) → List Blk → (List (Nat × V) → List Blk → Prop) → Prop
 | [],fr,L,K=>K fr L
 | (i,md) :: r,fr,L,K=>match all[i]? with
  | some o=>qOp1L C n all md o fr L fun fr' L'=>qOrd C n all r fr' L' K
  | none=>False
theorem qOrd_runs : ∀ (l : List (Nat × Nat)) (fr : List (Nat × V)) (L : List Blk),qOrd C n all l fr L K → Runs C n all l fr L K
 | [],fr,L,h=>⟨fr,Eqv.refl _,h⟩
 | (i,md) :: r,fr,L,h=>by
  unfold qOrd at h
  cases ho : all[i]? with
  | none=>simp [ho] at h
  | some o =>
   simp only [ho] at h
   obtain ⟨fr1,v,ex,L',h1,h2,h3,h6,h5,h4⟩:=qOp1L_out h
   exact ⟨o,fr1,v,ex,L',ho,h1,h2,h3,h6,h5,qOrd_runs r _ _ h4⟩
theorem Eqv.symm {a b : List (Nat × V)} (h : Eqv a b) : Eqv b a:=fun s=>(h s).symm
theorem Runs.eqv : ∀ {l : List (Nat × Nat)} {fr fr' : List (Nat × V)} {L : List Blk},Runs C n all l fr L K → Eqv fr fr' → Runs C n all l fr' L K
 | [],_,_,_,⟨fr1,h1,h2⟩,he=>⟨fr1,h1.trans he,h2⟩
 | (_,_) :: _,_,_,_,⟨o,fr1,v,ex,L',h0,h1,h2,h3,h6,h5,h4⟩,he=>⟨o,fr1,v,ex,L',h0,h1.trans he,h2,h3,h6,h5,h4⟩
theorem PlX.frame {v : V} {ex : Bool} {L' : List Blk} {fr' : List (Nat × V)} (h : PlX C n all o fr L v ex L') (hl : ∀ s ∈ looks all o,look fr' s = look fr s) : PlX C n all o fr' L v ex L':=by
 refine ⟨fun he=>?_,h.skip,?_,h.dst⟩
 ·rw [vOp_congr (fr:=fr') (fr':=fr) fun t ht=>hl t (looks_op ht)]
  exact h.run he
 ·have hg:=h.guard
  cases hgd : o.guard with
  | none=>rw [hgd] at hg; exact hg
  | some jw =>
   obtain ⟨j,want⟩:=jw
   rw [hgd] at hg
   obtain ⟨d,hd,hh⟩:=hg
   refine ⟨d,hd,?_⟩
   rw [hl d (looks_guard hgd hd)]
   exact hh
theorem FarO.frame {v : V} {ex : Bool} {fr' : List (Nat × V)} (h : FarO C n all o fr v ex) (hl : ∀ s ∈ looks all o,look fr' s = look fr s) : FarO C n all o fr' v ex:=fun L=>(h L).frame hl
theorem FarM.frame {v : V} {md : Nat} {ex : Bool} {fr' : List (Nat × V)} (h : FarM C n all md o fr L v ex) (hl : ∀ s ∈ looks all o,look fr' s = look fr s) : FarM C n all md o fr' L v ex:=fun L2 he=>(h L2 he).frame hl
theorem PlX.pure {v : V} {ex : Bool} {L' : List Blk} (h : PlX C n all o fr L v ex L') (hp : isPure o.op = true) (L2 : List Blk) : PlX C n all o fr L2 v ex L2:=by
 refine ⟨fun he=>?_,fun he=>⟨(h.skip he).1,rfl⟩,h.guard,h.dst⟩
 obtain ⟨p,u,hd⟩:=vOp_pu C o fr hp
 obtain ⟨h1,h2,_⟩:=(hd L _).1 (h.run he)
 exact (hd L2 _).2 ⟨h1,h2,rfl⟩
structure Indep (all : List Oper) (a b : Nat) (p q : Oper) : Prop where
 dst : ∀ d,p.dst = some d → q.dst ≠ some d ∧ d ∉ looks all q
 dst' : ∀ d,q.dst = some d → d ∉ looks all p
 mem : (isPure p.op = true ∧ isW a p.op = false) ∨ (isPure q.op = true ∧ isW b q.op = false) ∨ (isW a p.op = false ∧ (a = 1 ∨ ((a = 3 ∨ a = 4) ∧ mdW a b q.op = true) ∨ isW b q.op = false))
theorem Runs.swap {i j a b : Nat} {r : List (Nat × Nat)} (hin : ∀ p q,all[i]? = some p → all[j]? = some q → Indep all a b p q) (h : Runs C n all ((i,a) :: (j,b) :: r) fr L K) : Runs C n all ((j,b) :: (i,a) :: r) fr L K:=by
 obtain ⟨p,fr1,v,ex,L1,hp,he1,hpl1,hfar1,hm1,hq1,q,fr2,u,ex2,L2,hq,he2,hpl2,hfar2,hm2,hq2,hr⟩:=h
 obtain ⟨hd,hd',hm⟩:=hin p q hp hq
 have keep1 : ∀ t ∈ looks all q,VEq (look fr2 t) (look fr t):=fun t ht=>by
  refine (he2 t).trans ?_
  rw [putF_look,if_neg fun e=>(hd t e).2 ht]
  exact he1 t
 let fr2':=(looks all q).map (fun t=>(t,look fr2 t)) ++ fr
 have l2 : ∀ s,look fr2' s = if s ∈ looks all q then look fr2 s else look fr s:=fun s=>look_pre _ _ _ _
 have e2' : Eqv fr2' fr:=fun s=>by
  rw [l2]
  split
  ·rename_i h; exact keep1 s h
  ·exact VEq.refl _
 let fr1':=(looks all p).map (fun t=>(t,look fr1 t)) ++ putF q.dst u fr2'
 have l1 : ∀ s,look fr1' s = if s ∈ looks all p then look fr1 s else look (putF q.dst u fr2') s:=fun s=>look_pre _ _ _ _
 have e1' : Eqv fr1' (putF q.dst u fr2'):=fun s=>by
  rw [l1]
  split
  ·rename_i h
   rw [putF_look,if_neg fun e=>hd' s e h]
   exact (he1 s).trans (e2' s).symm
  ·exact VEq.refl _
 have heq : Eqv (putF q.dst u fr2) (putF p.dst v fr1'):=fun s=>by
  rw [putF_look,putF_look]
  by_cases ep : p.dst = some s
  ·rw [if_neg (hd s ep).1,if_pos ep]
   refine (he2 s).trans ?_
   rw [putF_look,if_pos ep]
   exact VEq.refl _
  ·rw [if_neg ep]
   refine VEq.symm ((e1' s).trans ?_)
   rw [putF_look]
   by_cases eq : q.dst = some s
   ·rw [if_pos eq,if_pos eq]; exact VEq.refl _
   ·rw [if_neg eq,if_neg eq]
    refine (e2' s).trans ((he2 s).trans ?_).symm
    rw [putF_look,if_neg ep]
    exact he1 s
 have f2 : ∀ s ∈ looks all q,look fr2' s = look fr2 s:=fun s hs=>by rw [l2,if_pos hs]
 have f1 : ∀ s ∈ looks all p,look fr1' s = look fr1 s:=fun s hs=>by rw [l1,if_pos hs]
 have fin : ∀ M,PlX C n all q fr2 L u ex2 M → FarK C n all b q fr2 L u ex2 M → (isW b q.op = false → M = L) → PlX C n all p fr1 M v ex L2 → FarK C n all a p fr1 M v ex L2 → (isW a p.op = false → L2 = M) → Runs C n all ((j,b) :: (i,a) :: r) fr L K:=by
  intro M h1 m1 h1' h2 m2 h2'
  exact ⟨q,fr2',u,ex2,M,hq,e2',h1.frame f2,fun x=>(hfar2 x).frame f2,⟨fun x=>(m1.1 x).frame f2,m1.2⟩,h1',p,fr1',v,ex,L2,hp,e1',h2.frame f1,fun x=>(hfar1 x).frame f1,⟨fun x=>(m2.1 x).frame f1,m2.2⟩,h2',hr.eqv heq⟩
 rcases hm with ⟨h,hw⟩ | ⟨h,hw⟩ | ⟨hw,h | ⟨ha,h⟩ | h⟩
 ·have e : L1 = L:=hq1 hw
  subst e
  exact fin L2 hpl2 hm2 hq2 (hpl1.pure h L2) ⟨fun _ L3 _=>hpl1.pure h L3,fun _=>CellEq.refl L2⟩ fun _=>rfl
 ·have e : L2 = L1:=hq2 hw
  subst e
  exact fin L (hpl2.pure h L) ⟨fun _ L3 _=>hpl2.pure h L3,fun _=>CellEq.refl L⟩ (fun _=>rfl) hpl1 hm1 hq1
 ·have e : L1 = L:=hq1 hw
  subst e
  exact fin L2 hpl2 hm2 hq2 (hfar1 h L2) ⟨fun _ L3 _=>hfar1 h L3,fun _=>CellEq.refl L2⟩ fun _=>rfl
 ·have e : L1 = L:=hq1 hw
  subst e
  have he:=hpl2.mdEq h hm2.2 ha
  exact fin L2 hpl2 hm2 hq2 (hm1.1 ha L2 he) ⟨fun _ L3 he3=>hm1.1 ha L3 (he.trans he3),fun _=>CellEq.refl L2⟩ fun _=>rfl
 ·have e : L1 = L:=hq1 hw
  subst e
  have e : L2 = L1:=hq2 h
  subst e
  exact fin L2 hpl2 hm2 hq2 hpl1 hm1 hq1
theorem PlX.vc {v : V} {ex : Bool} {L' : List Blk} (h : PlX C n all o fr L v ex L') (hK : K (putF o.dst v fr) L') : vcOp1 C n all o fr L K:=by
 have put : ∀ (u : V) (M : List Blk),K (putF o.dst u fr) M → (∀ d,o.dst = some d → Nat.blt d n = true) → vPut n o.dst fr u fun fr'=>K fr' M:=by
  intro u M hk hd
  unfold vPut
  simp only [V.force_eq]
  unfold putF at hk
  cases hdst : o.dst with
  | none=>rw [hdst] at hk; exact hk
  | some d=>rw [hdst] at hk; simp only [hd d hdst,cond_true]; exact hk
 have run : ex = true → vOp C o fr L fun v L'=>vPut n o.dst fr v fun fr'=>K fr' L':=fun he=>vOp_mono (h.run he) fun x N hx=>by
  obtain ⟨rfl,rfl⟩:=hx
  exact put _ _ hK h.dst
 have skip : ex = false → vPut n o.dst fr (.tup []) fun fr'=>K fr' L:=fun he=>by
  obtain ⟨rfl,rfl⟩:=h.skip he
  exact put _ _ hK h.dst
 have hg:=h.guard
 unfold vcOp1
 simp only [vOpF_eq]
 cases hgd : o.guard with
 | none=>rw [hgd] at hg; exact run hg
 | some jw =>
  obtain ⟨j,want⟩:=jw
  rw [hgd] at hg
  obtain ⟨d,hd,hlk⟩:=hg
  rcases hlk with hlk | ⟨hlk,hex⟩
  ·simp only [hd,hlk]
   cases hex : ex <;> cases want <;> simp <;> first | exact run hex | exact skip hex
  ·simp only [hd,hlk]
   exact skip hex
theorem Runs.vc : ∀ {l : List (Nat × Nat)} {fr : List (Nat × V)} {L : List Blk},Runs C n all l fr L K → vOpsC C n all ((l.map (·.1)).filterMap fun i=>all[i]?) fr L K
 | [],_,_,⟨fr1,h1,h2⟩=>⟨fr1,fun s=>(h1 s).2,h2⟩
 | (i,md) :: r,fr,L,⟨o,fr1,v,ex,L',h0,h1,h2,h3,h6,h5,h4⟩=>by
  simp only [List.map_cons,List.filterMap_cons,h0]
  exact ⟨fr1,fun s=>(h1 s).2,h2.vc (Runs.vc h4)⟩
end
end Go.Tidy
/-
 The base layer: a drawn region by some of its orders: which orders are enough.
-/
namespace Go.Tidy
def Lin (all : List Oper) : List Nat → List Nat → Prop
 | _,[]=>True
 | done,x :: l=>(∀ (o : Oper) (e : Edge),all[x]? = some o → e ∈ o.after.toList → Region.binds .any e = true → e.on ∈ done) ∧ Lin all (x :: done) l
theorem Lin.mono {all : List Oper} : ∀ {l done done' : List Nat},(∀ x ∈ done,x ∈ done') → Lin all done l → Lin all done' l
 | [],_,_,_,_=>trivial
 | x :: l, done, done', h, ⟨h1, h2⟩ => ⟨fun o e ho he hb => h _ (h1 o e ho he hb), Lin.mono (fun y hy => by
     rcases List.mem_cons.1 hy with rfl | hy
     ·exact List.mem_cons_self
     ·exact List.mem_cons_of_mem _ (h y hy)) h2⟩
theorem Lin.skip {all : List Oper} {i : Nat} : ∀ {l1 l2 done : List Nat},Lin all done (l1 ++ i :: l2) → Lin all (i :: done) (l1 ++ l2)
 | [],l2,done,⟨_,h⟩=>h
 | x :: l1, l2, done, ⟨h1, h2⟩ => ⟨fun o e ho he hb => List.mem_cons_of_mem _ (h1 o e ho he hb), Lin.mono (fun y hy => by
     rcases List.mem_cons.1 hy with rfl | hy
     ·simp
     ·rcases List.mem_cons.1 hy with rfl | hy <;> simp [*]) (Lin.skip h2)⟩
theorem Lin.down {all : List Oper} : ∀ {l1 l2 done : List Nat},Down all (· ∈ done) → Lin all done (l1 ++ l2) → Down all (fun x=>x ∈ done ∨ x ∈ l1)
 | [],_,done,h,_=>fun i o e hi ho he hb=>.inl (h i o e (hi.resolve_right (by simp)) ho he hb)
 | x :: l1,l2,done,h,⟨h1,h2⟩=>by
  have hd : Down all (· ∈ x :: done):=fun i o e hi ho he hb=>by
   rcases List.mem_cons.1 hi with rfl | hi
   ·exact List.mem_cons_of_mem _ (h1 o e ho he hb)
   ·exact List.mem_cons_of_mem _ (h i o e hi ho he hb)
  have:=Lin.down hd h2
  intro i o e hi ho he hb
  have:=this i o e (by
   rcases hi with hi | hi
   ·exact .inl (List.mem_cons_of_mem _ hi)
   ·rcases List.mem_cons.1 hi with rfl | hi
    ·exact .inl List.mem_cons_self
    ·exact .inr hi) ho he hb
  rcases this with h3 | h3
  ·rcases List.mem_cons.1 h3 with h4 | h4
   ·exact .inr (h4 ▸ List.mem_cons_self)
   ·exact .inl h4
  ·exact .inr (List.mem_cons_of_mem _ h3)
theorem lin_go {ops : Array Oper} (hedge : ∀ (i : Nat) (o : Oper) (e : Edge),ops.toList[i]? = some o → e ∈ o.after.toList → Region.binds .any e = true → e.on < i) : ∀ (f t : Nat) (listed : Array Bool) (acc : List Nat),listed.size = ops.size →
  (∀ i,listed.getD i false = true ↔ i ∈ acc) → acc.Nodup → (∀ i ∈ acc,i < ops.size) → cnt ops listed ≤ f →
  ∃ rest,Region.linearise.go .any ops f t listed acc = acc.reverse ++ rest ∧ Lin ops.toList acc rest ∧ (acc ++ rest).Nodup ∧ ∀ i,i < ops.size ↔ (i ∈ acc ∨ i ∈ rest)
 | 0,t,listed,acc,hsz,hl,hnd,hlt,hc=>by
  refine ⟨[],by simp [Region.linearise.go],trivial,by simpa using hnd,fun i=>⟨fun hi=>.inl ?_,fun h=>by simpa using h.elim (hlt i) (by simp)⟩⟩
  have hnil : (List.range ops.size).filter (fun i=>!listed.getD i true) = []:=List.eq_nil_of_length_eq_zero (Nat.le_zero.1 hc)
  rw [List.filter_eq_nil_iff] at hnil
  have:=hnil i (by simpa using hi)
  rw [← hl,getD_of_lt (by rw [hsz]; exact hi) false true]
  simpa using this
 | f + 1,t,listed,acc,hsz,hl,hnd,hlt,hc=>by
  simp only [Region.linearise.go]
  show ∃ rest,(match (Region.ready .any ops listed)[t % (Region.ready .any ops listed).length]? with
   | some i=>Region.linearise.go .any ops f (t / (Region.ready .any ops listed).length) (listed.setIfInBounds i true) (i :: acc)
   | none=>acc.reverse) = acc.reverse ++ rest ∧ Lin ops.toList acc rest ∧ (acc ++ rest).Nodup ∧ ∀ i,i < ops.size ↔ (i ∈ acc ∨ i ∈ rest)
  cases hr : (Region.ready .any ops listed)[t % (Region.ready .any ops listed).length]? with
  | none =>
   have hnil : Region.ready .any ops listed = []:=by
    cases hr' : Region.ready .any ops listed with
    | nil=>rfl
    | cons x xs =>
     rw [hr'] at hr
     have hlt : t % (x :: xs).length < (x :: xs).length:=Nat.mod_lt _ (by simp)
     simp at hr
     simp at hlt
     omega
   refine ⟨[],by simp,trivial,by simpa using hnd,fun i=>⟨fun hi=>.inl ?_,fun h=>by simpa using h.elim (hlt i) (by simp)⟩⟩
   rw [← hl]
   induction i using Nat.strongRecOn with
   | _ i ih =>
    refine Classical.byContradiction fun hn=>?_
    have : i ∈ Region.ready .any ops listed:=by
     unfold Region.ready
     rw [List.mem_filter]
     refine ⟨by simpa using hi,?_⟩
     rw [getD_of_lt (by rw [hsz]; exact hi) true false]
     simp only [Bool.not_eq_true] at hn
     rw [hn]
     rw [Array.getElem?_eq_getElem hi]
     simp only [Option.map_some,Option.getD_some,Bool.not_false,Bool.true_and]
     rw [← Array.all_toList,List.all_eq_true]
     intro e he
     cases hb : Region.binds .any e with
     | false=>simp
     | true =>
      have hlt':=hedge i ops[i] e (by simp [hi]) he hb
      simp only [Bool.not_true,Bool.false_or]
      exact ih e.on hlt' (by omega)
    rw [hnil] at this
    cases this
  | some i =>
   have hmem:=List.mem_of_getElem? hr
   unfold Region.ready at hmem
   rw [List.mem_filter] at hmem
   have hi : i < ops.size:=by simpa using hmem.1
   have hi' : i < listed.size:=by rw [hsz]; exact hi
   have ho : ops[i]? = some ops[i]:=Array.getElem?_eq_getElem hi
   have h2:=hmem.2
   rw [ho] at h2
   simp only [Option.map_some,Option.getD_some,Bool.and_eq_true,Bool.not_eq_true'] at h2
   obtain ⟨h2a,h2b⟩:=h2
   rw [← Array.all_toList,List.all_eq_true] at h2b
   have hni : i ∉ acc:=fun h=>by
    have:=(hl i).2 h
    rw [getD_of_lt hi' false true] at this
    rw [this] at h2a; cases h2a
   obtain ⟨rest,r1,r2,r3,r4⟩:=lin_go hedge f (t / (Region.ready .any ops listed).length) (listed.setIfInBounds i true) (i :: acc) (by simp [hsz]) (fun j=>by
     simp only [Array.getD_eq_getD_getElem?,List.mem_cons]
     by_cases e : i = j
     ·subst e
      rw [Array.getElem?_setIfInBounds_self_of_lt hi']
      simp
     ·rw [Array.getElem?_setIfInBounds_ne e]
      have:=hl j
      simp only [Array.getD_eq_getD_getElem?] at this
      simp [Ne.symm e,this]) (by simpa using ⟨hni,hnd⟩) (fun j hj=>by
     rcases List.mem_cons.1 hj with rfl | hj
     ·exact hi
     ·exact hlt j hj) (by
     have : cnt ops (listed.setIfInBounds i true) < cnt ops listed:=by
      unfold cnt
      refine filter_lt (fun x hx hp=>?_) ⟨i,by simpa using hi,?_,by simp [h2a]⟩
      ·by_cases e : i = x
       ·subst e; simp [h2a]
       ·simp only [Array.getD_eq_getD_getElem?,Array.getElem?_setIfInBounds_ne e] at hp
        simpa [Array.getD_eq_getD_getElem?] using hp
      ·simp only [Array.getD_eq_getD_getElem?,Array.getElem?_setIfInBounds_self_of_lt hi']
       rfl
     omega)
   refine ⟨i :: rest,?_,⟨fun o e ho' he hb=>?_,r2⟩,?_,fun j=>?_⟩
   ·simp only [r1]; simp
   ·have ho2 : ops.toList[i]? = some ops[i]:=by simp [hi]
    rw [ho2] at ho'; cases ho'
    have:=h2b e he
    rw [hb] at this
    exact (hl _).1 (by simpa using this)
   ·rw [List.nodup_append] at r3 ⊢
    simp only [List.nodup_cons,List.mem_cons] at r3 ⊢
    obtain ⟨⟨a1,a2⟩,a3,a4⟩:=r3
    refine ⟨a2,⟨fun h=>(a4 i (.inl rfl) i h) rfl,a3⟩,fun a ha b hb=>?_⟩
    rcases hb with rfl | hb
    ·rintro rfl; exact a1 ha
    ·exact a4 a (.inr ha) b hb
   ·rw [r4 j]; simp only [List.mem_cons]; rw [or_comm (a:=j = i),or_assoc]
def rdyB (all : List Oper) (done : List Nat) (i : Nat) : Bool:=match all[i]? with | some o=>o.after.toList.all fun e=>!Region.binds .any e || done.contains e.on | none=>false
def md0 (ws : List Nat) (i : Nat) : Nat:=bif ws.contains i then 2 else (bif ws.contains (i + 1000) then 5 else 0)
def indepB (all : List Oper) (ws : List Nat) (i j : Nat) : Bool:=match all[i]?,all[j]? with
 | some p,some q=>(match p.dst with | some d=>!(q.dst == some d) && !(looks all q).contains d | none=>true) && (match q.dst with | some d=>!(looks all p).contains d | none=>true) &&
   ((isPure p.op && !isW (md0 ws i) p.op) || (isPure q.op && !isW (md0 ws j) q.op) || !isW (md0 ws i) p.op)
 | _,_=>true
def eligB (all : List Oper) (T ws : List Nat) (rest : List Nat) (i : Nat) : Bool:=rest.all fun j=>i == j || (T.getD j 0).testBit i || indepB all ws i j
def cellR : Op → Bool
 | .load .. | .indexAddr ..=>true
 | .call c=>match c.callee with | .builtin .len=>true | _=>false
 | _=>false
def wayB (all : List Oper) (T ws : List Nat) (i j : Nat) : Bool:=!(i == j) && !(T.getD j 0).testBit i && (match all[j]? with | some q=>isW (md0 ws j) q.op | none=>true)
def mapB (all : List Oper) (j : Nat) : Bool:=match all[j]? with | some q=>isMapW q.op | none=>false
def cellB (all : List Oper) (ws : List Nat) (j : Nat) : Bool:=match all[j]? with | some q=>isCellK q.op || Nat.beq (md0 ws j) 5 | none=>false
def loadB : Op → Bool
 | .load ..=>true
 | _=>false
def looseB (all : List Oper) (T ws : List Nat) (rest : List Nat) (i : Nat) : Nat:=match all[i]? with
 | some p=>bif !isPure p.op && !isW (md0 ws i) p.op && rest.any (wayB all T ws i) then (bif cellR p.op && rest.all (fun j=>!wayB all T ws i j || mapB all j) then 3 else (bif loadB p.op && rest.all (fun j=>!wayB all T ws i j || cellB all ws j) then 4 else 1)) else md0 ws i
 | none=>0
def por (all : List Oper) (T ws : List Nat) : Nat → List Nat → List Nat → List (List (Nat × Nat))
 | 0,_,_=>[[]]
 | f + 1,done,rest =>
  match rest.find? fun i=>rdyB all done i && eligB all T ws rest i with
  | some i=>(por all T ws f (i :: done) (rest.erase i)).map fun l=>(i,looseB all T ws rest i) :: l
  | none=>match rest with
   | []=>[[]]
   | _=>(rest.filter (rdyB all done)).flatMap fun i=>(por all T ws f (i :: done) (rest.erase i)).map fun l=>(i,md0 ws i) :: l
section
variable {C : Ctx} {n : Nat} {all : List Oper} {T ws : List Nat} {K : List (Nat × V) → List Blk → Prop}
theorem rdy_of {done : List Nat} {i : Nat} (h : rdyB all done i = true) : ∀ (o : Oper) (e : Edge),all[i]? = some o → e ∈ o.after.toList → Region.binds .any e = true → e.on ∈ done:=fun o e ho he hb=>by
 unfold rdyB at h
 rw [ho] at h
 have:=List.all_eq_true.1 h e he
 rw [hb] at this
 simpa using this
def okMd (ws : List Nat) (i a : Nat) : Prop:=a = md0 ws i ∨ ((a = 1 ∨ a = 3 ∨ a = 4) ∧ md0 ws i = 0)
theorem okMd.isW {ws : List Nat} {i a : Nat} (h : okMd ws i a) (op : Op) : isW a op = isW (md0 ws i) op:=by
 rcases h with rfl | ⟨rfl | rfl | rfl,h⟩
 ·rfl
 ·rw [h]; rfl
 ·rw [h]; rfl
 ·rw [h]; rfl
theorem indep_of {i j : Nat} {a b : Nat} (ha : okMd ws i a) (hb : okMd ws j b) (h : indepB all ws i j = true) (hlo : ∀ p q,all[i]? = some p → all[j]? = some q → isPure p.op = false → isW (md0 ws i) p.op = false → isW (md0 ws j) q.op = true → a = 1 ∨ ((a = 3 ∨ a = 4) ∧ mdW a b q.op = true)) : ∀ p q,all[i]? = some p → all[j]? = some q → Indep all a b p q:=by
 intro p q hp hq
 unfold indepB at h
 rw [hp,hq] at h
 simp only [Bool.and_eq_true] at h
 obtain ⟨⟨h1,h2⟩,h3⟩:=h
 refine ⟨fun d hd=>?_,fun d hd=>?_,?_⟩
 ·rw [hd] at h1
  simp only [Bool.and_eq_true,Bool.not_eq_true',beq_eq_false_iff_ne,ne_eq] at h1
  exact ⟨h1.1,by simpa using h1.2⟩
 ·rw [hd] at h2; simpa using h2
 ·rw [ha.isW,hb.isW]
  simp only [Bool.or_eq_true,Bool.and_eq_true,Bool.not_eq_true'] at h3
  rcases h3 with (h3 | h3) | h3
  ·exact .inl h3
  ·exact .inr (.inl h3)
  ·cases hp' : isPure p.op with
   | true=>exact .inl ⟨rfl,h3⟩
   | false =>
    cases hw : Go.Tidy.isW (md0 ws j) q.op with
    | false=>exact .inr (.inr ⟨h3,.inr (.inr rfl)⟩)
    | true=>exact .inr (.inr ⟨h3,(hlo p q hp hq hp' h3 hw).elim .inl fun h=>.inr (.inl h)⟩)
theorem Runs.past {i a : Nat} : ∀ {l1 l2 : List (Nat × Nat)} {fr : List (Nat × V)} {L : List Blk},(∀ j ∈ l1,∀ p q,all[i]? = some p → all[j.1]? = some q → Indep all a j.2 p q) → Runs C n all ((i,a) :: (l1 ++ l2)) fr L K → Runs C n all (l1 ++ (i,a) :: l2) fr L K
 | [],_,_,_,_,h=>h
 | (j,b) :: l1,l2,fr,L,hin,h=>by
  obtain ⟨o,fr1,v,ex,L',h0,h1,h2,h3,h6,h5,h4⟩:=Runs.swap (hin (j,b) (by simp)) h
  exact ⟨o,fr1,v,ex,L',h0,h1,h2,h3,h6,h5,Runs.past (l1:=l1) (l2:=l2) (fun j hj=>hin j (List.mem_cons_of_mem _ hj)) h4⟩
theorem Runs.cons {i a : Nat} {l l' : List (Nat × Nat)} {fr : List (Nat × V)} {L : List Blk} (h : Runs C n all ((i,a) :: l) fr L K) (hl : ∀ fr L,Runs C n all l fr L K → Runs C n all l' fr L K) : Runs C n all ((i,a) :: l') fr L K:=by
 obtain ⟨o,fr1,v,ex,L',h0,h1,h2,h3,h6,h5,h4⟩:=h
 exact ⟨o,fr1,v,ex,L',h0,h1,h2,h3,h6,h5,hl _ _ h4⟩
theorem looseB_ok {rest : List Nat} {i : Nat} (hi : i < all.length) : okMd ws i (looseB all T ws rest i):=by
 unfold looseB
 rw [List.getElem?_eq_getElem hi]
 simp only []
 cases hb : (!isPure all[i].op && !Go.Tidy.isW (md0 ws i) all[i].op && rest.any (wayB all T ws i)) with
 | false=>exact .inl rfl
 | true =>
  have h0 : ∀ b c : Bool,(bif b then 3 else (bif c then 4 else 1)) = 1 ∨ (bif b then 3 else (bif c then 4 else 1)) = 3 ∨ (bif b then 3 else (bif c then 4 else 1)) = 4:=fun b c=>by cases b <;> cases c <;> simp
  refine .inr ⟨h0 _ _,?_⟩
  simp only [Bool.and_eq_true,Bool.not_eq_true'] at hb
  have:=hb.1.2
  unfold Go.Tidy.isW at this
  simp only [Bool.or_eq_false_iff] at this
  unfold md0 at this ⊢
  cases hc : ws.contains i with
  | false =>
   rw [hc] at this
   cases hd : ws.contains (i + 1000) with
   | false=>rfl
   | true=>rw [hd] at this; cases this.1.2
  | true=>rw [hc] at this; cases this.1.1
theorem por_ok (hs : ∀ (S : Nat → Prop),Down all S → ∀ (i j : Nat),i < all.length → (T.getD i 0).testBit j = true → S i → S j) : ∀ (f : Nat) (done rest l : List Nat),rest.length ≤ f → Down all (· ∈ done) → Lin all done l → l.Nodup → (∀ x,x ∈ l ↔ x ∈ rest) → rest.Nodup → (∀ x ∈ rest,x < all.length) → (∀ x ∈ rest,x ∉ done) →
  ∃ ord ∈ por all T ws f done rest,∃ l' : List (Nat × Nat),l'.map (·.1) = l ∧ (∀ x ∈ l',okMd ws x.1 x.2) ∧ ∀ fr L,Runs C n all ord fr L K → Runs C n all l' fr L K
 | 0,done,rest,l,hf,_,_,_,hm,_,_,_=>by
  have : rest = []:=List.eq_nil_of_length_eq_zero (by omega)
  subst this
  have : l = []:=List.eq_nil_iff_forall_not_mem.2 fun x hx=>by simpa using (hm x).1 hx
  subst this
  exact ⟨[],by simp [por],[],rfl,fun _ h=>(by cases h),fun _ _ h=>h⟩
 | f + 1,done,rest,l,hf,hd,hlin,hnd,hm,hrn,hlt,hdis=>by
  have step : ∀ i,i ∈ rest → rdyB all done i = true → ∀ l1 l2,l = l1 ++ i :: l2 → ∃ ord ∈ por all T ws f (i :: done) (rest.erase i),∃ l' : List (Nat × Nat),l'.map (·.1) = l1 ++ l2 ∧ (∀ x ∈ l',okMd ws x.1 x.2) ∧ ∀ fr L,Runs C n all ord fr L K → Runs C n all l' fr L K:=by
   rintro i hi hrd l1 l2 rfl
   have hlen : (rest.erase i).length < rest.length:=by rw [List.length_erase_of_mem hi]; have:=List.length_pos_of_mem hi; omega
   rw [List.nodup_append] at hnd
   simp only [List.nodup_cons,List.mem_cons] at hnd
   obtain ⟨n1,⟨n2,n3⟩,n4⟩:=hnd
   refine por_ok hs f (i :: done) (rest.erase i) (l1 ++ l2) (by omega) (fun x o e hx ho he hb=>?_) hlin.skip ?_ (fun x=>?_) (hrn.erase _) (fun x hx=>hlt x (List.mem_of_mem_erase hx)) (fun x hx=>?_)
   ·rcases List.mem_cons.1 hx with rfl | hx
    ·exact List.mem_cons_of_mem _ (rdy_of hrd o e ho he hb)
    ·exact List.mem_cons_of_mem _ (hd x o e hx ho he hb)
   ·rw [List.nodup_append]
    exact ⟨n1,n3,fun a ha b hb=>n4 a ha b (.inr hb)⟩
   ·rw [hrn.mem_erase_iff,← hm x]
    simp only [List.mem_append,List.mem_cons]
    constructor
    ·rintro (h | h)
     ·exact ⟨fun e=>(n4 x h i (.inl rfl)) e,.inl h⟩
     ·exact ⟨fun e=>n2 (e ▸ h),.inr (.inr h)⟩
    ·rintro ⟨h1,h | h | h⟩
     ·exact .inl h
     ·exact absurd h h1
     ·exact .inr h
   ·have:=(hrn.mem_erase_iff).1 hx
    simp only [List.mem_cons,not_or]
    exact ⟨this.1,hdis x this.2⟩
  unfold por
  cases hfi : rest.find? fun i=>rdyB all done i && eligB all T ws rest i with
  | some i =>
   have hp:=List.find?_some hfi
   have hi:=List.mem_of_find?_eq_some hfi
   simp only [Bool.and_eq_true] at hp
   obtain ⟨l1,l2,hl⟩:=List.append_of_mem ((hm i).2 hi)
   obtain ⟨ord,ho,l',e,hmd,hr⟩:=step i hi hp.1 l1 l2 hl
   obtain ⟨a,b,rfl,ha,hb⟩:=List.map_eq_append_iff.1 e
   refine ⟨(i,looseB all T ws rest i) :: ord,List.mem_map.2 ⟨ord,ho,rfl⟩,a ++ (i,looseB all T ws rest i) :: b,by rw [hl,List.map_append,List.map_cons,ha,hb],fun x hx=>?_,fun fr L h=>?_⟩
   ·rcases List.mem_append.1 hx with hx | hx
    ·exact hmd x (List.mem_append_left _ hx)
    ·rcases List.mem_cons.1 hx with rfl | hx
     ·exact looseB_ok (hlt i hi)
     ·exact hmd x (List.mem_append_right _ hx)
   refine Runs.past (fun jb hjb=>?_) (h.cons hr)
   obtain ⟨j,bb⟩:=jb
   have hj : j ∈ l1:=ha ▸ List.mem_map_of_mem (f:=(·.1)) hjb
   have hjl : j ∈ l:=by rw [hl]; simp [hj]
   have hjr:=(hm j).1 hjl
   have hij : i ≠ j:=by
    rintro rfl
    rw [hl,List.nodup_append] at hnd
    exact hnd.2.2 _ hj _ (by simp) rfl
   have hna : (T.getD j 0).testBit i = false:=by
    cases hb : (T.getD j 0).testBit i with
    | false=>rfl
    | true =>
     have hdn:=Lin.down (l1:=l1) (l2:=i :: l2) hd (hl ▸ hlin)
     rcases hs _ hdn j i (hlt j hjr) hb (.inr hj) with h | h
     ·exact absurd h (hdis i hi)
     ·rw [hl,List.nodup_append] at hnd
      exact absurd rfl (hnd.2.2 i h i (by simp))
   have hel:=List.all_eq_true.1 hp.2 j hjr
   rw [hna] at hel
   simp only [Bool.or_false,Bool.or_eq_true,beq_iff_eq] at hel
   refine indep_of (looseB_ok (hlt i hi)) (hmd (j,bb) (List.mem_append_left _ hjb)) (hel.resolve_left hij) fun p q hp' hq' a1 a2 a3=>?_
   unfold looseB
   rw [hp']
   simp only [a1,a2,Bool.not_false,Bool.true_and]
   have hway : wayB all T ws i j = true:=by unfold wayB; rw [hna,hq']; simp [hij,a3]
   have : rest.any (wayB all T ws i) = true:=List.any_eq_true.2 ⟨j,hjr,hway⟩
   rw [this]
   simp only [cond_true]
   cases hc : (cellR p.op && rest.all fun j=>!wayB all T ws i j || mapB all j) with
   | false =>
    simp only [cond_false]
    cases hc : (loadB p.op && rest.all fun j=>!wayB all T ws i j || cellB all ws j) with
    | false=>exact .inl rfl
    | true =>
     refine .inr ⟨.inr rfl,?_⟩
     rw [Bool.and_eq_true] at hc
     have:=List.all_eq_true.1 hc.2 j hjr
     rw [hway] at this
     simp only [Bool.not_true,Bool.false_or,cellB,hq',Bool.or_eq_true] at this
     show (isCellK q.op || Nat.beq bb 5) = true
     rw [Bool.or_eq_true]
     refine this.imp id fun e=>?_
     rcases hmd (j,bb) (List.mem_append_left _ hjb) with e2 | ⟨_,e2⟩
     ·simp only at e2; rw [e2]; exact e
     ·simp only at e2; rw [e2] at e; cases e
   | true =>
    refine .inr ⟨.inl rfl,?_⟩
    rw [Bool.and_eq_true] at hc
    have:=List.all_eq_true.1 hc.2 j hjr
    rw [hway] at this
    simp only [Bool.not_true,Bool.false_or,mapB,hq'] at this
    exact this
  | none =>
   cases rest with
   | nil =>
    have : l = []:=List.eq_nil_iff_forall_not_mem.2 fun x hx=>by simpa using (hm x).1 hx
    subst this
    exact ⟨[],by simp,[],rfl,fun _ h=>(by cases h),fun _ _ h=>h⟩
   | cons r0 rs =>
    cases l with
    | nil=>exact absurd ((hm r0).2 (by simp)) (by simp)
    | cons x l2 =>
     have hx:=(hm x).1 (by simp)
     have hrd : rdyB all done x = true:=by
      unfold rdyB
      rw [List.getElem?_eq_getElem (hlt x hx)]
      simp only [List.all_eq_true]
      intro e he
      cases hb : Region.binds .any e with
      | false=>simp
      | true=>simpa using hlin.1 _ e (List.getElem?_eq_getElem (hlt x hx)) he hb
     obtain ⟨ord,ho,l',e,hmd,hr⟩:=step x hx hrd [] l2 rfl
     refine ⟨(x,md0 ws x) :: ord,List.mem_flatMap.2 ⟨x,List.mem_filter.2 ⟨hx,hrd⟩,List.mem_map.2 ⟨ord,ho,rfl⟩⟩,(x,md0 ws x) :: l',by rw [List.map_cons,e]; rfl,fun y hy=>?_,fun fr L h=>h.cons hr⟩
     rcases List.mem_cons.1 hy with rfl | hy
     ·exact .inl rfl
     ·exact hmd y hy
def qAll (C : Ctx) (n : Nat) (all : List Oper) : List (List (Nat × Nat)) → List (Nat × V) → List Blk → (List (Nat × V) → List Blk → Prop) → Prop
 | [],_,_,_=>True
 | [o],fr,L,K=>qOrd C n all o fr L K
 | o :: os,fr,L,K=>qOrd C n all o fr L K ∧ qAll C n all os fr L K
theorem qAll_mem : ∀ {os : List (List (Nat × Nat))} {fr : List (Nat × V)} {L : List Blk},qAll C n all os fr L K → ∀ o ∈ os,qOrd C n all o fr L K
 | [],_,_,_,o,ho=>by cases ho
 | [o],_,_,h,o',ho=>by
  have : o' = o:=by simpa using ho
  exact this ▸ h
 | o :: o2 :: os,_,_,⟨h1,h2⟩,o',ho=>by
  rcases List.mem_cons.1 ho with rfl | ho
  ·exact h1
  ·exact qAll_mem h2 o' ho
end
def porB (all : List Oper) : Bool :=
 let T:=tblGo all []
 all.zipIdx.all fun p=>(p.1.after.toList.all fun e=>!Region.binds .any e || Nat.blt e.on p.2) && Nat.beq (maskOf T p.1 ||| T.getD p.2 0) (maskOf T p.1)
def porOf (ops : Array Oper) (ws : List Nat) : List (List (Nat × Nat)):=por ops.toList (tblGo ops.toList []) ws ops.size [] (List.range ops.size)
theorem DrawP.por {C : Ctx} {n : Nat} {ops : Array Oper} {fr : List (Nat × V)} {L : List Blk} {K : List (Nat × V) → List Blk → Prop} (hm : C.P.follows .mixedOrders = true) (ws : List Nat) (os : List (List (Nat × Nat))) (hst : (porB ops.toList && decide (porOf ops ws = os)) = true)
  (h : qAll C n ops.toList os fr L K) : DrawP C n ops fr L K:=by
 rw [Bool.and_eq_true] at hst
 obtain ⟨hst,hos⟩:=hst
 have hos:=of_decide_eq_true hos
 subst hos
 unfold porB at hst
 simp only [List.all_eq_true,Bool.and_eq_true] at hst
 have mem : ∀ (i : Nat) (o : Oper),ops.toList[i]? = some o → (o,i) ∈ ops.toList.zipIdx:=fun i o ho=>by
  rw [List.mem_zipIdx_iff_getElem?]; exact ho
 have hedge : ∀ (i : Nat) (o : Oper) (e : Edge),ops.toList[i]? = some o → e ∈ o.after.toList → Region.binds .any e = true → e.on < i:=fun i o e ho he hb=>by
  have:=(hst (o,i) (mem i o ho)).1 e he
  simpa [hb,Nat.blt_eq] using this
 have htbl : ∀ (i : Nat) (o : Oper) (j : Nat),ops.toList[i]? = some o → ((tblGo ops.toList []).getD i 0).testBit j = true → ∃ e ∈ o.after.toList,Region.binds .any e = true ∧ (j = e.on ∨ ((tblGo ops.toList []).getD e.on 0).testBit j = true):=fun i o j ho hj=>by
  have heq:=Nat.eq_of_beq_eq_true (hst (o,i) (mem i o ho)).2
  have hm : (maskOf (tblGo ops.toList []) o).testBit j = true:=by
   rw [← heq,Nat.testBit_or,hj,Bool.or_true]
  unfold maskOf at hm
  rcases maskGo_bit _ _ hm with h0 | h1
  ·simp at h0
  ·exact h1
 have anc : ∀ (S : Nat → Prop),Down ops.toList S → ∀ (i j : Nat),i < ops.toList.length → ((tblGo ops.toList []).getD i 0).testBit j = true → S i → S j:=by
  intro S hd i
  induction i using Nat.strongRecOn with
  | _ i ih =>
   intro j hi hj hS
   obtain ⟨e,he,hb,hh⟩:=htbl i ops.toList[i] j (List.getElem?_eq_getElem hi) hj
   have hlt:=hedge i ops.toList[i] e (List.getElem?_eq_getElem hi) he hb
   have hSe:=hd i _ e hS (List.getElem?_eq_getElem hi) he hb
   rcases hh with rfl | hh
   ·exact hSe
   ·exact ih e.on hlt j (by omega) hh hSe
 unfold DrawP
 intro t
 simp only [Region.schedule,hm,Bool.true_or,if_true,Region.linearise]
 have hz : ∀ j,(Array.replicate ops.size false).getD j false = false:=fun j=>by
  simp only [Array.getD_eq_getD_getElem?,Array.getElem?_replicate]
  split <;> rfl
 obtain ⟨rest,r1,r2,r3,r4⟩:=lin_go hedge ops.size t (Array.replicate ops.size false) [] (by simp) (fun j=>by rw [hz]; simp) (by simp) (by simp) (by
  unfold cnt
  exact Nat.le_trans (List.length_filter_le _ _) (by simp))
 simp only [List.reverse_nil,List.nil_append] at r1 r3
 rw [r1]
 obtain ⟨ord,ho,l',e,_,hr⟩:=por_ok (ws:=ws) (C:=C) (n:=n) (K:=K) anc ops.size [] (List.range ops.size) rest (by simp) (fun i o e hi=>by cases hi) r2 r3 (fun x=>by rw [List.mem_range,r4 x]; simp) List.nodup_range (fun x hx=>by simpa using hx) (fun x _=>by simp)
 have:=(hr fr L (qOrd_runs _ _ _ (qAll_mem h ord ho))).vc
 rw [e] at this
 simpa using this
end Go.Tidy
/-
 The base layer: a nil slice that is returned,as an empty row of the caller's own.
-/
namespace Go.Tidy
theorem FinP.nilOwn {k0 sz gen : Nat} {L : List Blk} {k : V → List Blk → Prop} (hsz : 0 < sz) (h : k (.own L.length gen 0 0) (L ++ [.row gen sz []])) : FinP k0 .nil L k:=by
 unfold FinP
 refine ⟨.own L.length gen 0 0,L ++ [.row gen sz []],fun g w v hg hk0 hv=>?_,h⟩
 cases hv with
 | nil =>
  have hp:=add_prog hg (Ext.refl w) (.row gen sz []) none (fun q h=>by cases h) 0
  exact ⟨g.add L.length none 0,add_good hg (Ext.refl w) none (fun q h=>by cases h) 0 ⟨hsz,by simp,.inl ⟨by simp [Gh.add],rfl⟩⟩,.ownN _ _ sz [] (by simp) (by simp [Gh.add]),hp.le hk0 (Nat.le_refl _)⟩
end Go.Tidy
namespace Go.Tidy
inductive CvLL (S : Nat → Prop) (L : List Blk) : List (List V) → List (List D) → Prop
 | nil : CvLL S L [] []
 | cons {x : List V} {y : List D} {xs : List (List V)} {ys : List (List D)} (h : CvL S L x y) (hs : CvLL S L xs ys) : CvLL S L (x :: xs) (y :: ys)
theorem CvLL.get {S : Nat → Prop} {L : List Blk} : ∀ {xs : List (List V)} {ys : List (List D)},CvLL S L xs ys → xs.length = ys.length ∧ ∀ (i j : Nat) (x : V) (y : D),(xs[i]?).bind (fun e=>e[j]?) = some x → (ys[i]?).bind (fun e=>e[j]?) = some y → Cv S L x y
 | _,_,.nil=>⟨rfl,fun i j x y hx=>by simp at hx⟩
 | _,_,.cons h hs=>by
  obtain ⟨h1,h2⟩:=hs.get
  refine ⟨by simp [h1],fun i j x y hx hy=>?_⟩
  cases i with
  | zero=>exact h.get.2 j x y (by simpa using hx) (by simpa using hy)
  | succ i=>exact h2 i j x y (by simpa using hx) (by simpa using hy)
theorem Cv.rowL {S : Nat → Prop} {L : List Blk} {b gen lo len sz : Nat} {els : List (List V)} {ds : List (List D)} (hb : S b) (hL : L[b]? = some (.row gen sz els)) (h : CvLL S L ((els.drop lo).take len) ds) (hl : len = ds.length) (hrow : ∀ e ∈ ds,e.length = sz) :
  Cv S L (.own b gen lo len) (.sl ds):=.own b gen lo len sz els ds hb hL h.get.1 hl hrow h.get.2
end Go.Tidy
namespace Go.Tidy
theorem Weak.re {σ σ' : TS} (bs : List Nat) (hfr : SubF σ.fr (rnF (rnI bs σ.L.length) σ'.fr)) (hget : bs.map (fun c=>σ.L[c]?) = σ'.L.map (fun x=>some (x.rn (rnI bs σ.L.length)))) (hnd : bs.Nodup) (hlt : bs.all (fun b=>decide (b < σ.L.length)) = true)
  (hbel : belB σ'.L.length σ'.L = true:=by rfl) (hdfB : dfB σ'.L = true:=by rfl) (hf : belF σ'.L.length σ'.fr = true:=by rfl) (hn : σ'.n = σ.n:=by rfl) (h2 : σ.df = []:=by rfl) (h2' : σ'.df = []:=by rfl) (h3 : σ.ro = none:=by rfl) (h3' : σ'.ro = none:=by rfl) : Weak 0 σ σ':=by
 have hlen : bs.length = σ'.L.length:=by simpa using congrArg List.length hget
 refine Weak.part bs ⟨hnd,fun b hb=>of_decide_eq_true (List.all_eq_true.1 hlt b hb),hlen,fun b c hb=>?_,hbel,hdfB⟩ (fun b hb=>absurd hb (Nat.not_lt_zero b)) hfr hn hf (by rw [h2,h2']; rfl) (by rw [h2']; intro b hb; cases hb) (by rw [h3,h3']; rfl) (by rw [h3']; intro b hb; cases hb)
 have h1 : (bs.map (fun c=>σ.L[c]?))[b]? = some (σ.L[c]?):=by rw [List.getElem?_map,hb]; rfl
 rw [hget,List.getElem?_map] at h1
 cases hx : σ'.L[b]? with
 | none=>rw [hx] at h1; cases h1
 | some x=>rw [hx] at h1; simpa using h1.symm
end Go.Tidy
namespace Go.Tidy
def VC (n : Nat) (L : List Blk) (x y : V) : Prop:=(x = y ∧ x.bel n = true) ∨ Cw (fun b=>n ≤ b) L x y
def BC (n : Nat) (L : List Blk) (x y : Blk) : Prop :=
 (x = y ∧ x.bel n = true) ∨
 (∃ gen sz els els',x = .row gen sz els ∧ y = .row gen sz els' ∧ els.length = els'.length ∧ (∀ e ∈ els',e.length = sz) ∧ ∀ (i j : Nat) (e e' : List V) (u v : V),els[i]? = some e → els'[i]? = some e' → e[j]? = some u → e'[j]? = some v → VC n L u v) ∨
 (∃ cs cs',x = .cells cs ∧ y = .cells cs' ∧ cs.length = cs'.length ∧ ∀ (j : Nat) (u v : V),cs[j]? = some u → cs'[j]? = some v → VC n L u v)
def FC (n : Nat) (L : List Blk) (fr : List (Nat × V)) : List (Nat × V) → Prop
 | []=>True
 | p :: q=>(norm (look fr p.1) = norm p.2 ∧ p.2.bel n = true ∨ Cw (fun b=>n ≤ b) L (look fr p.1) p.2) ∧ FC n L fr q
theorem FC.look {n : Nat} {L : List Blk} {fr : List (Nat × V)} : ∀ {fr' : List (Nat × V)},FC n L fr fr' → ∀ i,Tidy.look fr' i = .poison ∨ (norm (Tidy.look fr i) = norm (Tidy.look fr' i) ∧ (Tidy.look fr' i).bel n = true) ∨ Cw (fun b=>n ≤ b) L (Tidy.look fr i) (Tidy.look fr' i)
 | [],_,i=>.inl rfl
 | (d,v) :: q,h,i=>by
  rw [look_cons]
  split
  ·rename_i e; subst e; exact .inr h.1
  ·exact FC.look h.2 i
theorem BC.live {n : Nat} {L : List Blk} {x y : Blk} (h : BC n L x y) : y ≠ .dead → x ≠ .dead:=by
 rcases h with ⟨rfl,_⟩ | ⟨_,_,_,_,rfl,rfl,_⟩ | ⟨_,_,rfl,rfl,_⟩
 ·exact id
 ·intro _ h; cases h
 ·intro _ h; cases h
theorem Weak.thaw {k : Nat} {σ σ' : TS} (n : Nat) (hk : k ≤ n) (hn : n ≤ σ.L.length) (hlen : σ'.L.length = n) (hfr : FC n σ.L σ.fr σ'.fr) (hB : ∀ (b : Nat) (x y : Blk),σ.L[b]? = some x → σ'.L[b]? = some y → BC n σ.L x y)
  (h1 : σ'.n = σ.n:=by rfl) (h2 : σ.df = []:=by rfl) (h2' : σ'.df = []:=by rfl) (h3 : σ'.ro = σ.ro:=by rfl) (h3' : ∀ lb,σ.ro = some lb → lb < n:=by intro _ h; cases h) : Weak k σ σ':=by
 intro r g a w hs
 have hg:=hs.good
 let g' : Gh:={ g with I:=fun q=>g.I q ∨ ∃ b,n ≤ b ∧ live σ.L b ∧ g.m b = some q }
 have ex : ∀ b,b < n → ∃ x y,σ.L[b]? = some x ∧ σ'.L[b]? = some y ∧ BC n σ.L x y:=fun b hb =>
  ⟨σ.L[b]'(by omega),σ'.L[b]'(by omega),List.getElem?_eq_getElem _,List.getElem?_eq_getElem _,hB b _ _ (List.getElem?_eq_getElem _) (List.getElem?_eq_getElem _)⟩
 have hkeep : ∀ b,b < n → Keep g σ.L g' σ'.L b:=by
  intro b hb
  obtain ⟨x,y,hx,hy,⟨rfl,_⟩ | ⟨gen,sz,els,els',rfl,rfl,hl,_⟩ | ⟨cs,cs',rfl,rfl,_⟩⟩:=ex b hb
  ·exact Keep.same (hy.trans hx.symm) rfl rfl
  ·refine ⟨fun cs h=>?_,fun gen' sz' els0 h=>?_,fun es h=>?_,fun l h=>?_,fun h=>?_⟩ <;> rw [hx] at h <;> cases h
   exact .inr ⟨gen,sz,els',hy,.inr ⟨rfl,rfl,rfl,rfl,hl.symm⟩⟩
  ·refine ⟨fun cs0 h=>?_,fun gen' sz' els0 h=>?_,fun es h=>?_,fun l h=>?_,fun h=>?_⟩ <;> rw [hx] at h <;> cases h
   exact .inr ⟨cs',hy,rfl⟩
 have hmono : ∀ (x : V) (v : Value),x.bel n = true → RV g w σ.L x v → RV g' w σ'.L x v:=fun x v hx h =>
  RV.mono (g:=g) (g':=g') (fun q hq=>.inl hq) (fun a v _ h=>h) hkeep hx h
 have hcw : ∀ (x y : V) (v : Value),Cw (fun b=>n ≤ b) σ.L x y → RV g w σ.L x v → RV g' w σ'.L y v:=fun x y v h hv =>
  h.rv hg (g':=g') (fun q hq=>.inl hq) (fun b q hb hl hm=>.inr ⟨b,hb,hl,hm⟩) hv
 have hvc : ∀ (x y : V) (v : Value),VC n σ.L x y → RV g w σ.L x v → RV g' w σ'.L y v:=by
  rintro x y v (⟨rfl,hb⟩ | h) hv
  ·exact hmono x v hb hv
  ·exact hcw x y v h hv
 have hlive : ∀ b,live σ'.L b → b < n ∧ live σ.L b:=by
  rintro b ⟨y,hy,hd⟩
  have hb : b < n:=by have:=lt_of_get hy; omega
  obtain ⟨x,y',hx,hy',hbc⟩:=ex b hb
  rw [hy] at hy'; cases hy'
  exact ⟨hb,x,hx,hbc.live hd⟩
 have hgood : Good g' w σ'.L:=by
  refine ⟨fun b b' q l1 l2 m1 m2=>hg.inj b b' q (hlive b l1).2 (hlive b' l2).2 m1 m2,?_,?_,fun b y hy=>?_,hg.gl.mono (fun q hq=>.inl hq) (fun a v _ h=>h)⟩
  ·rintro q ⟨b,hl,hm⟩ hI
   obtain ⟨hb,hl'⟩:=hlive b hl
   rcases hI with hI | ⟨b',hb',hl2,hm2⟩
   ·exact hg.dis q ⟨b,hl',hm⟩ hI
   ·have:=hg.inj b b' q hl' hl2 hm hm2; omega
  ·rintro q (hI | ⟨b',_,hl2,hm2⟩)
   ·exact hg.lt q hI
   ·exact hg.owned_lt ⟨b',hl2,hm2⟩
  ·have hb : b < n:=by have:=lt_of_get hy; omega
   obtain ⟨x,y',hx,hy',hbc⟩:=ex b hb
   rw [hy] at hy'; cases hy'
   have hR:=hg.blk b x hx
   rcases hbc with ⟨rfl,hbel⟩ | ⟨gen,sz,els,els',rfl,rfl,hl,hsz,hv⟩ | ⟨cs,cs',rfl,rfl,hl,hv⟩
   ·refine RB.mono_bel hbel hmono rfl rfl (fun _ _ _ h=>h) (fun l hl=>⟨rfl,fun h=>?_⟩) hR
    subst hl
    simp only [Blk.bel,Bool.and_eq_true,decide_eq_true_eq] at hbel
    obtain ⟨x0,y0,hx0,hy0,hbc0⟩:=ex _ hbel.2
    rw [h] at hx0; cases hx0
    rcases hbc0 with ⟨rfl,_⟩ | ⟨_,_,_,_,e,_⟩ | ⟨_,_,e,_⟩
    ·exact hy0
    ·cases e
    ·cases e
   ·obtain ⟨hs0,hels,hrow⟩:=hR
    refine ⟨hs0,hsz,?_⟩
    rcases hrow with ⟨hm,he⟩ | ⟨q,cur,T,hm,hh,hcap,hbig,hone,hrc⟩
    ·left
     subst he
     exact ⟨hm,List.eq_nil_of_length_eq_zero (by simpa using hl.symm)⟩
    ·right
     refine ⟨q,cur,T,hm,hh,hcap,by rw [← hl]; exact hbig,hone,fun i j v u hu hcur=>?_⟩
     cases e' : els'[i]? with
     | none=>rw [e'] at hu; simp at hu
     | some E' =>
     have hi:=lt_of_get e'
     have e1 : els[i]? = some (els[i]'(by omega)):=List.getElem?_eq_getElem _
     rw [e'] at hu
     simp only [Option.bind_some] at hu
     have hj:=lt_of_get hu
     have hE':=hsz E' (List.mem_of_getElem? e')
     have hE:=hels _ (List.getElem_mem (show i < els.length by omega))
     have e2 : (els[i]'(by omega))[j]? = some ((els[i]'(by omega))[j]'(by omega)):=List.getElem?_eq_getElem _
     refine hvc _ _ _ (hv i j _ _ _ _ e1 e' e2 hu) (hrc i j _ u ?_ hcur)
     rw [e1]; exact e2
   ·obtain ⟨q,cur,T,hm,hh,hsz,hone,hrc⟩:=hR
    refine ⟨q,cur,T,hm,hh,by omega,hone,fun i v u hu hcur=>?_⟩
    have hi:=lt_of_get hu
    have e1 : cs[i]? = some (cs[i]'(by omega)):=List.getElem?_eq_getElem _
    exact hvc _ _ _ (hv i _ _ e1 hu) (hrc i _ u e1 hcur)
 refine ⟨g',⟨hs.n.trans h1.symm,fun i=>?_,hgood,by omega,by rw [hs.df,h2,h2'],fun i b d hb _=>?_,fun lb hlb=>?_,fun h=>hs.ro' (h3.symm.trans h)⟩,⟨rfl,rfl,rfl⟩,Nat.le_refl _,fun _ _ h _=>h,?_,?_,fun q hq=>.inl hq,fun x v hx h=>hmono x v (V.bel_le hk x hx) h,fun b q hb hL hm=>?_,fun _=>by omega⟩
 ·rcases hfr.look i with h | ⟨h,hb⟩ | h
  ·rw [h]; exact .poison _
  ·exact hmono _ _ hb (norm_eq h (hs.fr i))
  ·exact hcw _ _ _ h (hs.fr i)
 ·rw [h2'] at hb; simp at hb
 ·rw [h3] at hlb
  obtain ⟨l,y1,y2⟩:=hs.ro lb hlb
  exact ⟨l,y1,hmono _ _ (by simpa [V.bel] using h3' lb hlb) y2⟩
 ·rintro q ⟨b,hl,hm⟩ _
  exact ⟨b,(hlive b hl).2,hm⟩
 ·rintro q (hI | ⟨b,_,hl,hm⟩)
  ·exact .inl hI
  ·exact .inr (.inr ⟨b,hl,hm⟩)
 ·obtain ⟨x,y,hx,hy,hbc⟩:=ex b (by omega)
  rw [hL] at hx; cases hx
  rcases hbc with ⟨rfl,_⟩ | ⟨_,_,_,_,e,_⟩ | ⟨_,_,e,_⟩
  ·exact ⟨hy,hm⟩
  ·cases e
  ·cases e
end Go.Tidy
namespace Go.Tidy
theorem LoopP.introI {k : Nat} {body : TS → (Exit → TS → Prop) → Prop} {σ : TS} {Q : Exit → TS → Prop} {α : Type} (I : α → Prop) (s : α → TS) (μ : α → Nat) (i0 : α) (hi0 : I i0) (h0 : Weak k σ (s i0))
  (h : ∀ i,I i → body (s i) fun e σ'=>match e with
   | .normal=>∃ j,I j ∧ μ j < μ i ∧ Weak k σ' (s j)
   | e=>Q e σ') (hb : ∀ σ R R',(∀ e σ',R e σ' → R' e σ') → body σ R → body σ R') : LoopP k body σ Q:=by
 refine LoopP.intro (ι:={ a : α // I a }) (fun a=>s a.1) (fun a=>μ a.1) ⟨i0,hi0⟩ h0 ?_
 intro a
 refine hb _ _ _ ?_ (h a.1 a.2)
 intro e σ' hr
 cases e with
 | normal=>obtain ⟨j,hj,hm,hw⟩:=hr; exact ⟨⟨j,hj⟩,hm,hw⟩
 | _=>exact hr
theorem LoopP.inv {C : Ctx} {cut : Code → Bool} {c : Code} {k : Nat} {σ : TS} {Q : Exit → TS → Prop} {α : Type} (I : α → Prop) (s : α → TS) (μ : α → Nat) (i0 : α) (hi0 : I i0) (h0 : Weak k σ (s i0))
  (h : ∀ i,I i → vc C cut k c (s i) fun e σ'=>match e with
   | .normal=>∃ j,I j ∧ μ j < μ i ∧ Weak k σ' (s j)
   | e=>Q e σ') : LoopP k (vc C cut k c) σ Q :=
 LoopP.introI I s μ i0 hi0 h0 h fun σ R R' hr=>vc_mono c σ R R' hr
end Go.Tidy
namespace Go.Tidy
section
variable {C : Ctx} {L L0 : List Blk}
theorem rnF_id {ρ : Nat → Nat} {k : Nat} (hρ : ∀ b,b < k → ρ b = b) : ∀ fr : List (Nat × V),belF k fr = true → rnF ρ fr = fr
 | [],_=>rfl
 | p :: r,h=>by simp only [belF,Bool.and_eq_true] at h; simp only [rnF,V.rn_id hρ _ h.1,rnF_id hρ r h.2]
theorem rnM_id {ρ : Nat → Nat} {k : Nat} (hρ : ∀ b,b < k → ρ b = b) : ∀ fr : List (V × V),belM k fr = true → rnM ρ fr = fr
 | [],_=>rfl
 | p :: r,h=>by simp only [belM,Bool.and_eq_true] at h; simp only [rnM,V.rn_id hρ _ h.1.1,V.rn_id hρ _ h.1.2,rnM_id hρ r h.2]
theorem rnR_id {ρ : Nat → Nat} {k : Nat} (hρ : ∀ b,b < k → ρ b = b) : ∀ fr : List (List V),belR k fr = true → rnR ρ fr = fr
 | [],_=>rfl
 | p :: r,h=>by simp only [belR,Bool.and_eq_true] at h; simp only [rnR,V.rnL_id hρ _ h.1,rnR_id hρ r h.2]
theorem Blk.rn_id {ρ : Nat → Nat} {k : Nat} (hρ : ∀ b,b < k → ρ b = b) (x : Blk) (h : x.bel k = true) : x.rn ρ = x:=by
 cases x with
 | cells cs=>simp only [Blk.bel] at h; simp only [Blk.rn,V.rnL_id hρ _ h]
 | row g sz els=>simp only [Blk.bel] at h; simp only [Blk.rn,rnR_id hρ _ h]
 | map es=>simp only [Blk.bel] at h; simp only [Blk.rn,rnM_id hρ _ h]
 | loop l =>
  simp only [Blk.bel,Bool.and_eq_true,decide_eq_true_eq] at h
  simp only [Blk.rn,rnF_id hρ _ h.1,hρ _ h.2]
 | defr=>rfl
 | dead=>rfl
theorem rnB_id {ρ : Nat → Nat} {k : Nat} (hρ : ∀ b,b < k → ρ b = b) : ∀ l : List Blk,belB k l = true → rnB ρ l = l
 | [],_=>rfl
 | p :: r,h=>by simp only [belB,Bool.and_eq_true] at h; simp only [rnB,Blk.rn_id hρ _ h.1,rnB_id hρ r h.2]
theorem rnI_range {n N b : Nat} (hb : b < n) : rnI (List.range n) N b = b:=by
 unfold rnI; rw [List.getElem?_range hb]
theorem putB_seg : ∀ (A0 A B E : List Blk),A.length = B.length → putB (List.range' A0.length A.length) B (A0 ++ (A ++ E)) = A0 ++ (B ++ E)
 | A0,[],[],E,_=>by simp [putB]
 | A0,a :: A,b :: B,E,h=>by
  simp only [List.length_cons,List.range'_succ,putB]
  have e1 : (A0 ++ (a :: A ++ E)).set A0.length b = (A0 ++ [b]) ++ (A ++ E):=by simp
  have e2 : A0.length + 1 = (A0 ++ [b]).length:=by simp
  rw [e1,e2,putB_seg (A0 ++ [b]) A B E (by simpa using h)]
  simp
theorem putB_range {S B E : List Blk} (h : B.length = S.length) : putB (List.range S.length) B (S ++ E) = B ++ E:=by
 rw [List.range_eq_range']
 simpa using putB_seg [] S B E h.symm
theorem Part.pre {S E : List Blk} (hb : belB S.length S = true) (hd : dfB S = true) : Part (List.range S.length) S (S ++ E):=by
 refine ⟨List.nodup_range,fun b hb=>?_,by simp,fun b c hc=>?_,hb,hd⟩
 ·have:=List.mem_range.1 hb; rw [List.length_append]; omega
 ·have hlt:=lt_of_get hc
  rw [List.length_range] at hlt
  rw [List.getElem?_range hlt] at hc
  cases hc
  rw [List.getElem?_append_left hlt,List.getElem?_eq_getElem hlt]
  simp only [Option.map_some]
  rw [Blk.rn_id (k:=S.length) (fun c hc=>rnI_range hc) _ (belB_get hb (List.getElem?_eq_getElem hlt))]
def YR (N : Nat) (k : V → List Blk → Prop) (P : Prop) (M : List Blk) (v : V) (M' : List Blk) : Prop :=
 (v = .d (.bool true) ∧ M' = M ∧ P) ∨ (v = .d (.bool false) ∧ M'.length = N ∧ belB N M' = true ∧ k (.tup []) M')
def IterP (C : Ctx) (f : FuncId) (caps : List D) (xs : List (List V)) : Prop :=
 ∀ (b N : Nat) (P : Nat → Prop) (S : Nat → List Blk) (k : V → List Blk → Prop),(∀ i,(S i).length = N) → (∀ i,belB N (S i) = true) → (∀ i,dfB (S i) = true) → b < N →
  (∀ (i : Nat) (hi : i < xs.length),P i → YieldP C b xs[i] (S i) (YR N k (P (i + 1)) (S (i + 1)))) → (P xs.length → k (.tup []) (S xs.length)) → P 0 → CallP C f (.yld b :: caps.map .d) (S 0) k
theorem YieldP.conv {b : Nat} {args : List V} {L L' : List Blk} {k : V → List Blk → Prop} (hL : L = L') (h : YieldP C b args L' k) : YieldP C b args L k:=by subst hL; exact h
end
end Go.Tidy
/-
 The base layer: a part of the memory,in contexts in which calls may end by a panic.
-/
namespace Go.Tidy
section
variable {C : Ctx} {L L0 : List Blk}
def IterQ (C : Ctx) (f : FuncId) (caps : List D) (xs : List (List V)) : Prop :=
 ∀ (b N : Nat) (P : Nat → Prop) (S : Nat → List Blk) (k : V → List Blk → Prop),C.pn ≤ N → (∀ i,(S i).length = N) → (∀ i,belB N (S i) = true) → (∀ i,dfB (S i) = true) → b < N →
  (∀ (i : Nat) (hi : i < xs.length),P i → YieldP C b xs[i] (S i) (YR N k (P (i + 1)) (S (i + 1)))) → (P xs.length → k (.tup []) (S xs.length)) → P 0 → CallP C f (.yld b :: caps.map .d) (S 0) k
theorem IterQ.p {f : FuncId} {caps : List D} {xs : List (List V)} (h : IterQ C f caps xs) (hn : C.pn = 0) : IterP C f caps xs :=
 fun b N P S k h1 h2 h3 h4 h5 h6 h7=>h b N P S k (by omega) h1 h2 h3 h4 h5 h6 h7
theorem Ctx.OK.wp (h : C.OK) (pn : Nat) (pan : V → List Blk → Prop) : (C.wp pn pan).OK:=⟨h.ty,h.fs,h.ex⟩
end
end Go.Tidy
namespace Go.Tidy
def slW (c : Nat) : Nat:=if 3 ≤ c then 32 else 1
theorem slW_pos (c : Nat) : 1 ≤ slW c:=by unfold slW; split <;> decide
inductive Dsm (n : Nat) : D → Prop
 | bool (b : Bool) : Dsm n (.bool b)
 | int (k : IntKind) (v : Int) : Dsm n (.int k v)
 | str (s : ByteArray) (h : s.size ≤ n) : Dsm n (.str s)
 | sl (els : List (List D)) (h : ∀ e ∈ els,els.length * slW e.length ≤ n) (he : ∀ e ∈ els,∀ x ∈ e,Dsm n x) : Dsm n (.sl els)
theorem Dsm.slL {n : Nat} {els : List (List D)} (h : Dsm n (.sl els)) : ∀ e ∈ els,els.length * slW e.length ≤ n:=by cases h with | sl _ h he=>exact h
theorem Dsm.slI {n : Nat} {els : List (List D)} (h : Dsm n (.sl els)) : els.length ≤ n ∧ ∀ e ∈ els,∀ x ∈ e,Dsm n x:=by
 refine ⟨?_,by cases h with | sl _ h he=>exact he⟩
 have h1:=h.slL
 cases els with
 | nil=>exact Nat.zero_le _
 | cons e r=>exact Nat.le_trans (Nat.le_mul_of_pos_right _ (slW_pos e.length)) (h1 e (by simp))
theorem Dsm.strI {n : Nat} {s : ByteArray} (h : Dsm n (.str s)) : s.size ≤ n:=by cases h with | str _ h=>exact h
def bytesB (P : Program) (l : List TypeId) : Bool:=l.all fun t=>match P.underlying t with
 | some (.slice e)=>Nat.ble (slW (P.cellsOf e)) (P.bytesOf e)
 | _=>true
section
variable {B : Nat} {H : Type} {enc : TypeId × Value → H} {P : Program} {w : World} {T : TypeId → Prop}
theorem weightsAll_mem {e : TypeId} : ∀ {l : List (DataW H)} {d : DataW H} {m : Nat},d ∈ l → m ∈ d.weights P e → m ∈ DataW.weightsAll P e l
 | x :: l,d,m,hd,hm=>by
  simp only [DataW.weightsAll,List.mem_append]
  rcases List.mem_cons.1 hd with rfl | hd
  ·exact .inl hm
  ·exact .inr (weightsAll_mem hd hm)
theorem fields_rdB (cs : List Value) : ∀ (fl : List Field) (o : Nat),(∀ (j : Nat) f,fl[j]? = some f → f.offset = o + ((fl.take j).map fun f=>P.cellsOf f.type).sum) → (cs.drop o).length = (fl.map fun f=>P.cellsOf f.type).sum →
  (∀ f ∈ fl,∃ ys,RDL w ys ((cs.drop f.offset).take (P.cellsOf f.type)) ∧ TyI P f.type ys ∧ ∀ y ∈ ys,Dsm B y) →
  ∃ xs,RDL w xs (cs.drop o) ∧ (∀ f ∈ fl,o ≤ f.offset ∧ TyI P f.type ((xs.drop (f.offset - o)).take (P.cellsOf f.type))) ∧ ∀ y ∈ xs,Dsm B y
 | [],o,_,hl,_=>by
  have : cs.drop o = []:=List.eq_nil_of_length_eq_zero (by simpa using hl)
  rw [this]
  exact ⟨[],⟨rfl,fun j x v hx=>by simp at hx⟩,fun f hf=>(by simp at hf),fun y hy=>by simp at hy⟩
 | f :: fl,o,ho,hl,hf=>by
  have h0 : f.offset = o:=by simpa using ho 0 f rfl
  obtain ⟨ys,hy1,hy2,hy3⟩:=hf f (by simp)
  simp only [List.map_cons,List.sum_cons] at hl
  have hlen : ((cs.drop o).take (P.cellsOf f.type)).length = P.cellsOf f.type:=by rw [List.length_take]; omega
  rw [h0] at hy1
  have hyl : ys.length = P.cellsOf f.type:=hy1.1.trans hlen
  obtain ⟨xs,hx1,hx2,hx3⟩:=fields_rdB cs fl (o + P.cellsOf f.type) (fun j g hg=>by
   have:=ho (j + 1) g (by simpa using hg)
   simp only [List.take_succ_cons,List.map_cons,List.sum_cons] at this
   omega) (by
   rw [← List.drop_drop,List.length_drop]; omega) (fun g hg=>hf g (by simp [hg]))
  have hcs : cs.drop o = (cs.drop o).take (P.cellsOf f.type) ++ cs.drop (o + P.cellsOf f.type):=by
   rw [← List.drop_drop,List.take_append_drop]
  refine ⟨ys ++ xs,by rw [hcs]; exact hy1.append hx1,fun g hg=>?_,fun y hy=>(List.mem_append.1 hy).elim (hy3 y) (hx3 y)⟩
  rcases List.mem_cons.1 hg with rfl | hg
  ·refine ⟨by omega,?_⟩
   rw [h0,Nat.sub_self,List.drop_zero,List.take_append_of_le_length (by omega),List.take_of_length_le (by omega)]
   exact hy2
  ·obtain ⟨h1,h2⟩:=hx2 g hg
   refine ⟨by omega,?_⟩
   rw [List.drop_append,List.drop_eq_nil_of_le (by omega),List.nil_append,hyl,show g.offset - o - P.cellsOf f.type = g.offset - (o + P.cellsOf f.type) by omega]
   exact h2
theorem trod_rdB (K : Kids P (· < P.types.size)) {l : List TypeId} (hp : plainB P l = true) (hby : bytesB P l = true) (hl : ∀ t ∈ l,t < P.types.size) : ∀ (n : Nat) (t : TypeId) (cs : List Value) (x : DataW H × List MemPlace),t ∈ l →
  DataW.trod enc P w 0 (fun _=>true) true n t cs = some x → (∀ m ∈ x.1.weights P t,m ≤ B) → ∃ xs,RDL w xs cs ∧ TyI P t xs ∧ ∀ y ∈ xs,Dsm B y:=by
 intro n
 induction n with
 | zero=>intro t cs x _ h _; simp [DataW.trod] at h
 | succ n ih =>
  intro t cs x ht h hz
  have hpt:=hp
  unfold plainB at hpt
  rw [List.all_eq_true] at hpt
  have hpt:=hpt t ht
  cases hu : P.underlying t with
  | none=>rw [hu] at hpt; cases hpt
  | some d =>
   rw [hu] at hpt
   cases d
   all_goals first | (cases hpt; done) | skip
   case bool =>
    obtain ⟨b,rfl,_⟩:=DataW.trod_bool hu h
    exact ⟨[.bool b],RDL.one (.bool b),.bool hu b,fun y hy=>by rw [List.mem_singleton.1 hy]; exact .bool b⟩
   case int k =>
    obtain ⟨v,rfl,_,hw⟩:=DataW.trod_int hu h
    exact ⟨[.int k v],RDL.one (.int k v),.int hu v hw,fun y hy=>by rw [List.mem_singleton.1 hy]; exact .int k v⟩
   case string =>
    obtain ⟨s,rfl,rfl,hs⟩:=DataW.trod_string hu h
    exact ⟨[.str s],RDL.one (.str s),.str hu s hs,fun y hy=>by rw [List.mem_singleton.1 hy]; exact .str s (by have:=hz s.data.toList.length (by simp [DataW.weights]); simpa using this)⟩
   case slice e =>
    simp only [Bool.and_eq_true,List.contains_iff_mem,Nat.blt_eq] at hpt
    rcases DataW.trod_slice hu h with ⟨rfl,_⟩ | ⟨a,len,cap,elems,rest,m,hm,rfl,rfl,_,hlc,hcm,hlen,hel,_,_⟩
    ·exact ⟨[.sl []],RDL.one (.slNil _ _),.sl hu [] (Nat.zero_le _) (fun y hy=>by simp at hy) (fun y hy=>by simp at hy),fun y hy=>by rw [List.mem_singleton.1 hy]; exact .sl [] (fun e he=>by simp at he) (fun e he=>by simp at he)⟩
    ·obtain rfl : n = m:=by omega
     have hb1 : slW (P.cellsOf e) ≤ P.bytesOf e:=by
      have:=List.all_eq_true.1 hby t ht
      rw [hu] at this; exact Nat.le_of_ble_eq_true this
     have hzl : elems.length * slW (P.cellsOf e) ≤ B:=by
      have:=hz ((elems.length + rest.length) * P.bytesOf e) (by simp [DataW.weights,hu])
      exact Nat.le_trans (Nat.le_trans (Nat.mul_le_mul_left _ hb1) (Nat.mul_le_mul_right _ (Nat.le_add_right _ _))) this
     have hze : ∀ i (hi : i < elems.length),∀ m ∈ (elems[i]).1.weights P e,m ≤ B:=fun i hi m hm=>hz m (by
      simp only [DataW.weights,hu,List.mem_cons,List.mem_append]
      exact .inr (.inl (weightsAll_mem (List.mem_map_of_mem (f:=(·.1)) (List.getElem_mem hi)) hm)))
     have each : ∀ i,i < len → ∃ (cs : Nat → Value) (ys : List D),(∀ j,j < P.cellsOf e → w.cell? ((a.add (i * P.cellsOf e)).add j) = some (cs j)) ∧ ys.length = P.cellsOf e ∧ (∀ (j : Nat) (x : D),ys[j]? = some x → RD (· < w.heap.size) w x (cs j)) ∧ TyI P e ys ∧ ∀ y ∈ ys,Dsm B y:=by
      intro i hi
      have h1:=hel i hi
      have h2 : elems[i]? = some elems[i]:=List.getElem?_eq_getElem (by omega)
      rw [h2] at h1
      rw [Option.bind_eq_some_iff] at h1
      obtain ⟨vs,h3,h4⟩:=h1
      obtain ⟨ys,h5,h6,h6b⟩:=ih e vs _ hpt.1 h4 (hze i (by omega))
      unfold World.cells? at h3
      rw [if_pos (Nat.zero_le _)] at h3
      obtain ⟨h7,h8⟩:=mapM_range h3
      refine ⟨fun j=>vs[j]?.getD default,ys,fun j hj=>?_,by rw [h5.1]; exact h7,fun j x hx=>?_,h6,h6b⟩
      ·rw [h8 j hj]; simp [List.getElem?_eq_getElem (show j < vs.length by omega)]
      ·have hj : j < vs.length:=by have:=lt_of_get hx; rw [h5.1] at this; exact this
       simp only [List.getElem?_eq_getElem hj,Option.getD_some]
       exact h5.2 j x _ hx (List.getElem?_eq_getElem hj)
     have hch : ∃ (f : Nat → Nat → Value) (g : Nat → List D),∀ i,i < len → (∀ j,j < P.cellsOf e → w.cell? ((a.add (i * P.cellsOf e)).add j) = some (f i j)) ∧ (g i).length = P.cellsOf e ∧ (∀ (j : Nat) (x : D),(g i)[j]? = some x → RD (· < w.heap.size) w x (f i j)) ∧ TyI P e (g i) ∧ ∀ y ∈ g i,Dsm B y:=by
      refine ⟨fun i=>if h : i < len then Classical.choose (each i h) else fun _=>default,fun i=>if h : i < len then Classical.choose (Classical.choose_spec (each i h)) else [],fun i hi=>?_⟩
      simp only [hi,dif_pos]
      exact Classical.choose_spec (Classical.choose_spec (each i hi))
     obtain ⟨f,g,hfg⟩:=hch
     have hels : ∀ y ∈ (List.range len).map g,∃ i,i < len ∧ y = g i:=fun y hy=>by
      obtain ⟨i,hi,rfl⟩:=List.mem_map.1 hy
      exact ⟨i,by simpa using hi,rfl⟩
     have hsz : ∀ y ∈ (List.range len).map g,y.length = P.cellsOf e:=fun y hy=>by obtain ⟨i,hi,rfl⟩:=hels y hy; exact (hfg i hi).2.1
     refine ⟨[.sl ((List.range len).map g)],RDL.one ?_,.sl hu _ (by simp; omega) hsz (fun y hy=>by obtain ⟨i,hi,rfl⟩:=hels y hy; exact (hfg i hi).2.2.2.1),fun y hy=>by
      rw [List.mem_singleton.1 hy]
      exact .sl _ (fun e he=>by rw [hsz e he,List.length_map,List.length_range,← hlen]; exact hzl) fun e he z hz=>by obtain ⟨i,hi,rfl⟩:=hels e he; exact (hfg i hi).2.2.2.2 z hz⟩
     by_cases h0 : len = 0
     ·subst h0; exact .slNil _ _
     ·have hadd : ∀ i j,(a.add (i * P.cellsOf e)).add j = a.add (i * P.cellsOf e + j):=fun i j=>Addr.add_add _ _ _
      have:=RD.sl (I:=(· < w.heap.size)) (w:=w) ((List.range len).map g) a cap (P.cellsOf e) f hsz (fun i j hi hj=>by
       rw [← hadd]; exact (hfg i (by simpa using hi)).1 j hj) (by
       have h1:=(hfg 0 (by omega)).1 0 hpt.2
       have:=cell_lt h1
       rwa [block_add,block_add] at this) (by simpa using hlc) (fun i j x hx=>by
       rw [List.getElem?_map] at hx
       cases hr : (List.range len)[i]? with
       | none=>rw [hr] at hx; cases hx
       | some i' =>
        have hi : i < len:=by have:=lt_of_get hr; simpa using this
        rw [List.getElem?_range hi] at hr
        cases hr
        rw [List.getElem?_range hi] at hx
        exact (hfg i hi).2.2.1 j x hx)
      simpa using this
   case struct fs =>
    obtain ⟨xs,m,hm,rfl,hlen,hxl,hfl⟩:=DataW.trod_struct hu h
    obtain rfl : n = m:=by omega
    simp only [List.all_eq_true,List.contains_iff_mem] at hpt
    obtain ⟨_,hk2,hk3⟩:=K.struct (hl t ht) hu
    have hzf : ∀ (i : Nat) (f : Field) (hi : i < xs.length),fs.toList[i]? = some f → ∀ m ∈ (xs[i]).1.weights P f.type,m ≤ B:=fun i f hi hf m hm=>hz m (by
     simp only [DataW.weights,hu]
     exact DataW.weights_mem_each (j:=i) (by rw [List.getElem?_map,hf]; rfl) (by rw [List.getElem?_map,List.getElem?_eq_getElem hi]; rfl) m hm)
    have each : ∀ f ∈ fs.toList,∃ ys,RDL w ys ((cs.drop f.offset).take (P.cellsOf f.type)) ∧ TyI P f.type ys ∧ ∀ y ∈ ys,Dsm B y:=fun f hf=>by
     obtain ⟨i,hi⟩:=List.mem_iff_getElem?.1 hf
     have hi' : fs[i]? = some f:=by simpa using hi
     have hlt : i < xs.length:=by rw [hxl]; exact (Array.getElem?_eq_some_iff.1 hi').1
     have:=hfl i f hi'
     rw [List.getElem?_eq_getElem hlt] at this
     exact ih f.type _ _ (hpt f hf) this (hzf i f hlt hi)
    obtain ⟨ys,h1,h2,h3⟩:=fields_rdB (P:=P) (w:=w) cs fs.toList 0 (fun j f hf=>by rw [Nat.zero_add]; exact hk3 j f hf) (by rw [List.drop_zero,hlen,hk2]) each
    rw [List.drop_zero] at h1
    exact ⟨ys,h1,.struct hu ys (h1.1.trans hlen) fun f hf=>by simpa using (h2 f hf).2,h3⟩
theorem args_rdB (K : Kids P (· < P.types.size)) {l : List TypeId} (hp : plainB P l = true) (hby : bytesB P l = true) (hl : ∀ t ∈ l,t < P.types.size) {base : Nat} : ∀ (ts : List TypeId) (vs : List Value) (ds : List (DataW H)) (ps : List MemPlace),(∀ t ∈ ts,t ∈ l) →
  (∀ (j : Nat) t v,ts[j]? = some t → vs[j]? = some v → Value.okWide P w .any base t v) → DataW.TrodAll enc P w 0 (fun _=>true) true ts vs ds ps → (∀ (j : Nat) t d,ts[j]? = some t → ds[j]? = some d → ∀ m ∈ d.weights P t,m ≤ B) →
  ds.length = ts.length ∧ ∃ xss,TyA P ts xss ∧ (∀ xs ∈ xss,∀ y ∈ xs,Dsm B y) ∧ ∀ (g : Gh) (L : List Blk),(∀ r,r < w.heap.size → g.I r) → (argVs P ts xss).length = vs.length ∧ ∀ (j : Nat) (x : V) (v : Value),(argVs P ts xss)[j]? = some x → vs[j]? = some v → RV g w L x v
 | [],[],[],ps,_,_,h,_=>⟨rfl,[],trivial,fun xs hx=>(by simp at hx),fun g L hI=>⟨rfl,fun j x v hx=>by simp [argVs] at hx⟩⟩
 | t :: ts,v :: vs,d :: ds,ps,ht,hok,⟨p,q,⟨n,hn⟩,h2,_⟩,hz=>by
  obtain ⟨xs,hx,hty,hsm⟩:=trod_rdB K hp hby hl n t _ _ (ht t (by simp)) hn (hz 0 t d rfl rfl)
  obtain ⟨hlen,xss,h3,h3b,h4⟩:=args_rdB K hp hby hl ts vs ds q (fun t ht'=>ht t (by simp [ht'])) (fun j t v hj hv=>hok (j + 1) t v (by simpa using hj) (by simpa using hv)) h2 (fun j t d hj hd=>hz (j + 1) t d (by simpa using hj) (by simpa using hd))
  refine ⟨by simp [hlen],xs :: xss,⟨hty,h3⟩,fun ys hys=>(List.mem_cons.1 hys).elim (fun e=>e ▸ hsm) (h3b ys),fun g L hI=>⟨by simp [argVs,(h4 g L hI).1],fun j x u hxj hu=>?_⟩⟩
  cases j with
  | zero =>
   simp [argVs] at hxj hu
   subst hxj hu
   exact argV_rv hx hty (hok 0 t v rfl rfl) g hI L
  | succ j=>exact (h4 g L hI).2 j x u (by simpa [argVs] using hxj) (by simpa using hu)
 | [],v :: vs,_,_,_,_,h,_=>by cases h
 | [],[],_ :: _,_,_,_,h,_=>by cases h
 | _ :: _,[],_,_,_,_,h,_=>by cases h
 | _ :: _,_ :: _,[],_,_,_,h,_=>by cases h
theorem law_ofB {C : Ctx} [Quiet C] {f : FuncId} {fn : Func} {s : ChangeSpec} {apart fresh handsOn again : Bool} {W : World} {base : Nat} {args : Array Value} {ds gs : List (DataW H)} {before : List MemPlace} {tb : TypeId} {l : List TypeId}
  (K : Kids C.P (· < C.P.types.size)) (hz : ∀ t e,t < C.P.types.size → C.P.underlying t = some (.slice e) → 0 < C.P.cellsOf e) (hp : plainB C.P l = true) (hby : bytesB C.P l = true) (hl : ∀ t ∈ l,t < C.P.types.size) (hpar : ∀ t ∈ fn.params.toList,t ∈ l)
  (hvars : s.vars = []) (hres : fn.resultTypes = #[tb]) (htb : C.P.underlying tb = some .bool)
  (hspec : ∀ ds : List (DataW H),ds.length = fn.params.toList.length → s.fn H ds = { results:=[.lit (.bool true)],args:=ds })
  (hcall : ∀ xss,TyA C.P fn.params.toList xss → (∀ xs ∈ xss,∀ y ∈ xs,Dsm B y) → CallP C f (argVs C.P fn.params.toList xss) [] fun X L=>L = [] ∧ X = .d (.bool true))
  (hval : ∀ (j : Nat) t v,fn.params[j]? = some t → args[j]? = some v → Value.okWide C.P W .any base t v)
  (hW : DataW.Whole enc C.P fn.params.toList s.vars apart W args.toList ds gs before)
  (hwt : (DataW.weightsEach C.P (fn.params.toList ++ s.plain.varTypes C.P) (ds ++ gs)).all (· ≤ B) = true)
  (hgl : GlobOK (fun r=>r < W.heap.size) W:=by intro p hp; cases hp) :
  Calls C.P f args W fun e W'=>∃ v,e = .returned v ∧ s.post enc C.P fn apart fresh handsOn again W args v W':=by
 have hW':=hW
 obtain ⟨p,q,hA,hV,hpq,hfz,hnd⟩:=hW
 rw [hvars] at hV
 obtain ⟨rfl,rfl⟩ : gs = [] ∧ q = []:=by
  cases gs with
  | nil=>exact ⟨rfl,hV⟩
  | cons _ _=>cases hV
 rw [List.append_nil] at hpq
 subst hpq
 have hwt' : ∀ (j : Nat) t d,fn.params.toList[j]? = some t → ds[j]? = some d → ∀ m ∈ d.weights C.P t,m ≤ B:=fun j t d hj hd m hm=>by
  have:=List.all_eq_true.1 hwt m (DataW.weights_mem_each (j:=j) (by rw [List.getElem?_append_left (lt_of_get hj)]; exact hj) (by rw [List.append_nil]; exact hd) m hm)
  simpa using this
 obtain ⟨hlen,xss,hty,hsm,hrv⟩:=args_rdB K hp hby hl fn.params.toList args.toList ds before hpar (fun j t v hj hv=>hval j t v (by simpa using hj) (by simpa using hv)) hA hwt'
 have hc:=hcall xss hty hsm
 rw [CallP_q] at hc
 obtain ⟨h1,h2⟩:=hrv { I:=fun r=>r < W.heap.size,m:=fun _=>none,cap:=fun _=>0 } [] (fun _ h=>h)
 have no : ∀ (g' : Gh) q,¬ owned g' ([] : List Blk) q:=fun g' q ⟨b,⟨k,hk,_⟩,_⟩=>by simp at hk
 refine (hc.2 { I:=fun r=>r < W.heap.size,m:=fun _=>none,cap:=fun _=>0 } W args ⟨?_,?_,fun r h=>h,?_,hgl⟩ ⟨by rw [h1]; simp,fun j x v hx hv=>h2 j x v hx (by simpa using hv)⟩).mono ?_
 ·rintro b b' r ⟨k,hk,_⟩; simp at hk
 ·exact fun r ho=>absurd ho (no _ r)
 ·intro b k hk; simp at hk
 rintro e W' ⟨v,X,L1,g1,rfl,⟨rfl,rfl⟩,hr,hg1,hprog⟩
 have hv : v = .bool true:=hr.bool_of
 subst hv
 refine ⟨_,rfl,?_⟩
 have heap : ∀ (r : Nat) (o : Obj),W.heap[r]? = some o → W'.heap[r]? = some o:=fun r o h=>hprog.kept r o h (no _ r)
 have heap' : ∀ r : Nat,r < W.heap.size → W'.heap[r]? = W.heap[r]?:=fun r h=>by
  rw [Array.getElem?_eq_getElem h]; exact heap r _ (Array.getElem?_eq_getElem h)
 have hlt : ∀ x ∈ before,x.block < W.heap.size:=fun x hx=>hW'.lt x hx
 have same : ∀ x ∈ before,W.sameAt W' x:=by
  intro x hx
  have:=hlt x hx
  cases x with
  | cell b off=>exact World.cell?_of_block (w:=W) (w':=W') (heap' b this)
  | map b=>exact heap' b this
 have hkept : W.keptBut W' (· ∈ before):=by
  refine ⟨hprog.env.2.1,hprog.env.2.2,fun i hi=>?_⟩
  rw [heap' i hi]
  cases W.heap[i]? with
  | none=>rfl
  | some o=>cases o <;> simp
 have carry : ∀ (ts : List TypeId) (vs : List Value) (ds : List (DataW H)) (ps : List MemPlace),(∀ x ∈ ps,W.sameAt W' x) → DataW.TrodAll enc C.P W 0 (fun _=>true) true ts vs ds ps → DataW.TrodAll enc C.P W' 0 (fun _=>true) true ts vs ds ps:=by
  intro ts
  induction ts with
  | nil=>intro vs ds ps _ h; cases vs <;> cases ds <;> first | exact h | cases h
  | cons t ts ih =>
   intro vs ds ps hs h
   cases vs with
   | nil=>cases h
   | cons v vs =>
    cases ds with
    | nil=>cases h
    | cons d ds =>
     obtain ⟨p,q,⟨n,hn⟩,h2,rfl⟩:=h
     exact ⟨p,q,⟨n,DataW.trod_carry n _ _ _ hn fun x hx=>hs x (List.mem_append_left _ hx)⟩,ih vs ds q (fun x hx=>hs x (List.mem_append_right _ hx)) h2,rfl⟩
 have hA':=carry _ _ _ _ same hA
 have hfn:=hspec ds hlen
 refine post_of_kept (pa:=before) (pv:=[]) hW' ?_ ?_ ?_ (by simp) hkept (fun a ha=>?_) ?_
 ·intro b sp hd
  rw [List.append_nil,hfn,hres]
  exact ⟨[],[],RowKit.shut_bool htb true,rfl,rfl⟩
 ·intro sp hsp
  rw [List.append_nil,hfn]
  exact hA'.respare K hz (fun t ht=>hl t (hpar t ht)) hsp
 ·intro sp hsp
  rw [List.append_nil,hfn,hvars]
  rfl
 ·exact World.frozen?_of_block (w:=W) (w':=W') (heap' _ ha)
 ·exact RowKit.ok_one hres rfl (RowKit.okWide_bool_mk htb true)
end
end Go.Tidy
set_option linter.defProp false
namespace Go.Tidy
def zw0 := @Br.tt
def zw1 := @Br.ff
def zw2 := @Br.dec
def zw3 := @Br.not
def zw4 := @Br.intro
def zw5 := @GetE.intro
def zw6 := @Need.intro
def zw7 := @DrawP.go
def zw8 := @Br.yes
def zw9 := @Br.no
def zw10 := @Idx.intro
def zw11 := @Idx.map
def zw12 := @QCall.intro
def zw13 := @QCallW.intro
def zw14 := @CallP.up
def zw15 := @FinP.drop
def zw16 := @FinP.data
def zw18 := @Nat.le_of_ble_eq_true
def zw19 := @decide_eq_true
def zw20 := @decide_eq_false
def zw21 := @Nat.le_refl
def zw22 := @Nat.zero_le
def zw23 := @Nat.le_trans
def zw24 := @callP_of
def zw25 := @CallP.pure
def zw26 := @LoopP.inv
def zw27 := @Weak.by
def zw28 := @Weak.to
def zw29 := @CallP.lent
def zw30 := @IdxN.intro
theorem FinP.zz {X : V} {L : List Blk} {k : V → List Blk → Prop} (hX : X.bel 0 = true) (h : k X []) : FinP 0 X L k := FinP.drop (n := 0) rfl (Nat.le_refl 0) hX rfl h
theorem zwW (i : Nat) (h : (i : Int) + 1 ≤ 9223372036854775807) : IntKind.i64.wrap ((i : Int) + 1) = ((i + 1 : Nat) : Int) := (wrap_id (by omega) h).trans (by omega)
end Go.Tidy
namespace Go.Proofs.YtihibgcojdfndaaGreatDoor
open Go.Tidy
theorem wrap_in {n : Int} (h : -9223372036854775808 ≤ n ∧ n ≤ 9223372036854775807) : IntKind.i64.wrap n = n:=wrap_id h.1 h.2
theorem take_next {α : Type} {l : List α} {i : Nat} (h : i < l.length) : l.take (i + 1) = l.take i ++ [l[i]]:=by
 rw [List.take_add_one,List.getElem?_eq_getElem h]; rfl
theorem callP_fin {C : Ctx} [Quiet C] {f : FuncId} {args : List V} {L : List Blk} {q k : V → List Blk → Prop} (h : CallP C f args L q) (hk : ∀ X L',q X L' → L.length ≤ L'.length ∧ FinP L.length X L' k) : CallP C f args L k:=by
 rw [CallP_q] at h ⊢
 refine ⟨h.1,fun g w vs hg hv=>(h.2 g w vs hg hv).mono ?_⟩
 rintro e w' ⟨v,X,L1,g1,he,hX,hr,hgood,hp⟩
 obtain ⟨hlen,hF⟩:=hk X L1 hX
 unfold FinP at hF
 obtain ⟨X',L',hcv,hk'⟩:=hF
 obtain ⟨g2,h1,h2,h3⟩:=hcv g1 w' v hgood hlen hr
 exact ⟨v,X',L',g2,he,hk',h2,h1,hp.trans h3⟩
inductive Co where
 | mk (kind var n : Int) (parts : List Co)
 deriving Inhabited
def Co.kind : Co → Int | .mk k _ _ _=>k
def Co.var : Co → Int | .mk _ v _ _=>v
def Co.n : Co → Int | .mk _ _ n _=>n
def Co.parts : Co → List Co | .mk _ _ _ ps=>ps
mutual
def Co.cells : Co → List D
 | .mk k v n ps=>[DI k,DI v,DI n,.sl (cosL ps)]
def cosL : List Co → List (List D)
 | []=>[]
 | c :: cs=>c.cells :: cosL cs
end
theorem cosL_map : ∀ l : List Co,cosL l = l.map Co.cells
 | []=>rfl
 | c :: cs=>by rw [cosL,cosL_map cs]; rfl
def cos (l : List Co) : D:=.sl (l.map Co.cells)
theorem Co.cells_eq (c : Co) : c.cells = [DI c.kind,DI c.var,DI c.n,cos c.parts]:=by
 cases c with | mk k v n ps=>rw [Co.cells,cosL_map]; rfl
inductive Sp where
 | mk (kind by_ : Int) (cond : Co) (thn els : List Sp)
 deriving Inhabited
def Sp.kind : Sp → Int | .mk k _ _ _ _=>k
def Sp.by_ : Sp → Int | .mk _ b _ _ _=>b
def Sp.cond : Sp → Co | .mk _ _ c _ _=>c
def Sp.thn : Sp → List Sp | .mk _ _ _ t _=>t
def Sp.els : Sp → List Sp | .mk _ _ _ _ e=>e
mutual
def Sp.cells : Sp → List D
 | .mk k b c t e=>[DI k,DI b,DI c.kind,DI c.var,DI c.n,cos c.parts,.sl (spsL t),.sl (spsL e)]
def spsL : List Sp → List (List D)
 | []=>[]
 | c :: cs=>c.cells :: spsL cs
end
theorem spsL_map : ∀ l : List Sp,spsL l = l.map Sp.cells
 | []=>rfl
 | c :: cs=>by rw [spsL,spsL_map cs]; rfl
def sps (l : List Sp) : D:=.sl (l.map Sp.cells)
theorem Sp.cells_eq (s : Sp) : s.cells = [DI s.kind,DI s.by_,DI s.cond.kind,DI s.cond.var,DI s.cond.n,cos s.cond.parts,sps s.thn,sps s.els]:=by
 cases s with | mk k b c t e=>rw [Sp.cells,spsL_map,spsL_map]; rfl
inductive Fm where
 | c (x : Co)
 | s (x : Sp)
 deriving Inhabited
def Fm.d : Fm → D
 | .c x=>.iface 237 true x.cells
 | .s x=>.iface 209 true x.cells
def Fm.parts : Fm → List Fm
 | .c x=>x.parts.map .c
 | .s x=>(x.thn ++ x.els).map .s
def fms (l : List Fm) : D:=.sl (l.map fun f=>[f.d])
def rdF (l : List Fm) : List (List V):=l.map fun f=>[.d f.d]
theorem rdF_bel (n : Nat) : ∀ x : List Fm,belR n (rdF x) = true
 | []=>rfl
 | _ :: x=>by simp only [rdF,List.map_cons,belR,V.belL,V.bel,Bool.true_and]; exact rdF_bel n x
theorem rdF_sh (m : Nat) : ∀ x : List Fm,shR m (rdF x) = rdF x
 | []=>rfl
 | v :: x=>by
  have:=rdF_sh m x
  unfold rdF at this ⊢
  rw [List.map_cons,shR,this]; rfl
theorem rdF_shB (m n : Nat) (x : List Fm) : (Blk.row n 1 (rdF x)).sh m = .row n 1 (rdF x):=by rw [Blk.sh,rdF_sh]
theorem rdF_rows {S : Nat → Prop} {L : List Blk} : ∀ x : List Fm,CvLL S L (rdF x) (x.map fun f=>[f.d])
 | []=>.nil
 | _ :: x=>.cons (.cons (.d _) .nil) (rdF_rows x)
theorem rdF_rows' {S : Nat → Prop} {L : List Blk} (x : List Fm) : CvLL S L (((rdF x).drop 0).take x.length) (x.map fun f=>[f.d]):=by
 rw [List.drop_zero,List.take_of_length_le (by simp [rdF])]; exact rdF_rows x
theorem rdF_e (x : List Fm) : ∀ e ∈ x.map (fun f=>[f.d]),e.length = 1:=by
 intro e he; obtain ⟨v,_,rfl⟩:=List.mem_map.1 he; rfl
def addC (e n : Int) : List (Int × List Int) → List (Int × List Int)
 | []=>[(n,[e])]
 | (u,es) :: r=>if n = u then (u,es ++ [e]) :: r else if u < n then (n,[e]) :: (u,es) :: r else (u,es) :: addC e n r
def clsF (v : Int → Int) (g : List Int) : List (Int × List Int):=g.foldl (fun c e=>addC e (v e) c) []
def splitF (v : Int → Int) (g : List Int) : List (List Int):=(clsF v g).map (·.2)
theorem clsF_snoc (v : Int → Int) (g : List Int) (e : Int) : clsF v (g ++ [e]) = addC e (v e) (clsF v g):=by
 unfold clsF; rw [List.foldl_append]; rfl
inductive Fall : List (Int × List Int) → Prop
 | nil : Fall []
 | cons {u : Int} {es : List Int} {r : List (Int × List Int)} (hr : Fall r) (hu : ∀ p ∈ r,p.1 < u) (he : es ≠ []) : Fall ((u,es) :: r)
theorem addC_val {e n : Int} {p : Int × List Int} : ∀ {c : List (Int × List Int)},p ∈ addC e n c → p.1 = n ∨ ∃ q ∈ c,q.1 = p.1
 | [],h=>by rw [addC,List.mem_singleton] at h; exact .inl (by rw [h])
 | (u,es) :: r,h=>by
  rw [addC] at h
  split at h
  ·rcases List.mem_cons.1 h with rfl | h
   ·exact .inr ⟨(u,es),by simp,rfl⟩
   ·exact .inr ⟨p,by simp [h],rfl⟩
  ·split at h
   ·rcases List.mem_cons.1 h with rfl | h
    ·exact .inl rfl
    ·exact .inr ⟨p,h,rfl⟩
   ·rcases List.mem_cons.1 h with rfl | h
    ·exact .inr ⟨(u,es),by simp,rfl⟩
    ·rcases addC_val h with h | ⟨q,hq,h⟩
     ·exact .inl h
     ·exact .inr ⟨q,by simp [hq],h⟩
theorem addC_fall {e n : Int} : ∀ {c : List (Int × List Int)},Fall c → Fall (addC e n c)
 | [],_=>.cons .nil (fun p h=>by cases h) (by simp)
 | (u,es) :: r,h=>by
  cases h with
  | cons hr hu he =>
  rw [addC]
  split
  ·exact .cons hr hu (by simp)
  ·split
   ·rename_i h1 h2
    refine .cons (.cons hr hu he) (fun p hp=>?_) (by simp)
    rcases List.mem_cons.1 hp with rfl | hp
    ·exact h2
    ·have:=hu p hp; omega
   ·rename_i h1 h2
    refine .cons (addC_fall hr) (fun p hp=>?_) he
    rcases addC_val hp with h | ⟨q,hq,h⟩
    ·omega
    ·have:=hu q hq; omega
theorem cls_fall (v : Int → Int) (g : List Int) : Fall (clsF v g):=by
 have key : ∀ (g : List Int) (c : List (Int × List Int)),Fall c → Fall (g.foldl (fun c e=>addC e (v e) c) c):=by
  intro g
  induction g with
  | nil=>exact fun c h=>h
  | cons e g ih=>exact fun c h=>ih _ (addC_fall h)
 exact key g [] .nil
theorem cls_congr {v w : Int → Int} {g : List Int} (h : ∀ e ∈ g,v e = w e) : clsF v g = clsF w g:=by
 have key : ∀ (g : List Int) (c : List (Int × List Int)),(∀ e ∈ g,v e = w e) → g.foldl (fun c e=>addC e (v e) c) c = g.foldl (fun c e=>addC e (w e) c) c:=by
  intro g
  induction g with
  | nil=>exact fun c _=>rfl
  | cons e g ih =>
   intro c h
   rw [List.foldl_cons,List.foldl_cons,h e (by simp)]
   exact ih _ fun x hx=>h x (by simp [hx])
 exact key g [] h
theorem addC_perm (e n : Int) : ∀ c : List (Int × List Int),((addC e n c).map (·.2)).flatten.Perm (e :: (c.map (·.2)).flatten)
 | []=>by simp [addC]
 | (u,es) :: r=>by
  rw [addC]
  split
  ·simp only [List.map_cons,List.flatten_cons,List.append_assoc,List.singleton_append]
   exact List.perm_middle
  ·split
   ·simp
   ·simp only [List.map_cons,List.flatten_cons]
    exact ((addC_perm e n r).append_left es).trans List.perm_middle
theorem split_perm (v : Int → Int) (g : List Int) : (splitF v g).flatten.Perm g:=by
 have key : ∀ (g : List Int) (c : List (Int × List Int)),(((g.foldl (fun c e=>addC e (v e) c) c)).map (·.2)).flatten.Perm (g ++ (c.map (·.2)).flatten):=by
  intro g
  induction g with
  | nil=>exact fun c=>List.Perm.refl _
  | cons e g ih =>
   intro c
   rw [List.foldl_cons]
   refine (ih _).trans ?_
   refine ((addC_perm e (v e) c).append_left g).trans ?_
   exact List.perm_middle
 have:=key g []
 simpa [splitF,clsF] using this
theorem addC_mem {e n x u : Int} : ∀ {c : List (Int × List Int)},Fall c → ((∃ es,(u,es) ∈ addC e n c ∧ x ∈ es) ↔ ((u = n ∧ x = e) ∨ ∃ es,(u,es) ∈ c ∧ x ∈ es))
 | [],_=>by
  rw [addC]
  constructor
  ·rintro ⟨es,h,hx⟩
   rw [List.mem_singleton] at h
   cases h
   exact .inl ⟨rfl,List.mem_singleton.1 hx⟩
  ·rintro (⟨rfl,rfl⟩ | ⟨es,h,_⟩)
   ·exact ⟨[x],by simp,by simp⟩
   ·cases h
 | (w,fs) :: r,hf=>by
  cases hf with
  | cons hr hu he =>
  rw [addC]
  split
  ·rename_i h1
   subst h1
   constructor
   ·rintro ⟨es,h,hx⟩
    rcases List.mem_cons.1 h with h | h
    ·cases h
     rcases List.mem_append.1 hx with hx | hx
     ·exact .inr ⟨fs,by simp,hx⟩
     ·exact .inl ⟨rfl,List.mem_singleton.1 hx⟩
    ·exact .inr ⟨es,by simp [h],hx⟩
   ·rintro (⟨rfl,rfl⟩ | ⟨es,h,hx⟩)
    ·exact ⟨fs ++ [x],by simp,by simp⟩
    ·rcases List.mem_cons.1 h with h | h
     ·cases h; exact ⟨fs ++ [e],by simp,by simp [hx]⟩
     ·exact ⟨es,by simp [h],hx⟩
  ·split
   ·constructor
    ·rintro ⟨es,h,hx⟩
     rcases List.mem_cons.1 h with h | h
     ·cases h; exact .inl ⟨rfl,List.mem_singleton.1 hx⟩
     ·exact .inr ⟨es,h,hx⟩
    ·rintro (⟨rfl,rfl⟩ | ⟨es,h,hx⟩)
     ·exact ⟨[x],by simp,by simp⟩
     ·exact ⟨es,List.mem_cons_of_mem _ h,hx⟩
   ·constructor
    ·rintro ⟨es,h,hx⟩
     rcases List.mem_cons.1 h with h | h
     ·cases h; exact .inr ⟨fs,by simp,hx⟩
     ·rcases (addC_mem hr).1 ⟨es,h,hx⟩ with h | ⟨es,h,hx⟩
      ·exact .inl h
      ·exact .inr ⟨es,by simp [h],hx⟩
    ·rintro (⟨rfl,rfl⟩ | ⟨es,h,hx⟩)
     ·obtain ⟨es,h,hx⟩:=(addC_mem (u:=u) (n:=u) (x:=x) (e:=x) hr).2 (.inl ⟨rfl,rfl⟩)
      exact ⟨es,List.mem_cons_of_mem _ h,hx⟩
     ·rcases List.mem_cons.1 h with h | h
      ·cases h; exact ⟨fs,by simp,hx⟩
      ·obtain ⟨es,h,hx⟩:=(addC_mem (u:=u) (n:=n) (x:=x) (e:=e) hr).2 (.inr ⟨es,h,hx⟩)
       exact ⟨es,List.mem_cons_of_mem _ h,hx⟩
theorem cls_mem {v : Int → Int} {g : List Int} {u x : Int} : (∃ es,(u,es) ∈ clsF v g ∧ x ∈ es) ↔ x ∈ g ∧ v x = u:=by
 have key : ∀ (g : List Int) (c : List (Int × List Int)),Fall c → ((∃ es,(u,es) ∈ g.foldl (fun c e=>addC e (v e) c) c ∧ x ∈ es) ↔ ((x ∈ g ∧ v x = u) ∨ ∃ es,(u,es) ∈ c ∧ x ∈ es)):=by
  intro g
  induction g with
  | nil =>
   intro c _
   simp
  | cons e g ih =>
   intro c hc
   rw [List.foldl_cons,ih _ (addC_fall hc),addC_mem hc]
   constructor
   ·rintro (⟨h1,h2⟩ | ⟨rfl,rfl⟩ | h)
    ·exact .inl ⟨by simp [h1],h2⟩
    ·exact .inl ⟨by simp,rfl⟩
    ·exact .inr h
   ·rintro (⟨h1,h2⟩ | h)
    ·rcases List.mem_cons.1 h1 with rfl | h1
     ·exact .inr (.inl ⟨h2.symm,rfl⟩)
     ·exact .inl ⟨h1,h2⟩
    ·exact .inr (.inr h)
 have:=key g [] .nil
 unfold clsF
 rw [this]
 simp
def flatC (c : List (Int × List Int)) : List (Int × Int):=(c.map fun p=>p.2.map fun e=>(e,p.1)).flatten
def insD (x : Int × Int) : List (Int × Int) → List (Int × Int)
 | []=>[x]
 | y :: r=>if y.2 < x.2 then x :: y :: r else y :: insD x r
theorem insD_cut {x : Int × Int} : ∀ {a b : List (Int × Int)},(∀ y ∈ a,¬ y.2 < x.2) → (∀ y ∈ b,y.2 < x.2) → insD x (a ++ b) = a ++ x :: b
 | [],[],_,_=>rfl
 | [],y :: b,_,h=>by
  rw [List.nil_append,insD,if_pos (h y (by simp))]; rfl
 | y :: a,b,h,h'=>by
  rw [List.cons_append,insD,if_neg (h y (by simp)),insD_cut (fun z hz=>h z (by simp [hz])) h']; rfl
theorem flat_cons (u : Int) (es : List Int) (r : List (Int × List Int)) : flatC ((u,es) :: r) = (es.map fun e=>(e,u)) ++ flatC r:=rfl
theorem flat_val {c : List (Int × List Int)} {y : Int × Int} (h : y ∈ flatC c) : ∃ p ∈ c,y.2 = p.1:=by
 unfold flatC at h
 rw [List.mem_flatten] at h
 obtain ⟨l,hl,hy⟩:=h
 obtain ⟨p,hp,rfl⟩:=List.mem_map.1 hl
 obtain ⟨e,_,rfl⟩:=List.mem_map.1 hy
 exact ⟨p,hp,rfl⟩
theorem insD_pass {x : Int × Int} : ∀ {a b : List (Int × Int)},(∀ y ∈ a,¬ y.2 < x.2) → insD x (a ++ b) = a ++ insD x b
 | [],b,_=>rfl
 | y :: a,b,h=>by
  rw [List.cons_append,insD,if_neg (h y (by simp)),insD_pass (fun z hz=>h z (by simp [hz]))]; rfl
theorem insD_flat (e n : Int) : ∀ {c : List (Int × List Int)},Fall c → insD (e,n) (flatC c) = flatC (addC e n c)
 | [],_=>rfl
 | (u,es) :: r,h=>by
  cases h with
  | cons hr hu he =>
  rw [addC]
  split
  ·rename_i h1
   subst h1
   rw [flat_cons,flat_cons,insD_cut (fun y hy=>by obtain ⟨_,_,rfl⟩:=List.mem_map.1 hy; simp) (fun y hy=>by
    obtain ⟨p,hp,h⟩:=flat_val hy
    rw [h]; exact hu p hp),List.map_append,List.append_assoc]; rfl
  ·split
   ·rename_i h1 h2
    rw [flat_cons n,← List.nil_append (flatC ((u,es) :: r)),insD_cut (fun y hy=>by cases hy) (fun y hy=>by
     obtain ⟨p,hp,h⟩:=flat_val hy
     rw [h]
     rcases List.mem_cons.1 hp with rfl | hp
     ·exact h2
     ·have:=hu p hp; simp only; omega)]; rfl
   ·rename_i h1 h2
    rw [flat_cons,flat_cons,insD_pass (fun y hy=>by obtain ⟨_,_,rfl⟩:=List.mem_map.1 hy; exact h2),insD_flat e n hr]
theorem flat_sorted {c : List (Int × List Int)} (h : Fall c) : (flatC c).Pairwise fun a b=>b.2 ≤ a.2:=by
 induction h with
 | nil=>exact .nil
 | @cons u es r hr hu he ih =>
  rw [flat_cons,List.pairwise_append]
  refine ⟨?_,ih,fun a ha b hb=>?_⟩
  ·rw [List.pairwise_map]
   exact List.Pairwise.imp (R:=fun _ _=>True) (fun _=>Int.le_refl _) (List.pairwise_of_forall fun _ _=>trivial)
  ·obtain ⟨_,_,rfl⟩:=List.mem_map.1 ha
   obtain ⟨p,hp,h⟩:=flat_val hb
   rw [h]
   have:=hu p hp
   simp only; omega
theorem flat_len (v : Int → Int) (g : List Int) : (flatC (clsF v g)).length = g.length:=by
 have h:=(split_perm v g).length_eq
 rw [← h]
 unfold flatC splitF
 rw [List.length_flatten,List.length_flatten,List.map_map,List.map_map]
 congr 1
 refine List.map_congr_left fun p _=>?_
 simp
theorem insD_at {x : Int × Int} {s : List (Int × Int)} {j : Nat} (hs : s.Pairwise fun a b=>b.2 ≤ a.2) (hj : j ≤ s.length) (h1 : ∀ y ∈ s.drop j,y.2 < x.2) (h2 : ∀ h : 0 < j,¬ (s[j - 1]'(by omega)).2 < x.2) : insD x s = s.take j ++ x :: s.drop j:=by
 have e : s = s.take j ++ s.drop j:=(List.take_append_drop j s).symm
 have hc : insD x (s.take j ++ s.drop j) = s.take j ++ x :: s.drop j:=insD_cut (fun y hy=>by
  obtain ⟨i,hi,rfl⟩:=List.mem_iff_getElem.1 hy
  rw [List.length_take] at hi
  have hj0 : 0 < j:=by omega
  have h3:=h2 hj0
  rw [List.getElem_take]
  by_cases e : i = j - 1
  ·subst e; exact h3
  ·have:=List.pairwise_iff_getElem.1 hs i (j - 1) (by omega) (by omega) (by omega)
   omega) h1
 rw [List.take_append_drop] at hc
 exact hc
theorem addC_cases {e n u : Int} {es : List Int} : ∀ {c : List (Int × List Int)},Fall c → (u,es) ∈ addC e n c → (u ≠ n ∧ (u,es) ∈ c) ∨ (u = n ∧ ((∃ fs,(n,fs) ∈ c ∧ es = fs ++ [e]) ∨ (es = [e] ∧ ∀ p ∈ c,p.1 ≠ n)))
 | [],_,h=>by
  rw [addC,List.mem_singleton] at h
  cases h
  exact .inr ⟨rfl,.inr ⟨rfl,fun p hp=>by cases hp⟩⟩
 | (w,fs) :: r,hf,h=>by
  cases hf with
  | cons hr hu he =>
  rw [addC] at h
  split at h
  ·rename_i h1
   subst h1
   rcases List.mem_cons.1 h with h | h
   ·cases h; exact .inr ⟨rfl,.inl ⟨fs,by simp,rfl⟩⟩
   ·have:=hu _ h
    simp only at this
    exact .inl ⟨by omega,by simp [h]⟩
  ·split at h
   ·rename_i h1 h2
    rcases List.mem_cons.1 h with h | h
    ·cases h
     refine .inr ⟨rfl,.inr ⟨rfl,fun p hp=>?_⟩⟩
     rcases List.mem_cons.1 hp with rfl | hp
     ·exact fun e=>h1 e.symm
     ·have:=hu p hp; omega
    ·refine .inl ⟨?_,h⟩
     rcases List.mem_cons.1 h with h | h
     ·cases h; exact fun e=>h1 e.symm
     ·have:=hu _ h; simp only at this; omega
   ·rename_i h1 h2
    rcases List.mem_cons.1 h with h | h
    ·cases h; exact .inl ⟨fun e=>h1 e.symm,by simp⟩
    ·rcases addC_cases hr h with ⟨h3,h4⟩ | ⟨h3,⟨gs,h4,h5⟩ | ⟨h4,h5⟩⟩
     ·exact .inl ⟨h3,by simp [h4]⟩
     ·exact .inr ⟨h3,.inl ⟨gs,by simp [h4],h5⟩⟩
     ·refine .inr ⟨h3,.inr ⟨h4,fun p hp=>?_⟩⟩
      rcases List.mem_cons.1 hp with rfl | hp
      ·exact fun e=>h1 e.symm
      ·exact h5 p hp
theorem cls_filter (v : Int → Int) : ∀ (m : Nat) (g : List Int),g.length = m → ∀ {u : Int} {es : List Int},(u,es) ∈ clsF v g → es = g.filter fun e=>decide (v e = u)
 | 0,g,hg,u,es,h=>by
  rw [List.length_eq_zero_iff.1 hg] at h
  cases h
 | m + 1,g,hg,u,es,h=>by
  obtain ⟨g',e,rfl⟩ : ∃ g' e,g = g' ++ [e]:=⟨g.dropLast,g.getLast (by rintro rfl; simp at hg),(List.dropLast_concat_getLast _).symm⟩
  rw [clsF_snoc] at h
  have hg' : g'.length = m:=by simp at hg; omega
  have hf:=cls_fall v g'
  rw [List.filter_append]
  rcases addC_cases hf h with ⟨h1,h2⟩ | ⟨rfl,⟨fs,h2,rfl⟩ | ⟨rfl,h2⟩⟩
  ·rw [List.filter_cons_of_neg (by simpa using fun e=>h1 e.symm),List.filter_nil,List.append_nil]
   exact cls_filter v m g' hg' h2
  ·rw [List.filter_cons_of_pos (by simp),List.filter_nil,← cls_filter v m g' hg' h2]
  ·rw [List.filter_cons_of_pos (by simp),List.filter_nil]
   have : g'.filter (fun x=>decide (v x = v e)) = []:=by
    rw [List.filter_eq_nil_iff]
    intro x hx hv
    obtain ⟨es,h3,_⟩:=(cls_mem (v:=v) (g:=g') (u:=v e) (x:=x)).2 ⟨hx,by simpa using hv⟩
    exact h2 _ h3 rfl
   rw [this]; rfl
theorem cls_filter' {v : Int → Int} {g : List Int} {u : Int} {es : List Int} (h : (u,es) ∈ clsF v g) : es = g.filter fun e=>decide (v e = u):=cls_filter v _ g rfl h
theorem fall_ne {c : List (Int × List Int)} (h : Fall c) : ∀ p ∈ c,p.2 ≠ []:=by
 induction h with
 | nil=>intro p hp; cases hp
 | @cons u es r hr hu he ih =>
  intro p hp
  rcases List.mem_cons.1 hp with rfl | hp
  ·exact he
  ·exact ih p hp
def idxI (n : Nat) : List Int:=(List.range n).map fun i : Nat=>(i : Int)
structure Rk where
 cr : Nat → List Int
 val : List Int → Int → Int → Int
def Rk.sp (K : Rk) (g : List Int) (c : Int) : List (List Int):=splitF (K.val g c) g
def Rk.try1 (K : Rk) (g : List Int) (c : Int) : Option (Int × List (List Int)):=if (K.sp g c).length = 1 then none else some (c,K.sp g c)
def Rk.fst (K : Rk) (g : List Int) : Option (Int × List (List Int)):=if g.length ≤ 1 then none else (K.cr g.length).findSome? (K.try1 g)
inductive Ev where
 | sp (c : Int) (parts : List (List Int))
 | gr (g : List Int) (b : Int)
def goT (rank : List Int → Int → List Ev) (c : Int) : List (List Int) → Int → List Ev
 | [],_=>[]
 | p :: ps,b=>rank p b ++ goT rank c ps c
def rankT (K : Rk) : Nat → List Int → Int → List Ev
 | 0,_,_=>[]
 | f + 1,g,b=>match K.fst g with
  | none=>[.gr g b]
  | some (c,parts)=>.sp c parts :: goT (rankT K f) c parts b
def grs : List Ev → List (List Int × Int)
 | []=>[]
 | .sp _ _ :: r=>grs r
 | .gr g b :: r=>(g,b) :: grs r
theorem grs_app : ∀ a b : List Ev,grs (a ++ b) = grs a ++ grs b
 | [],b=>rfl
 | .sp _ _ :: r,b=>by rw [List.cons_append,grs,grs,grs_app r b]
 | .gr _ _ :: r,b=>by rw [List.cons_append,grs,grs,grs_app r b]; rfl
def inP (parts : List (List Int)) (a : Int) : Int:=match parts.findIdx? (fun p=>p.contains a) with
 | some i=>i
 | none=>-1
def apartB (parts : List (List Int)) (a b : Int) : Bool:=decide (0 ≤ inP parts a ∧ 0 ≤ inP parts b ∧ inP parts a ≠ inP parts b)
def bet (a b : Int) : List Ev → Int → Int
 | [],n=>n
 | .sp c parts :: r,n=>bet a b r (if apartB parts a b then c else n)
 | .gr _ _ :: r,n=>bet a b r n
theorem sp_perm (K : Rk) (g : List Int) (c : Int) : (K.sp g c).flatten.Perm g:=split_perm _ _
theorem sp_ne (K : Rk) (g : List Int) (c : Int) : ∀ p ∈ K.sp g c,p ≠ []:=fun p hp=>by
 unfold Rk.sp splitF at hp
 obtain ⟨q,hq,rfl⟩:=List.mem_map.1 hp
 exact fall_ne (cls_fall _ _) q hq
theorem sp_sub {K : Rk} {g : List Int} {c : Int} {p : List Int} (hp : p ∈ K.sp g c) : p.Sublist g:=by
 unfold Rk.sp splitF at hp
 obtain ⟨⟨u,es⟩,hq,rfl⟩:=List.mem_map.1 hp
 rw [show ((u,es) : Int × List Int).2 = es from rfl,cls_filter' hq]
 exact List.filter_sublist
theorem sp_lt {K : Rk} {g : List Int} {c : Int} (h : (K.sp g c).length ≠ 1) {p : List Int} (hp : p ∈ K.sp g c) : p.length < g.length:=by
 have hpe:=(sp_perm K g c).length_eq
 rw [List.length_flatten] at hpe
 have hne:=sp_ne K g c
 generalize K.sp g c = l at *
 obtain ⟨a,b,rfl⟩:=List.append_of_mem hp
 simp only [List.map_append,List.map_cons,List.sum_append,List.sum_cons] at hpe
 have key : ∀ m : List (List Int),(∀ q ∈ m,q ≠ []) → m ≠ [] → 0 < (m.map List.length).sum:=fun m hm h0=>by
  cases m with
  | nil=>exact absurd rfl h0
  | cons q m =>
   have:=List.length_pos_iff.2 (hm q (by simp))
   rw [List.map_cons,List.sum_cons]; omega
 by_cases ha : a = []
 ·subst ha
  have:=key b (fun q hq=>hne q (by simp [hq])) (by rintro rfl; simp at h)
  omega
 ·have:=key a (fun q hq=>hne q (by simp [hq])) ha
  omega
theorem fst_some {K : Rk} {g : List Int} {c : Int} {parts : List (List Int)} (h : K.fst g = some (c,parts)) : c ∈ K.cr g.length ∧ parts = K.sp g c ∧ (K.sp g c).length ≠ 1 ∧ 2 ≤ g.length:=by
 unfold Rk.fst at h
 split at h
 ·cases h
 ·obtain ⟨x,hx,h⟩:=List.exists_of_findSome?_eq_some h
  unfold Rk.try1 at h
  split at h
  ·cases h
  ·rename_i h1 h2
   simp only [Option.some.injEq,Prod.mk.injEq] at h
   obtain ⟨rfl,rfl⟩:=h
   exact ⟨hx,rfl,h2,by omega⟩
theorem go_perm {rank : List Int → Int → List Ev} {c : Int} : ∀ (ps : List (List Int)) (b : Int),(∀ p ∈ ps,∀ b,((grs (rank p b)).map (·.1)).flatten.Perm p) → ((grs (goT rank c ps b)).map (·.1)).flatten.Perm ps.flatten
 | [],b,_=>List.Perm.refl _
 | p :: ps,b,h=>by
  rw [goT,grs_app,List.map_append,List.flatten_append,List.flatten_cons]
  exact (h p (by simp) b).append (go_perm ps c fun q hq=>h q (by simp [hq]))
theorem part_fuel {K : Rk} {f : Nat} {g : List Int} {c : Int} {parts : List (List Int)} (hf : g.length ≤ f + 1) (h : K.fst g = some (c,parts)) {p : List Int} (hp : p ∈ parts) : p.length ≤ f ∧ 1 ≤ f:=by
 obtain ⟨_,rfl,h2,h3⟩:=fst_some h
 have:=sp_lt h2 hp
 have:=List.length_pos_iff.2 (sp_ne K g c p hp)
 omega
theorem rank_perm (K : Rk) : ∀ (f : Nat) (g : List Int) (b : Int),g.length ≤ f → 1 ≤ f → ((grs (rankT K f g b)).map (·.1)).flatten.Perm g
 | 0,g,b,_,h=>absurd h (by decide)
 | f + 1,g,b,hf,_=>by
  rw [rankT]
  cases h : K.fst g with
  | none=>simp [grs]
  | some x =>
   obtain ⟨c,parts⟩:=x
   simp only [grs]
   refine (go_perm parts b fun p hp b=>?_).trans ?_
   ·have:=part_fuel hf h hp
    exact rank_perm K f p b this.1 this.2
   ·obtain ⟨_,rfl,_⟩:=fst_some h
    exact sp_perm K g c
theorem go_mem {rank : List Int → Int → List Ev} {c : Int} {x : List Int × Int} : ∀ {ps : List (List Int)} {b : Int},x ∈ grs (goT rank c ps b) → ∃ p ∈ ps,∃ b,x ∈ grs (rank p b)
 | [],b,h=>by cases h
 | p :: ps,b,h=>by
  rw [goT,grs_app,List.mem_append] at h
  rcases h with h | h
  ·exact ⟨p,by simp,b,h⟩
  ·obtain ⟨q,hq,b',h⟩:=go_mem h
   exact ⟨q,by simp [hq],b',h⟩
theorem rank_mem (K : Rk) : ∀ (f : Nat) (g : List Int) (b : Int) (x : List Int × Int),x ∈ grs (rankT K f g b) → x.1.Sublist g ∧ K.fst x.1 = none
 | 0,g,b,x,h=>by cases h
 | f + 1,g,b,x,hx=>by
  rw [rankT] at hx
  cases h : K.fst g with
  | none =>
   rw [h] at hx
   simp only [grs,List.mem_singleton] at hx
   subst hx
   exact ⟨List.Sublist.refl _,h⟩
  | some y =>
   obtain ⟨c,parts⟩:=y
   rw [h] at hx
   simp only [grs] at hx
   obtain ⟨p,hp,b',h1⟩:=go_mem hx
   obtain ⟨h2,h3⟩:=rank_mem K f p b' x h1
   obtain ⟨_,rfl,_⟩:=fst_some h
   exact ⟨h2.trans (sp_sub hp),h3⟩
theorem rank_nonempty (K : Rk) : ∀ (f : Nat) (g : List Int) (b : Int) (x : List Int × Int),g ≠ [] → x ∈ grs (rankT K f g b) → x.1 ≠ []
 | 0,g,b,x,_,h=>by cases h
 | f + 1,g,b,x,hg,hx=>by
  rw [rankT] at hx
  cases h : K.fst g with
  | none =>
   rw [h] at hx
   simp only [grs,List.mem_singleton] at hx
   subst hx
   exact hg
  | some y =>
   obtain ⟨c,parts⟩:=y
   rw [h] at hx
   simp only [grs] at hx
   obtain ⟨p,hp,b',h1⟩:=go_mem hx
   obtain ⟨_,rfl,_⟩:=fst_some h
   exact rank_nonempty K f p b' x (sp_ne K g c p hp) h1
theorem go_congr {r s : List Int → Int → List Ev} {c : Int} : ∀ {ps : List (List Int)} {b : Int},(∀ p ∈ ps,∀ b,r p b = s p b) → goT r c ps b = goT s c ps b
 | [],b,_=>rfl
 | p :: ps,b,h=>by rw [goT,goT,h p (by simp),go_congr fun q hq=>h q (by simp [hq])]
theorem rank_fuel (K : Rk) : ∀ (f k : Nat) (g : List Int) (b : Int),g.length ≤ f → 1 ≤ f → g.length ≤ k → 1 ≤ k → rankT K f g b = rankT K k g b
 | 0,_,g,b,_,h,_,_=>absurd h (by decide)
 | _ + 1,0,g,b,_,_,_,h=>absurd h (by decide)
 | f + 1,k + 1,g,b,hf,_,hk,_=>by
  rw [rankT,rankT]
  cases h : K.fst g with
  | none=>rfl
  | some y =>
   obtain ⟨c,parts⟩:=y
   simp only
   rw [go_congr fun p hp b=>by
    have h1:=part_fuel hf h hp
    have h2:=part_fuel hk h hp
    exact rank_fuel K f k p b h1.1 h1.2 h2.1 h2.2]
theorem rank_b (K : Rk) : ∀ (f : Nat) (g : List Int) (b b' : Int),(grs (rankT K f g b)).map (·.1) = (grs (rankT K f g b')).map (·.1)
 | 0,g,b,b'=>rfl
 | f + 1,g,b,b'=>by
  rw [rankT,rankT]
  cases h : K.fst g with
  | none=>rfl
  | some y =>
   obtain ⟨c,parts⟩:=y
   simp only [grs]
   cases parts with
   | nil=>rfl
   | cons p ps=>rw [goT,goT,grs_app,grs_app,List.map_append,List.map_append,rank_b K f p b b']
def AdjP (rank : List Int → Int → List Ev) (c : Int) (ps : List (List Int)) (x y : List Int × Int) : Prop :=
 (∃ p ∈ ps,∃ b' l1' l2',grs (rank p b') = l1' ++ x :: y :: l2') ∨ (y.2 = c ∧ ∃ (i j : Nat) (hi : i < ps.length) (hj : j < ps.length) (bi bj : Int),i < j ∧ x ∈ grs (rank ps[i] bi) ∧ y ∈ grs (rank ps[j] bj))
theorem AdjP.cons {rank : List Int → Int → List Ev} {c : Int} {ps : List (List Int)} {x y : List Int × Int} (p : List Int) (h : AdjP rank c ps x y) : AdjP rank c (p :: ps) x y:=by
 rcases h with ⟨q,hq,h⟩ | ⟨h1,i,j,hi,hj,bi,bj,h2,h3,h4⟩
 ·exact .inl ⟨q,by simp [hq],h⟩
 ·exact .inr ⟨h1,i + 1,j + 1,by simpa using hi,by simpa using hj,bi,bj,by omega,by simpa using h3,by simpa using h4⟩
end Go.Proofs.YtihibgcojdfndaaGreatDoor
namespace Go.Proofs.YtihibgcojdfndaaGreatDoor
open Go.Tidy
variable {L : List Blk} {k : V → List Blk → Prop}
theorem Fm.c_d (c : Co) : (Fm.c c).d = .iface 237 true [DI c.kind,DI c.var,DI c.n,cos c.parts]:=by
 show D.iface 237 true c.cells = _
 rw [Co.cells_eq]
theorem Fm.s_d (s : Sp) : (Fm.s s).d = .iface 209 true [DI s.kind,DI s.by_,DI s.cond.kind,DI s.cond.var,DI s.cond.n,cos s.cond.parts,sps s.thn,sps s.els]:=by
 show D.iface 209 true s.cells = _
 rw [Sp.cells_eq]
theorem rdF_next (x : List Fm) (d : D) (f : Fm) (hd : f.d = d) : [Blk.row (x.length + 1) 1 ((rdF x).take x.length ++ [[.d d]])] = [Blk.row (x ++ [f]).length 1 (rdF (x ++ [f]))]:=by
 rw [List.take_of_length_le (by unfold rdF; rw [List.length_map]; exact zw21 _),List.length_append,← hd]
 unfold rdF
 rw [List.map_append]; rfl
theorem conds_o (l : List Co) (hl : l.length ≤ 4398046511104) : CallP C 214 [.d (cos l)] [] fun X L=>L = [.row l.length 1 (rdF (l.map .c))] ∧ X = .own 0 l.length 0 l.length:=by
 refine zw24 C_ok Tryz.func214 rfl rfl rfl (zw18 rfl) rfl ?_
 conv=>whnf
 refine zw26 (fun i=>i ≤ l.length) (fun i=>⟨[(2,.own 0 ((l.take i).map Fm.c).length 0 ((l.take i).map Fm.c).length),(5,.d (cos l)),(6,I l.length),(7,I i)],Tryz.f214.ntmps,[.row ((l.take i).map Fm.c).length 1 (rdF ((l.take i).map Fm.c))],[],none⟩) (fun i=>l.length - i) 0 (zw22 _) ?_ ?_
 ·exact (Weak.nilOwn 2 1 rfl (by decide)).trans (zw27 ⟨rfl,rfl,congrArg I (by simp),rfl,trivial⟩)
 intro i hi
 obtain ⟨x,hx⟩ : ∃ x,x = (l.take i).map Fm.c:=⟨_,rfl⟩
 have hxl : x.length = i:=by rw [hx,List.length_map,List.length_take]; omega
 rw [← hx]
 by_cases hi' : i < l.length
 ·have hlt : (i : Int) < (l.length : Int):=by omega
  have hw:=zwW i (by omega)
  have r1 : (l.map Co.cells)[i]? = some [DI l[i].kind,DI l[i].var,DI l[i].n,cos l[i].parts]:=by rw [List.getElem?_map,List.getElem?_eq_getElem hi',← Co.cells_eq]; rfl
  have hnx : (l.take (i + 1)).map Fm.c = x ++ [.c l[i]]:=by rw [hx,take_next hi',List.map_append]; rfl
  have hcn:=rdF_next x (.iface 237 true [DI l[i].kind,DI l[i].var,DI l[i].n,cos l[i].parts]) (.c l[i]) (Fm.c_d _)
  rw [← hnx] at hcn
  have hln : ((l.take (i + 1)).map Fm.c).length = x.length + 1:=by rw [hnx,List.length_append]; rfl
  repeat' ((conv=>whnf); first|refine zw8 (zw19 hlt) ?_|refine zw10 i _ rfl r1 ?_|simp only [Nat.beq_refl,Bool.and_self]|refine zw6 (show x.length + 1 ≤ 8796093022208 by omega) ?_|refine zw6 rfl ?_)
  conv=>whnf
  exact ⟨i + 1,hi',by omega,Weak.to 1 (Eq.trans rfl hcn) (zw22 _) (zw18 rfl) ⟨(by rw [hln]; rfl),rfl,rfl,congrArg I hw,trivial⟩ (hB:=by show (belR 1 (rdF _) && true) = true; rw [rdF_bel]; rfl)⟩
 ·have hlt : ¬ (i : Int) < (l.length : Int):=by omega
  have hxx : x = l.map Fm.c:=by rw [hx,List.take_of_length_le (by omega)]
  have hxl2 : x.length = l.length:=by omega
  repeat' ((conv=>whnf); refine zw9 (zw20 hlt) ?_)
  conv=>whnf
  exact FinP.same ⟨Eq.trans (b:=[.row x.length 1 (rdF x)]) rfl (by rw [hxl2,hxx]),Eq.trans (b:=V.own 0 x.length 0 x.length) rfl (by rw [hxl2])⟩
theorem steps_o (l : List Sp) (hl : l.length ≤ 4398046511104) : CallP C 92 [.d (sps l)] [] fun X L=>L = [.row l.length 1 (rdF (l.map .s))] ∧ X = .own 0 l.length 0 l.length:=by
 refine zw24 C_ok Tryz.func92 rfl rfl rfl (zw18 rfl) rfl ?_
 conv=>whnf
 refine zw26 (fun i=>i ≤ l.length) (fun i=>⟨[(2,.own 0 ((l.take i).map Fm.s).length 0 ((l.take i).map Fm.s).length),(5,.d (sps l)),(6,I l.length),(7,I i)],Tryz.f92.ntmps,[.row ((l.take i).map Fm.s).length 1 (rdF ((l.take i).map Fm.s))],[],none⟩) (fun i=>l.length - i) 0 (zw22 _) ?_ ?_
 ·exact (Weak.nilOwn 2 1 rfl (by decide)).trans (zw27 ⟨rfl,rfl,congrArg I (by simp),rfl,trivial⟩)
 intro i hi
 obtain ⟨x,hx⟩ : ∃ x,x = (l.take i).map Fm.s:=⟨_,rfl⟩
 have hxl : x.length = i:=by rw [hx,List.length_map,List.length_take]; omega
 rw [← hx]
 by_cases hi' : i < l.length
 ·have hlt : (i : Int) < (l.length : Int):=by omega
  have hw:=zwW i (by omega)
  have r1 : (l.map Sp.cells)[i]? = some [DI l[i].kind,DI l[i].by_,DI l[i].cond.kind,DI l[i].cond.var,DI l[i].cond.n,cos l[i].cond.parts,sps l[i].thn,sps l[i].els]:=by rw [List.getElem?_map,List.getElem?_eq_getElem hi',← Sp.cells_eq]; rfl
  have hnx : (l.take (i + 1)).map Fm.s = x ++ [.s l[i]]:=by rw [hx,take_next hi',List.map_append]; rfl
  have hcn:=rdF_next x (.iface 209 true [DI l[i].kind,DI l[i].by_,DI l[i].cond.kind,DI l[i].cond.var,DI l[i].cond.n,cos l[i].cond.parts,sps l[i].thn,sps l[i].els]) (.s l[i]) (Fm.s_d _)
  rw [← hnx] at hcn
  have hln : ((l.take (i + 1)).map Fm.s).length = x.length + 1:=by rw [hnx,List.length_append]; rfl
  repeat' ((conv=>whnf); first|refine zw8 (zw19 hlt) ?_|refine zw10 i _ rfl r1 ?_|simp only [Nat.beq_refl,Bool.and_self]|refine zw6 (show x.length + 1 ≤ 8796093022208 by omega) ?_|refine zw6 rfl ?_)
  conv=>whnf
  exact ⟨i + 1,hi',by omega,Weak.to 1 (Eq.trans rfl hcn) (zw22 _) (zw18 rfl) ⟨(by rw [hln]; rfl),rfl,rfl,congrArg I hw,trivial⟩ (hB:=by show (belR 1 (rdF _) && true) = true; rw [rdF_bel]; rfl)⟩
 ·have hlt : ¬ (i : Int) < (l.length : Int):=by omega
  have hxx : x = l.map Fm.s:=by rw [hx,List.take_of_length_le (by omega)]
  have hxl2 : x.length = l.length:=by omega
  repeat' ((conv=>whnf); refine zw9 (zw20 hlt) ?_)
  conv=>whnf
  exact FinP.same ⟨Eq.trans (b:=[.row x.length 1 (rdF x)]) rfl (by rw [hxl2,hxx]),Eq.trans (b:=V.own 0 x.length 0 x.length) rfl (by rw [hxl2])⟩
theorem rowF_data {n : Nat} {x : List Fm} (hn : n = x.length) (h : k (.d (fms x)) []) : FinP 0 (.own 0 n 0 n) [.row n 1 (rdF x)] k:=by
 subst hn
 exact zw16 (L':=[]) (.d (.rowL (ds:=x.map fun f : Fm=>[f.d]) (zw22 _) rfl (rdF_rows' x) (by simp) (rdF_e x))) rfl rfl h
theorem conds_c (l : List Co) (hl : l.length ≤ 4398046511104) (h : k (.d (fms (l.map .c))) L) : CallP C 214 [.d (cos l)] L k:=by
 refine zw25 (callP_fin (conds_o l hl) fun X L' h=>?_) rfl (fun _=>rfl) h
 obtain ⟨rfl,rfl⟩:=h
 exact ⟨zw22 _,rowF_data (by simp) ⟨rfl,rfl⟩⟩
theorem steps_c (l : List Sp) (hl : l.length ≤ 4398046511104) (h : k (.d (fms (l.map .s))) L) : CallP C 92 [.d (sps l)] L k:=by
 refine zw25 (callP_fin (steps_o l hl) fun X L' h=>?_) rfl (fun _=>rfl) h
 obtain ⟨rfl,rfl⟩:=h
 exact ⟨zw22 _,rowF_data (by simp) ⟨rfl,rfl⟩⟩
theorem steps_f (l : List Sp) (hl : l.length ≤ 4398046511104) (h : k (.own L.length l.length 0 l.length) (L ++ [.row l.length 1 (rdF (l.map .s))])) : CallP C 92 [.d (sps l)] L k:=by
 refine CallP.frame (steps_o l hl) rfl ?_
 rintro X L' ⟨rfl,rfl⟩
 show k (.own (0 + L.length) l.length 0 l.length) (L ++ [(Blk.row l.length 1 (rdF (l.map .s))).sh L.length])
 rw [rdF_shB,Nat.zero_add]; exact h
theorem cparts_c (c : Co) (hl : c.parts.length ≤ 4398046511104) (h : k (.d (fms (Fm.c c).parts)) L) : CallP C 196 [.agg (c.cells.map .d)] L k:=by
 rw [Co.cells_eq]
 refine zw25 ?_ rfl (fun _=>rfl) h
 clear h
 refine zw24 C_ok Tryz.func196 rfl rfl rfl (zw18 rfl) rfl ?_
 conv=>whnf
 refine conds_c c.parts hl ?_
 skip
 conv=>whnf
 exact FinP.zz rfl ⟨rfl,rfl⟩
theorem sp_len (s : Sp) (h1 : s.thn.length ≤ 4398046511104) (h2 : s.els.length ≤ 4398046511104) : s.thn.length + (((s.els.map Fm.s).map fun f=>[f.d]).map fun x=>x.map V.d).length ≤ 8796093022208:=by
 simp only [List.length_map]; omega
theorem sp_rows (s : Sp) : (rdF (s.thn.map .s)).take s.thn.length ++ (((s.els.map Fm.s).map fun f=>[f.d]).map fun x=>x.map V.d) = rdF (Fm.s s).parts:=by
 rw [List.take_of_length_le (by unfold rdF; simp)]
 unfold rdF
 show _ = ((s.thn ++ s.els).map Fm.s).map fun f=>[V.d f.d]
 rw [List.map_append,List.map_append,List.map_map]
 congr 1
 rw [List.map_map]; rfl
theorem sparts_c (s : Sp) (h1 : s.thn.length ≤ 4398046511104) (h2 : s.els.length ≤ 4398046511104) (h : k (.d (fms (Fm.s s).parts)) L) : CallP C 197 [.agg (s.cells.map .d)] L k:=by
 rw [Sp.cells_eq]
 refine zw25 ?_ rfl (fun _=>rfl) h
 clear h
 refine zw24 C_ok Tryz.func197 rfl rfl rfl (zw18 rfl) rfl ?_
 conv=>whnf
 refine DrawP.por mixed [2,3,6,7] [[(0,0),(1,0),(4,0),(5,0),(2,2),(3,2),(6,2),(7,2),(8,0),(9,0)],[(0,0),(1,0),(4,0),(5,0),(2,2),(6,2),(3,2),(7,2),(8,0),(9,0)],[(0,0),(1,0),(4,0),(5,0),(6,2),(2,2),(3,2),(7,2),(8,0),(9,0)]] (by kernel_rfl) ?_
 conv=>whnf
 refine And.intro ?_ ?_
 rotate_left 1
 conv=>whnf
 refine And.intro ?_ ?_
 all_goals
  repeat' ((conv=>whnf); first|refine zw13 (.d (sps s.thn)) _ ⟨rfl,rfl⟩ ?_|refine zw13 (.d (sps s.els)) _ ⟨rfl,rfl⟩ ?_|refine zw13 _ _ (steps_f s.thn h1 ⟨rfl,rfl⟩) ?_|refine zw13 _ _ (steps_c s.els h2 ⟨rfl,rfl⟩) ?_|refine zw6 (rdF_e _) ?_|refine zw6 (sp_len s h1 h2) ?_|simp only [Nat.beq_refl,Bool.and_self])
 all_goals conv=>whnf
 all_goals refine zw16 (L':=[]) (.d (.rowL (gen:=s.thn.length + 1) (sz:=1) (els:=(rdF (s.thn.map .s)).take s.thn.length ++ (((s.els.map Fm.s).map fun f=>[f.d]).map fun x=>x.map V.d)) (ds:=(Fm.s s).parts.map fun f : Fm=>[f.d]) (zw22 _) rfl ?_ ?_ (rdF_e _))) rfl rfl ⟨rfl,rfl⟩
 all_goals first
  | (rw [sp_rows,List.drop_zero,List.take_of_length_le (by unfold rdF Fm.parts; simp)]; exact rdF_rows _)
  | (unfold Fm.parts; simp)
theorem meth_c : MethOK C.P 237 "assize/typing.parts" 196 := by
 intro v w
 have hi : ∃ i, C.P.info? 237 = some i ∧ ∃ m, i.methods.find? (·.name == "assize/typing.parts") = some m ∧ m.path = #[] ∧ m.func = some (196, false) := ⟨_, rfl, _, rfl, rfl, rfl⟩
 obtain ⟨i,h1,m,h2,h3,h4⟩:=hi
 show (method (_ + 1) 237 v "assize/typing.parts").run C.P w = _
 simp [method,typeInfo,h1,h2,h3,h4,follow,receiverAt]
 rw [run_underlying (show C.P.underlying 237 = some _ from Tryz.underlying237)]; rfl
theorem meth_s : MethOK C.P 209 "assize/typing.parts" 197 := by
 intro v w
 have hi : ∃ i, C.P.info? 209 = some i ∧ ∃ m, i.methods.find? (·.name == "assize/typing.parts") = some m ∧ m.path = #[] ∧ m.func = some (197, false) := ⟨_, rfl, _, rfl, rfl, rfl⟩
 obtain ⟨i,h1,m,h2,h3,h4⟩:=hi
 show (method (_ + 1) 209 v "assize/typing.parts").run C.P w = _
 simp [method,typeInfo,h1,h2,h3,h4,follow,receiverAt]
 rw [run_underlying (show C.P.underlying 209 = some _ from Tryz.underlying209)]; rfl
inductive LCo : Co → Prop
 | mk {c : Co} (h : c.parts.length ≤ 4398046511104) (hs : ∀ p ∈ c.parts,LCo p) : LCo c
theorem LCo.len {c : Co} : LCo c → c.parts.length ≤ 4398046511104 | .mk h _=>h
theorem LCo.sub {c : Co} : LCo c → ∀ p ∈ c.parts,LCo p | .mk _ h=>h
inductive LSp : Sp → Prop
 | mk {s : Sp} (h1 : s.thn.length ≤ 4398046511104) (h2 : s.els.length ≤ 4398046511104) (hc : LCo s.cond) (ht : ∀ p ∈ s.thn,LSp p) (he : ∀ p ∈ s.els,LSp p) : LSp s
theorem LSp.len1 {s : Sp} : LSp s → s.thn.length ≤ 4398046511104 | .mk h _ _ _ _=>h
theorem LSp.len2 {s : Sp} : LSp s → s.els.length ≤ 4398046511104 | .mk _ h _ _ _=>h
theorem LSp.cond {s : Sp} : LSp s → LCo s.cond | .mk _ _ h _ _=>h
theorem LSp.thn {s : Sp} : LSp s → ∀ p ∈ s.thn,LSp p | .mk _ _ _ h _=>h
theorem LSp.els {s : Sp} : LSp s → ∀ p ∈ s.els,LSp p | .mk _ _ _ _ h=>h
def LFm : Fm → Prop
 | .c x=>LCo x
 | .s x=>LSp x
structure LFs (l : List Fm) : Prop where
 len : l.length ≤ 8796093022208
 all : ∀ f ∈ l,LFm f
theorem LFm.parts {f : Fm} (h : LFm f) : LFs f.parts:=by
 cases f with
 | c x =>
  have h : LCo x:=h
  refine ⟨?_,fun f hf=>?_⟩
  ·show (x.parts.map Fm.c).length ≤ _
   rw [List.length_map]; have:=h.len; omega
  ·obtain ⟨y,hy,rfl⟩:=List.mem_map.1 hf
   exact h.sub y hy
 | s x =>
  have h : LSp x:=h
  refine ⟨?_,fun f hf=>?_⟩
  ·show ((x.thn ++ x.els).map Fm.s).length ≤ _
   rw [List.length_map,List.length_append]; have:=h.len1; have:=h.len2; omega
  ·obtain ⟨y,hy,rfl⟩:=List.mem_map.1 hf
   rcases List.mem_append.1 hy with hy | hy
   ·exact h.thn y hy
   ·exact h.els y hy
def isZ (c : Co) : Bool:=decide (c.kind = 0) && decide (c.var = 0) && decide (c.n = 0) && decide ((c.parts.length : Int) = 0)
theorem isZero_c (c : Co) (h : k (B (isZ c)) L) : CallP C 169 [.agg (c.cells.map .d)] L k:=by
 rw [Co.cells_eq]
 refine zw25 ?_ rfl (fun _=>rfl) h
 clear h
 refine zw24 C_ok Tryz.func169 rfl rfl rfl (zw18 rfl) rfl ?_
 repeat' ((conv=>whnf); refine zw2 (fun h=>?_) (fun h=>?_))
 all_goals conv=>whnf
 all_goals refine FinP.zz rfl ⟨rfl,congrArg B ?_⟩
 all_goals simp_all [isZ]
abbrev W:=Bool × Int × Int
def over (a : Int × Int) : Bool:=decide (64 < a.1) || decide (256 < a.2)
def wTail (w : List Fm → Nat → Int × Int → W) (f : Fm) (d : Nat) (a : Int × Int) : W:=if over a = true then (false,a) else w f.parts (d + 1) a
def wStep (w : List Fm → Nat → Int × Int → W) (f : Fm) (d : Nat) (a : Int × Int) : W :=
 match f with
 | .c x=>wTail w (.c x) d (a.1,a.2 + 1)
 | .s x=>if isZ x.cond = true then wTail w (.s x) d (a.1 + 1,a.2) else if (w [.c x.cond] 0 (a.1 + 1,a.2)).1 = true then wTail w (.s x) d (w [.c x.cond] 0 (a.1 + 1,a.2)).2 else w [.c x.cond] 0 (a.1 + 1,a.2)
def wLoop (w : List Fm → Nat → Int × Int → W) : List Fm → Nat → Int × Int → W
 | [],_,a=>(true,a)
 | f :: l,d,a=>if (wStep w f d a).1 = true then wLoop w l d (wStep w f d a).2 else wStep w f d a
def wF : Nat → List Fm → Nat → Int × Int → W
 | 0,_,_,a=>(false,a)
 | n + 1,l,d,a=>if l ≠ [] ∧ 16 < d then (false,a) else wLoop (wF n) l d a
def Bs (a : Int × Int) : Prop:=0 ≤ a.1 ∧ a.1 ≤ 64 ∧ 0 ≤ a.2 ∧ a.2 ≤ 256
def Bd (n : Nat) (a : Int × Int) : Prop:=0 ≤ a.1 ∧ 0 ≤ a.2 ∧ a.1 + n ≤ 1000000 ∧ a.2 + n ≤ 1000000
def Wq (w : List Fm → Nat → Int × Int → W) : Prop:=∀ l d a,0 ≤ a.1 → 0 ≤ a.2 → (w l d a).1 = true → (l = [] ∧ (w l d a).2 = a) ∨ Bs (w l d a).2
theorem over_no {a : Int × Int} (h1 : 0 ≤ a.1) (h2 : 0 ≤ a.2) (h : ¬ over a = true) : Bs a:=by
 simp only [over,Bool.or_eq_true,decide_eq_true_eq,not_or] at h
 exact ⟨h1,by omega,h2,by omega⟩
theorem wTail_q {w : List Fm → Nat → Int × Int → W} (hw : Wq w) {f : Fm} {d : Nat} {a : Int × Int} (h1 : 0 ≤ a.1) (h2 : 0 ≤ a.2) (h : (wTail w f d a).1 = true) : Bs (wTail w f d a).2:=by
 unfold wTail at h ⊢
 by_cases ho : over a = true
 ·rw [if_pos ho] at h; cases h
 ·rw [if_neg ho] at h ⊢
  rcases hw _ _ _ h1 h2 h with ⟨_,e⟩ | e
  ·rw [e]; exact over_no h1 h2 ho
  ·exact e
theorem wStep_q {w : List Fm → Nat → Int × Int → W} (hw : Wq w) {f : Fm} {d : Nat} {a : Int × Int} (h1 : 0 ≤ a.1) (h2 : 0 ≤ a.2) (h : (wStep w f d a).1 = true) : Bs (wStep w f d a).2:=by
 cases f with
 | c x=>exact wTail_q hw (by simpa using h1) (by simp only; omega) h
 | s x =>
  unfold wStep at h ⊢
  by_cases hz : isZ x.cond = true
  ·simp only [if_pos hz] at h ⊢; exact wTail_q hw (by simp only; omega) (by simpa using h2) h
  ·simp only [if_neg hz] at h ⊢
   by_cases hr : (w [.c x.cond] 0 (a.1 + 1,a.2)).1 = true
   ·simp only [if_pos hr] at h ⊢
    rcases hw _ _ _ (by simp only; omega) (by simpa using h2) hr with ⟨e,_⟩ | e
    ·cases e
    ·exact wTail_q hw e.1 e.2.2.1 h
   ·simp only [if_neg hr] at h; exact absurd h hr
theorem wLoop_q {w : List Fm → Nat → Int × Int → W} (hw : Wq w) : ∀ (l : List Fm) (d : Nat) (a : Int × Int),0 ≤ a.1 → 0 ≤ a.2 → (wLoop w l d a).1 = true → (l = [] ∧ (wLoop w l d a).2 = a) ∨ Bs (wLoop w l d a).2
 | [],d,a,_,_,_=>.inl ⟨rfl,rfl⟩
 | f :: l,d,a,h1,h2,h=>by
  unfold wLoop at h ⊢
  by_cases hr : (wStep w f d a).1 = true
  ·rw [if_pos hr] at h ⊢
   have hb:=wStep_q hw h1 h2 hr
   rcases wLoop_q hw l d _ hb.1 hb.2.2.1 h with ⟨_,e⟩ | e
   ·exact .inr (by rw [e]; exact hb)
   ·exact .inr e
  ·rw [if_neg hr] at h; exact absurd h hr
theorem wF_q : ∀ n,Wq (wF n)
 | 0=>fun l d a _ _ h=>by cases h
 | n + 1=>fun l d a h1 h2 h=>by
  unfold wF at h ⊢
  by_cases hc : l ≠ [] ∧ 16 < d
  ·rw [if_pos hc] at h; cases h
  ·rw [if_neg hc] at h ⊢; exact wLoop_q (wF_q n) l d a h1 h2 h
def need : Fm → Nat
 | .c _=>18
 | .s _=>40
structure Enough (n : Nat) (l : List Fm) (d : Nat) : Prop where
 pos : 1 ≤ n
 le : n ≤ 100
 dep : d ≤ 17
 ok : ∀ f ∈ l,need f ≤ n + d
theorem Enough.parts {n : Nat} {l : List Fm} {d : Nat} (h : Enough (n + 1) l d) (hd : d ≤ 16) {f : Fm} (hf : f ∈ l) : Enough n f.parts (d + 1):=by
 have h0:=h.ok f hf
 have hl:=h.le
 cases f with
 | c x =>
  simp only [need] at h0
  refine ⟨by omega,by omega,by omega,fun g hg=>?_⟩
  obtain ⟨y,_,rfl⟩:=List.mem_map.1 hg
  simp only [need]; omega
 | s x =>
  simp only [need] at h0
  refine ⟨by omega,by omega,by omega,fun g hg=>?_⟩
  obtain ⟨y,_,rfl⟩:=List.mem_map.1 hg
  simp only [need]; omega
theorem Enough.cond {n : Nat} {l : List Fm} {d : Nat} (h : Enough (n + 1) l d) (hd : d ≤ 16) {s : Sp} (hf : .s s ∈ l) : Enough n [.c s.cond] 0:=by
 have h0:=h.ok _ hf
 have hl:=h.le
 simp only [need] at h0
 refine ⟨by omega,by omega,by omega,fun g hg=>?_⟩
 rw [List.mem_singleton.1 hg]
 simp only [need]; omega
def WCall (n : Nat) (l : List Fm) (d : Nat) (a : Int × Int) : Prop:=CallP C 130 [.ptr 0 0,.d (fms l),I d] [.cells [I a.1,I a.2]] fun X L'=>L' = [.cells [I (wF n l d a).2.1,I (wF n l d a).2.2]] ∧ X = B (wF n l d a).1
end Go.Proofs.YtihibgcojdfndaaGreatDoor
