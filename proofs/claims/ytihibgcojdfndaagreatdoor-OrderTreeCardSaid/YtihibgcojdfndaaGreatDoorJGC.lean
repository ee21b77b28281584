import Derived.Test.YtihibgcojdfndaaGreatDoorJGB
import Derived.Test.YtihibgcojdfndaaGreatDoorRows
import Derived.Orders
import Derived.ReadAgain
import Derived.ChangeArms
import Derived.ChangeSame
import Derived.ChangeShapes
import Derived.RowKit3
import Derived.WideShapes
import Derived.Below
import Derived.RowKit
set_option maxRecDepth 100000
set_option maxHeartbeats 0
set_option linter.unusedSimpArgs false
set_option linter.unusedVariables false
namespace Go.Tidy
def forceV : List V → (List V → Prop) → Prop
 | [],K=>K []
 | x :: r,K=>V.force x fun x=>forceV r fun r=>K (x :: r)
theorem forceV_eq : ∀ (l : List V) (K : List V → Prop),forceV l K = K l
 | [],K=>rfl
 | x :: r,K=>by simp only [forceV,V.force_eq,forceV_eq r]
def forceP : List (Nat × V) → (List (Nat × V) → Prop) → Prop
 | [],K=>K []
 | p :: r,K=>V.force p.2 fun x=>forceP r fun r=>K ((p.1,x) :: r)
theorem forceP_eq : ∀ (l : List (Nat × V)) (K : List (Nat × V) → Prop),forceP l K = K l
 | [],K=>rfl
 | p :: r,K=>by simp only [forceP,V.force_eq,forceP_eq r]
def vOpF (C : Ctx) (o : Oper) (fr : List (Nat × V)) (L : List Blk) (k : V → List Blk → Prop) : Prop :=
 match o.op with
 | .box _ x=>V.force (ev fr x) fun x=>vBox x L k
 | .build t ps=>forceP (ps.toList.map fun p=>(p.1,ev fr p.2)) fun ps=>vBuild C t ps fun x=>k x L
 | .buildSlice t len ps=>forceP (ps.toList.map fun p=>(p.1,ev fr p.2)) fun ps=>vBuildSlice C t len ps L k
 | .store t a x=>V.head (ev fr a) fun a=>V.force (ev fr x) fun x=>vStore C t a x L fun L'=>k .poison L'
 | .makeFunc (.func f) first caps=>forceV (caps.toList.map (ev fr)) fun cs=>bif first.isEmpty then k (.fn f cs) L else False
 | .insert t m x v=>V.head (ev fr m) fun m=>V.force (ev fr x) fun x=>V.force (ev fr v) fun v=>vMapUpdate C t m x v L fun L'=>k .poison L'
 | .mapUpdate t m x v=>V.head (ev fr m) fun m=>V.force (ev fr x) fun x=>V.force (ev fr v) fun v=>vMapUpdate C t m x v L fun L'=>k .poison L'
 | .lookup t x i ok=>V.head (ev fr x) fun x=>V.force (ev fr i) fun i=>vLookup C t x i ok L fun x=>k x L
 | .call c=>match c.callee with
  | .value f=>V.force (ev fr f) fun f=>forceV (c.args.toList.map (ev fr)) fun args=>vCallV C f args L k
  | _=>vOp C o fr L k
 | _=>vOp C o fr L k
theorem vOpF_eq (C : Ctx) (o : Oper) (fr : List (Nat × V)) (L : List Blk) (k : V → List Blk → Prop) : vOpF C o fr L k = vOp C o fr L k:=by
 unfold vOpF
 split
 ·rename_i h; simp only [V.force_eq,vOp,h]
 ·rename_i h; simp only [forceP_eq,vOp,h]
 ·rename_i h; simp only [forceP_eq,vOp,h]
 ·rename_i h; simp only [V.force_eq,V.head_eq,vOp,h]
 ·rename_i h; simp only [forceV_eq,vOp,h]
 ·rename_i h; simp only [V.force_eq,V.head_eq,vOp,h]
 ·rename_i h; simp only [V.force_eq,V.head_eq,vOp,h]
 ·rename_i h; simp only [V.force_eq,V.head_eq,vOp,h]
 ·rename_i c h
  split
  ·rename_i f hc; simp only [V.force_eq,forceV_eq,vOp,h,hc]
  ·rfl
 ·rfl
def dstAt (all : List Oper) (j : Nat) : Option Nat:=match all[j]? with | some o=>o.dst | none=>none
def vPut (n : Nat) (dst : Option Tmp) (fr : List (Nat × V)) (v : V) (K : List (Nat × V) → Prop) : Prop :=
 match dst with
 | none=>K fr
 | some d=>bif Nat.blt d n then V.force v fun v=>K ((d,v) :: fr) else False
def vcOp1 (C : Ctx) (n : Nat) (all : List Oper) (o : Oper) (fr : List (Nat × V)) (L : List Blk) (K : List (Nat × V) → List Blk → Prop) : Prop :=
 match o.guard with
 | none=>vOpF C o fr L fun v L'=>vPut n o.dst fr v fun fr'=>K fr' L'
 | some (j,want) =>
  match dstAt all j with
  | none=>False
  | some d=>match look fr d with
   | .tt=>match want with
    | true=>vOpF C o fr L fun v L'=>vPut n o.dst fr v fun fr'=>K fr' L'
    | false=>vPut n o.dst fr (.tup []) fun fr'=>K fr' L
   | .ff=>match want with
    | false=>vOpF C o fr L fun v L'=>vPut n o.dst fr v fun fr'=>K fr' L'
    | true=>vPut n o.dst fr (.tup []) fun fr'=>K fr' L
   | .d (.bool t)=>Br t fun b=>match b,want with
    | true,true=>vOpF C o ((d,.tt) :: fr) L fun v L'=>vPut n o.dst ((d,.tt) :: fr) v fun fr'=>K fr' L'
    | false,false=>vOpF C o ((d,.ff) :: fr) L fun v L'=>vPut n o.dst ((d,.ff) :: fr) v fun fr'=>K fr' L'
    | true,false=>vPut n o.dst ((d,.tt) :: fr) (.tup []) fun fr'=>K fr' L
    | false,true=>vPut n o.dst ((d,.ff) :: fr) (.tup []) fun fr'=>K fr' L
   | .tup []=>vPut n o.dst fr (.tup []) fun fr'=>K fr' L
   | _=>False
def vcOps (C : Ctx) (n : Nat) (all : List Oper) : List Oper → List (Nat × V) → List Blk → (List (Nat × V) → List Blk → Prop) → Prop
 | [],fr,L,K=>K fr L
 | o :: rest,fr,L,K=>vcOp1 C n all o fr L fun fr' L'=>vcOps C n all rest fr' L' K
def VLe (x y : V) : Prop:=∀ (g : Gh) (w : World) (L : List Blk) (v : Value),RV g w L x v → RV g w L y v
def FrLe (fr fr' : List (Nat × V)) : Prop:=∀ i,VLe (look fr i) (look fr' i)
def vOpsC (C : Ctx) (n : Nat) (all : List Oper) : List Oper → List (Nat × V) → List Blk → (List (Nat × V) → List Blk → Prop) → Prop
 | [],fr,L,K=>∃ fr1,FrLe fr fr1 ∧ K fr1 L
 | o :: rest,fr,L,K=>∃ fr1,FrLe fr fr1 ∧ vcOp1 C n all o fr1 L fun fr' L'=>vOpsC C n all rest fr' L' K
theorem FrLe.refl (fr : List (Nat × V)) : FrLe fr fr:=fun _ _ _ _ _ h=>h
section
variable {C : Ctx} {g : Gh} {w : World} {L : List Blk} {r : Option Nat}
theorem frame_put {fr : List (Nat × V)} {a : Act} {n : Nat} (hn : a.tmps.size = n) (h : ∀ i,RV g w L (look fr i) (a.tmps.getD i undef)) {dst : Option Tmp} {x : V} {v : Value} (hx : RV g w L x v) {K : List (Nat × V) → Prop} (hp : vPut n dst fr x K) :
  ∃ fr',K fr' ∧ (a.put dst v).tmps.size = n ∧ (a.put dst v).defers = a.defers ∧ ∀ i,RV g w L (look fr' i) ((a.put dst v).tmps.getD i undef):=by
 unfold vPut at hp
 simp only [V.force_eq] at hp
 cases dst with
 | none=>exact ⟨fr,hp,hn,rfl,h⟩
 | some d =>
  simp only at hp
  cases hb : Nat.blt d n with
  | false=>simp [hb] at hp
  | true =>
   simp only [hb,cond_true] at hp
   have hd : d < n:=by simpa [Nat.blt_eq] using hb
   refine ⟨_,hp,by simp [Act.put,hn],rfl,fun i=>?_⟩
   rw [look_cons]
   simp only [Act.put]
   by_cases e : d = i
   ·subst e
    rw [if_pos rfl]
    simp [Array.getD,hn,hd]
    exact hx
   ·rw [if_neg e]
    have : (a.tmps.setIfInBounds d v).getD i undef = a.tmps.getD i undef:=by
     simp only [Array.getD_eq_getD_getElem?,Array.getElem?_setIfInBounds_ne e]
    rw [this]
    exact h i
theorem frame_set {fr : List (Nat × V)} {a : Act} (h : ∀ i,RV g w L (look fr i) (a.tmps.getD i undef)) {d : Nat} {x : V} (hx : RV g w L x (a.tmps.getD d undef)) : ∀ i,RV g w L (look ((d,x) :: fr) i) (a.tmps.getD i undef):=by
 intro i
 rw [look_cons]
 by_cases e : d = i
 ·subst e; rw [if_pos rfl]; exact hx
 ·rw [if_neg e]; exact h i
theorem frame_mono {g' : Gh} {w' : World} {L' : List Blk} {fr : List (Nat × V)} {a : Act} (h : ∀ i,RV g w L (look fr i) (a.tmps.getD i undef)) (hp : Prog L.length g w L g' w' L') : ∀ i,RV g' w' L' (look fr i) (a.tmps.getD i undef) :=
 fun i=>hp.mono _ _ (h i).bel (h i)
structure At (n : Nat) (g : Gh) (fr : List (Nat × V)) (L : List Blk) (a : Act) (w : World) : Prop where
 n : a.tmps.size = n
 fr : ∀ i,RV g w L (look fr i) (a.tmps.getD i undef)
 good : Good g w L
theorem vcOp1_ok (hC : C.OK) {n : Nat} {ops : Array Oper} {Q : Exit → Act → World → Prop} (i : Nat) (l : List Nat) (fr : List (Nat × V)) (g : Gh) (a : Act) (w : World) (o : Oper) (ho : ops[i]? = some o)
  (K : List (Nat × V) → List Blk → Prop) (h : vcOp1 C n ops.toList o fr L K) (hat : At n g fr L a w)
  (hQ : ∀ fr' L' g' a' w',K fr' L' → At n g' fr' L' a' w' → a'.defers = a.defers → Prog L.length g w L g' w' L' → wpOpsIn (Fx r) 0 C.P ops Q l a' w') (hP : ∀ v X L2 g2 a2 w2,a2.defers = a.defers → PanS C L.length g w L v X L2 g2 w2 → Q (.panic [{ v,recovered:=false }]) a2 w2) : wpOpsIn (Fx r) 0 C.P ops Q (i :: l) a w:=by
 simp only [wpOpsIn,ho]
 simp only [vcOp1,vOpF_eq] at h
 have step : ∀ (fr : List (Nat × V)),At n g fr L a w → (vOp C o fr L fun v L'=>vPut n o.dst fr v fun fr'=>K fr' L') → Oper.wpIn (Fx r) 0 C.P o a w (wpOpsIn (Fx r) 0 C.P ops Q l) Q:=by
  intro fr hat h
  refine vOp_ok hC hat.fr hat.good h ?_ (fun v X L2 g2 w2 hS=>hP v X L2 g2 a w2 rfl hS)
  intro v X L' g' w' hk hv hg hp
  obtain ⟨fr',hk',hn',hd',hfr'⟩:=frame_put hat.n (frame_mono hat.fr hp) hv hk
  exact hQ fr' L' g' _ w' hk' ⟨hn',hfr',hg⟩ hd' hp
 cases hgd : o.guard with
 | none =>
  simp only [hgd] at h
  have hw : Region.wanted o (yielded ops a.tmps) = true:=by simp [Region.wanted,hgd]
  rw [if_pos hw]
  exact step fr hat h
 | some jw =>
  obtain ⟨j,want⟩:=jw
  simp only [hgd] at h
  cases hd : dstAt ops.toList j with
  | none=>simp [hd] at h
  | some d =>
  simp only [hd] at h
  have hyv : ∀ t,a.tmps.getD d undef = .bool t → yielded ops a.tmps j = some t:=by
   intro t hval
   unfold dstAt at hd
   unfold yielded
   cases e : ops[j]? with
   | none=>rw [show ops.toList[j]? = none by simpa using e] at hd; simp at hd
   | some oj =>
    rw [show ops.toList[j]? = some oj by simpa using e] at hd
    simp only at hd
    simp only [Option.bind_some,hd]
    have : a.tmps[d]? = some (.bool t):=by
     rw [Array.getD_eq_getD_getElem?] at hval
     cases e2 : a.tmps[d]? with
     | none=>rw [e2] at hval; simp [undef] at hval
     | some u=>rw [e2] at hval; simp at hval; rw [hval]
    rw [this]
  have wants : ∀ t,a.tmps.getD d undef = .bool t → Region.wanted o (yielded ops a.tmps) = (t == want):=fun t ht=>by
   simp [Region.wanted,hgd,hyv t ht]
  have skip : ∀ (fr : List (Nat × V)),At n g fr L a w → (vPut n o.dst fr (.tup []) fun fr'=>K fr' L) →
    (∀ f,o.about C.P w a.eval = some f → Fence.wide.fn f) ∧ wpOpsIn (Fx r) 0 C.P ops Q l (a.put o.dst undef) w:=by
   intro fr hat h
   refine ⟨fun f _=>trivial,?_⟩
   obtain ⟨fr',hk',hn',hd',hfr'⟩:=frame_put hat.n hat.fr (.tup [] #[] rfl (fun j x v hx=>by simp at hx)) h
   exact hQ fr' L g _ w hk' ⟨hn',hfr',hat.good⟩ hd' (Prog.refl _ _ _ _)
  have hv:=hat.fr d
  have yes : Region.wanted o (yielded ops a.tmps) = true → ∀ (fr : List (Nat × V)),At n g fr L a w → (vOp C o fr L fun v L'=>vPut n o.dst fr v fun fr'=>K fr' L') → _ :=
   fun hw fr hat h=>(by rw [if_pos hw]; exact step fr hat h : (if Region.wanted o (yielded ops a.tmps) = true then Oper.wpIn (Fx r) 0 C.P o a w (wpOpsIn (Fx r) 0 C.P ops Q l) Q else (∀ (f : FuncId),Oper.about C.P w a.eval o = some f → Fence.wide.fn f) ∧ wpOpsIn (Fx r) 0 C.P ops Q l (a.put o.dst undef) w))
  have no : Region.wanted o (yielded ops a.tmps) = false → ∀ (fr : List (Nat × V)),At n g fr L a w → (vPut n o.dst fr (.tup []) fun fr'=>K fr' L) → _ :=
   fun hw fr hat h=>(by rw [if_neg (by rw [hw]; simp)]; exact skip fr hat h : (if Region.wanted o (yielded ops a.tmps) = true then Oper.wpIn (Fx r) 0 C.P o a w (wpOpsIn (Fx r) 0 C.P ops Q l) Q else (∀ (f : FuncId),Oper.about C.P w a.eval o = some f → Fence.wide.fn f) ∧ wpOpsIn (Fx r) 0 C.P ops Q l (a.put o.dst undef) w))
  split at h
  ·rename_i hl
   rw [hl] at hv
   have hw:=wants true (by generalize a.tmps.getD d undef = v at hv; cases hv; rfl)
   cases want with
   | true=>exact yes (by rw [hw]; rfl) fr hat h
   | false=>exact no (by rw [hw]; rfl) fr hat h
  ·rename_i hl
   rw [hl] at hv
   have hw:=wants false (by generalize a.tmps.getD d undef = v at hv; cases hv; rfl)
   cases want with
   | true=>exact no (by rw [hw]; rfl) fr hat h
   | false=>exact yes (by rw [hw]; rfl) fr hat h
  ·rename_i t hl
   rw [hl] at hv
   have hval:=hv.bool_of
   have hw:=wants t hval
   have h:=h.out
   cases t with
   | true =>
    have hat' : At n g ((d,.tt) :: fr) L a w:=⟨hat.n,frame_set hat.fr (by rw [hval]; exact .tt),hat.good⟩
    cases want with
    | true=>exact yes (by rw [hw]; rfl) _ hat' h
    | false=>exact no (by rw [hw]; rfl) _ hat' h
   | false =>
    have hat' : At n g ((d,.ff) :: fr) L a w:=⟨hat.n,frame_set hat.fr (by rw [hval]; exact .ff),hat.good⟩
    cases want with
    | true=>exact no (by rw [hw]; rfl) _ hat' h
    | false=>exact yes (by rw [hw]; rfl) _ hat' h
  ·rename_i hl
   rw [hl] at hv
   have hval : ∀ t,a.tmps.getD d undef ≠ .bool t:=fun t e=>by rw [e] at hv; cases hv
   have hy0 : yielded ops a.tmps j = none:=by
    unfold dstAt at hd
    unfold yielded
    cases e : ops[j]? with
    | none=>rfl
    | some oj =>
     rw [show ops.toList[j]? = some oj by simpa using e] at hd
     simp only at hd
     simp only [Option.bind_some,hd]
     split
     ·rename_i b e2
      exact absurd (by rw [Array.getD_eq_getD_getElem?,e2]; rfl) (hval b)
     ·rfl
   exact no (by simp [Region.wanted,hgd,hy0]) fr hat h
  ·exact h.elim
theorem vcOps_ok (hC : C.OK) {n : Nat} {ops : Array Oper} {Q : Exit → Act → World → Prop} : ∀ (l : List Nat) (fr : List (Nat × V)) (L : List Blk) (g : Gh) (a : Act) (w : World) (K : List (Nat × V) → List Blk → Prop),
  vcOps C n ops.toList (l.filterMap fun i=>ops[i]?) fr L K → At n g fr L a w → C.pn ≤ L.length →
  (∀ fr' L' g' a' w',K fr' L' → At n g' fr' L' a' w' → a'.defers = a.defers → Prog L.length g w L g' w' L' → Q .normal a' w') → (∀ v X L2 g2 a2 w2,a2.defers = a.defers → PanS C L.length g w L v X L2 g2 w2 → Q (.panic [{ v,recovered:=false }]) a2 w2) → wpOpsIn (Fx r) 0 C.P ops Q l a w
 | [],fr,L,g,a,w,K,h,hat,hpn,hQ,hP=>hQ fr L g a w (by simpa [vcOps] using h) hat rfl (Prog.refl _ _ _ _)
 | i :: l,fr,L,g,a,w,K,h,hat,hpn,hQ,hP=>by
  cases ho : ops[i]? with
  | none =>
   simp only [List.filterMap_cons,ho] at h
   simp only [wpOpsIn,ho]
   exact vcOps_ok hC l fr L g a w K h hat hpn hQ hP
  | some o =>
   simp only [List.filterMap_cons,ho] at h
   refine vcOp1_ok hC i l fr g a w o ho _ h hat ?_ hP
   intro fr' L' g' a' w' hk hat' hd' hp
   refine vcOps_ok hC l fr' L' g' a' w' K hk hat' (Nat.le_trans hpn (hp.len (Nat.le_refl _))) ?_ (fun v X L2 g2 a2 w2 hd2 hS=>hP v X L2 g2 a2 w2 (hd2.trans hd') ((hS.less (hp.len (Nat.le_refl _)) hpn).later (Nat.le_refl _) hp))
   intro fr2 L2 g2 a2 w2 hK2 hat2 hd2 hp2
   exact hQ fr2 L2 g2 a2 w2 hK2 hat2 (hd2.trans hd') (hp.trans (hp2.le (hp.len (Nat.le_refl _)) (Nat.le_refl _)))
theorem vOpsC_ok (hC : C.OK) {n : Nat} {ops : Array Oper} {Q : Exit → Act → World → Prop} : ∀ (l : List Nat) (fr : List (Nat × V)) (L : List Blk) (g : Gh) (a : Act) (w : World) (K : List (Nat × V) → List Blk → Prop),
  vOpsC C n ops.toList (l.filterMap fun i=>ops[i]?) fr L K → At n g fr L a w → C.pn ≤ L.length →
  (∀ fr' L' g' a' w',K fr' L' → At n g' fr' L' a' w' → a'.defers = a.defers → Prog L.length g w L g' w' L' → Q .normal a' w') → (∀ v X L2 g2 a2 w2,a2.defers = a.defers → PanS C L.length g w L v X L2 g2 w2 → Q (.panic [{ v,recovered:=false }]) a2 w2) → wpOpsIn (Fx r) 0 C.P ops Q l a w
 | [],fr,L,g,a,w,K,h,hat,hpn,hQ,hP=>by
  obtain ⟨fr1,hle,hk⟩:=h
  exact hQ fr1 L g a w hk ⟨hat.n,fun i=>hle i _ _ _ _ (hat.fr i),hat.good⟩ rfl (Prog.refl _ _ _ _)
 | i :: l,fr,L,g,a,w,K,h,hat,hpn,hQ,hP=>by
  cases ho : ops[i]? with
  | none =>
   simp only [List.filterMap_cons,ho] at h
   simp only [wpOpsIn,ho]
   exact vOpsC_ok hC l fr L g a w K h hat hpn hQ hP
  | some o =>
   simp only [List.filterMap_cons,ho] at h
   obtain ⟨fr1,hle,h⟩:=h
   refine vcOp1_ok hC i l fr1 g a w o ho _ h ⟨hat.n,fun i=>hle i _ _ _ _ (hat.fr i),hat.good⟩ ?_ hP
   intro fr' L' g' a' w' hk hat' hd' hp
   refine vOpsC_ok hC l fr' L' g' a' w' K hk hat' (Nat.le_trans hpn (hp.len (Nat.le_refl _))) ?_ (fun v X L2 g2 a2 w2 hd2 hS=>hP v X L2 g2 a2 w2 (hd2.trans hd') ((hS.less (hp.len (Nat.le_refl _)) hpn).later (Nat.le_refl _) hp))
   intro fr2 L2 g2 a2 w2 hK2 hat2 hd2 hp2
   exact hQ fr2 L2 g2 a2 w2 hK2 hat2 (hd2.trans hd') (hp.trans (hp2.le (hp.len (Nat.le_refl _)) (Nat.le_refl _)))
theorem fm_congr {α β : Type} {f f' : α → Option β} : ∀ {l : List α},(∀ x ∈ l,f x = f' x) → l.filterMap f = l.filterMap f'
 | [],_=>rfl
 | a :: l,h=>by
  simp only [List.filterMap_cons,h a (by simp)]
  rw [fm_congr (l:=l) fun x hx=>h x (by simp [hx])]
theorem range_ops (ops : Array Oper) : ((List.range ops.size).filterMap fun i=>ops[i]?) = ops.toList:=by
 apply List.ext_getElem?
 intro i
 have : ((List.range ops.size).filterMap fun i=>ops[i]?) = (List.range ops.size).map fun i=>ops[i]?.getD default:=by
  rw [← List.filterMap_eq_map]
  apply fm_congr
  intro x hx
  have hx' : x < ops.size:=by simpa using hx
  simp [Array.getElem?_eq_getElem hx']
 rw [this,List.getElem?_map]
 rcases Nat.lt_or_ge i ops.size with h | h
 ·rw [List.getElem?_range h]; simp [Array.getElem?_eq_getElem h]
 ·rw [List.getElem?_eq_none (by simpa using h),List.getElem?_eq_none (by simpa using h)]; rfl
@[irreducible] def DrawP (C : Ctx) (n : Nat) (ops : Array Oper) (fr : List (Nat × V)) (L : List Blk) (K : List (Nat × V) → List Blk → Prop) : Prop :=
 ∀ t,vOpsC C n ops.toList ((Region.schedule (C.P.follows .mixedOrders) ops t).filterMap fun i=>ops[i]?) fr L K
def Weak (k : Nat) (σ σ' : TS) : Prop:=∀ (r : Option Nat) (g : Gh) (a : Act) (w : World),St k r g σ a w → ∃ g',St k r g' σ' a w ∧ Prog k g w σ.L g' w σ'.L
@[irreducible] def LoopP (k : Nat) (body : TS → (Exit → TS → Prop) → Prop) (σ : TS) (Q : Exit → TS → Prop) : Prop :=
 ∃ (ι : Type) (s : ι → TS) (lt : ι → ι → Prop) (i0 : ι),WellFounded lt ∧ Weak k σ (s i0) ∧ ∀ i,body (s i) fun e σ'=>match e with
  | .normal=>∃ j,lt j i ∧ Weak k σ' (s j)
  | e=>Q e σ'
theorem LoopP.intro {k : Nat} {body : TS → (Exit → TS → Prop) → Prop} {σ : TS} {Q : Exit → TS → Prop} {ι : Type} (s : ι → TS) (μ : ι → Nat) (i0 : ι) (h0 : Weak k σ (s i0))
  (h : ∀ i,body (s i) fun e σ'=>match e with
   | .normal=>∃ j,μ j < μ i ∧ Weak k σ' (s j)
   | e=>Q e σ') : LoopP k body σ Q:=by unfold LoopP; exact ⟨ι,s,fun j i=>μ j < μ i,i0,(measure μ).wf,h0,h⟩
def pendExit : Code → Option Exit
 | .ret=>some .ret
 | .exit id=>some (.exit id)
 | _=>none
def vRange (C : Ctx) (f : Operand) (ps : Array Tmp) (assign body : Code) (σ : TS) (Q : Exit → TS → Prop) : Prop :=
 match σ.ro with
 | none =>
  vCallF C (ev σ.fr f) [.yld (σ.L.length + 1)] (σ.L ++ [.defr,.loop ⟨.ready,none,σ.fr,σ.n,ps.toList,assign,body,σ.L.length⟩]) fun _ L' =>
   match L'[σ.L.length + 1]?,L'[σ.L.length]? with
   | some (.loop l),some .defr=>match l.st,l.pend with
    | .busy,_=>False
    | _,none=>Q .normal { σ with L:=L'.set (σ.L.length + 1) .dead,df:=σ.L.length :: σ.df }
    | _,some c=>match pendExit c with | some e=>Q e { σ with L:=L'.set (σ.L.length + 1) .dead,df:=σ.L.length :: σ.df } | none=>False
   | _,_=>False
 | some lb=>match σ.L[lb]? with
  | some (.loop r0) =>
   vCallF C (ev σ.fr f) [.yld σ.L.length] (σ.L ++ [.loop ⟨.ready,none,σ.fr,σ.n,ps.toList,assign,body,r0.df⟩]) fun _ L' =>
    match L'[σ.L.length]? with
    | some (.loop l)=>match l.st,l.pend with
     | .busy,_=>False
     | _,none=>Q .normal { σ with L:=L'.set σ.L.length .dead }
     | _,some c=>match pendExit c with | some e=>Q e { σ with L:=L'.set σ.L.length .dead } | none=>False
    | _=>False
  | _=>False
@[irreducible] def CutP (k : Nat) (f : (Exit → TS → Prop) → Prop) (Q : Exit → TS → Prop) : Prop :=
 ∃ (ι : Type) (s : ι → TS),f (fun e σ'=>match e with | .normal=>∃ i,Weak k σ' (s i) | e=>Q e σ') ∧ ∀ i,Q .normal (s i)
theorem CutP.intro {k : Nat} {f : (Exit → TS → Prop) → Prop} {Q : Exit → TS → Prop} {ι : Type} (s : ι → TS) (h : f (fun e σ'=>match e with | .normal=>∃ i,Weak k σ' (s i) | e=>Q e σ')) (hq : ∀ i,Q .normal (s i)) : CutP k f Q:=by
 unfold CutP; exact ⟨ι,s,h,hq⟩
def cutIf (b : Bool) (k : Nat) (f : (Exit → TS → Prop) → Prop) (Q : Exit → TS → Prop) : Prop :=
 match b with
 | false=>f Q
 | true=>CutP k f Q
def vc (C : Ctx) (cut : Code → Bool) (k : Nat) : Code → TS → (Exit → TS → Prop) → Prop
 | .skip,σ,Q=>Q .normal σ
 | .label _,σ,Q=>Q .normal σ
 | .region id ops false,σ,Q=>cutIf (cut (.region id ops false)) k (fun Q=>vcOps C σ.n ops.toList ops.toList σ.fr σ.L fun fr L=>Q .normal { σ with fr:=fr,L:=L }) Q
 | .region id ops true,σ,Q=>cutIf (cut (.region id ops true)) k (fun Q=>DrawP C σ.n ops σ.fr σ.L fun fr L=>Q .normal { σ with fr:=fr,L:=L }) Q
 | .seq a b,σ,Q=>cutIf (cut (.seq a b)) k (fun Q=>vc C cut k a σ fun e σ'=>match e with | .normal=>vc C cut k b σ' Q | e=>Q e σ') Q
 | .cond c x y,σ,Q=>cutIf (cut (.cond c x y)) k (fun Q=>match evB σ.fr c with
  | .tt=>vc C cut k x σ Q
  | .ff=>vc C cut k y σ Q
  | .d (.bool t)=>Br t fun b=>match b with | true=>vc C cut k x σ Q | false=>vc C cut k y σ Q
  | _=>False) Q
 | .block id c,σ,Q=>cutIf (cut (.block id c)) k (fun Q=>vc C cut k c σ fun e σ'=>match e with | .exit id'=>(match Nat.beq id' id with | true=>Q .normal σ' | false=>Q (.exit id') σ') | e=>Q e σ') Q
 | .loop c,σ,Q=>LoopP k (vc C cut k c) σ Q
 | .rangeFunc f ps assign body,σ,Q=>vRange C f ps assign body σ Q
 | .exit id,σ,Q=>Q (.exit id) σ
 | .scope c,σ,Q=>cutIf (cut (.scope c)) k (fun Q=>vc C cut k c σ fun e σ'=>match e with | .goto _=>False | e=>Q e σ') Q
 | .ret,σ,Q=>Q .ret σ
 | _,_,_=>False
def IdleD (a : Act) (g : Gh) (w : World) (L : List Blk) : Prop:=∀ d ∈ a.defers,∃ q,d = { target:=.collected q,args:=#[] } ∧ w.heap[q]? = some (.deferred (some [])) ∧ ¬ g.I q ∧ ¬ owned g L q
def NewD (a : Act) (w : World) (a' : Act) : Prop:=(∀ d ∈ a'.defers,d ∈ a.defers ∨ ∃ q,d = { target:=.collected q,args:=#[] } ∧ w.heap.size ≤ q) ∧ (a.defers.Nodup → a'.defers.Nodup)
theorem NewD.same {a a' : Act} {w : World} (h : a'.defers = a.defers) : NewD a w a':=⟨fun _ hd=>.inl (h ▸ hd),fun hn=>h ▸ hn⟩
theorem NewD.trans {a a1 a2 : Act} {w w1 : World} (hs : w.heap.size ≤ w1.heap.size) (h : NewD a w a1) (h' : NewD a1 w1 a2) : NewD a w a2:=by
 refine ⟨fun d hd=>?_,fun hn=>h'.2 (h.2 hn)⟩
 rcases h'.1 d hd with h1 | ⟨q,h1,h2⟩
 ·exact h.1 d h1
 ·exact .inr ⟨q,h1,Nat.le_trans hs h2⟩
def PostP (C : Ctx) (k : Nat) (g : Gh) (w : World) (L : List Blk) (e : Exit) (a' : Act) (w' : World) : Prop :=
 ∃ v X L' g',e = .panic [{ v,recovered:=false }] ∧ PanS C k g w L v X L' g' w' ∧ IdleD a' g' w' L'
def Post (C : Ctx) (k : Nat) (r : Option Nat) (Q : Exit → TS → Prop) (g : Gh) (w : World) (L : List Blk) (a : Act) (e : Exit) (a' : Act) (w' : World) : Prop :=
 ((∃ σ' g',Q e σ' ∧ St k r g' σ' a' w' ∧ Prog k g w L g' w' σ'.L) ∨ PostP C k g w L e a' w') ∧ NewD a w a' ∧ w.heap.size ≤ w'.heap.size
theorem Post.later {k : Nat} {Q : Exit → TS → Prop} {g g1 : Gh} {w w1 : World} {L L1 : List Blk} {a a1 : Act} (hk : k ≤ L.length) (hp : Prog k g w L g1 w1 L1) (hn : NewD a w a1) {e : Exit} {a' : Act} {w' : World} (h : Post C k r Q g1 w1 L1 a1 e a' w') : Post C k r Q g w L a e a' w':=by
 obtain ⟨h,hn',hs⟩:=h
 refine ⟨?_,hn.trans hp.size hn',Nat.le_trans hp.size hs⟩
 rcases h with ⟨σ',g',hq,hs,hp'⟩ | ⟨v,X,L',g',he,hS,hi⟩
 ·exact .inl ⟨σ',g',hq,hs,hp.trans hp'⟩
 ·exact .inr ⟨v,X,L',g',he,hS.later hk hp,hi⟩
theorem Post.of {k : Nat} {Q : Exit → TS → Prop} {g g' : Gh} {w w' : World} {L : List Blk} {a a' : Act} {e : Exit} {σ' : TS} (hd : a'.defers = a.defers) (hq : Q e σ') (hs : St k r g' σ' a' w') (hp : Prog k g w L g' w' σ'.L) : Post C k r Q g w L a e a' w' :=
 ⟨.inl ⟨σ',g',hq,hs,hp⟩,.same hd,hp.size⟩
theorem St.pan {k : Nat} {σ : TS} {a a' : Act} {Q : Exit → TS → Prop} (h : St k r g σ a w) (hn : C.pn ≤ k) (hd : a'.defers = a.defers) {v : Value} {X : V} {L' : List Blk} {g' : Gh} {w' : World} (hS : PanS C σ.L.length g w σ.L v X L' g' w') :
  Post C k r Q g w σ.L a (.panic [{ v,recovered:=false }]) a' w':=by
 refine ⟨.inr ⟨v,X,L',g',rfl,hS.less h.k hn,fun d hd'=>?_⟩,.same hd,hS.prog.size⟩
 rw [hd] at hd'
 obtain ⟨i,hi,hid⟩:=List.getElem_of_mem hd'
 have hid : a.defers[i]? = some d:=by rw [List.getElem?_eq_getElem hi,hid]
 have hb : ∃ b,σ.df[i]? = some b:=⟨_,List.getElem?_eq_getElem (by rw [← h.df]; exact hi)⟩
 obtain ⟨b,hb⟩:=hb
 obtain ⟨q,h1,h2,h3⟩:=h.dfs i b d hb hid
 exact ⟨q,h2,hS.df b q (lt_of_get h3) h3 h1⟩
theorem St.at {k : Nat} {σ : TS} {a : Act} (h : St k r g σ a w) : At σ.n g σ.fr σ.L a w:=⟨h.n,h.fr,h.good⟩
theorem St.of_at {k : Nat} {σ : TS} {a : Act} (h : St k r g σ a w) {fr' : List (Nat × V)} {L' : List Blk} {g' : Gh} {a' : Act} {w' : World} (hat : At σ.n g' fr' L' a' w') (hd : a'.defers = a.defers) (hp : Prog σ.L.length g w σ.L g' w' L') :
  St k r g' { σ with fr:=fr',L:=L' } a' w':=by
 refine ⟨hat.n,hat.fr,hat.good,Nat.le_trans h.k (hp.len (Nat.le_refl _)),by rw [hd]; exact h.df,fun i b d hb hdi=>?_,fun lb hlb=>?_,h.ro'⟩
 ·rw [hd] at hdi
  obtain ⟨q,h1,h2,h3⟩:=h.dfs i b d hb hdi
  obtain ⟨h4,h5⟩:=hp.defr b q (lt_of_get h3) h3 h1
  exact ⟨q,h5,h2,h4⟩
 ·obtain ⟨l,h1,h2⟩:=h.ro lb hlb
  exact ⟨l,h1,hp.mono _ _ h2.bel h2⟩
end
end Go.Tidy
/-
 The base layer: code in a frame whose function the program has.
-/
namespace Go.Tidy
theorem fenced_Fx {r : Option Nat} (P : Program) (m : Machine) : m.fenced P (Fx r):=by
 intro g _
 refine ⟨fun h=>?_,Or.inl trivial,fun _ _=>trivial,fun _ h=>?_⟩
 ·simp [Fence.wide] at h
 ·simp [Fence.wide] at h
theorem room_Fx {r : Option Nat} (n : Nat) : (Fx r).room n:=fun _ h=>by simp [Fence.wide] at h
def wpV (r : Option Nat) (P : Program) (c : Code) (Q : Exit → Act → World → Prop) (a : Act) (w : World) : Prop :=
 ∀ (b : Frame) (k : List Item) (cs : List Frame),b.roundOf = r → (∃ fn,P.funcs[b.fn]? = some fn) →
  ∃ e a' w',Q e a' w' ∧ ArrivesIn (Machine.fenced P (Fx r)) P (lone (b.atR a (.code c :: k)) cs w) b k cs e a' w'
section
variable {r : Option Nat} {P : Program} {Q : Exit → Act → World → Prop} {a : Act} {w : World}
theorem wpV.of {c : Code} (h : c.wpIn (Fx r) 0 P Q a w) : wpV r P c Q a w:=fun b k cs hro _=>h b k cs hro trivial (room_Fx _)
theorem wpV_mono {c : Code} {Q' : Exit → Act → World → Prop} (h : wpV r P c Q a w) (hq : ∀ e a w,Q e a w → Q' e a w) : wpV r P c Q' a w :=
 fun b k cs hro hb=>(h b k cs hro hb).elim fun e h=>h.elim fun a' h=>h.elim fun w' h=>⟨e,a',w',hq _ _ _ h.1,h.2⟩
theorem wpV_seq {x y : Code} (h : wpV r P x (Exit.then (wpV r P y Q) Q) a w) : wpV r P (.seq x y) Q a w:=by
 intro b k cs hro hb
 obtain ⟨e,a1,w1,hq,hs⟩:=h b (.code y :: k) cs hro hb
 have s0:=StepsIn.one (fenced_Fx (r:=r) P _) (stepR_seq (P:=P) (b:=b) (a:=a) (k:=k) (cs:=cs) (w:=w) (x:=x) (y:=y))
 by_cases he : e = .normal
 ·subst he
  obtain ⟨e2,a2,w2,hq2,hs2⟩:=hq b k cs hro hb
  exact ⟨e2,a2,w2,hq2,.of_steps (s0.trans hs) hs2⟩
 ·refine ⟨e,a1,w1,?_,.of_steps s0 (.pass (x:=.code y) rfl (fun _ _=>.inl he) hs)⟩
  cases e <;> first | exact hq | exact absurd rfl he
theorem wpV_cond {c : Operand} {x y : Code} {t : Bool} (hc : a.eval c = .bool t) (h : wpV r P (if t then x else y) Q a w) : wpV r P (.cond c x y) Q a w:=fun b k cs hro hb=>by
 obtain ⟨e,a',w',hq,hs⟩:=h b k cs hro hb
 exact ⟨e,a',w',hq,.of_steps (.one (fenced_Fx P _) (stepR_cond hc)) hs⟩
theorem wpV_block {id : Nat} {c : Code} (h : wpV r P c (Exit.inBlock id Q) a w) : wpV r P (.block id c) Q a w:=by
 intro b k cs hro hb
 obtain ⟨e,a1,w1,hq,hs⟩:=h b (.inBlock id :: k) cs hro hb
 have s0:=StepsIn.one (fenced_Fx (r:=r) P _) (stepR_block (P:=P) (b:=b) (a:=a) (k:=k) (cs:=cs) (w:=w) (id:=id) (c:=c))
 cases e with
 | normal=>exact ⟨.normal,a1,w1,hq,s0.trans (StepsIn.trans hs (.one (fenced_Fx P _) stepR_inBlock))⟩
 | exit id' =>
  by_cases hid : id' = id
  ·subst hid
   simp only [Exit.inBlock,if_true] at hq
   exact ⟨.normal,a1,w1,hq,s0.trans (hs.1 k (by simp [exitTo]))⟩
  ·simp only [Exit.inBlock,hid,if_false] at hq
   have hx : exitTo id' (.inBlock id :: k) = exitTo id' k:=by
    have : (id == id') = false:=by simpa using fun h=>hid h.symm
    simp [exitTo,this]
   refine ⟨.exit id',a1,w1,hq,⟨fun k' hk=>s0.trans (hs.1 k' (hx.trans hk)),fun hr hk=>?_⟩⟩
   obtain ⟨k1,h1,h2⟩:=hs.2 hr (hx.trans hk)
   exact ⟨k1,h1,s0.trans h2⟩
 | goto l =>
  have hx : gotoIn l (.inBlock id :: k) = gotoIn l k:=by simp [gotoIn]
  refine ⟨.goto l,a1,w1,hq,⟨fun k' hk=>s0.trans (hs.1 k' (hx.trans hk)),fun hr hk=>?_⟩⟩
  obtain ⟨k1,h1,h2⟩:=hs.2 hr (hx.trans hk)
  exact ⟨k1,h1,s0.trans h2⟩
 | ret=>exact ⟨_,a1,w1,hq,.of_steps s0 hs⟩
 | panic ch=>exact ⟨_,a1,w1,hq,.of_steps s0 hs⟩
 | outgrown=>exact ⟨_,a1,w1,hq,.of_steps s0 hs⟩
theorem wpV_loopG {r : Option Nat} {P : Program} {Q : Exit → Act → World → Prop} {c : Code} {ι : Type} (I : ι → Act → World → Prop) (lt : ι → ι → Prop) (wf : WellFounded lt) {i0 : ι} {a : Act} {w : World} (h₀ : I i0 a w)
  (round : ∀ i a w,I i a w → wpV r P c (Exit.then (fun a' w'=>∃ j,lt j i ∧ I j a' w') Q) a w) : wpV r P (Code.loop c) Q a w:=by
 intro b k cs hro hb
 have key : ∀ i a w,I i a w →
   ∃ e a' w',Q e a' w' ∧ ArrivesIn (Machine.fenced P (Fx r)) P (lone (b.atR a (.code c :: .inLoop c :: k)) cs w) b k cs e a' w':=by
  intro i
  induction i using wf.induction with
  | _ i ih =>
   intro a w hI
   obtain ⟨e,a₁,w₁,hq,harr⟩:=round i a w hI b (.inLoop c :: k) cs hro hb
   cases e with
   | normal =>
    obtain ⟨j,hlt,hI₁⟩:=hq
    obtain ⟨e₂,a₂,w₂,hq₂,harr₂⟩:=ih j hlt a₁ w₁ hI₁
    exact ⟨e₂,a₂,w₂,hq₂,.of_steps (StepsIn.trans harr (.one (fenced_Fx P _) stepR_inLoop)) harr₂⟩
   | exit id=>exact ⟨_,a₁,w₁,hq,.pass (x:=.inLoop c) rfl (fun _ _=>.inl (by simp)) harr⟩
   | goto l=>exact ⟨_,a₁,w₁,hq,.pass (x:=.inLoop c) rfl (fun _ _=>.inl (by simp)) harr⟩
   | ret=>exact ⟨_,a₁,w₁,hq,.pass (x:=.inLoop c) rfl (fun _ _=>.inl (by simp)) harr⟩
   | panic ch=>exact ⟨_,a₁,w₁,hq,.pass (x:=.inLoop c) rfl (fun _ _=>.inl (by simp)) harr⟩
   | outgrown=>exact ⟨_,a₁,w₁,hq,.pass (x:=.inLoop c) rfl (fun _ _=>.inl (by simp)) harr⟩
 obtain ⟨e,a',w',hq,harr⟩:=key i0 a w h₀
 exact ⟨e,a',w',hq,.of_steps (.one (fenced_Fx P _) stepR_loop) harr⟩
theorem stepR_scope {P : Program} {b : Frame} {a : Act} {k : List Item} {cs : List Frame} {w : World} {c : Code} : step P (lone (b.atR a (.code (.scope c) :: k)) cs w) = .next (lone (b.atR a (.code c :: .inScope c :: k)) cs w) :=
 step_lone_go (by simp [stepG,stepG.exec,Frame.atR])
theorem stepR_inScope {P : Program} {b : Frame} {a : Act} {k : List Item} {cs : List Frame} {w : World} {c : Code} : step P (lone (b.atR a (.inScope c :: k)) cs w) = .next (lone (b.atR a k) cs w) :=
 step_lone_go (by simp [stepG,stepG.exec,Frame.atR])
theorem wpV_scopeG {r : Option Nat} {P : Program} {Q : Exit → Act → World → Prop} {c : Code} {a : Act} {w : World} (h : wpV r P c (fun e a w=>match e with | .goto _=>False | e=>Q e a w) a w) : wpV r P (Code.scope c) Q a w:=by
 intro b k cs hro hb
 have h0 : (lone (b.atR a (.code (.scope c) :: k)) cs w).fenced P (Fx r):=fenced_Fx P _
 obtain ⟨e,a₁,w₁,hq,harr⟩:=h b (.inScope c :: k) cs hro hb
 cases e with
 | normal=>exact ⟨.normal,a₁,w₁,hq,.head h0 stepR_scope (StepsIn.trans harr (.one (fenced_Fx P _) stepR_inScope))⟩
 | exit id =>
  have hx : exitTo id (.inScope c :: k) = exitTo id k:=by simp [exitTo]
  exact ⟨_,a₁,w₁,hq,fun k' hk=>.head h0 stepR_scope (harr.1 k' (by rw [hx]; exact hk)),fun hr' hk=>let ⟨k₁,h1,h2⟩:=harr.2 hr' (by rw [hx]; exact hk); ⟨k₁,h1,.head h0 stepR_scope h2⟩⟩
 | goto l=>exact hq.elim
 | ret=>exact ⟨_,a₁,w₁,hq,.of_steps (.one h0 stepR_scope) harr⟩
 | panic ch=>exact ⟨_,a₁,w₁,hq,.of_steps (.one h0 stepR_scope) harr⟩
 | outgrown=>exact ⟨_,a₁,w₁,hq,.of_steps (.one h0 stepR_scope) harr⟩
theorem wpV_rangeFunc {g : Operand} {ps : Array Tmp} {assign body : Code}
  (h : ∀ fn,(∃ F,P.funcs[fn]? = some F) → ∃ (l : Nat) (mark : List Deferred) (w1 : World) (d : Deferred) (w1' : World) (f : FuncId) (args : Array Value) (w2 : World),
   (Instr.enterLoop fn a.tmps ps assign body r).run P w = .ok (l,mark) w1 ∧
   (resolve a.eval (rangeCall g l) 0).run P w1 = .ok d w1' ∧
   (invoke d.target d.args).run P w1' = .ok (.enter f args) w2 ∧
   Calls P f args w2 (rangePost (Fx r) 0 P l Q { a with defers:=mark ++ a.defers })) :
  wpV r P (.rangeFunc g ps assign body) Q a w:=by
 intro b k cs hro hb
 obtain ⟨l,mark,w1,d,w1',f,args,w2,he,hres,hinv,hcall⟩:=h b.fn hb
 rw [← hro] at he
 have s0 : StepsIn (Machine.fenced P (Fx r)) P _ _:=.one (fenced_Fx P _) (stepR_rangeFunc (P:=P) (b:=b) (a:=a) (k:=k) (cs:=cs) (w:=w) he hres hinv)
 obtain ⟨e,w3,fr,hR,hs,hfn,hleave⟩:=((callsIn_wide (n:=0)).2 hcall).2 (b.atR { a with defers:=mark ++ a.defers } (.inRangeFunc l :: k) :: cs) (room_wide _)
 cases e with
 | outgrown =>
  obtain ⟨a0,w0,hq⟩:=hR
  exact ⟨.outgrown,a0,w0,hq,.inr (Outgrown.of_steps s0.steps hs)⟩
 | returned v =>
  obtain ⟨jump,w4,hend,hj⟩:=hR
  have hs' : StepsIn (Machine.fenced P (Fx r)) P _ _:=hs
  have s1:=s0.trans (hs'.trans (.one (fenced_Fx P _) (step_leave_returned hleave)))
  rw [finish_atR_inRangeFunc l v] at s1
  have s2:=s1.trans (.one (fenced_Fx P _) (stepR_endRangeFunc hend))
  cases jump with
  | none=>exact ⟨.normal,_,w4,hj,s2⟩
  | some c =>
   obtain ⟨e',a2,w5,hq,harr⟩:=hj b k cs hro trivial (room_Fx _)
   exact ⟨e',a2,w5,hq,.of_steps s2 harr⟩
 | panicked chain =>
  have hs' : StepsIn (Machine.fenced P (Fx r)) P _ _:=hs
  have s1:=s0.trans (hs'.trans (.one (fenced_Fx P _) (step_leave_panicked hleave)))
  rw [Frame.raise_atR] at s1
  exact ⟨.panic chain,_,w3,hR,_,s1⟩
end
end Go.Tidy
/-
 The base layer: what the executor says of a piece of code holds of it.
-/
namespace Go.Tidy
section
variable {C : Ctx} {g : Gh} {w : World} {L : List Blk} {r : Option Nat}
theorem putObj_ext {w : World} {q : Nat} {o : Obj} : ∀ (p : Nat) (o' : Obj),w.heap[p]? = some o' → some q ≠ some p → (w.putObj q o).heap[p]? = some o':=fun p o' h hne=>by
 rw [World.putObj_heap_other (fun e=>hne (by rw [e]))]; exact h
theorem kill_step (hg : Good g w L) {b q : Nat} {k0 : Blk} (hL : L[b]? = some k0) (h0 : k0 ≠ .dead) (h1 : k0 ≠ .defr) (hm : g.m b = some q) (o : Obj) : Step g w L b .dead g (w.putObj q o):=by
 have hbl:=lt_of_get hL
 refine ⟨hg,⟨_,hL,h0⟩,by rw [hL]; exact fun e=>h1 (by cases e; rfl),⟨rfl,rfl,rfl⟩,by simp,rfl,fun _ _=>rfl,fun _ _=>rfl,fun p o' hp hne=>putObj_ext p o' hp (by rw [← hm]; exact hne),fun r hr=>.inl hr,?_⟩
 have hd : (L.set b .dead)[b]? = some .dead:=List.getElem?_set_self hbl
 exact ⟨fun _ _=>.inl hd,fun _ _ _ _=>.inl hd,fun _ _=>.inl hd,fun _ _=>.inl hd,fun _=>hd⟩
theorem RB.loop_of (hg : Good g w L) {b : Nat} {l : LoopR} (hL : L[b]? = some (.loop l)) : ∃ q rec,g.m b = some q ∧ w.heap[q]? = some (.loop rec) ∧ rec.state = l.st ∧ rec.pending = l.pend:=by
 obtain ⟨q,rec,h1,h2,h3,h4,_⟩:=hg.blk b _ hL
 exact ⟨q,rec,h1,h2,h3,h4⟩
theorem loopRec_ok {g' : Gh} {w' : World} {L' : List Blk} {fr : List (Nat × V)} {n : Nat} {a : Act} {fn : FuncId} {ps : Array Tmp} {assign body : Code} {b q df dq : Nat} (hn : a.tmps.size = n)
  (hfr : ∀ i,RV g' w' L' (look fr i) (a.tmps.getD i undef)) (hm : g'.m b = some q) (hd : g'.m df = some dq) (hdL : L'[df]? = some .defr) (hv : validF fn)
  (hh : w'.heap[q]? = some (.loop { state:=.ready,pending:=none,fn,tmps:=a.tmps,params:=ps,assign,body,defers:=dq })) :
  RB g' w' L' b (.loop ⟨.ready,none,fr,n,ps.toList,assign,body,df⟩) :=
 ⟨q,_,hm,hh,rfl,rfl,by simp,rfl,rfl,hn,hfr,hd,hdL,hv⟩
theorem pend_wp {e : Exit} {c : Code} (hc : pendExit c = some e) {n : Nat} {P : Program} {R : Exit → Act → World → Prop} {a : Act} {w : World} (h : R e a w) : c.wpIn (Fx r) n P R a w:=by
 unfold pendExit at hc
 split at hc
 ·cases hc; exact wpIn_ret h
 ·cases hc; exact wpIn_exit h
 ·cases hc
theorem vRange_ok (hC : C.OK) {k : Nat} (hpn : C.pn ≤ k) {f : Operand} {ps : Array Tmp} {assign body : Code} {σ : TS} {Q : Exit → TS → Prop} {a : Act} (h : vRange C f ps assign body σ Q) (hs : St k r g σ a w) :
  wpV r C.P (Code.rangeFunc f ps assign body) (Post C k r Q g w σ.L a) a w:=by
 refine wpV_rangeFunc fun fn hfn=>?_
 replace hfn : validF fn:=hfn.elim fun F hF=>hC.fs fn F hF
 unfold vRange at h
 cases hro : σ.ro with
 | none =>
  simp only [hro] at h
  have hr:=hs.ro' hro
  subst hr
  -- the block for deferred calls
  have hE1 : Ext w (w.alloc (.deferred (some []))):=Ext.alloc w _
  have hg1:=add_good (k':=.defr) hs.good hE1 (some w.heap.size) (fun q h=>by cases h; exact Nat.le_refl _) 0 ⟨w.heap.size,by simp [Gh.add],heap_alloc_new w _⟩
  have hp1:=add_prog hs.good hE1 .defr (some w.heap.size) (fun q h=>by cases h; exact Nat.le_refl _) 0
  have hfr1:=frame_mono hs.fr hp1
  generalize hg1e : g.add σ.L.length (some w.heap.size) 0 = g1 at hg1 hp1 hfr1
  generalize hw1e : w.alloc (.deferred (some [])) = w1 at hE1 hg1 hp1 hfr1
  have hm1 : g1.m σ.L.length = some w.heap.size:=by rw [← hg1e]; simp [Gh.add]
  have hsz1 : w1.heap.size = w.heap.size + 1:=by rw [← hw1e]; simp
  have hlen1 : (σ.L ++ [Blk.defr]).length = σ.L.length + 1:=by simp
  -- the record
  have hE2 : Ext w1 (w1.alloc (.loop { state:=.ready,pending:=none,fn,tmps:=a.tmps,params:=ps,assign,body,defers:=w.heap.size })):=Ext.alloc w1 _
  have hp2:=add_prog hg1 hE2 (.loop ⟨.ready,none,σ.fr,σ.n,ps.toList,assign,body,σ.L.length⟩) (some w1.heap.size) (fun q h=>by cases h; exact Nat.le_refl _) 0
  have hfr2:=frame_mono hfr1 hp2
  have hg2:=add_good (k':=.loop ⟨.ready,none,σ.fr,σ.n,ps.toList,assign,body,σ.L.length⟩) hg1 hE2 (some w1.heap.size) (fun q h=>by cases h; exact Nat.le_refl _) 0
   (loopRec_ok (fn:=fn) (q:=w1.heap.size) (dq:=w.heap.size) hs.n hfr2 (by simp [Gh.add]) (by simp only [Gh.add]; rw [if_neg (by rw [hlen1]; omega)]; exact hm1)
    (by rw [List.getElem?_append_left (by rw [hlen1]; omega)]; simp) hfn (heap_alloc_new w1 _))
  have hm2 : (g1.add (σ.L ++ [Blk.defr]).length (some w1.heap.size) 0).m (σ.L.length + 1) = some w1.heap.size:=by simp [Gh.add]
  have hmd2 : (g1.add (σ.L ++ [Blk.defr]).length (some w1.heap.size) 0).m σ.L.length = some w.heap.size:=by simp only [Gh.add]; rw [if_neg (by rw [hlen1]; omega)]; exact hm1
  rw [show σ.L ++ [Blk.defr] ++ [Blk.loop ⟨.ready,none,σ.fr,σ.n,ps.toList,assign,body,σ.L.length⟩] = σ.L ++ [.defr,.loop ⟨.ready,none,σ.fr,σ.n,ps.toList,assign,body,σ.L.length⟩] by simp] at hg2 hp2 hfr2
  generalize g1.add (σ.L ++ [Blk.defr]).length (some w1.heap.size) 0 = g2 at hg2 hp2 hfr2 hm2 hmd2
  have hw2e : (w1.alloc (.loop { state:=.ready,pending:=none,fn,tmps:=a.tmps,params:=ps,assign,body,defers:=w.heap.size })).heap[w1.heap.size]? = some (.loop { state:=.ready,pending:=none,fn,tmps:=a.tmps,params:=ps,assign,body,defers:=w.heap.size }):=heap_alloc_new w1 _
  have henter : (Instr.enterLoop fn a.tmps ps assign body none).run C.P w = .ok (w1.heap.size,[{ target:=.collected w.heap.size,args:=#[] }]) (w1.alloc (.loop { state:=.ready,pending:=none,fn,tmps:=a.tmps,params:=ps,assign,body,defers:=w.heap.size })):=by
   rw [hsz1,← hw1e]; exact run_enterLoop_outer _ _ _ _ _
  generalize hw2 : w1.alloc (.loop { state:=.ready,pending:=none,fn,tmps:=a.tmps,params:=ps,assign,body,defers:=w.heap.size }) = w2 at hg2 hp2 hfr2 hw2e henter
  have hpp : Prog σ.L.length g w σ.L g2 w2 (σ.L ++ [.defr,.loop ⟨.ready,none,σ.fr,σ.n,ps.toList,assign,body,σ.L.length⟩]):=hp1.trans (hp2.le (by rw [hlen1]; omega) (Nat.le_refl _))
  have hL2 : (σ.L ++ [Blk.defr,.loop ⟨.ready,none,σ.fr,σ.n,ps.toList,assign,body,σ.L.length⟩])[σ.L.length + 1]? = some (.loop ⟨.ready,none,σ.fr,σ.n,ps.toList,assign,body,σ.L.length⟩):=by
   rw [List.getElem?_append_right (by omega)]; simp
  have hLd2 : (σ.L ++ [Blk.defr,.loop ⟨.ready,none,σ.fr,σ.n,ps.toList,assign,body,σ.L.length⟩])[σ.L.length]? = some .defr:=by
   rw [List.getElem?_append_right (by omega)]; simp
  have newD : NewD a w { a with defers:=[{ target:=.collected w.heap.size,args:=#[] }] ++ a.defers }:=by
   refine ⟨fun d hd=>?_,fun hn=>List.nodup_cons.2 ⟨fun hd=>?_,hn⟩⟩
   ·rcases List.mem_append.1 hd with hd | hd
    ·rw [List.mem_singleton.1 hd]; exact .inr ⟨_,rfl,Nat.le_refl _⟩
    ·exact .inl hd
   ·have hd : ({ target:=.collected w.heap.size,args:=#[] } : Deferred) ∈ a.defers:=hd
    obtain ⟨i,hi,hid⟩:=List.getElem_of_mem hd
    have hid : a.defers[i]? = some { target:=.collected w.heap.size,args:=#[] }:=by rw [List.getElem?_eq_getElem hi,hid]
    obtain ⟨b,hb⟩ : ∃ b,σ.df[i]? = some b:=⟨_,List.getElem?_eq_getElem (by rw [← hs.df]; exact hi)⟩
    obtain ⟨q,h1,h2,h3⟩:=hs.dfs i b _ hb hid
    have hq:=hs.good.owned_lt ⟨b,⟨_,h3,by simp⟩,h1⟩
    cases h2
    omega
  obtain ⟨gf,us,hu,hcf,hcall⟩:=vCallF_ok (ev_ok hg2.gl hfr2 f) (args:=[.yld (σ.L.length + 1)]) (vs:=#[.func (.yield w1.heap.size) #[] #[]])
   ⟨rfl,fun j x v hx hv=>by
    cases j with
    | zero=>simp at hx hv; subst hx hv; exact .yld _ _ _ hL2 hm2
    | succ j=>simp at hx⟩ hg2 h
  refine ⟨w1.heap.size,[{ target:=.collected w.heap.size,args:=#[] }],w2,{ target:=.fn (.func gf) us,args:=#[.func (.yield w1.heap.size) #[] #[]] },w2,gf,#[.func (.yield w1.heap.size) #[] #[]] ++ us,w2,henter,?_,?_,?_⟩
  ·simp only [resolve,hu,Deferred.ofValue,Sem.run_pure]
   simp [Act.eval]
  ·simp only [invoke]; exact hcf
  ·refine Calls.mono hcall ?_
   rintro e w3 (⟨v,X,L3,g3,rfl,hK,hX,hg3,hp3⟩ | ⟨v,X,L3,g3,rfl,hS⟩)
   rotate_left
   ·have hS':=hS.less (show k ≤ _ by have:=hs.k; simp; omega) hpn
    refine ⟨.inr ⟨v,X,L3,g3,rfl,hS'.later hs.k (hpp.le hs.k (Nat.le_refl _)),fun d hd=>?_⟩,newD,Nat.le_trans hpp.size hS.prog.size⟩
    rcases List.mem_append.1 hd with hd | hd
    ·rw [List.mem_singleton.1 hd]
     exact ⟨w.heap.size,rfl,hS.df σ.L.length _ (by simp) hLd2 hmd2⟩
    ·obtain ⟨i,hi,hid⟩:=List.getElem_of_mem hd
     have hid : a.defers[i]? = some d:=by rw [List.getElem?_eq_getElem hi,hid]
     obtain ⟨b,hb⟩ : ∃ b,σ.df[i]? = some b:=⟨_,List.getElem?_eq_getElem (by rw [← hs.df]; exact hi)⟩
     obtain ⟨q,h1,h2,h3⟩:=hs.dfs i b d hb hid
     obtain ⟨h4,h5⟩:=hpp.defr b q (lt_of_get h3) h3 h1
     exact ⟨q,h2,hS.df b q (by have:=lt_of_get h3; simp; omega) h4 h5⟩
   have hp3':=hpp.trans (hp3.le (by simp) (Nat.le_refl _))
   split at hK
   ·rename_i l hl hd
    obtain ⟨q,rec,h1,h2,h3,h4⟩:=RB.loop_of hg3 hl
    -- the real record is where it was
    have hyl:=hp3.mono (.yld (σ.L.length + 1)) _ (by simp [V.bel]) (RV.yld (g:=g2) (w:=w2) _ _ _ hL2 hm2)
    have hq : q = w1.heap.size:=by
     generalize hvv : Value.func (.yield w1.heap.size) #[] #[] = vv at hyl
     cases hyl with
     | yld _ r' _ hL' hm'=>rw [h1] at hm'; cases hm'; cases hvv; rfl
     | yldX _ r' hL'=>rw [hl] at hL'; cases hL'
    subst hq
    obtain ⟨hdL,hdm⟩:=hp3.defr σ.L.length w.heap.size (by simp) hLd2 hmd2
    have S:=kill_step hg3 hl (by simp) (by simp) h1 (.loop { rec with state:=.exhausted })
    have hst3 : ∀ (hb : rec.state ≠ .busy) ,St k none g3 { σ with L:=L3.set (σ.L.length + 1) .dead,df:=σ.L.length :: σ.df } { a with defers:=[{ target:=.collected w.heap.size,args:=#[] }] ++ a.defers } (w3.putObj w1.heap.size (.loop { rec with state:=.exhausted })):=by
     intro _
     have hpk:=hp3'.trans (S.prog.le (by have:=hp3'.len (Nat.le_refl _); omega) (Nat.le_refl _))
     refine ⟨hs.n,fun i=>hpk.mono _ _ (hs.fr i).bel (hs.fr i),S.good' trivial,?_,by simp [hs.df],?_,fun lb hlb=>(by rw [hro] at hlb; cases hlb),fun _=>rfl⟩
     ·have:=hp3'.len (Nat.le_refl _); have:=hs.k; simp; omega
     ·intro i b d hb hdi
      cases i with
      | zero =>
       simp at hb hdi
       subst hb hdi
       refine ⟨_,hdm,rfl,?_⟩
       rw [List.getElem?_set_ne (by omega)]; exact hdL
      | succ i =>
       simp at hb hdi
       obtain ⟨q,d1,d2,d3⟩:=hs.dfs i b d hb hdi
       obtain ⟨d4,d5⟩:=hpk.defr b q (lt_of_get d3) d3 d1
       exact ⟨q,d5,d2,d4⟩
    have hpk : Prog k g w σ.L g3 (w3.putObj w1.heap.size (.loop { rec with state:=.exhausted })) (L3.set (σ.L.length + 1) .dead) :=
     (hp3'.trans (S.prog.le (by have:=hp3'.len (Nat.le_refl _); omega) (Nat.le_refl _))).le hs.k (Nat.le_refl _)
    have hbu : l.st ≠ .busy:=by intro e; rw [e] at hK; simp at hK
    have hb' : rec.state ≠ .busy:=by rw [h3]; exact hbu
    cases hpd : l.pend with
    | none =>
     have hK' : Q .normal { σ with L:=L3.set (σ.L.length + 1) .dead,df:=σ.L.length :: σ.df }:=by
      rw [hro]
      cases hst : l.st <;> simp only [hst,hpd] at hK <;> first | exact hK | exact absurd hst hbu
     exact ⟨none,_,by rw [run_endLoop h2 hb',h4,hpd],.inl ⟨_,g3,hK',hst3 hb',hpk⟩,newD,hpk.size⟩
    | some c =>
     have hK' : ∃ ex,pendExit c = some ex ∧ Q ex { σ with L:=L3.set (σ.L.length + 1) .dead,df:=σ.L.length :: σ.df }:=by
      rw [hro]
      cases hex : pendExit c with
      | none=>cases hst : l.st <;> simp only [hst,hpd,hex] at hK
      | some ex=>cases hst : l.st <;> simp only [hst,hpd,hex] at hK <;> first | exact ⟨ex,rfl,hK⟩ | exact absurd hst hbu
     obtain ⟨ex,hex,hK'⟩:=hK'
     exact ⟨some c,_,by rw [run_endLoop h2 hb',h4,hpd],pend_wp hex ⟨.inl ⟨_,g3,hK',hst3 hb',hpk⟩,newD,hpk.size⟩⟩
   ·exact hK.elim
 | some lb =>
  simp only [hro] at h
  split at h
  ·rename_i r0 hlb
   obtain ⟨l0,rfl,hyl0⟩:=hs.ro lb hro
   obtain ⟨q0,rec0,n1,n2,_,_,_,_,_,_,_,n10,n11,_⟩:=hs.good.blk lb _ hlb
   have hq0 : q0 = l0:=by
    generalize hvv : Value.func (.yield l0) #[] #[] = vv at hyl0
    cases hyl0 with
    | yld _ r' _ hL' hm'=>rw [n1] at hm'; cases hm'; cases hvv; rfl
    | yldX _ r' hL'=>rw [hlb] at hL'; cases hL'
   subst hq0
   have hE2 : Ext w (w.alloc (.loop { state:=.ready,pending:=none,fn,tmps:=a.tmps,params:=ps,assign,body,defers:=rec0.defers })):=Ext.alloc w _
   have hp2:=add_prog hs.good hE2 (.loop ⟨.ready,none,σ.fr,σ.n,ps.toList,assign,body,r0.df⟩) (some w.heap.size) (fun q h=>by cases h; exact Nat.le_refl _) 0
   have hfr2:=frame_mono hs.fr hp2
   obtain ⟨hdf1,hdf2⟩:=hp2.defr r0.df rec0.defers (lt_of_get n11) n11 n10
   have hg2:=add_good (k':=.loop ⟨.ready,none,σ.fr,σ.n,ps.toList,assign,body,r0.df⟩) hs.good hE2 (some w.heap.size) (fun q h=>by cases h; exact Nat.le_refl _) 0
    (loopRec_ok (fn:=fn) (q:=w.heap.size) (dq:=rec0.defers) hs.n hfr2 (by simp [Gh.add]) hdf2 hdf1 hfn (heap_alloc_new w _))
   have hm2 : (g.add σ.L.length (some w.heap.size) 0).m σ.L.length = some w.heap.size:=by simp [Gh.add]
   generalize g.add σ.L.length (some w.heap.size) 0 = g2 at hg2 hp2 hfr2 hm2 hdf2
   have henter : (Instr.enterLoop fn a.tmps ps assign body (some q0)).run C.P w = .ok (w.heap.size,[]) (w.alloc (.loop { state:=.ready,pending:=none,fn,tmps:=a.tmps,params:=ps,assign,body,defers:=rec0.defers })):=run_enterLoop_inner n2 _ _ _ _ _
   generalize hw2 : w.alloc (.loop { state:=.ready,pending:=none,fn,tmps:=a.tmps,params:=ps,assign,body,defers:=rec0.defers }) = w2 at hg2 hp2 hfr2 henter
   have hL2 : (σ.L ++ [Blk.loop ⟨.ready,none,σ.fr,σ.n,ps.toList,assign,body,r0.df⟩])[σ.L.length]? = some (.loop ⟨.ready,none,σ.fr,σ.n,ps.toList,assign,body,r0.df⟩):=by simp
   obtain ⟨gf,us,hu,hcf,hcall⟩:=vCallF_ok (ev_ok hg2.gl hfr2 f) (args:=[.yld σ.L.length]) (vs:=#[.func (.yield w.heap.size) #[] #[]])
    ⟨rfl,fun j x v hx hv=>by
     cases j with
     | zero=>simp at hx hv; subst hx hv; exact .yld _ _ _ hL2 hm2
     | succ j=>simp at hx⟩ hg2 h
   refine ⟨w.heap.size,[],w2,{ target:=.fn (.func gf) us,args:=#[.func (.yield w.heap.size) #[] #[]] },w2,gf,#[.func (.yield w.heap.size) #[] #[]] ++ us,w2,henter,?_,?_,?_⟩
   ·simp only [resolve,hu,Deferred.ofValue,Sem.run_pure]
    simp [Act.eval]
   ·simp only [invoke]; exact hcf
   ·refine Calls.mono hcall ?_
    rintro e w3 (⟨v,X,L3,g3,rfl,hK,hX,hg3,hp3⟩ | ⟨v,X,L3,g3,rfl,hS⟩)
    rotate_left
    ·have hS' : PanS C σ.L.length g2 w2 _ v X L3 g3 w3:=hS.less (by simp) (Nat.le_trans hpn hs.k)
     exact hs.pan hpn (a':={ a with defers:=[] ++ a.defers }) rfl (hS'.later (Nat.le_refl _) hp2)
    have hp3':=hp2.trans (hp3.le (by simp) (Nat.le_refl _))
    split at hK
    ·rename_i l hl
     obtain ⟨q,rec,h1,h2,h3,h4⟩:=RB.loop_of hg3 hl
     have hyl:=hp3.mono (.yld σ.L.length) _ (by simp [V.bel]) (RV.yld (g:=g2) (w:=w2) _ _ _ hL2 hm2)
     have hq : q = w.heap.size:=by
      generalize hvv : Value.func (.yield w.heap.size) #[] #[] = vv at hyl
      cases hyl with
      | yld _ r' _ hL' hm'=>rw [h1] at hm'; cases hm'; cases hvv; rfl
      | yldX _ r' hL'=>rw [hl] at hL'; cases hL'
     subst hq
     have S:=kill_step hg3 hl (by simp) (by simp) h1 (.loop { rec with state:=.exhausted })
     have hpk0:=hp3'.trans (S.prog.le (by have:=hp3'.len (Nat.le_refl _); omega) (Nat.le_refl _))
     have hst3 : St k (some q0) g3 { σ with L:=L3.set σ.L.length .dead } { a with defers:=[] ++ a.defers } (w3.putObj w.heap.size (.loop { rec with state:=.exhausted })):=by
      refine ⟨hs.n,fun i=>hpk0.mono _ _ (hs.fr i).bel (hs.fr i),S.good' trivial,?_,hs.df,?_,?_,hs.ro'⟩
      ·have:=hp3'.len (Nat.le_refl _); have:=hs.k; simp; omega
      ·intro i b d hb hdi
       obtain ⟨q,d1,d2,d3⟩:=hs.dfs i b d hb hdi
       obtain ⟨d4,d5⟩:=hpk0.defr b q (lt_of_get d3) d3 d1
       exact ⟨q,d5,d2,d4⟩
      ·intro lb' hlb'
       obtain ⟨l,y1,y2⟩:=hs.ro lb' hlb'
       exact ⟨l,y1,hpk0.mono _ _ y2.bel y2⟩
     have hpk : Prog k g w σ.L g3 (w3.putObj w.heap.size (.loop { rec with state:=.exhausted })) (L3.set σ.L.length .dead):=hpk0.le hs.k (Nat.le_refl _)
     have hbu : l.st ≠ .busy:=by intro e; rw [e] at hK; simp at hK
     have hb' : rec.state ≠ .busy:=by rw [h3]; exact hbu
     cases hpd : l.pend with
     | none =>
      have hK' : Q .normal { σ with L:=L3.set σ.L.length .dead }:=by
       rw [hro]
       cases hst : l.st <;> simp only [hst,hpd] at hK <;> first | exact hK | exact absurd hst hbu
      exact ⟨none,_,by rw [run_endLoop h2 hb',h4,hpd],Post.of rfl hK' hst3 hpk⟩
     | some c =>
      have hK' : ∃ ex,pendExit c = some ex ∧ Q ex { σ with L:=L3.set σ.L.length .dead }:=by
       rw [hro]
       cases hex : pendExit c with
       | none=>cases hst : l.st <;> simp only [hst,hpd,hex] at hK
       | some ex=>cases hst : l.st <;> simp only [hst,hpd,hex] at hK <;> first | exact ⟨ex,rfl,hK⟩ | exact absurd hst hbu
      obtain ⟨ex,hex,hK'⟩:=hK'
      exact ⟨some c,_,by rw [run_endLoop h2 hb',h4,hpd],pend_wp hex (Post.of rfl hK' hst3 hpk)⟩
    ·exact hK.elim
  ·exact h.elim
theorem cutIf_ok {k : Nat} {b : Bool} {f : (Exit → TS → Prop) → Prop} {Q : Exit → TS → Prop} {c : Code} {g : Gh} {w : World} {L : List Blk} {a : Act} (core : ∀ Q,f Q → wpV r C.P c (Post C k r Q g w L a) a w) (h : cutIf b k f Q) :
  wpV r C.P c (Post C k r Q g w L a) a w:=by
 unfold cutIf at h
 split at h
 ·exact core Q h
 ·unfold CutP at h
  obtain ⟨ι,s,h1,h2⟩:=h
  refine wpV_mono (core _ h1) ?_
  rintro e a' w' ⟨⟨σ',g',hq,hs,hp⟩ | hpp,hn,hsz⟩
  rotate_left
  ·obtain ⟨v,X,L',g',rfl,hS,hi⟩:=hpp
   exact ⟨.inr ⟨v,X,L',g',rfl,hS,hi⟩,hn,hsz⟩
  cases e with
  | normal =>
   obtain ⟨i,hw⟩:=hq
   obtain ⟨g2,hs2,hp2⟩:=hw r g' a' w' hs
   exact ⟨.inl ⟨s i,g2,h2 i,hs2,hp.trans hp2⟩,hn,hsz⟩
  | exit id=>exact ⟨.inl ⟨σ',g',hq,hs,hp⟩,hn,hsz⟩
  | goto l=>exact ⟨.inl ⟨σ',g',hq,hs,hp⟩,hn,hsz⟩
  | ret=>exact ⟨.inl ⟨σ',g',hq,hs,hp⟩,hn,hsz⟩
  | panic ch=>exact ⟨.inl ⟨σ',g',hq,hs,hp⟩,hn,hsz⟩
  | outgrown=>exact ⟨.inl ⟨σ',g',hq,hs,hp⟩,hn,hsz⟩
theorem vc_ok (hC : C.OK) {cut : Code → Bool} {k : Nat} (hpn : C.pn ≤ k) : ∀ (c : Code) (σ : TS) (Q : Exit → TS → Prop) (g : Gh) (a : Act) (w : World),vc C cut k c σ Q → St k r g σ a w → wpV r C.P c (Post C k r Q g w σ.L a) a w:=by
 intro c
 induction c with
 | skip=>exact fun σ Q g a w h hs=>wpV.of (Go.wpIn_skip (Post.of rfl h hs (Prog.refl _ _ _ _)))
 | label l=>exact fun σ Q g a w h hs=>wpV.of (wpIn_label (Post.of rfl h hs (Prog.refl _ _ _ _)))
 | region id ops draw =>
  intro σ Q g a w h hs
  cases draw with
  | false =>
   simp only [vc] at h
   refine cutIf_ok (fun Q h=>?_) h
   refine wpV.of (wpIn_region (vcOps_ok hC (List.range ops.size) σ.fr σ.L g a w _ (by rw [range_ops]; exact h) hs.at (Nat.le_trans hpn hs.k) ?_ (fun v X L2 g2 a2 w2 hd hS=>hs.pan hpn hd hS)))
   intro fr' L' g' a' w' hK hat hd hp
   exact Post.of hd hK (hs.of_at hat hd hp) (hp.le hs.k (Nat.le_refl _))
  | true =>
   simp only [vc] at h
   refine cutIf_ok (fun Q h=>?_) h
   unfold DrawP at h
   refine wpV.of (wpIn_region_draw fun t=>?_)
   have hE : Ext w { w with drawn:=w.drawn + 1 }:=⟨⟨rfl,rfl,rfl⟩,Nat.le_refl _,fun _ _ h=>h⟩
   have hcell : ∀ a : Addr,World.cell? { w with drawn:=w.drawn + 1 } a = w.cell? a:=fun a=>rfl
   have hmono : ∀ (x : V) (v : Value),RV g w σ.L x v → RV g { w with drawn:=w.drawn + 1 } σ.L x v:=fun x v hx=>RV.mono (g:=g) (g':=g) (w:=w) (w':={ w with drawn:=w.drawn + 1 }) (L:=σ.L) (L':=σ.L) (k:=σ.L.length) (fun _ h=>h) (fun a v _ h=>h) (fun b _=>Keep.refl g σ.L b) hx.bel hx
   have hg2 : Good g { w with drawn:=w.drawn + 1 } σ.L:=⟨hs.good.inj,hs.good.dis,hs.good.lt,fun b k hb=>RB.mono' hmono rfl rfl (fun _ _ _ h=>h) (fun l _=>⟨rfl,fun h=>h⟩) (hs.good.blk b k hb),GlobOK.mono (w:=w) (w':={ w with drawn:=w.drawn + 1 }) (fun _ h=>h) (fun a v _ h=>h) hs.good.gl⟩
   have hp0 : Prog σ.L.length g w σ.L g { w with drawn:=w.drawn + 1 } σ.L:=⟨⟨rfl,rfl,rfl⟩,Nat.le_refl _,fun _ _ h _=>h,fun _ h _=>h,fun _ h=>.inl h,fun _ h=>h,fun x v _ h=>hmono x v h,fun _ _ _ h h'=>⟨h,h'⟩,fun h=>h⟩
   refine vOpsC_ok hC _ σ.fr σ.L g a _ _ (h t) ⟨hs.n,fun i=>hmono _ _ (hs.fr i),hg2⟩ (Nat.le_trans hpn hs.k) ?_ (fun v X L2 g2 a2 w2 hd hS=>hs.pan hpn hd (hS.later (Nat.le_refl _) hp0))
   intro fr' L' g' a' w' hK hat hd hp
   have hp':=hp0.trans hp
   exact Post.of hd hK (hs.of_at hat hd hp') (hp'.le hs.k (Nat.le_refl _))
 | seq x y ihx ihy =>
  intro σ Q g a w h hs
  simp only [vc] at h
  refine cutIf_ok (fun Q h=>?_) h
  refine wpV_seq (wpV_mono (ihx σ _ g a w h hs) ?_)
  rintro e a1 w1 ⟨⟨σ1,g1,hq,hs1,hp1⟩ | hpp,hn,hsz⟩
  rotate_left
  ·obtain ⟨v,X,L',g',rfl,hS,hi⟩:=hpp
   exact ⟨.inr ⟨v,X,L',g',rfl,hS,hi⟩,hn,hsz⟩
  cases e with
  | normal=>exact wpV_mono (ihy σ1 Q g1 a1 w1 hq hs1) fun e a' w' hpost=>Post.later hs.k hp1 hn hpost
  | exit id=>exact ⟨.inl ⟨σ1,g1,hq,hs1,hp1⟩,hn,hsz⟩
  | goto l=>exact ⟨.inl ⟨σ1,g1,hq,hs1,hp1⟩,hn,hsz⟩
  | ret=>exact ⟨.inl ⟨σ1,g1,hq,hs1,hp1⟩,hn,hsz⟩
  | panic ch=>exact ⟨.inl ⟨σ1,g1,hq,hs1,hp1⟩,hn,hsz⟩
  | outgrown=>exact ⟨.inl ⟨σ1,g1,hq,hs1,hp1⟩,hn,hsz⟩
 | cond c x y ihx ihy =>
  intro σ Q g a w h hs
  simp only [vc] at h
  refine cutIf_ok (fun Q h=>?_) h
  have hcv:=evB_ok hs.good.gl hs.fr c
  have fin : ∀ t : Bool,a.eval c = .bool t → (match t with | true=>vc C cut k x σ Q | false=>vc C cut k y σ Q) → wpV r C.P (Code.cond c x y) (Post C k r Q g w σ.L a) a w:=by
   intro t hb h
   refine wpV_cond hb ?_
   cases t with
   | true=>exact ihx σ Q g a w h hs
   | false=>exact ihy σ Q g a w h hs
  split at h
  ·rename_i hc
   rw [hc] at hcv
   exact fin true (by generalize a.eval c = v at hcv; cases hcv; rfl) h
  ·rename_i hc
   rw [hc] at hcv
   exact fin false (by generalize a.eval c = v at hcv; cases hcv; rfl) h
  ·rename_i t hc
   rw [hc] at hcv
   exact fin t hcv.bool_of h.out
  ·exact h.elim
 | block id c ih =>
  intro σ Q g a w h hs
  simp only [vc] at h
  refine cutIf_ok (fun Q h=>?_) h
  refine wpV_block (wpV_mono (ih σ _ g a w h hs) ?_)
  rintro e a1 w1 ⟨⟨σ1,g1,hq,hs1,hp1⟩ | hpp,hn,hsz⟩
  rotate_left
  ·obtain ⟨v,X,L',g',rfl,hS,hi⟩:=hpp
   exact ⟨.inr ⟨v,X,L',g',rfl,hS,hi⟩,hn,hsz⟩
  cases e with
  | normal=>exact ⟨.inl ⟨σ1,g1,hq,hs1,hp1⟩,hn,hsz⟩
  | exit id' =>
   simp only [Exit.inBlock]
   cases hb : Nat.beq id' id with
   | true =>
    simp only [hb] at hq
    rw [if_pos (Nat.eq_of_beq_eq_true hb)]
    exact ⟨.inl ⟨σ1,g1,hq,hs1,hp1⟩,hn,hsz⟩
   | false =>
    simp only [hb] at hq
    rw [if_neg (fun e=>by rw [e] at hb; simp at hb)]
    exact ⟨.inl ⟨σ1,g1,hq,hs1,hp1⟩,hn,hsz⟩
  | goto l=>exact ⟨.inl ⟨σ1,g1,hq,hs1,hp1⟩,hn,hsz⟩
  | ret=>exact ⟨.inl ⟨σ1,g1,hq,hs1,hp1⟩,hn,hsz⟩
  | panic ch=>exact ⟨.inl ⟨σ1,g1,hq,hs1,hp1⟩,hn,hsz⟩
  | outgrown=>exact ⟨.inl ⟨σ1,g1,hq,hs1,hp1⟩,hn,hsz⟩
 | loop c ih =>
  intro σ Q g a w h hs
  simp only [vc] at h
  unfold LoopP at h
  obtain ⟨ι,s,lt,i0,wf,hw0,hround⟩:=h
  obtain ⟨g0,hs0,hp0⟩:=hw0 r g a w hs
  refine wpV_loopG (fun i a1 w1=>∃ g1,St k r g1 (s i) a1 w1 ∧ Prog k g w σ.L g1 w1 (s i).L ∧ NewD a w a1) lt wf (i0:=i0) ⟨g0,hs0,hp0,.same rfl⟩ ?_
  rintro i a1 w1 ⟨g1,hs1,hp1,hn1⟩
  refine wpV_mono (ih (s i) _ g1 a1 w1 (hround i) hs1) ?_
  rintro e a2 w2 ⟨⟨σ2,g2,hq,hs2,hp2⟩ | hpp,hn,hsz⟩
  rotate_left
  ·obtain ⟨v,X,L',g',rfl,hS,hi⟩:=hpp
   exact Post.later hs.k hp1 hn1 ⟨.inr ⟨v,X,L',g',rfl,hS,hi⟩,hn,hsz⟩
  cases e with
  | normal =>
   obtain ⟨j,hlt,hw⟩:=hq
   obtain ⟨g3,hs3,hp3⟩:=hw r g2 a2 w2 hs2
   exact ⟨j,hlt,g3,hs3,hp1.trans (hp2.trans hp3),hn1.trans hp1.size hn⟩
  | exit id=>exact ⟨.inl ⟨σ2,g2,hq,hs2,hp1.trans hp2⟩,hn1.trans hp1.size hn,Nat.le_trans hp1.size hsz⟩
  | goto l=>exact ⟨.inl ⟨σ2,g2,hq,hs2,hp1.trans hp2⟩,hn1.trans hp1.size hn,Nat.le_trans hp1.size hsz⟩
  | ret=>exact ⟨.inl ⟨σ2,g2,hq,hs2,hp1.trans hp2⟩,hn1.trans hp1.size hn,Nat.le_trans hp1.size hsz⟩
  | panic ch=>exact ⟨.inl ⟨σ2,g2,hq,hs2,hp1.trans hp2⟩,hn1.trans hp1.size hn,Nat.le_trans hp1.size hsz⟩
  | outgrown=>exact ⟨.inl ⟨σ2,g2,hq,hs2,hp1.trans hp2⟩,hn1.trans hp1.size hn,Nat.le_trans hp1.size hsz⟩
 | rangeFunc f ps assign body _ _ =>
  intro σ Q g a w h hs
  simp only [vc] at h
  exact vRange_ok hC hpn h hs
 | exit id=>exact fun σ Q g a w h hs=>wpV.of (wpIn_exit (Post.of rfl h hs (Prog.refl _ _ _ _)))
 | scope c ih =>
  intro σ Q g a w h hs
  simp only [vc] at h
  refine cutIf_ok (fun Q h=>?_) h
  refine wpV_scopeG (wpV_mono (ih σ _ g a w h hs) ?_)
  rintro e a1 w1 ⟨⟨σ1,g1,hq,hs1,hp1⟩ | hpp,hn,hsz⟩
  rotate_left
  ·obtain ⟨v,X,L',g',rfl,hS,hi⟩:=hpp
   exact ⟨.inr ⟨v,X,L',g',rfl,hS,hi⟩,hn,hsz⟩
  cases e with
  | goto l=>exact hq
  | normal=>exact ⟨.inl ⟨σ1,g1,hq,hs1,hp1⟩,hn,hsz⟩
  | exit id=>exact ⟨.inl ⟨σ1,g1,hq,hs1,hp1⟩,hn,hsz⟩
  | ret=>exact ⟨.inl ⟨σ1,g1,hq,hs1,hp1⟩,hn,hsz⟩
  | panic ch=>exact ⟨.inl ⟨σ1,g1,hq,hs1,hp1⟩,hn,hsz⟩
  | outgrown=>exact ⟨.inl ⟨σ1,g1,hq,hs1,hp1⟩,hn,hsz⟩
 | goto l=>intro σ Q g a w h hs; simp [vc] at h
 | ret=>exact fun σ Q g a w h hs=>wpV.of (wpIn_ret (Post.of rfl h hs (Prog.refl _ _ _ _)))
 | refuse s=>intro σ Q g a w h hs; simp [vc] at h
end
end Go.Tidy
/-
 The base layer: forgetting,dropping blocks,making data of what is the activation's own; the entry of a function; rounds.
-/
namespace Go.Tidy
section
variable {C : Ctx} {g : Gh} {w : World} {L : List Blk} {r : Option Nat}
def SubF (fr : List (Nat × V)) : List (Nat × V) → Prop
 | []=>True
 | p :: q=>norm (look fr p.1) = norm p.2 ∧ SubF fr q
theorem norm_eq {g : Gh} {w : World} {L : List Blk} {x y : V} {v : Value} (h : norm x = norm y) (hx : RV g w L x v) : RV g w L y v:=by
 have hy : RV g w L (norm y) v:=h ▸ norm_ok hx
 unfold norm at hy
 split at hy
 ·rw [hy.bool_of]; exact .tt
 ·rw [hy.bool_of]; exact .ff
 ·exact hy
theorem SubF.look {fr : List (Nat × V)} : ∀ {fr' : List (Nat × V)},SubF fr fr' → ∀ i,look fr' i = .poison ∨ norm (look fr i) = norm (look fr' i)
 | [],_,i=>.inl rfl
 | (d,v) :: q,h,i=>by
  rw [look_cons]
  split
  ·rename_i e; subst e; exact .inr h.1
  ·exact SubF.look h.2 i
theorem Weak.refl (k : Nat) (σ : TS) : Weak k σ σ:=fun _r g _a _w h=>⟨g,h,Prog.refl _ _ _ _⟩
theorem Weak.trans {k : Nat} {σ σ' σ'' : TS} (h : Weak k σ σ') (h' : Weak k σ' σ'') : Weak k σ σ'':=fun r g a w hs=>by
 obtain ⟨g1,hs1,hp1⟩:=h r g a w hs
 obtain ⟨g2,hs2,hp2⟩:=h' r g1 a w hs1
 exact ⟨g2,hs2,hp1.trans hp2⟩
theorem Weak.fd {k n : Nat} {σ : TS} {fr' : List (Nat × V)} {L' : List Blk} (hfr : SubF σ.fr fr') (hL : σ.L.take n = L') (hk : k ≤ n) (hn : n ≤ σ.L.length) (hf : belF n fr' = true) (hB : belB n L' = true)
  (hdf : σ.df.all (fun b=>decide (b < n)) = true) (hro : (match σ.ro with | some b=>decide (b < n) | none=>true) = true) : Weak k σ { σ with fr:=fr',L:=L' }:=by
 intro r g a w hs
 subst hL
 obtain ⟨hmono,hgood⟩:=drop_good hs.good hB g.I (fun _ h=>h) (fun _ h=>.inl h)
 refine ⟨{ g with I:=g.I },⟨hs.n,fun i=>?_,hgood,by simp; omega,hs.df,fun i b d hb hd=>?_,fun lb hlb=>?_,hs.ro'⟩,drop_prog hs.good hk hB hn g.I (fun _ h=>h) (fun _ h=>.inl h)⟩
 ·have hb:=belF_look hf i
  rcases hfr.look i with h | h
  ·show RV _ _ _ (look fr' i) _
   rw [h]; exact .poison _
  ·exact hmono _ _ hb (norm_eq h (hs.fr i))
 ·obtain ⟨q,h1,h2,h3⟩:=hs.dfs i b d hb hd
  have : b < n:=by
   rw [List.all_eq_true] at hdf
   exact of_decide_eq_true (hdf b (List.mem_of_getElem? hb))
  exact ⟨q,h1,h2,by show (σ.L.take n)[b]? = _; rw [take_get this]; exact h3⟩
 ·have hlb' : σ.ro = some lb:=hlb
  obtain ⟨l,h1,h2⟩:=hs.ro lb hlb'
  rw [hlb'] at hro
  exact ⟨l,h1,hmono _ _ (by simpa [V.bel] using hro) h2⟩
theorem Weak.forget {k : Nat} {σ : TS} {fr' : List (Nat × V)} (hfr : SubF σ.fr fr') : Weak k σ { σ with fr:=fr' }:=by
 intro r g a w hs
 refine ⟨g,⟨hs.n,fun i=>?_,hs.good,hs.k,hs.df,hs.dfs,hs.ro,hs.ro'⟩,Prog.refl _ _ _ _⟩
 rcases hfr.look i with h | h
 ·show RV _ _ _ (look fr' i) _
  rw [h]; exact .poison _
 ·exact norm_eq h (hs.fr i)
theorem St.prog {k : Nat} {g g' : Gh} {σ : TS} {a : Act} {w : World} {L' : List Blk} (hs : St k r g σ a w) (hp : Prog σ.L.length g w σ.L g' w L') (hg : Good g' w L') : St k r g' { σ with L:=L' } a w :=
 hs.of_at (a':=a) (fr':=σ.fr) ⟨hs.n,frame_mono hs.fr hp,hg⟩ rfl hp
theorem Weak.nilOwn {k : Nat} {σ : TS} (d sz : Nat) (hd : look σ.fr d = .nil) (hsz : 0 < sz) : Weak k σ { σ with fr:=(d,.own σ.L.length 0 0 0) :: σ.fr,L:=σ.L ++ [.row 0 sz []] }:=by
 intro r g a w hs
 have hp:=add_prog hs.good (Ext.refl w) (.row 0 sz []) none (fun q h=>by cases h) 0
 have hg:=add_good (k':=.row 0 sz []) hs.good (Ext.refl w) none (fun q h=>by cases h) 0 ⟨hsz,by simp,.inl ⟨by simp [Gh.add],rfl⟩⟩
 have hs':=hs.prog hp hg
 refine ⟨_,⟨hs'.n,frame_set hs'.fr ?_,hs'.good,hs'.k,hs'.df,hs'.dfs,hs'.ro,hs'.ro'⟩,hp.le hs.k (Nat.le_refl _)⟩
 have hv:=hs.fr d
 rw [hd] at hv
 generalize a.tmps.getD d undef = v at hv
 cases hv with
 | nil=>exact .ownN _ _ sz [] (by simp) (by simp [Gh.add])
inductive Cv (S : Nat → Prop) (L : List Blk) : V → D → Prop
 | d (x : D) : Cv S L (.d x) x
 | nil : Cv S L .nil (.sl [])
 | tt : Cv S L .tt (.bool true)
 | ff : Cv S L .ff (.bool false)
 | clp (els : List (List D)) : Cv S L (.clp els) (.sl els)
 | own (b gen lo len sz : Nat) (els : List (List V)) (ds : List (List D)) (hb : S b) (hL : L[b]? = some (.row gen sz els)) (hlen : ((els.drop lo).take len).length = ds.length) (hl : len = ds.length)
   (hrow : ∀ e ∈ ds,e.length = sz)
   (hrec : ∀ (i j : Nat) (x : V) (y : D),(((els.drop lo).take len)[i]?).bind (fun e=>e[j]?) = some x → (ds[i]?).bind (fun e=>e[j]?) = some y → Cv S L x y) : Cv S L (.own b gen lo len) (.sl ds)
 | ptr (b off : Nat) (cs : List V) (ds : List D) (hb : S b) (hL : L[b]? = some (.cells cs)) (hlen : (cs.drop off).length = ds.length)
   (hrec : ∀ (j : Nat) (x : V) (y : D),(cs.drop off)[j]? = some x → ds[j]? = some y → Cv S L x y) : Cv S L (.ptr b off) (.rptr ds)
 | fn (f : FuncId) (caps : List V) (ds : List D) (hlen : caps.length = ds.length) (hrec : ∀ (j : Nat) (x : V) (y : D),caps[j]? = some x → ds[j]? = some y → Cv S L x y) : Cv S L (.fn f caps) (.fn f ds)
theorem Cv.row {S : Nat → Prop} {b gen lo len sz : Nat} {els : List (List V)} (ds : List (List D)) (hb : S b) (hL : L[b]? = some (.row gen sz els)) (he : (els.drop lo).take len = ds.map (·.map .d)) (hl : len = ds.length)
  (hrow : ∀ e ∈ ds,e.length = sz) : Cv S L (.own b gen lo len) (.sl ds):=by
 refine .own b gen lo len sz els ds hb hL (by rw [he]; simp) hl hrow (fun i j x y hx hy=>?_)
 rw [he,List.getElem?_map] at hx
 cases e : ds[i]? with
 | none=>rw [e] at hy; cases hy
 | some d =>
  rw [e] at hx hy
  simp only [Option.map_some,Option.bind_some,List.getElem?_map] at hx hy
  rw [hy] at hx
  cases hx
  exact .d y
theorem Cv.rd {S : Nat → Prop} (hg : Good g w L) {I' : Nat → Prop} (hI : ∀ q,g.I q → I' q) (hI' : ∀ b q,S b → live L b → g.m b = some q → I' q) {x : V} {y : D} (h : Cv S L x y) : ∀ {v : Value},RV g w L x v → RD I' w y v:=by
 induction h with
 | d x=>intro v hv; cases hv with | d _ _ hd=>exact hd.mono hI (fun _ _ _ h=>h)
 | nil=>intro v hv; cases hv; exact .slNil _ _
 | tt=>intro v hv; cases hv; exact .bool _
 | ff=>intro v hv; cases hv; exact .bool _
 | clp els=>intro v hv; cases hv with | clp _ a hd=>exact hd.mono hI (fun _ _ _ h=>h)
 | own b gen lo len sz els ds hb hL hlen hl hrow hrec ih =>
  intro v hv
  obtain ⟨hsz0,hels,hr⟩:=hg.blk b _ hL
  cases hv with
  | ownX _ _ _ _ a c hL'=>rw [hL] at hL'; cases hL'
  | ownO _ _ gen2 _ _ _ _ a c hL' hg'=>rw [hL] at hL'; cases hL'; omega
  | ownN _ _ _ _ hL' hm' =>
   have : ds = []:=List.eq_nil_of_length_eq_zero hl.symm
   subst this
   exact .slNil _ _
  | own _ _ _ _ sz' r o c els' hL' hm ho hcap hlc hle =>
   rw [hL] at hL'; cases hL'
   rcases hr with ⟨hm',_⟩ | ⟨r',cur,T,hm',hh,hcapg,hbig,hone,hrc⟩
   ·rw [hm] at hm'; cases hm'
   rw [hm] at hm'; cases hm'
   subst hl
   rcases Nat.eq_zero_or_pos ds.length with h0 | hpos
   ·have : ds = []:=List.eq_nil_of_length_eq_zero h0
    subst this
    exact .slNil _ _
   ·have ho' : o = lo * sz:=by rcases ho with h0 | h0 <;> omega
    subst ho'
    have hcell : ∀ i j,i < ds.length → j < sz → ∃ u,cur[lo * sz + (i * sz + j)]? = some u:=by
     intro i j hi hj
     have : lo * sz + (i * sz + j) < cur.size:=by
      have h1:=Nat.mul_le_mul_right sz (show lo + i + 1 ≤ els.length by omega)
      rw [Nat.succ_mul,Nat.add_mul] at h1; omega
     exact ⟨_,Array.getElem?_eq_getElem this⟩
    refine .sl ds ⟨r,lo * sz,none⟩ c sz (fun i j=>(cur[lo * sz + (i * sz + j)]?).getD undef) hrow (fun i j hi hj=>?_) (hI' b r hb ⟨_,hL,by simp⟩ hm) hlc.1 (fun i j y hy=>?_)
    ·obtain ⟨u,hu⟩:=hcell i j hi hj
     rw [Addr.add_lit,cell_row hh,hu]; rfl
    ·have hi : i < ds.length:=by
      rcases Nat.lt_or_ge i ds.length with h' | h'
      ·exact h'
      ·rw [List.getElem?_eq_none h'] at hy; cases hy
     have hj : j < sz:=by
      cases e : ds[i]? with
      | none=>rw [e] at hy; cases hy
      | some d=>rw [e] at hy; have:=lt_of_get (L:=d) (by simpa using hy); have:=hrow d (List.mem_of_getElem? e); omega
     obtain ⟨u,hu⟩:=hcell i j hi hj
     rw [hu]
     have hi2 : lo + i < els.length:=by omega
     have hel:=hels _ (List.getElem_mem hi2)
     have hx : (((els.drop lo).take ds.length)[i]?).bind (fun e=>e[j]?) = some ((els[lo + i])[j]'(by omega)):=by
      rw [List.getElem?_take,if_pos hi,List.getElem?_drop,List.getElem?_eq_getElem hi2]
      simp
     refine ih i j _ y hx hy (hrc (lo + i) j _ u ?_ ?_)
     ·rw [List.getElem?_eq_getElem hi2]; simp
     ·rw [Nat.add_mul,Nat.add_assoc]; exact hu
 | ptr b off cs ds hb hL hlen hrec ih =>
  intro v hv
  obtain ⟨r,cur,T,hm,hh,hsz,hone,hrc⟩:=hg.blk b _ hL
  cases hv with
  | ptrX _ _ a hL'=>rw [hL] at hL'; cases hL'
  | ptr _ _ r' cs' hL' hm' =>
   rw [hm] at hm'; cases hm'
   simp at hlen
   refine .rptr ds ⟨r,off,none⟩ (fun j=>(cur[off + j]?).getD undef) (fun j hj=>?_) (hI' b r hb ⟨_,hL,by simp⟩ hm) (fun j y hy=>?_)
   ·rw [Addr.add_lit,cell_row hh,Array.getElem?_eq_getElem (by omega)]; rfl
   ·have hj:=lt_of_get hy
    rw [Array.getElem?_eq_getElem (show off + j < cur.size by omega)]
    have hx : (cs.drop off)[j]? = some (cs[off + j]'(by omega)):=by
     rw [List.getElem?_drop,List.getElem?_eq_getElem]
    exact ih j _ y hx hy (hrc (off + j) _ _ (by rw [← List.getElem?_drop]; exact hx) (Array.getElem?_eq_getElem _))
 | fn f caps ds hlen hrec ih =>
  intro v hv
  cases hv with
  | fn _ _ vs hl hr=>exact .fn f ds vs (by omega) (fun j y u hy hu=>by
    have hj:=lt_of_get hy
    have hx : caps[j]? = some (caps[j]'(by omega)):=List.getElem?_eq_getElem _
    exact ih j _ y hx hy (hr j _ u hx hu))
inductive Cw (S : Nat → Prop) (L : List Blk) : V → V → Prop
 | d {x : V} {y : D} (h : Cv S L x y) : Cw S L x (.d y)
 | agg (cs : List V) (ds : List D) (hlen : cs.length = ds.length) (h : ∀ (j : Nat) (x : V) (y : D),cs[j]? = some x → ds[j]? = some y → Cv S L x y) : Cw S L (.agg cs) (.agg (ds.map .d))
 | tup (cs : List V) (ds : List V) (hlen : cs.length = ds.length) (h : ∀ (j : Nat) (x y : V),cs[j]? = some x → ds[j]? = some y → Cw S L x y) : Cw S L (.tup cs) (.tup ds)
theorem Cw.rv {S : Nat → Prop} (hg : Good g w L) {g' : Gh} {L' : List Blk} (hI : ∀ q,g.I q → g'.I q) (hI' : ∀ b q,S b → live L b → g.m b = some q → g'.I q) {x y : V} (h : Cw S L x y) : ∀ {v : Value},RV g w L x v → RV g' w L' y v:=by
 induction h with
 | d h=>intro v hv; exact .d _ _ (h.rd hg hI hI' hv)
 | agg cs ds hlen h =>
  intro v hv
  cases hv with
  | agg _ vs hl ho hr =>
   refine .agg _ vs (by simp; omega) ho (fun j y u hy hu=>?_)
   rw [List.getElem?_map] at hy
   cases e : ds[j]? with
   | none=>rw [e] at hy; cases hy
   | some d =>
    rw [e] at hy; cases hy
    have hj:=lt_of_get e
    have hx : cs[j]? = some (cs[j]'(by omega)):=List.getElem?_eq_getElem _
    exact .d _ _ ((h j _ d hx e).rd hg hI hI' (hr j _ u hx hu))
 | tup cs ds hlen h ih =>
  intro v hv
  cases hv with
  | tup _ vs hl hr =>
   refine .tup ds vs (by omega) (fun j y u hy hu=>?_)
   have hj:=lt_of_get hy
   have hx : cs[j]? = some (cs[j]'(by omega)):=List.getElem?_eq_getElem _
   exact ih j _ y hx hy (hr j _ u hx hu)
def RetW (k : Nat) (X : V) (L : List Blk) (X' : V) (L' : List Blk) : Prop :=
 ∀ (g : Gh) (w : World) (v : Value),Good g w L → k ≤ L.length → RV g w L X v → ∃ g',Good g' w L' ∧ RV g' w L' X' v ∧ Prog k g w L g' w L'
@[irreducible] def FinP (k0 : Nat) (X : V) (L : List Blk) (k : V → List Blk → Prop) : Prop:=∃ X' L',RetW k0 X L X' L' ∧ k X' L'
theorem FinP.same {k0 : Nat} {X : V} {k : V → List Blk → Prop} (h : k X L) : FinP k0 X L k:=by
 unfold FinP; exact ⟨X,L,fun g w v hg _ hv=>⟨g,hg,hv,Prog.refl _ _ _ _⟩,h⟩
theorem FinP.drop {k0 n : Nat} {X : V} {L' : List Blk} {k : V → List Blk → Prop} (hL : L.take n = L') (hk : k0 ≤ n) (hX : X.bel n = true) (hB : belB n L' = true) (h : k X L') : FinP k0 X L k:=by
 unfold FinP
 subst hL
 refine ⟨X,L.take n,fun g w v hg hk0 hv=>?_,h⟩
 rcases Nat.lt_or_ge L.length n with hlt | hn
 ·rw [List.take_of_length_le (by omega)]
  exact ⟨g,hg,hv,Prog.refl _ _ _ _⟩
 ·obtain ⟨hmono,hgood⟩:=drop_good hg hB g.I (fun _ h=>h) (fun _ h=>.inl h)
  exact ⟨_,hgood,hmono _ _ hX hv,drop_prog hg hk hB hn g.I (fun _ h=>h) (fun _ h=>.inl h)⟩
theorem FinP.data {k0 : Nat} {X Y : V} {L' : List Blk} {k : V → List Blk → Prop} (hc : Cw (k0 ≤ ·) L X Y) (hL : L.take k0 = L') (hB : belB k0 L' = true) (h : k Y L') : FinP k0 X L k:=by
 unfold FinP
 subst hL
 refine ⟨Y,L.take k0,fun g w v hg hk0 hv=>?_,h⟩
 have hI : ∀ q,g.I q → (g.I q ∨ ∃ b,k0 ≤ b ∧ live L b ∧ g.m b = some q):=fun q h=>.inl h
 obtain ⟨hmono,hgood⟩:=drop_good hg hB (fun q=>g.I q ∨ ∃ b,k0 ≤ b ∧ live L b ∧ g.m b = some q) hI (fun _ h=>h)
 exact ⟨_,hgood,hc.rv hg (g':={ g with I:=fun q=>g.I q ∨ ∃ b,k0 ≤ b ∧ live L b ∧ g.m b = some q }) hI (fun b q h1 h2 h3=>.inr ⟨b,h1,h2,h3⟩) hv,
  drop_prog hg (Nat.le_refl _) hB hk0 _ hI (fun _ h=>h)⟩
end
end Go.Tidy
/-
 The base layer: the entry of a function; rounds.
-/
namespace Go.Tidy
def initFr : Nat → List V → List (Nat × V)
 | _,[]=>[]
 | i,x :: r=>(i,x) :: initFr (i + 1) r
def vResults (C : Ctx) (fr : List (Nat × V)) (L : List Blk) : List ResultVar → (List V → Prop) → Prop
 | [],k=>k []
 | .tmp t :: r,k=>vResults C fr L r fun xs=>k (norm (look fr t) :: xs)
 | .cell a t :: r,k=>vLoad C t (look fr a) L fun x=>vResults C fr L r fun xs=>k (x :: xs)
def resV : List V → V
 | [x]=>x
 | xs=>.tup xs
def killAll (df : List Nat) (L : List Blk) : List Blk:=df.foldl (fun L b=>L.set b .dead) L
def vRet (C : Ctx) (k0 : Nat) (rs : List ResultVar) (σ : TS) (k : V → List Blk → Prop) : Prop :=
 vResults C σ.fr (killAll σ.df σ.L) rs fun xs=>FinP k0 (resV xs) (killAll σ.df σ.L) k
section
variable {C : Ctx} {g : Gh} {w : World} {L : List Blk} {r : Option Nat}
theorem look_init : ∀ (xs : List V) (n i : Nat),look (initFr n xs) i = if n ≤ i then (xs[i - n]?).getD .poison else .poison
 | [],n,i=>by simp [initFr,look]
 | x :: xs,n,i=>by
  simp only [initFr]
  rw [look_cons,look_init xs (n + 1) i]
  by_cases h : n = i
  ·subst h; simp
  ·rw [if_neg h]
   by_cases h2 : n ≤ i
   ·rw [if_pos h2,if_pos (by omega)]
    have : i - n = (i - (n + 1)) + 1:=by omega
    rw [this]; simp
   ·rw [if_neg h2,if_neg (by omega)]
theorem init_frame {xs : List V} {vs : Array Value} (h : RVs g w L xs vs) (n : Nat) : ∀ i,RV g w L (look (initFr 0 xs) i) ((vs ++ Array.replicate (n - vs.size) undef).getD i undef):=by
 intro i
 rw [look_init]
 simp only [Nat.zero_le,if_true,Nat.sub_zero]
 cases e : xs[i]? with
 | none=>exact .poison _
 | some x =>
  have hi:=lt_of_get e
  have hv : vs[i]? = some (vs[i]'(by rw [← h.1]; exact hi)):=Array.getElem?_eq_getElem _
  have : (vs ++ Array.replicate (n - vs.size) undef).getD i undef = vs[i]'(by rw [← h.1]; exact hi):=by
   rw [Array.getD_eq_getD_getElem?,Array.getElem?_append_left (by rw [← h.1]; exact hi),hv]; rfl
  rw [this]
  exact h.2 i x _ e hv
def resOne (tmps : Array Value) : ResultVar → Sem Value:=fun
 | .tmp t=>pure (tmps.getD t undef)
 | .cell a t=>do loadVar t (← asAddr (tmps.getD a undef))
theorem results_eq (fn : Func) (tmps : Array Value) : results fn tmps = (do
 let vs ← fn.results.mapM (resOne tmps)
 pure (if h : vs.size = 1 then vs[0] else .tuple vs)):=rfl
theorem vResults_ok (hC : C.OK) {fr : List (Nat × V)} {tmps : Array Value} (hfr : ∀ i,RV g w L (look fr i) (tmps.getD i undef)) (hg : Good g w L) : ∀ (rs : List ResultVar) (k : List V → Prop),vResults C fr L rs k →
  ∃ vs xs,(rs.mapM (resOne tmps)).run C.P w = .ok vs w ∧ k xs ∧ xs.length = vs.length ∧ ∀ (j : Nat) (x : V) (v : Value),xs[j]? = some x → vs[j]? = some v → RV g w L x v
 | [],k,h=>⟨[],[],by simp,by simpa [vResults] using h,rfl,fun j x v h _=>by simp at h⟩
 | .tmp t :: rs,k,h=>by
  simp only [vResults] at h
  obtain ⟨vs,xs,h1,h2,h3,h4⟩:=vResults_ok hC hfr hg rs _ h
  refine ⟨tmps.getD t undef :: vs,norm (look fr t) :: xs,?_,h2,by simp [h3],fun j x v hx hv=>?_⟩
  ·rw [List.mapM_cons]
   simp only [resOne,Sem.run_bind,Sem.run_pure,Result.andThen_ok]
   rw [show (rs.mapM (resOne tmps)).run C.P w = _ from h1]
   rfl
  ·cases j with
   | zero=>simp only [List.getElem?_cons_zero,Option.some.injEq] at hx hv; subst hx hv; exact norm_ok (hfr t)
   | succ j=>exact h4 j x v (by simpa using hx) (by simpa using hv)
 | .cell a t :: rs,k,h=>by
  simp only [vResults] at h
  obtain ⟨rv,X,hr,hk,hX⟩:=vLoad_ok hC hg (hfr a) h
  obtain ⟨vs,xs,h1,h2,h3,h4⟩:=vResults_ok hC hfr hg rs _ hk
  have hr' : (resOne tmps (.cell a t)).run C.P w = .ok rv w:=by
   unfold Instr.loadAt Instr.sureAddr at hr
   cases hv : tmps.getD a undef <;> rw [hv] at hr
   case pointer p=>cases p with
    | none=>simp at hr
    | some p=>simpa [resOne,hv,asAddr] using hr
   all_goals simp at hr
  refine ⟨rv :: vs,X :: xs,?_,h2,by simp [h3],fun j x v hx hv=>?_⟩
  ·rw [List.mapM_cons]
   rw [Sem.run_bind,hr']
   simp only [Sem.run_bind,Sem.run_pure,Result.andThen_ok]
   rw [show (rs.mapM (resOne tmps)).run C.P w = _ from h1]
   rfl
  ·cases j with
   | zero=>simp only [List.getElem?_cons_zero,Option.some.injEq] at hx hv; subst hx hv; exact hX
   | succ j=>exact h4 j x v (by simpa using hx) (by simpa using hv)
theorem results_ok (hC : C.OK) {fn : Func} {fr : List (Nat × V)} {tmps : Array Value} (hfr : ∀ i,RV g w L (look fr i) (tmps.getD i undef)) (hg : Good g w L) {k : List V → Prop} (h : vResults C fr L fn.results.toList k) :
  ∃ v xs,(results fn tmps).run C.P w = .ok v w ∧ k xs ∧ RV g w L (resV xs) v:=by
 obtain ⟨vs,xs,h1,h2,h3,h4⟩:=vResults_ok hC hfr hg _ k h
 have hrun : (results fn tmps).run C.P w = .ok (if h : vs.toArray.size = 1 then vs.toArray[0] else .tuple vs.toArray) w:=by
  rw [results_eq,Array.mapM_eq_mapM_toList]
  simp only [Sem.run_bind,Sem.run_map,h1,Result.andThen_ok,Sem.run_pure]
 refine ⟨_,xs,hrun,h2,?_⟩
 match xs,vs,h3,h4 with
 | [],[],_,_=>exact .tup [] #[] rfl (fun j x v h _=>by simp at h)
 | [x],[v],_,h4=>simpa [resV] using h4 0 x v rfl rfl
 | x :: y :: xs,v :: u :: vs,h3,h4 =>
  have e : (if h : (v :: u :: vs).toArray.size = 1 then (v :: u :: vs).toArray[0] else Value.tuple (v :: u :: vs).toArray) = .tuple (v :: u :: vs).toArray:=by
   rw [dif_neg (by simp)]
  rw [e]
  exact .tup _ _ (by simpa using h3) (fun j x v hx hv=>h4 j x v hx (by simpa using hv))
theorem marks_ok (hC : C.OK) {k0 : Nat} {fn : Func} {tmps : Array Value} {n : Nat} {R : Ending → World → Prop} {fr : List (Nat × V)} : ∀ (df : List Nat) (ds : List Deferred) (g : Gh) (w : World) (L : List Blk),ds.length = df.length →
  (∀ (i b : Nat) (d : Deferred),df[i]? = some b → ds[i]? = some d → ∃ q,g.m b = some q ∧ d = { target:=.collected q,args:=#[] } ∧ L[b]? = some .defr) → df.Nodup → (∀ b ∈ df,k0 ≤ b) →
  (∀ i,RV g w L (look fr i) (tmps.getD i undef)) → Good g w L → k0 ≤ L.length →
  (∀ (b : Nat) (l : LoopR),L[b]? = some (Blk.loop l) → l.df ∉ df) →
  (∀ g' w',(∀ i,RV g' w' (killAll df L) (look fr i) (tmps.getD i undef)) → Good g' w' (killAll df L) → Prog k0 g w L g' w' (killAll df L) → ∃ v,(results fn tmps).run C.P w' = .ok v w' ∧ R (.returned v) w') →
  LeavesInM Fence.wide n C.P fn tmps R ds .returning w
 | [],[],g,w,L,_,_,_,_,hfr,hg,_,_,hfin=>by
  have:=hfin g w hfr hg (Prog.refl _ _ _ _)
  simpa [LeavesInM,LeavesIn,killAll] using this
 | [],d :: ds,_,_,_,h,_,_,_,_,_,_,_,_=>by simp at h
 | b :: df,[],_,_,_,h,_,_,_,_,_,_,_,_=>by simp at h
 | b :: df,d :: ds,g,w,L,hlen,hds,hnd,hk,hfr,hg,hkl,hlp,hfin=>by
  obtain ⟨q,h1,h2,h3⟩:=hds 0 b d rfl rfl
  subst h2
  obtain ⟨q',h4,h5⟩:=hg.blk b _ h3
  rw [h1] at h4; cases h4
  rw [List.nodup_cons] at hnd
  refine ⟨by simp,.inl ⟨q,_,rfl,run_takeDeferred h5,?_⟩⟩
  have hbl:=lt_of_get h3
  have hkb:=hk b (by simp)
  -- the block for deferred calls is shut
  have hdead : (L.set b .dead)[b]? = some .dead:=List.getElem?_set_self hbl
  have hother : ∀ b',b' ≠ b → (L.set b .dead)[b']? = L[b']?:=fun b' e=>List.getElem?_set_ne (Ne.symm e)
  have hown : owned g L q:=⟨b,⟨_,h3,by simp⟩,h1⟩
  have hcell : ∀ (a : Addr) (v : Value),g.I a.block → w.cell? a = some v → (w.putObj q (.deferred none)).cell? a = some v:=fun a v hI hc=>by
   rw [World.cell?_of_block (w:=w)]
   ·exact hc
   ·exact World.putObj_heap_other (fun e=>hg.dis q hown (e ▸ hI))
  have hkeep : ∀ b',Keep g L g (L.set b .dead) b':=fun b'=>by
   by_cases e : b' = b
   ·subst e
    exact ⟨fun cs' e=>(by rw [h3] at e; cases e),fun gen1 sz1 els1 e=>(by rw [h3] at e; cases e),fun es e=>(by rw [h3] at e; cases e),fun l e=>(by rw [h3] at e; cases e),fun e=>(by rw [h3] at e; cases e)⟩
   ·exact Keep.same (hother b' e) rfl rfl
  have hmono : ∀ (x : V) (v : Value),RV g w L x v → RV g (w.putObj q (.deferred none)) (L.set b .dead) x v:=fun x v hx =>
   RV.mono (g:=g) (g':=g) (fun _ h=>h) hcell (fun b' _=>hkeep b') hx.bel hx
  have hlive : ∀ b',live (L.set b .dead) b' → b' ≠ b ∧ live L b':=by
   rintro b' ⟨k,hk,hd⟩
   have : b' ≠ b:=fun e=>by rw [e,hdead] at hk; cases hk; exact hd rfl
   exact ⟨this,k,by rw [← hother b' this]; exact hk,hd⟩
  have hg' : Good g (w.putObj q (.deferred none)) (L.set b .dead):=by
   refine ⟨fun b1 b2 r l1 l2=>hg.inj b1 b2 r (hlive b1 l1).2 (hlive b2 l2).2,?_,fun r hr=>by simpa using hg.lt r hr,?_,hg.gl.mono (fun _ h=>h) hcell⟩
   ·rintro r ⟨b1,l1,hm1⟩; exact hg.dis r ⟨b1,(hlive b1 l1).2,hm1⟩
   ·intro b1 k hk1
    by_cases e : b1 = b
    ·subst e; rw [hdead] at hk1; cases hk1; trivial
    ·rw [hother b1 e] at hk1
     by_cases hd : k = .dead
     ·subst hd; trivial
     ·refine RB.mono' hmono rfl rfl (fun r o hm1 ho=>?_) (fun l hl=>?_) (hg.blk b1 k hk1)
      ·rw [World.putObj_heap_other (fun e2=>e (hg.inj b1 b r ⟨k,hk1,hd⟩ ⟨_,h3,by simp⟩ hm1 (by rw [e2]; exact h1)))]; exact ho
      ·subst hl
       have hne : l.df ≠ b:=fun e2=>hlp b1 l hk1 (by rw [e2]; simp)
       exact ⟨rfl,fun h=>by rw [hother _ hne]; exact h⟩
  have hp : Prog k0 g w L g (w.putObj q (.deferred none)) (L.set b .dead):=by
   refine ⟨⟨rfl,rfl,rfl⟩,by simp,fun r o ho hn=>?_,fun r ⟨b1,l1,hm1⟩ _=>⟨b1,(hlive b1 l1).2,hm1⟩,fun r h=>.inl h,fun r h=>h,fun x v _ hx=>hmono x v hx,fun b1 r hb1 hL1 hm1=>⟨?_,hm1⟩,fun _=>by simpa using hkl⟩
   ·rw [World.putObj_heap_other (fun e=>hn (by rw [e]; exact hown))]; exact ho
   ·rw [hother b1 (by omega)]; exact hL1
  refine marks_ok hC df ds g _ (L.set b .dead) (by simpa using hlen) (fun i b' d hb' hd'=>?_) hnd.2 (fun b' hb'=>hk b' (by simp [hb'])) (fun i=>hmono _ _ (hfr i)) hg' (by simpa using hkl) (fun b1 l hl=>?_) (fun g' w' f1 f2 f3=>hfin g' w' f1 f2 (hp.trans f3))
  ·obtain ⟨q2,e1,e2,e3⟩:=hds (i + 1) b' d (by simpa using hb') (by simpa using hd')
   have : b' ≠ b:=fun e=>hnd.1 (by rw [← e]; exact List.mem_of_getElem? hb')
   exact ⟨q2,e1,e2,by rw [hother b' this]; exact e3⟩
  ·by_cases e : b1 = b
   ·subst e; rw [hdead] at hl; cases hl
   ·rw [hother b1 e] at hl
    exact fun hmem=>hlp b1 l hl (by simp [hmem])
theorem marks_pan {k0 : Nat} {fn : Func} {tmps : Array Value} {n : Nat} {R : Ending → World → Prop} {chain : List PanicEntry} {v : Value} {X : V} {g0 : Gh} {w0 : World} {L0 L' : List Blk} {g' : Gh} : ∀ (ds : List Deferred) (w : World),ds.Nodup →
  (∀ d ∈ ds,∃ q,d = { target:=.collected q,args:=#[] } ∧ w.heap[q]? = some (.deferred (some [])) ∧ ¬ g'.I q ∧ ¬ owned g' L' q ∧ w0.heap.size ≤ q) → Good g0 w0 L0 → PanS C k0 g0 w0 L0 v X L' g' w →
  (∀ w',PanS C k0 g0 w0 L0 v X L' g' w' → R (.panicked chain) w') → LeavesInM Fence.wide n C.P fn tmps R ds (.panicking chain) w
 | [],w,_,_,_,hS,hfin=>by simpa [LeavesInM,LeavesIn] using hfin w hS
 | d :: ds,w,hnd,hd,hg0,hS,hfin=>by
  obtain ⟨q,rfl,h1,h2,h3,h4⟩:=hd d (by simp)
  rw [List.nodup_cons] at hnd
  refine ⟨by simp,.inl ⟨q,_,rfl,run_takeDeferred h1,?_⟩⟩
  have hcell : ∀ (a : Addr) (v : Value),g'.I a.block → w.cell? a = some v → (w.putObj q (.deferred none)).cell? a = some v:=fun a v hI hc=>by
   rw [World.cell?_of_block (w:=w)]
   ·exact hc
   ·exact World.putObj_heap_other (fun e=>h2 (e ▸ hI))
  have hmono : ∀ (x : V) (v : Value),RV g' w L' x v → RV g' (w.putObj q (.deferred none)) L' x v:=fun x v hx =>
   RV.mono (g:=g') (g':=g') (fun _ h=>h) hcell (fun b' _=>Keep.refl _ _ _) hx.bel hx
  have hgood : Good g' (w.putObj q (.deferred none)) L':=by
   refine ⟨hS.good.inj,hS.good.dis,fun r hr=>by simpa using hS.good.lt r hr,fun b k hb=>?_,hS.good.gl.mono (fun _ h=>h) hcell⟩
   by_cases hdead : k = .dead
   ·subst hdead; trivial
   ·refine RB.mono' hmono rfl rfl (fun r o hm ho=>?_) (fun l _=>⟨rfl,fun h=>h⟩) (hS.good.blk b k hb)
    rw [World.putObj_heap_other (fun e=>h3 ⟨b,⟨k,hb,hdead⟩,by rw [← e]; exact hm⟩)]; exact ho
  have hprog : Prog C.pn g0 w0 L0 g' (w.putObj q (.deferred none)) L':=by
   refine ⟨hS.prog.env,by simpa using hS.prog.size,fun r o ho hn=>?_,hS.prog.own,hS.prog.imm,hS.prog.immk,fun x v hb hx=>hmono _ _ (hS.prog.mono x v hb hx),hS.prog.defr,hS.prog.len⟩
   have hr:=(Array.getElem?_eq_some_iff.1 ho).1
   rw [World.putObj_heap_other (fun e=>by omega)]
   exact hS.prog.kept r o ho hn
  refine marks_pan ds _ hnd.2 (fun d hd'=>?_) hg0 ⟨hS.pan,hS.hpn,hmono _ _ hS.rv,hgood,hprog,fun b p hb hL hm=>?_⟩ hfin
  ·obtain ⟨p,e1,e2,e3,e4,e5⟩:=hd d (by simp [hd'])
   refine ⟨p,e1,?_,e3,e4,e5⟩
   rw [World.putObj_heap_other (fun e=>hnd.1 (by rw [← e,← e1]; exact hd'))]; exact e2
  ·obtain ⟨e1,e2⟩:=hS.df b p hb hL hm
   refine ⟨?_,e2⟩
   have hp:=hg0.owned_lt ⟨b,⟨_,hL,by simp⟩,hm⟩
   rw [World.putObj_heap_other (fun e=>by omega)]; exact e1
def noLoop (L : List Blk) : Bool:=L.all fun k=>match k with | .loop _=>false | _=>true
def vEnd (C : Ctx) (k0 : Nat) (rs : List ResultVar) (k : V → List Blk → Prop) (e : Exit) (σ : TS) : Prop :=
 match e with
 | .normal | .ret=>match σ.df with
  | []=>vRet C k0 rs σ k
  | _=>bif noLoop σ.L && σ.df.all (fun b=>decide (k0 ≤ b)) && decide σ.df.Nodup then vRet C k0 rs σ k else False
 | _=>False
theorem calls_of_wpV {P : Program} {f : FuncId} {fn : Func} {c : Code} {args : Array Value} {R : Ending → World → Prop} (hf : P.funcs[f]? = some fn) (hb : fn.body = some c)
  (h : wpV none P c (bodyPostM Fence.wide 0 P fn R) { tmps:=args ++ Array.replicate (fn.ntmps - args.size) undef,defers:=[] } w) : Calls P f args w R:=by
 intro cs
 obtain ⟨b,hbd⟩ : ∃ b : Frame,b = { (default : Frame) with fn:=f,kind:=.normal,roundOf:=none }:=⟨_,rfl⟩
 have hbf : b.fn = f:=by rw [hbd]
 have hbk : b.kind = .normal:=by rw [hbd]
 have hbr : b.roundOf = none:=by rw [hbd]
 have henter : Frame.enter P f args .normal = b.atR { tmps:=args ++ Array.replicate (fn.ntmps - args.size) undef,defers:=[] } [.code c]:=by
  rw [hbd]; simp [Frame.enter,Frame.atR,hf,hb]
 obtain ⟨e,a',w',hq,hs⟩:=h b [] cs hbr ⟨fn,by rw [hbf]; exact hf⟩
 rw [← henter] at hs
 have go : ∀ (u : FrameMode) (todo : List Item),StepsIn (Machine.fenced P (Fx none)) P (lone (Frame.enter P f args .normal) cs w) (lone { b.atR a' todo with mode:=u } cs w') → LeavesInM Fence.wide 0 P fn a'.tmps R a'.defers u w' →
   ∃ e w' fr,R e w' ∧ Comes P (lone (Frame.enter P f args .normal) cs w) (lone fr cs w') e ∧ fr.fn = f ∧ fr.leaving P w' e:=by
  intro u todo s hl
  obtain ⟨e2,w2,fr2,hR,hs2,hfn,hlv⟩:=leaves_stepsInM a'.defers u w' { b.atR a' todo with mode:=u } cs rfl rfl rfl (by simpa [Frame.atR,hbf] using hf) (by simpa [Frame.atR] using hbk) trivial (room_wide _) hl
  exact ⟨e2,w2,fr2,hR,Comes.of_steps s.steps hs2.comes,hfn.trans (by simpa [Frame.atR] using hbf),hlv⟩
 cases e with
 | normal=>exact go .returning [] (StepsIn.trans hs (.one (fenced_Fx P _) (stepR_end hbr))) hq
 | ret=>obtain ⟨todo,s⟩:=hs.1 hbr; exact go .returning todo s hq
 | panic ch=>obtain ⟨todo,s⟩:=hs; exact go (.panicking ch) todo s hq
 | exit id=>exact hq.elim
 | goto l=>exact hq.elim
 | outgrown=>exact ⟨.outgrown,w',b,hq,hs.resolve_left (by rw [hbk]; simp),hbf,trivial⟩
theorem callP_cut (cut : Code → Bool) {f : FuncId} {fn : Func} {c : Code} {args : List V} {k : V → List Blk → Prop} (hC : C.OK) (hf : C.P.funcs[f]? = some fn) (hb : fn.body = some c) (hname : (fn.name == "runtime.NumGoroutine") = false) {n : Nat} (hn : fn.ntmps = n) (ha : args.length ≤ n)
  {rs : List ResultVar} (hr : fn.results.toList = rs) (h : vc C cut L.length c ⟨initFr 0 args,n,L,[],none⟩ (vEnd C L.length rs k)) (hpn : C.pn ≤ L.length:=by exact Nat.zero_le _) : CallP C f args L k:=by
 unfold CallP
 refine ⟨⟨fn,hf,by rw [hb]; rfl,hname⟩,fun g w vs hg hv=>?_⟩
 refine calls_of_wpV hf hb ?_
 have hs : St L.length none g ⟨initFr 0 args,n,L,[],none⟩ { tmps:=vs ++ Array.replicate (fn.ntmps - vs.size) undef,defers:=[] } w:=by
  refine ⟨?_,by rw [hn]; exact init_frame hv n,hg,Nat.le_refl _,rfl,fun i b d hb _=>(by simp at hb),fun lb h=>(by cases h),fun _=>rfl⟩
  have:=hv.1
  simp [hn]; omega
 have hwp:=vc_ok (r:=none) hC hpn c _ _ g _ w h hs
 refine wpV_mono hwp ?_
 rintro e a' w' ⟨⟨σ',g',hq,hs',hp⟩ | ⟨v,X,L',g',rfl,hS,hi⟩,hnew,-⟩
 rotate_left
 ·refine marks_pan a'.defers w' (hnew.2 List.nodup_nil) (fun d hd=>?_) hg hS (fun w2 hS2=>.inr ⟨v,X,L',g',rfl,hS2⟩)
  obtain ⟨q,h1,h2,h3,h4⟩:=hi d hd
  refine ⟨q,h1,h2,h3,h4,?_⟩
  rcases hnew.1 d hd with h5 | ⟨q',h5,h6⟩
  ·simp at h5
  ·rw [h1] at h5; cases h5; exact h6
 have fin : (e = .normal ∨ e = .ret) → LeavesInM Fence.wide 0 C.P fn a'.tmps (fun e w'=>(∃ v X L' g',e = .returned v ∧ k X L' ∧ RV g' w' L' X v ∧ Good g' w' L' ∧ Prog L.length g w L g' w' L') ∨ PanO C g w L e w') a'.defers .returning w':=by
  intro he
  have key : vRet C L.length rs σ' k ∧ (σ'.df = [] ∨ noLoop σ'.L = true ∧ σ'.df.all (fun b=>decide (L.length ≤ b)) = true ∧ σ'.df.Nodup):=by
   have hq' : match σ'.df with
    | []=>vRet C L.length rs σ' k
    | _=>bif noLoop σ'.L && σ'.df.all (fun b=>decide (L.length ≤ b)) && decide σ'.df.Nodup then vRet C L.length rs σ' k else False:=by
    rcases he with rfl | rfl <;> exact hq
   cases hd : σ'.df with
   | nil=>rw [hd] at hq'; exact ⟨hq',.inl rfl⟩
   | cons b df =>
    rw [hd] at hq'
    simp only at hq'
    cases hc : (noLoop σ'.L && (b :: df).all (fun b=>decide (L.length ≤ b)) && decide (b :: df).Nodup) with
    | false=>rw [hc] at hq'; exact hq'.elim
    | true =>
     rw [hc] at hq'
     rw [Bool.and_eq_true,Bool.and_eq_true] at hc
     exact ⟨hq',.inr ⟨hc.1.1,hc.1.2,of_decide_eq_true hc.2⟩⟩
  obtain ⟨hret,hdfc⟩:=key
  refine marks_ok hC (k0:=L.length) σ'.df a'.defers g' w' σ'.L hs'.df hs'.dfs ?_ ?_ hs'.fr hs'.good hs'.k ?_ ?_
  ·rcases hdfc with h | h
   ·rw [h]; exact List.nodup_nil
   ·exact h.2.2
  ·rcases hdfc with h | h
   ·rw [h]; simp
   ·intro b hb
    have:=h.2.1
    rw [List.all_eq_true] at this
    exact of_decide_eq_true (this b hb)
  ·rcases hdfc with h | h
   ·intro b l _; rw [h]; simp
   ·intro b l hl
    have:=h.1
    unfold noLoop at this
    rw [List.all_eq_true] at this
    have:=this _ (List.mem_of_getElem? hl)
    simp at this
  ·intro g2 w2 f1 f2 f3
   unfold vRet at hret
   rw [← hr] at hret
   obtain ⟨v,xs,r1,r2,r3⟩:=results_ok hC f1 f2 hret
   unfold FinP at r2
   obtain ⟨X',L',hW,hk⟩:=r2
   have hlen:=(hp.trans f3).len (Nat.le_refl _)
   obtain ⟨g3,t1,t2,t3⟩:=hW g2 w2 v f2 hlen r3
   exact ⟨v,r1,.inl ⟨v,X',L',g3,rfl,hk,t2,t1,(hp.trans f3).trans t3⟩⟩
 cases e with
 | normal=>exact fin (.inl rfl)
 | ret=>exact fin (.inr rfl)
 | exit id=>exact hq.elim
 | goto l=>exact hq.elim
 | panic ch=>exact hq.elim
 | outgrown=>exact hq.elim
theorem callP_of {f : FuncId} {fn : Func} {c : Code} {args : List V} {k : V → List Blk → Prop} (hC : C.OK) (hf : C.P.funcs[f]? = some fn) (hb : fn.body = some c) (hname : (fn.name == "runtime.NumGoroutine") = false) {n : Nat} (hn : fn.ntmps = n) (ha : args.length ≤ n)
  {rs : List ResultVar} (hr : fn.results.toList = rs) (h : vc C (fun _=>false) L.length c ⟨initFr 0 args,n,L,[],none⟩ (vEnd C L.length rs k)) (hpn : C.pn ≤ L.length:=by exact Nat.zero_le _) : CallP C f args L k:=callP_cut _ hC hf hb hname hn ha hr h hpn
end
end Go.Tidy
/-
 The base layer: a call's contract under the empty memory holds under every memory.
-/
namespace Go.Tidy
mutual
def V.sh (n : Nat) : V → V
 | .own b g lo len=>.own (b + n) g lo len
 | .ptr b off=>.ptr (b + n) off
 | .eptr b g i off=>.eptr (b + n) g i off
 | .map b=>.map (b + n)
 | .yld b=>.yld (b + n)
 | .fn f caps=>.fn f (V.shL n caps)
 | .iface t x=>.iface t (V.sh n x)
 | .agg cs=>.agg (V.shL n cs)
 | .tup cs=>.tup (V.shL n cs)
 | .poison=>.poison
 | .tt=>.tt
 | .ff=>.ff
 | .d x=>.d x
 | .nil=>.nil
 | .glob k=>.glob k
 | .clp els=>.clp els
def V.shL (n : Nat) : List V → List V
 | []=>[]
 | x :: r=>V.sh n x :: V.shL n r
end
def shF (n : Nat) : List (Nat × V) → List (Nat × V)
 | []=>[]
 | p :: r=>(p.1,p.2.sh n) :: shF n r
def shM (n : Nat) : List (V × V) → List (V × V)
 | []=>[]
 | p :: r=>(p.1.sh n,p.2.sh n) :: shM n r
def shR (n : Nat) : List (List V) → List (List V)
 | []=>[]
 | p :: r=>V.shL n p :: shR n r
def Blk.sh (n : Nat) : Blk → Blk
 | .cells cs=>.cells (V.shL n cs)
 | .row g sz els=>.row g sz (shR n els)
 | .map es=>.map (shM n es)
 | .loop l=>.loop { l with fr:=shF n l.fr,df:=l.df + n }
 | .defr=>.defr
 | .dead=>.dead
def shB (n : Nat) : List Blk → List Blk
 | []=>[]
 | p :: r=>p.sh n :: shB n r
theorem V.shL_get (n : Nat) : ∀ (cs : List V) (j : Nat),(V.shL n cs)[j]? = (cs[j]?).map (V.sh n)
 | [],j=>by simp [V.shL]
 | x :: r,0=>by simp [V.shL]
 | x :: r,j + 1=>by simp [V.shL,V.shL_get n r j]
theorem V.shL_len (n : Nat) : ∀ (cs : List V),(V.shL n cs).length = cs.length
 | []=>rfl
 | x :: r=>by simp [V.shL,V.shL_len n r]
theorem shB_get (n : Nat) : ∀ (cs : List Blk) (j : Nat),(shB n cs)[j]? = (cs[j]?).map (Blk.sh n)
 | [],j=>by simp [shB]
 | x :: r,0=>by simp [shB]
 | x :: r,j + 1=>by simp [shB,shB_get n r j]
theorem shM_get (n : Nat) : ∀ (cs : List (V × V)) (j : Nat),(shM n cs)[j]? = (cs[j]?).map fun p=>(p.1.sh n,p.2.sh n)
 | [],j=>by simp [shM]
 | x :: r,0=>by simp [shM]
 | x :: r,j + 1=>by simp [shM,shM_get n r j]
theorem shM_len (n : Nat) : ∀ (cs : List (V × V)),(shM n cs).length = cs.length
 | []=>rfl
 | x :: r=>by simp [shM,shM_len n r]
theorem shR_get (n : Nat) : ∀ (cs : List (List V)) (j : Nat),(shR n cs)[j]? = (cs[j]?).map (V.shL n)
 | [],j=>by simp [shR]
 | x :: r,0=>by simp [shR]
 | x :: r,j + 1=>by simp [shR,shR_get n r j]
theorem shR_len (n : Nat) : ∀ (cs : List (List V)),(shR n cs).length = cs.length
 | []=>rfl
 | x :: r=>by simp [shR,shR_len n r]
theorem shF_look (n : Nat) : ∀ (fr : List (Nat × V)) (i : Nat),look (shF n fr) i = (look fr i).sh n
 | [],i=>by simp [shF,look,V.sh]
 | p :: r,i=>by
  simp only [shF,look]
  cases Nat.beq p.1 i
  ·simpa using shF_look n r i
  ·rfl
def Gh.join (g : Gh) (n : Nat) (g1 : Gh) : Gh :=
 { I:=g1.I,m:=fun b=>if b < n then g.m b else g1.m (b - n),cap:=fun b=>if b < n then g.cap b else g1.cap (b - n) }
section
variable {C : Ctx} {g g1 : Gh} {w : World} {L L1 : List Blk}
theorem join_m (b : Nat) : (g.join L.length g1).m (b + L.length) = g1.m b:=by
 simp only [Gh.join,Nat.add_sub_cancel,if_neg (Nat.not_lt.2 (Nat.le_add_left L.length b))]
theorem join_cap (b : Nat) : (g.join L.length g1).cap (b + L.length) = g1.cap b:=by
 simp only [Gh.join,Nat.add_sub_cancel,if_neg (Nat.not_lt.2 (Nat.le_add_left L.length b))]
theorem join_get {k : Blk} {b : Nat} (h : L1[b]? = some k) : (L ++ shB L.length L1)[b + L.length]? = some (k.sh L.length):=by
 rw [List.getElem?_append_right (by omega),Nat.add_sub_cancel,shB_get,h]; rfl
theorem RV.sh {x : V} {v : Value} (h : RV g1 w L1 x v) : RV (g.join L.length g1) w (L ++ shB L.length L1) (x.sh L.length) v:=by
 induction h with
 | poison v=>exact .poison v
 | tt=>exact .tt
 | ff=>exact .ff
 | d x v h=>exact .d x v h
 | nil=>exact .nil
 | ptr b off r cs hL hm=>exact .ptr _ off r _ (join_get hL) ((join_m b).trans hm)
 | ptrX b off a hL=>exact .ptrX _ off a (join_get hL)
 | own b gen lo len sz r o c els hL hm ho hcap hlc hle =>
  exact .own _ gen lo len sz r o c _ (join_get hL) ((join_m b).trans hm) ho (by rw [join_cap]; exact hcap) hlc (by rw [shR_len]; exact hle)
 | ownN b gen sz els hL hm=>exact .ownN _ gen sz _ (join_get hL) ((join_m b).trans hm)
 | ownO b gen gen1 sz lo len els a c hL hg0=>exact .ownO _ gen gen1 sz lo len _ _ _ (join_get hL) hg0
 | ownX b gen lo len a c hL=>exact .ownX _ gen lo len a c (join_get hL)
 | eptr b gen i off sz r els hL hm=>exact .eptr _ gen i off sz r _ (join_get hL) ((join_m b).trans hm)
 | eptrO b gen gen1 sz i off els a hL hg0=>exact .eptrO _ gen gen1 sz i off _ _ (join_get hL) hg0
 | eptrX b gen i off a hL=>exact .eptrX _ gen i off a (join_get hL)
 | map b r es hL hm=>exact .map _ r _ (join_get hL) ((join_m b).trans hm)
 | mapX b a hL=>exact .mapX _ a (join_get hL)
 | yld b r l hL hm=>exact .yld _ r _ (join_get hL) ((join_m b).trans hm)
 | yldX b r hL=>exact .yldX _ r (join_get hL)
 | fn f caps vs hlen _ ih =>
  refine .fn f _ vs (by rw [V.shL_len]; exact hlen) fun j x v h1 h2=>?_
  rw [V.shL_get] at h1
  cases e : caps[j]? with
  | none=>rw [e] at h1; cases h1
  | some y=>rw [e] at h1; cases h1; exact ih j y v e h2
 | iface t x v _ ih=>exact .iface t _ v ih
 | agg cs vs hlen hone _ ih =>
  refine .agg _ vs (by rw [V.shL_len]; exact hlen) hone fun j x v h1 h2=>?_
  rw [V.shL_get] at h1
  cases e : cs[j]? with
  | none=>rw [e] at h1; cases h1
  | some y=>rw [e] at h1; cases h1; exact ih j y v e h2
 | tup cs vs hlen _ ih =>
  refine .tup _ vs (by rw [V.shL_len]; exact hlen) fun j x v h1 h2=>?_
  rw [V.shL_get] at h1
  cases e : cs[j]? with
  | none=>rw [e] at h1; cases h1
  | some y=>rw [e] at h1; cases h1; exact ih j y v e h2
 | glob k=>exact .glob k
 | clp els a h=>exact .clp els a h
theorem RB.sh {b : Nat} {k : Blk} (h : RB g1 w L1 b k) : RB (g.join L.length g1) w (L ++ shB L.length L1) (b + L.length) (k.sh L.length):=by
 cases k with
 | cells cs =>
  obtain ⟨r,cur,T,h1,h2,h3,h4,h5⟩:=h
  refine ⟨r,cur,T,(join_m b).trans h1,h2,by rw [V.shL_len]; exact h3,h4,fun i x v hx hv=>?_⟩
  rw [V.shL_get] at hx
  cases e : cs[i]? with
  | none=>rw [e] at hx; cases hx
  | some y=>rw [e] at hx; cases hx; exact (h5 i y v e hv).sh
 | row gen sz els =>
  obtain ⟨h0,h1,hh⟩:=h
  refine ⟨h0,fun e he=>?_,?_⟩
  ·obtain ⟨i,hi⟩:=List.mem_iff_getElem?.1 he
   rw [shR_get] at hi
   cases e1 : els[i]? with
   | none=>rw [e1] at hi; cases hi
   | some y=>rw [e1] at hi; cases hi; rw [V.shL_len]; exact h1 y (List.mem_of_getElem? e1)
  ·rcases hh with ⟨h2,h3⟩ | ⟨r,cur,T,h2,h3,h4,h5,h6,h7⟩
   ·exact .inl ⟨(join_m b).trans h2,by rw [h3]; rfl⟩
   ·refine .inr ⟨r,cur,T,(join_m b).trans h2,h3,by rw [join_cap]; exact h4,by rw [shR_len]; exact h5,h6,fun i j x v hx hv=>?_⟩
    rw [shR_get] at hx
    cases e1 : els[i]? with
    | none=>rw [e1] at hx; cases hx
    | some y =>
     rw [e1] at hx
     simp only [Option.map_some,Option.bind_some] at hx
     rw [V.shL_get] at hx
     cases e2 : y[j]? with
     | none=>rw [e2] at hx; cases hx
     | some z=>rw [e2] at hx; cases hx; exact (h7 i j z v (by rw [e1]; exact e2) hv).sh
 | map es =>
  obtain ⟨r,ents,clock,h1,h2,h3,hst,h4⟩:=h
  refine ⟨r,ents,clock,(join_m b).trans h1,h2,by rw [shM_len]; exact h3,hst,fun i x e hx he=>?_⟩
  rw [shM_get] at hx
  cases e1 : es[i]? with
  | none=>rw [e1] at hx; cases hx
  | some y=>rw [e1] at hx; cases hx; exact ⟨(h4 i y e e1 he).1.sh,(h4 i y e e1 he).2.sh⟩
 | loop l =>
  obtain ⟨r,rec,h1,h2,h3,h4,h5,h6,h7,h8,h9,h10,h11⟩:=h
  exact ⟨r,rec,(join_m b).trans h1,h2,h3,h4,h5,h6,h7,h8,fun i=>by rw [show (LoopR.fr _) = shF L.length l.fr from rfl,shF_look]; exact (h9 i).sh,(join_m _).trans h10,join_get h11.1,h11.2⟩
 | defr =>
  obtain ⟨r,h1,h2⟩:=h
  exact ⟨r,(join_m b).trans h1,h2⟩
 | dead=>trivial
theorem join_live {b : Nat} (h : live (L ++ shB L.length L1) b) : (b < L.length ∧ live L b) ∨ ∃ c,b = c + L.length ∧ live L1 c:=by
 obtain ⟨k,hk,hd⟩:=h
 rcases Nat.lt_or_ge b L.length with hb | hb
 ·rw [List.getElem?_append_left hb] at hk
  exact .inl ⟨hb,k,hk,hd⟩
 ·rw [List.getElem?_append_right hb,shB_get] at hk
  refine .inr ⟨b - L.length,by omega,?_⟩
  cases e : L1[b - L.length]? with
  | none=>rw [e] at hk; cases hk
  | some y =>
   rw [e] at hk; cases hk
   refine ⟨y,e,fun hy=>hd ?_⟩
   subst hy; rfl
theorem join_old {b : Nat} (hb : b < L.length) : (g.join L.length g1).m b = g.m b:=by simp [Gh.join,hb]
theorem frame_ok {w0 : World} (hg : Good g w0 L) (hg1 : Good g1 w L1) (hp : Prog 0 { I:=g.I,m:=fun _=>none,cap:=fun _=>0 } w0 [] g1 w L1) :
  Good (g.join L.length g1) w (L ++ shB L.length L1) ∧ Prog L.length g w0 L (g.join L.length g1) w (L ++ shB L.length L1):=by
 have no : ∀ (g' : Gh) q,¬ owned g' ([] : List Blk) q:=fun g' q ⟨b,⟨k,hk,_⟩,_⟩=>by simp at hk
 have heap : ∀ (q : Nat) (o : Obj),w0.heap[q]? = some o → w.heap[q]? = some o:=fun q o h=>hp.kept q o h (no _ q)
 have new : ∀ q,owned g1 L1 q → w0.heap.size ≤ q:=fun q ho=>Nat.le_of_not_lt fun hl=>no _ q (hp.own q ho hl)
 have cells : ∀ (a : Addr) (v : Value),g.I a.block → w0.cell? a = some v → w.cell? a = some v:=by
  intro a v hI hc
  have hlt:=hg.lt _ hI
  have hh:=heap a.block (w0.heap[a.block]) (Array.getElem?_eq_getElem hlt)
  rw [World.cell?_of_block (w:=w0) (w':=w) (by rw [hh,Array.getElem?_eq_getElem hlt])]
  exact hc
 have mono : ∀ (x : V) (v : Value),RV g w0 L x v → RV (g.join L.length g1) w (L ++ shB L.length L1) x v:=fun x v h =>
  RV.mono (g:=g) (g':=g.join L.length g1) (fun q hq=>hp.immk q hq) cells (fun b hb=>Keep.same (List.getElem?_append_left hb) (join_old hb) (by simp [Gh.join,hb])) h.bel h
 have imm : ∀ q,g1.I q → g.I q ∨ w0.heap.size ≤ q:=fun q hq=>by
  rcases hp.imm q hq with h | h | h
  ·exact .inl h
  ·exact .inr h
  ·exact absurd h (no _ q)
 refine ⟨⟨?_,?_,?_,?_,hg1.gl⟩,?_⟩
 ·intro b b' q h1 h2 hm1 hm2
  rcases join_live h1 with ⟨hb,hl⟩ | ⟨c,rfl,hl⟩ <;> rcases join_live h2 with ⟨hb',hl'⟩ | ⟨c',rfl,hl'⟩
  ·rw [join_old hb] at hm1; rw [join_old hb'] at hm2
   exact hg.inj b b' q hl hl' hm1 hm2
  ·rw [join_old hb] at hm1; rw [join_m] at hm2
   have:=hg.owned_lt ⟨b,hl,hm1⟩
   have:=new q ⟨c',hl',hm2⟩
   omega
  ·rw [join_old hb'] at hm2; rw [join_m] at hm1
   have:=hg.owned_lt ⟨b',hl',hm2⟩
   have:=new q ⟨c,hl,hm1⟩
   omega
  ·rw [join_m] at hm1 hm2
   rw [hg1.inj c c' q hl hl' hm1 hm2]
 ·rintro q ⟨b,hl,hm⟩ hq
  rcases join_live hl with ⟨hb,hl⟩ | ⟨c,rfl,hl'⟩
  ·rw [join_old hb] at hm
   rcases imm q hq with h | h
   ·exact hg.dis q ⟨b,hl,hm⟩ h
   ·have:=hg.owned_lt ⟨b,hl,hm⟩; omega
  ·rw [join_m] at hm
   exact hg1.dis q ⟨c,hl',hm⟩ hq
 ·exact fun q hq=>hg1.lt q hq
 ·intro b k hk
  rcases Nat.lt_or_ge b L.length with hb | hb
  ·rw [List.getElem?_append_left hb] at hk
   refine RB.mono' mono (join_old hb) (by simp [Gh.join,hb]) (fun q o _ ho=>heap q o ho) (fun l hl=>?_) (hg.blk b k hk)
   subst hl
   obtain ⟨_,_,_,_,_,_,_,_,_,_,_,_,hdf,_⟩:=hg.blk b _ hk
   have:=lt_of_get hdf
   exact ⟨join_old this,fun h=>by rw [List.getElem?_append_left this]; exact h⟩
  ·rw [List.getElem?_append_right hb,shB_get] at hk
   cases e : L1[b - L.length]? with
   | none=>rw [e] at hk; cases hk
   | some y =>
    rw [e] at hk; cases hk
    have:=(hg1.blk _ y e).sh (g:=g) (L:=L)
    rwa [Nat.sub_add_cancel hb] at this
 ·refine ⟨hp.env,hp.size,fun q o h _=>heap q o h,?_,fun q hq=>(imm q hq).imp_right .inl,hp.immk,fun x v _ h=>mono x v h,?_,fun _=>by simp⟩
  ·rintro q ⟨b,hl,hm⟩ hlt
   rcases join_live hl with ⟨hb,hl⟩ | ⟨c,rfl,hl'⟩
   ·rw [join_old hb] at hm; exact ⟨b,hl,hm⟩
   ·rw [join_m] at hm
    have:=new q ⟨c,hl',hm⟩; omega
  ·intro b q hb hL hm
   exact ⟨by rw [List.getElem?_append_left hb]; exact hL,by rw [join_old hb]; exact hm⟩
theorem CallP.frame {f : FuncId} {args : List V} {q k : V → List Blk → Prop} (h : CallP C f args [] q) (ha : V.belL 0 args = true)
  (hk : ∀ X L',q X L' → k (X.sh L.length) (L ++ shB L.length L')) : CallP C f args L k:=by
 have no : ∀ (g' : Gh) q,¬ owned g' ([] : List Blk) q:=fun g' q ⟨b,⟨k,hk,_⟩,_⟩=>by simp at hk
 unfold CallP at h ⊢
 refine ⟨h.1,fun g w vs hg hv=>(h.2 { I:=g.I,m:=fun _=>none,cap:=fun _=>0 } w vs ⟨?_,?_,?_,?_,hg.gl⟩ ?_).mono ?_⟩
 ·rintro b b' r ⟨k,hk,_⟩; simp at hk
 ·rintro r ⟨b,⟨k,hk,_⟩,_⟩; simp at hk
 ·exact hg.lt
 ·intro b k hk; simp at hk
 ·refine ⟨hv.1,fun j x v hx hvj=>?_⟩
  exact RV.mono (g:=g) (g':={ I:=g.I,m:=fun _=>none,cap:=fun _=>0 }) (L:=L) (k:=0) (fun r h=>h) (fun a v _ h=>h) (fun b hb=>absurd hb (Nat.not_lt_zero _)) (V.belL_get ha hx) (hv.2 j x v hx hvj)
 ·rintro e w' (⟨v,X,L1,g1,he,hX,hr,hg1,hp⟩ | ⟨v,X,L1,g1,he,hS⟩)
  ·obtain ⟨h1,h2⟩:=frame_ok hg hg1 hp
   exact .inl ⟨v,_,_,_,he,hk X L1 hX,hr.sh,h1,h2⟩
  ·have hn : C.pn = 0:=Nat.le_zero.1 hS.hpn
   have hp:=hS.prog
   rw [hn] at hp
   have imm : ∀ r,g1.I r → g.I r ∨ w.heap.size ≤ r:=fun r hr=>by
    rcases hp.imm r hr with h | h | h
    ·exact .inl h
    ·exact .inr h
    ·exact absurd h (no _ _)
   refine .inr ⟨v,X,L1,g1,he,hS.pan,by omega,hS.rv,hS.good,?_,fun b q hb hL hm=>?_⟩
   ·rw [hn]
    refine ⟨hp.env,hp.size,fun r o ho _=>hp.kept r o ho (no _ _),fun r hr hs=>absurd (hp.own r hr hs) (no _ _),fun r hr=>(imm r hr).imp_right .inl,hp.immk,fun x v hb hx=>hp.mono x v hb ?_,fun b r hb=>absurd hb (Nat.not_lt_zero _),fun _=>Nat.zero_le _⟩
    exact RV.mono (g:=g) (g':={ I:=g.I,m:=fun _=>none,cap:=fun _=>0 }) (L:=L) (k:=0) (fun r h=>h) (fun a v _ h=>h) (fun b hb=>absurd hb (Nat.not_lt_zero _)) hb hx
   ·have hlive : live L b:=⟨_,hL,by simp⟩
    have hlt:=hg.owned_lt ⟨b,hlive,hm⟩
    obtain ⟨q',h1,h2⟩:=hg.blk b _ hL
    rw [hm] at h1; cases h1
    refine ⟨hp.kept q _ h2 (no _ _),fun hI=>?_,fun ho=>no _ _ (hp.own q ho hlt)⟩
    rcases imm q hI with h3 | h3
    ·exact hg.dis q ⟨b,hlive,hm⟩ h3
    ·omega
end
end Go.Tidy
namespace Go.Proofs.YtihibgcojdfndaaGreatDoor
open Go.Tidy
def tab : List (Nat × TI):=[
 (1,⟨1,8,.nilFunc,.func,false⟩),
 (2,⟨1,8,.int .i64 0,.int .i64,false⟩),
 (3,⟨1,8,.int .i64 0,.int .i64,false⟩),
 (4,⟨1,1,.bool false,.bool,false⟩),
 (5,⟨1,1,.int .u8 0,.int .u8,false⟩),
 (9,⟨1,16,.string ⟨#[]⟩,.str,false⟩),
 (12,⟨1,8,.int .u64 0,.int .u64,false⟩),
 (20,⟨1,16,.nilIface,.iface true,false⟩),
 (21,⟨1,4,.int .i32 0,.int .i32,false⟩),
 (22,⟨1,24,.slice none 0 0,.sl 64,false⟩),
 (23,⟨1,24,.slice none 0 0,.sl 3,false⟩),
 (24,⟨1,24,.slice none 0 0,.sl 54,false⟩),
 (25,⟨1,24,.slice none 0 0,.sl 185,false⟩),
 (26,⟨6,88,.agg #[.string ⟨#[]⟩,.int .i64 0,.int .i64 0,.int .i64 0,.slice none 0 0,.slice none 0 0],.struct [(0,9),(1,3),(2,3),(3,3),(4,24),(5,25)],false⟩),
 (27,⟨6,88,.agg #[.string ⟨#[]⟩,.int .i64 0,.int .i64 0,.int .i64 0,.slice none 0 0,.slice none 0 0],.struct [(0,9),(1,3),(2,3),(3,3),(4,24),(5,25)],false⟩),
 (28,⟨1,8,.nilFunc,.func,false⟩),
 (29,⟨1,8,.nilFunc,.func,false⟩),
 (30,⟨1,24,.slice none 0 0,.sl 23,false⟩),
 (31,⟨1,8,.int .i64 0,.int .i64,false⟩),
 (33,⟨1,8,.nilFunc,.func,false⟩),
 (34,⟨1,8,.nilFunc,.func,false⟩),
 (35,⟨1,8,.nilFunc,.func,false⟩),
 (36,⟨1,8,.nilFunc,.func,false⟩),
 (38,⟨1,8,.nilFunc,.func,false⟩),
 (40,⟨1,8,.nilFunc,.func,false⟩),
 (41,⟨4,32,.agg #[.int .i64 0,.int .i64 0,.int .i64 0,.int .i64 0],.struct [(0,3),(1,3),(2,3),(3,3)],true⟩),
 (42,⟨4,32,.agg #[.int .i64 0,.int .i64 0,.int .i64 0,.int .i64 0],.struct [(0,3),(1,3),(2,3),(3,3)],true⟩),
 (44,⟨1,8,.nilFunc,.func,false⟩),
 (45,⟨1,8,.nilFunc,.func,false⟩),
 (47,⟨1,8,.nilFunc,.func,false⟩),
 (48,⟨1,8,.nilFunc,.func,false⟩),
 (49,⟨1,8,.nilFunc,.func,false⟩),
 (50,⟨1,24,.slice none 0 0,.sl 52,false⟩),
 (51,⟨4,48,.agg #[.int .i64 0,.int .i64 0,.int .i64 0,.slice none 0 0],.struct [(0,3),(1,3),(2,3),(3,50)],false⟩),
 (52,⟨4,48,.agg #[.int .i64 0,.int .i64 0,.int .i64 0,.slice none 0 0],.struct [(0,3),(1,3),(2,3),(3,50)],false⟩),
 (53,⟨8,112,.agg #[.int .i64 0,.int .i64 0,.int .i64 0,.int .i64 0,.int .i64 0,.slice none 0 0,.slice none 0 0,.slice none 0 0],.struct [(0,3),(1,3),(2,52),(6,24),(7,24)],false⟩),
 (54,⟨8,112,.agg #[.int .i64 0,.int .i64 0,.int .i64 0,.int .i64 0,.int .i64 0,.slice none 0 0,.slice none 0 0,.slice none 0 0],.struct [(0,3),(1,3),(2,52),(6,24),(7,24)],false⟩),
 (55,⟨1,24,.slice none 0 0,.sl 59,false⟩),
 (57,⟨1,8,.nilFunc,.func,false⟩),
 (58,⟨11,88,.agg #[.int .i64 0,.int .i64 0,.int .i64 0,.int .i64 0,.int .i64 0,.int .i64 0,.int .i64 0,.int .i64 0,.int .i64 0,.int .i64 0,.int .i64 0],.struct [(0,3),(1,3),(2,3),(3,3),(4,3),(5,3),(6,3),(7,3),(8,3),(9,3),(10,3)],true⟩),
 (59,⟨11,88,.agg #[.int .i64 0,.int .i64 0,.int .i64 0,.int .i64 0,.int .i64 0,.int .i64 0,.int .i64 0,.int .i64 0,.int .i64 0,.int .i64 0,.int .i64 0],.struct [(0,3),(1,3),(2,3),(3,3),(4,3),(5,3),(6,3),(7,3),(8,3),(9,3),(10,3)],true⟩),
 (60,⟨1,8,.int .u64 0,.int .u64,false⟩),
 (61,⟨4,32,.agg #[.int .i64 0,.int .i64 0,.int .i64 0,.int .i64 0],.struct [(0,3),(1,3),(2,3),(3,3)],true⟩),
 (62,⟨4,32,.agg #[.int .i64 0,.int .i64 0,.int .i64 0,.int .i64 0],.struct [(0,3),(1,3),(2,3),(3,3)],true⟩),
 (63,⟨13,96,.agg #[.int .i64 0,.int .i64 0,.int .i64 0,.int .i64 0,.int .i64 0,.int .i64 0,.int .i64 0,.int .i64 0,.int .i64 0,.int .i64 0,.int .i64 0,.bool false,.bool false],.struct [(0,62),(4,3),(5,3),(6,3),(7,3),(8,3),(9,3),(10,3),(11,4),(12,4)],true⟩),
 (64,⟨13,96,.agg #[.int .i64 0,.int .i64 0,.int .i64 0,.int .i64 0,.int .i64 0,.int .i64 0,.int .i64 0,.int .i64 0,.int .i64 0,.int .i64 0,.int .i64 0,.bool false,.bool false],.struct [(0,62),(4,3),(5,3),(6,3),(7,3),(8,3),(9,3),(10,3),(11,4),(12,4)],true⟩),
 (65,⟨1,8,.nilFunc,.func,false⟩),
 (66,⟨1,8,.nilFunc,.func,false⟩),
 (67,⟨1,24,.slice none 0 0,.sl 136,false⟩),
 (68,⟨1,24,.agg #[.slice none 0 0],.struct [(0,67)],false⟩),
 (69,⟨1,24,.agg #[.slice none 0 0],.struct [(0,67)],false⟩),
 (71,⟨1,8,.nilFunc,.func,false⟩),
 (73,⟨1,8,.nilFunc,.func,false⟩),
 (74,⟨1,8,.nilFunc,.func,false⟩),
 (75,⟨1,8,.nilFunc,.func,false⟩),
 (76,⟨1,8,.nilFunc,.func,false⟩),
 (77,⟨1,8,.nilFunc,.func,false⟩),
 (78,⟨1,8,.nilFunc,.func,false⟩),
 (79,⟨1,8,.pointer none,.ptr 146,false⟩),
 (81,⟨1,8,.nilFunc,.func,false⟩),
 (82,⟨1,8,.nilFunc,.func,false⟩),
 (83,⟨1,8,.nilFunc,.func,false⟩),
 (84,⟨2,48,.agg #[.slice none 0 0,.slice none 0 0],.struct [(0,30),(1,23)],false⟩),
 (85,⟨2,48,.agg #[.slice none 0 0,.slice none 0 0],.struct [(0,30),(1,23)],false⟩),
 (86,⟨1,8,.nilFunc,.func,false⟩),
 (87,⟨1,8,.nilFunc,.func,false⟩),
 (88,⟨1,8,.nilFunc,.func,false⟩),
 (89,⟨1,8,.pointer none,.ptr 93,false⟩),
 (90,⟨1,8,.nilFunc,.func,false⟩),
 (91,⟨1,8,.map none,.map 99 3,false⟩),
 (92,⟨13,224,.agg #[.slice none 0 0,.slice none 0 0,.string ⟨#[]⟩,.int .i64 0,.int .i64 0,.int .i64 0,.slice none 0 0,.slice none 0 0,.bool false,.slice none 0 0,.slice none 0 0,.slice none 0 0,.map none],.struct [(0,22),(1,23),(2,27),(8,4),(9,23),(10,30),(11,23),(12,91)],false⟩),
 (93,⟨13,224,.agg #[.slice none 0 0,.slice none 0 0,.string ⟨#[]⟩,.int .i64 0,.int .i64 0,.int .i64 0,.slice none 0 0,.slice none 0 0,.bool false,.slice none 0 0,.slice none 0 0,.slice none 0 0,.map none],.struct [(0,22),(1,23),(2,27),(8,4),(9,23),(10,30),(11,23),(12,91)],false⟩),
 (94,⟨1,8,.nilFunc,.func,false⟩),
 (95,⟨1,8,.nilFunc,.func,false⟩),
 (96,⟨1,8,.nilFunc,.func,false⟩),
 (97,⟨1,8,.nilFunc,.func,false⟩),
 (98,⟨1,8,.nilFunc,.func,false⟩),
 (99,⟨2,16,.agg #[.int .i64 0,.int .i64 0],.arr 2 3,false⟩),
 (100,⟨1,8,.nilFunc,.func,false⟩),
 (101,⟨1,8,.nilFunc,.func,false⟩),
 (102,⟨1,8,.nilFunc,.func,false⟩),
 (103,⟨1,8,.nilFunc,.func,false⟩),
 (104,⟨1,8,.nilFunc,.func,false⟩),
 (105,⟨1,8,.nilFunc,.func,false⟩),
 (106,⟨1,8,.nilFunc,.func,false⟩),
 (107,⟨1,8,.nilFunc,.func,false⟩),
 (108,⟨3,24,.agg #[.int .i64 0,.int .i64 0,.int .i64 0],.struct [(0,3),(1,3),(2,3)],true⟩),
 (109,⟨3,24,.agg #[.int .i64 0,.int .i64 0,.int .i64 0],.struct [(0,3),(1,3),(2,3)],true⟩),
 (110,⟨1,8,.nilFunc,.func,false⟩),
 (111,⟨1,8,.map none,.map 3 112,false⟩),
 (112,⟨1,8,.pointer none,.ptr 59,false⟩),
 (113,⟨1,8,.nilFunc,.func,false⟩),
 (114,⟨1,8,.nilFunc,.func,false⟩),
 (115,⟨1,8,.nilFunc,.func,false⟩),
 (116,⟨6,40,.agg #[.int .i64 0,.int .i64 0,.int .i64 0,.int .i64 0,.bool false,.bool false],.struct [(0,3),(1,3),(2,3),(3,3),(4,4),(5,4)],true⟩),
 (117,⟨6,40,.agg #[.int .i64 0,.int .i64 0,.int .i64 0,.int .i64 0,.bool false,.bool false],.struct [(0,3),(1,3),(2,3),(3,3),(4,4),(5,4)],true⟩),
 (119,⟨1,8,.nilFunc,.func,false⟩),
 (120,⟨5,120,.agg #[.slice none 0 0,.slice none 0 0,.slice none 0 0,.slice none 0 0,.slice none 0 0],.arr 5 23,false⟩),
 (121,⟨1,8,.nilFunc,.func,false⟩),
 (122,⟨1,8,.pointer none,.ptr 120,false⟩),
 (124,⟨1,8,.nilFunc,.func,false⟩),
 (125,⟨1,8,.nilFunc,.func,false⟩),
 (126,⟨1,8,.nilFunc,.func,false⟩),
 (127,⟨1,8,.pointer none,.ptr 130,false⟩),
 (128,⟨1,8,.map none,.map 176 3,false⟩),
 (129,⟨2,32,.agg #[.slice none 0 0,.map none],.struct [(0,67),(1,128)],false⟩),
 (130,⟨2,32,.agg #[.slice none 0 0,.map none],.struct [(0,67),(1,128)],false⟩),
 (131,⟨1,8,.pointer none,.ptr 3,false⟩),
 (132,⟨5,40,.agg #[.pointer none,.pointer none,.pointer none,.pointer none,.pointer none],.arr 5 131,false⟩),
 (133,⟨1,8,.nilFunc,.func,false⟩),
 (134,⟨1,8,.nilFunc,.func,false⟩),
 (135,⟨5,56,.agg #[.int .i64 0,.int .i64 0,.int .i64 0,.int .i64 0,.slice none 0 0],.struct [(0,3),(1,3),(2,3),(3,3),(4,23)],false⟩),
 (136,⟨5,56,.agg #[.int .i64 0,.int .i64 0,.int .i64 0,.int .i64 0,.slice none 0 0],.struct [(0,3),(1,3),(2,3),(3,3),(4,23)],false⟩),
 (137,⟨1,8,.nilFunc,.func,false⟩),
 (138,⟨1,8,.nilFunc,.func,false⟩),
 (139,⟨1,8,.nilFunc,.func,false⟩),
 (140,⟨1,8,.nilFunc,.func,false⟩),
 (141,⟨1,8,.map none,.map 3 3,false⟩),
 (142,⟨1,8,.nilFunc,.func,false⟩),
 (143,⟨1,8,.nilFunc,.func,false⟩),
 (144,⟨1,8,.nilFunc,.func,false⟩),
 (145,⟨10,152,.agg #[.slice none 0 0,.slice none 0 0,.map none,.string ⟨#[]⟩,.int .i64 0,.int .i64 0,.int .i64 0,.slice none 0 0,.slice none 0 0,.map none],.struct [(0,22),(1,23),(2,141),(3,27),(9,141)],false⟩),
 (146,⟨10,152,.agg #[.slice none 0 0,.slice none 0 0,.map none,.string ⟨#[]⟩,.int .i64 0,.int .i64 0,.int .i64 0,.slice none 0 0,.slice none 0 0,.map none],.struct [(0,22),(1,23),(2,141),(3,27),(9,141)],false⟩),
 (147,⟨1,8,.map none,.map 3 4,false⟩),
 (148,⟨1,8,.nilFunc,.func,false⟩),
 (149,⟨1,8,.nilFunc,.func,false⟩),
 (150,⟨1,8,.nilFunc,.func,false⟩),
 (151,⟨1,8,.nilFunc,.func,false⟩),
 (152,⟨13,104,.agg #[.nilFunc,.nilFunc,.nilFunc,.nilFunc,.nilFunc,.nilFunc,.nilFunc,.nilFunc,.nilFunc,.nilFunc,.nilFunc,.nilFunc,.nilFunc],.arr 13 151,false⟩),
 (153,⟨1,8,.nilFunc,.func,false⟩),
 (154,⟨1,8,.nilFunc,.func,false⟩),
 (155,⟨1,8,.nilFunc,.func,false⟩),
 (156,⟨1,8,.nilFunc,.func,false⟩),
 (157,⟨1,8,.nilFunc,.func,false⟩),
 (158,⟨1,8,.map none,.map 62 4,false⟩),
 (159,⟨1,8,.nilFunc,.func,false⟩),
 (160,⟨1,8,.nilFunc,.func,false⟩),
 (161,⟨1,8,.nilFunc,.func,false⟩),
 (162,⟨1,8,.nilFunc,.func,false⟩),
 (163,⟨1,24,.slice none 0 0,.sl 206,false⟩),
 (164,⟨1,8,.nilFunc,.func,false⟩),
 (165,⟨2,16,.agg #[.int .i64 0,.int .i64 0],.struct [(0,3),(1,3)],true⟩),
 (166,⟨2,16,.agg #[.int .i64 0,.int .i64 0],.struct [(0,3),(1,3)],true⟩),
 (167,⟨10,80,.agg #[.int .i64 0,.int .i64 0,.int .i64 0,.int .i64 0,.int .i64 0,.int .i64 0,.int .i64 0,.int .i64 0,.int .i64 0,.int .i64 0],.arr 5 166,false⟩),
 (168,⟨1,8,.nilFunc,.func,false⟩),
 (169,⟨1,8,.nilFunc,.func,false⟩),
 (170,⟨1,8,.nilFunc,.func,false⟩),
 (171,⟨1,8,.nilFunc,.func,false⟩),
 (172,⟨1,8,.nilFunc,.func,false⟩),
 (173,⟨1,8,.nilFunc,.func,false⟩),
 (174,⟨1,8,.nilFunc,.func,false⟩),
 (175,⟨5,48,.agg #[.int .i64 0,.int .i64 0,.int .i64 0,.int .i64 0,.string ⟨#[]⟩],.struct [(0,3),(1,3),(2,3),(3,3),(4,9)],true⟩),
 (176,⟨5,48,.agg #[.int .i64 0,.int .i64 0,.int .i64 0,.int .i64 0,.string ⟨#[]⟩],.struct [(0,3),(1,3),(2,3),(3,3),(4,9)],true⟩),
 (177,⟨1,8,.nilFunc,.func,false⟩),
 (179,⟨1,8,.nilFunc,.func,false⟩),
 (180,⟨1,24,.slice none 0 0,.sl 4,false⟩),
 (181,⟨1,8,.nilFunc,.func,false⟩),
 (182,⟨1,8,.nilFunc,.func,false⟩),
 (183,⟨1,8,.nilFunc,.func,false⟩),
 (184,⟨3,32,.agg #[.string ⟨#[]⟩,.int .i64 0,.int .i64 0],.struct [(0,9),(1,3),(2,3)],true⟩),
 (185,⟨3,32,.agg #[.string ⟨#[]⟩,.int .i64 0,.int .i64 0],.struct [(0,9),(1,3),(2,3)],true⟩),
 (186,⟨1,8,.nilFunc,.func,false⟩),
 (187,⟨1,8,.nilFunc,.func,false⟩),
 (188,⟨1,8,.nilFunc,.func,false⟩),
 (189,⟨1,24,.slice none 0 0,.sl 191,false⟩),
 (190,⟨2,16,.agg #[.int .i64 0,.int .i64 0],.struct [(0,3),(1,3)],true⟩),
 (191,⟨2,16,.agg #[.int .i64 0,.int .i64 0],.struct [(0,3),(1,3)],true⟩),
 (192,⟨1,8,.nilFunc,.func,false⟩),
 (193,⟨1,8,.nilFunc,.func,false⟩),
 (194,⟨1,8,.nilFunc,.func,false⟩),
 (195,⟨1,8,.nilFunc,.func,false⟩),
 (196,⟨1,8,.nilFunc,.func,false⟩),
 (197,⟨1,8,.nilFunc,.func,false⟩),
 (198,⟨1,8,.nilFunc,.func,false⟩),
 (199,⟨2,2,.agg #[.bool false,.bool false],.arr 2 4,false⟩),
 (200,⟨1,8,.pointer none,.ptr 202,false⟩),
 (201,⟨2,16,.agg #[.int .i64 0,.int .i64 0],.struct [(0,3),(1,3)],true⟩),
 (202,⟨2,16,.agg #[.int .i64 0,.int .i64 0],.struct [(0,3),(1,3)],true⟩),
 (203,⟨1,8,.nilFunc,.func,false⟩),
 (204,⟨1,8,.nilFunc,.func,false⟩),
 (205,⟨1,16,.nilIface,.iface false,false⟩),
 (206,⟨1,16,.nilIface,.iface false,false⟩),
 (207,⟨1,8,.nilFunc,.func,false⟩),
 (208,⟨8,112,.agg #[.int .i64 0,.int .i64 0,.int .i64 0,.int .i64 0,.int .i64 0,.slice none 0 0,.slice none 0 0,.slice none 0 0],.struct [(0,54)],false⟩),
 (209,⟨8,112,.agg #[.int .i64 0,.int .i64 0,.int .i64 0,.int .i64 0,.int .i64 0,.slice none 0 0,.slice none 0 0,.slice none 0 0],.struct [(0,54)],false⟩),
 (210,⟨1,8,.nilFunc,.func,false⟩),
 (211,⟨1,8,.nilFunc,.func,false⟩),
 (212,⟨1,8,.int .i64 0,.int .i64,false⟩),
 (214,⟨1,8,.nilFunc,.func,false⟩),
 (215,⟨1,8,.nilFunc,.func,false⟩),
 (216,⟨1,8,.nilFunc,.func,false⟩),
 (217,⟨1,8,.nilFunc,.func,false⟩),
 (218,⟨1,8,.nilFunc,.func,false⟩),
 (219,⟨1,4,.int .u32 0,.int .u32,false⟩),
 (220,⟨1,8,.nilFunc,.func,false⟩),
 (221,⟨1,8,.int .u64 0,.int .u64,false⟩),
 (222,⟨1,24,.slice none 0 0,.sl 5,false⟩),
 (223,⟨1,8,.map none,.map 176 4,false⟩),
 (224,⟨1,8,.nilFunc,.func,false⟩),
 (225,⟨1,8,.nilFunc,.func,false⟩),
 (226,⟨1,8,.nilFunc,.func,false⟩),
 (227,⟨1,8,.nilFunc,.func,false⟩),
 (228,⟨1,8,.nilFunc,.func,false⟩),
 (229,⟨1,8,.nilFunc,.func,false⟩),
 (230,⟨1,8,.nilFunc,.func,false⟩),
 (231,⟨1,8,.nilFunc,.func,false⟩),
 (233,⟨1,8,.nilFunc,.func,false⟩),
 (234,⟨1,8,.nilFunc,.func,false⟩),
 (235,⟨1,8,.nilFunc,.func,false⟩),
 (236,⟨4,48,.agg #[.int .i64 0,.int .i64 0,.int .i64 0,.slice none 0 0],.struct [(0,52)],false⟩),
 (237,⟨4,48,.agg #[.int .i64 0,.int .i64 0,.int .i64 0,.slice none 0 0],.struct [(0,52)],false⟩),
 (238,⟨1,8,.nilFunc,.func,false⟩),
 (239,⟨1,8,.nilFunc,.func,false⟩),
 (240,⟨1,8,.int .u64 0,.int .u64,false⟩),
 (241,⟨1,8,.nilFunc,.func,false⟩),
 (242,⟨1,8,.nilFunc,.func,false⟩),
 (243,⟨1,8,.nilFunc,.func,false⟩),
 (244,⟨1,8,.nilFunc,.func,false⟩),
 (245,⟨5,40,.agg #[.int .i64 0,.int .i64 0,.int .i64 0,.int .i64 0,.int .i64 0],.arr 5 3,false⟩),
 (246,⟨1,8,.nilFunc,.func,false⟩),
 (247,⟨1,8,.nilFunc,.func,false⟩),
 (248,⟨1,8,.nilFunc,.func,false⟩),
 (249,⟨1,8,.nilFunc,.func,false⟩),
 (250,⟨1,8,.agg #[.nilFunc],.struct [(0,249)],false⟩),
 (251,⟨1,8,.agg #[.nilFunc],.struct [(0,249)],false⟩),
 (253,⟨1,8,.map none,.map 3 251,false⟩),
 (254,⟨1,8,.nilFunc,.func,false⟩),
 (255,⟨1,8,.nilFunc,.func,false⟩),
 (256,⟨1,8,.nilFunc,.func,false⟩),
 (257,⟨1,8,.nilFunc,.func,false⟩),
 (258,⟨1,8,.nilFunc,.func,false⟩),
 (259,⟨1,8,.nilFunc,.func,false⟩),
 (260,⟨1,8,.pointer none,.ptr 240,false⟩),
 (261,⟨1,8,.nilFunc,.func,false⟩),
 (262,⟨1,8,.nilFunc,.func,false⟩),
 (263,⟨1,8,.nilFunc,.func,false⟩),
 (264,⟨1,8,.nilFunc,.func,false⟩),
 (270,⟨1,8,.nilFunc,.func,false⟩),
 (273,⟨1,8,.nilFunc,.func,false⟩),
 (274,⟨1,8,.pointer none,.ptr 5,false⟩)
]
def tlook : List (Nat × TI) → Nat → Option TI
 | [],_=>none
 | (j,v) :: r,i=>bif Nat.beq j i then some v else tlook r i
noncomputable def C : Ctx:={ P:=Tryz.prog,tt:=tlook tab }
def tabAll (P : Program) : List (Nat × TI) → Prop
 | []=>True
 | p :: r=>TIok P p.1 p.2 ∧ tabAll P r
theorem tabAll.out {P : Program} : ∀ {l : List (Nat × TI)},tabAll P l → ∀ t ti,tlook l t = some ti → TIok P t ti
 | [],_,t,ti,h=>by simp [tlook] at h
 | (j,v) :: r,h,t,ti,ht=>by
  simp only [tlook] at ht
  cases hb : Nat.beq j t with
  | true =>
   rw [hb] at ht
   cases ht
   have:=Nat.eq_of_beq_eq_true hb
   subst this
   exact h.1
  | false=>rw [hb] at ht; exact tabAll.out h.2 t ti ht
theorem mixed : C.P.follows .mixedOrders = true:=by kernel_rfl
theorem tS {P : Program} {t : TypeId} {ti : TI} (u : ∃ u,P.underlying t = some u ∧ kindOK ti.k u) (i : (P.info? t).map (fun i=>(i.size,i.bytes,i.zero)) = some (ti.sz,ti.bytes,some ti.zv):=by kernel_rfl) (o : ti.k.isAgg = false → ti.sz = 1:=by intro h; first | rfl | cases h) (e : ti.eqok = true → P.eqGuardType P.depth t = false ∧ P.stoodInHeld t = false:=by intro h; first | (cases h; done) | exact ⟨by kernel_rfl,by kernel_rfl⟩) : TIok P t ti:=⟨i,u,o,e⟩
theorem C_ok : C.OK:=⟨tabAll.out (P:=Tryz.prog) (l:=tab) ⟨tS ⟨_,Tryz.underlying1,trivial⟩,
 tS ⟨_,Tryz.underlying2,rfl⟩,
 tS ⟨_,Tryz.underlying3,rfl⟩,
 tS ⟨_,Tryz.underlying4,trivial⟩,
 tS ⟨_,Tryz.underlying5,rfl⟩,
 tS ⟨_,Tryz.underlying9,trivial⟩,
 tS ⟨_,Tryz.underlying12,rfl⟩,
 tS ⟨_,Tryz.underlying20,rfl⟩,
 tS ⟨_,Tryz.underlying21,rfl⟩,
 tS ⟨_,Tryz.underlying22,rfl⟩,
 tS ⟨_,Tryz.underlying23,rfl⟩,
 tS ⟨_,Tryz.underlying24,rfl⟩,
 tS ⟨_,Tryz.underlying25,rfl⟩,
 tS ⟨_,Tryz.underlying26,⟨rfl,rfl⟩⟩,
 tS ⟨_,Tryz.underlying27,⟨rfl,rfl⟩⟩,
 tS ⟨_,Tryz.underlying28,trivial⟩,
 tS ⟨_,Tryz.underlying29,trivial⟩,
 tS ⟨_,Tryz.underlying30,rfl⟩,
 tS ⟨_,Tryz.underlying31,rfl⟩,
 tS ⟨_,Tryz.underlying33,trivial⟩,
 tS ⟨_,Tryz.underlying34,trivial⟩,
 tS ⟨_,Tryz.underlying35,trivial⟩,
 tS ⟨_,Tryz.underlying36,trivial⟩,
 tS ⟨_,Tryz.underlying38,trivial⟩,
 tS ⟨_,Tryz.underlying40,trivial⟩,
 tS ⟨_,Tryz.underlying41,⟨rfl,rfl⟩⟩,
 tS ⟨_,Tryz.underlying42,⟨rfl,rfl⟩⟩,
 tS ⟨_,Tryz.underlying44,trivial⟩,
 tS ⟨_,Tryz.underlying45,trivial⟩,
 tS ⟨_,Tryz.underlying47,trivial⟩,
 tS ⟨_,Tryz.underlying48,trivial⟩,
 tS ⟨_,Tryz.underlying49,trivial⟩,
 tS ⟨_,Tryz.underlying50,rfl⟩,
 tS ⟨_,Tryz.underlying51,⟨rfl,rfl⟩⟩,
 tS ⟨_,Tryz.underlying52,⟨rfl,rfl⟩⟩,
 tS ⟨_,Tryz.underlying53,⟨rfl,rfl⟩⟩,
 tS ⟨_,Tryz.underlying54,⟨rfl,rfl⟩⟩,
 tS ⟨_,Tryz.underlying55,rfl⟩,
 tS ⟨_,Tryz.underlying57,trivial⟩,
 tS ⟨_,Tryz.underlying58,⟨rfl,rfl⟩⟩,
 tS ⟨_,Tryz.underlying59,⟨rfl,rfl⟩⟩,
 tS ⟨_,Tryz.underlying60,rfl⟩,
 tS ⟨_,Tryz.underlying61,⟨rfl,rfl⟩⟩,
 tS ⟨_,Tryz.underlying62,⟨rfl,rfl⟩⟩,
 tS ⟨_,Tryz.underlying63,⟨rfl,rfl⟩⟩,
 tS ⟨_,Tryz.underlying64,⟨rfl,rfl⟩⟩,
 tS ⟨_,Tryz.underlying65,trivial⟩,
 tS ⟨_,Tryz.underlying66,trivial⟩,
 tS ⟨_,Tryz.underlying67,rfl⟩,
 tS ⟨_,Tryz.underlying68,⟨rfl,rfl⟩⟩,
 tS ⟨_,Tryz.underlying69,⟨rfl,rfl⟩⟩,
 tS ⟨_,Tryz.underlying71,trivial⟩,
 tS ⟨_,Tryz.underlying73,trivial⟩,
 tS ⟨_,Tryz.underlying74,trivial⟩,
 tS ⟨_,Tryz.underlying75,trivial⟩,
 tS ⟨_,Tryz.underlying76,trivial⟩,
 tS ⟨_,Tryz.underlying77,trivial⟩,
 tS ⟨_,Tryz.underlying78,trivial⟩,
 tS ⟨_,Tryz.underlying79,rfl⟩,
 tS ⟨_,Tryz.underlying81,trivial⟩,
 tS ⟨_,Tryz.underlying82,trivial⟩,
 tS ⟨_,Tryz.underlying83,trivial⟩,
 tS ⟨_,Tryz.underlying84,⟨rfl,rfl⟩⟩,
 tS ⟨_,Tryz.underlying85,⟨rfl,rfl⟩⟩,
 tS ⟨_,Tryz.underlying86,trivial⟩,
 tS ⟨_,Tryz.underlying87,trivial⟩,
 tS ⟨_,Tryz.underlying88,trivial⟩,
 tS ⟨_,Tryz.underlying89,rfl⟩,
 tS ⟨_,Tryz.underlying90,trivial⟩,
 tS ⟨_,Tryz.underlying91,⟨rfl,rfl⟩⟩,
 tS ⟨_,Tryz.underlying92,⟨rfl,rfl⟩⟩,
 tS ⟨_,Tryz.underlying93,⟨rfl,rfl⟩⟩,
 tS ⟨_,Tryz.underlying94,trivial⟩,
 tS ⟨_,Tryz.underlying95,trivial⟩,
 tS ⟨_,Tryz.underlying96,trivial⟩,
 tS ⟨_,Tryz.underlying97,trivial⟩,
 tS ⟨_,Tryz.underlying98,trivial⟩,
 tS ⟨_,Tryz.underlying99,⟨rfl,rfl⟩⟩,
 tS ⟨_,Tryz.underlying100,trivial⟩,
 tS ⟨_,Tryz.underlying101,trivial⟩,
 tS ⟨_,Tryz.underlying102,trivial⟩,
 tS ⟨_,Tryz.underlying103,trivial⟩,
 tS ⟨_,Tryz.underlying104,trivial⟩,
 tS ⟨_,Tryz.underlying105,trivial⟩,
 tS ⟨_,Tryz.underlying106,trivial⟩,
 tS ⟨_,Tryz.underlying107,trivial⟩,
 tS ⟨_,Tryz.underlying108,⟨rfl,rfl⟩⟩,
 tS ⟨_,Tryz.underlying109,⟨rfl,rfl⟩⟩,
 tS ⟨_,Tryz.underlying110,trivial⟩,
 tS ⟨_,Tryz.underlying111,⟨rfl,rfl⟩⟩,
 tS ⟨_,Tryz.underlying112,rfl⟩,
 tS ⟨_,Tryz.underlying113,trivial⟩,
 tS ⟨_,Tryz.underlying114,trivial⟩,
 tS ⟨_,Tryz.underlying115,trivial⟩,
 tS ⟨_,Tryz.underlying116,⟨rfl,rfl⟩⟩,
 tS ⟨_,Tryz.underlying117,⟨rfl,rfl⟩⟩,
 tS ⟨_,Tryz.underlying119,trivial⟩,
 tS ⟨_,Tryz.underlying120,⟨rfl,rfl⟩⟩,
 tS ⟨_,Tryz.underlying121,trivial⟩,
 tS ⟨_,Tryz.underlying122,rfl⟩,
 tS ⟨_,Tryz.underlying124,trivial⟩,
 tS ⟨_,Tryz.underlying125,trivial⟩,
 tS ⟨_,Tryz.underlying126,trivial⟩,
 tS ⟨_,Tryz.underlying127,rfl⟩,
 tS ⟨_,Tryz.underlying128,⟨rfl,rfl⟩⟩,
 tS ⟨_,Tryz.underlying129,⟨rfl,rfl⟩⟩,
 tS ⟨_,Tryz.underlying130,⟨rfl,rfl⟩⟩,
 tS ⟨_,Tryz.underlying131,rfl⟩,
 tS ⟨_,Tryz.underlying132,⟨rfl,rfl⟩⟩,
 tS ⟨_,Tryz.underlying133,trivial⟩,
 tS ⟨_,Tryz.underlying134,trivial⟩,
 tS ⟨_,Tryz.underlying135,⟨rfl,rfl⟩⟩,
 tS ⟨_,Tryz.underlying136,⟨rfl,rfl⟩⟩,
 tS ⟨_,Tryz.underlying137,trivial⟩,
 tS ⟨_,Tryz.underlying138,trivial⟩,
 tS ⟨_,Tryz.underlying139,trivial⟩,
 tS ⟨_,Tryz.underlying140,trivial⟩,
 tS ⟨_,Tryz.underlying141,⟨rfl,rfl⟩⟩,
 tS ⟨_,Tryz.underlying142,trivial⟩,
 tS ⟨_,Tryz.underlying143,trivial⟩,
 tS ⟨_,Tryz.underlying144,trivial⟩,
 tS ⟨_,Tryz.underlying145,⟨rfl,rfl⟩⟩,
 tS ⟨_,Tryz.underlying146,⟨rfl,rfl⟩⟩,
 tS ⟨_,Tryz.underlying147,⟨rfl,rfl⟩⟩,
 tS ⟨_,Tryz.underlying148,trivial⟩,
 tS ⟨_,Tryz.underlying149,trivial⟩,
 tS ⟨_,Tryz.underlying150,trivial⟩,
 tS ⟨_,Tryz.underlying151,trivial⟩,
 tS ⟨_,Tryz.underlying152,⟨rfl,rfl⟩⟩,
 tS ⟨_,Tryz.underlying153,trivial⟩,
 tS ⟨_,Tryz.underlying154,trivial⟩,
 tS ⟨_,Tryz.underlying155,trivial⟩,
 tS ⟨_,Tryz.underlying156,trivial⟩,
 tS ⟨_,Tryz.underlying157,trivial⟩,
 tS ⟨_,Tryz.underlying158,⟨rfl,rfl⟩⟩,
 tS ⟨_,Tryz.underlying159,trivial⟩,
 tS ⟨_,Tryz.underlying160,trivial⟩,
 tS ⟨_,Tryz.underlying161,trivial⟩,
 tS ⟨_,Tryz.underlying162,trivial⟩,
 tS ⟨_,Tryz.underlying163,rfl⟩,
 tS ⟨_,Tryz.underlying164,trivial⟩,
 tS ⟨_,Tryz.underlying165,⟨rfl,rfl⟩⟩,
 tS ⟨_,Tryz.underlying166,⟨rfl,rfl⟩⟩,
 tS ⟨_,Tryz.underlying167,⟨rfl,rfl⟩⟩,
 tS ⟨_,Tryz.underlying168,trivial⟩,
 tS ⟨_,Tryz.underlying169,trivial⟩,
 tS ⟨_,Tryz.underlying170,trivial⟩,
 tS ⟨_,Tryz.underlying171,trivial⟩,
 tS ⟨_,Tryz.underlying172,trivial⟩,
 tS ⟨_,Tryz.underlying173,trivial⟩,
 tS ⟨_,Tryz.underlying174,trivial⟩,
 tS ⟨_,Tryz.underlying175,⟨rfl,rfl⟩⟩,
 tS ⟨_,Tryz.underlying176,⟨rfl,rfl⟩⟩,
 tS ⟨_,Tryz.underlying177,trivial⟩,
 tS ⟨_,Tryz.underlying179,trivial⟩,
 tS ⟨_,Tryz.underlying180,rfl⟩,
 tS ⟨_,Tryz.underlying181,trivial⟩,
 tS ⟨_,Tryz.underlying182,trivial⟩,
 tS ⟨_,Tryz.underlying183,trivial⟩,
 tS ⟨_,Tryz.underlying184,⟨rfl,rfl⟩⟩,
 tS ⟨_,Tryz.underlying185,⟨rfl,rfl⟩⟩,
 tS ⟨_,Tryz.underlying186,trivial⟩,
 tS ⟨_,Tryz.underlying187,trivial⟩,
 tS ⟨_,Tryz.underlying188,trivial⟩,
 tS ⟨_,Tryz.underlying189,rfl⟩,
 tS ⟨_,Tryz.underlying190,⟨rfl,rfl⟩⟩,
 tS ⟨_,Tryz.underlying191,⟨rfl,rfl⟩⟩,
 tS ⟨_,Tryz.underlying192,trivial⟩,
 tS ⟨_,Tryz.underlying193,trivial⟩,
 tS ⟨_,Tryz.underlying194,trivial⟩,
 tS ⟨_,Tryz.underlying195,trivial⟩,
 tS ⟨_,Tryz.underlying196,trivial⟩,
 tS ⟨_,Tryz.underlying197,trivial⟩,
 tS ⟨_,Tryz.underlying198,trivial⟩,
 tS ⟨_,Tryz.underlying199,⟨rfl,rfl⟩⟩,
 tS ⟨_,Tryz.underlying200,rfl⟩,
 tS ⟨_,Tryz.underlying201,⟨rfl,rfl⟩⟩,
 tS ⟨_,Tryz.underlying202,⟨rfl,rfl⟩⟩,
 tS ⟨_,Tryz.underlying203,trivial⟩,
 tS ⟨_,Tryz.underlying204,trivial⟩,
 tS ⟨_,Tryz.underlying205,rfl⟩,
 tS ⟨_,Tryz.underlying206,rfl⟩,
 tS ⟨_,Tryz.underlying207,trivial⟩,
 tS ⟨_,Tryz.underlying208,⟨rfl,rfl⟩⟩,
 tS ⟨_,Tryz.underlying209,⟨rfl,rfl⟩⟩,
 tS ⟨_,Tryz.underlying210,trivial⟩,
 tS ⟨_,Tryz.underlying211,trivial⟩,
 tS ⟨_,Tryz.underlying212,rfl⟩,
 tS ⟨_,Tryz.underlying214,trivial⟩,
 tS ⟨_,Tryz.underlying215,trivial⟩,
 tS ⟨_,Tryz.underlying216,trivial⟩,
 tS ⟨_,Tryz.underlying217,trivial⟩,
 tS ⟨_,Tryz.underlying218,trivial⟩,
 tS ⟨_,Tryz.underlying219,rfl⟩,
 tS ⟨_,Tryz.underlying220,trivial⟩,
 tS ⟨_,Tryz.underlying221,rfl⟩,
 tS ⟨_,Tryz.underlying222,rfl⟩,
 tS ⟨_,Tryz.underlying223,⟨rfl,rfl⟩⟩,
 tS ⟨_,Tryz.underlying224,trivial⟩,
 tS ⟨_,Tryz.underlying225,trivial⟩,
 tS ⟨_,Tryz.underlying226,trivial⟩,
 tS ⟨_,Tryz.underlying227,trivial⟩,
 tS ⟨_,Tryz.underlying228,trivial⟩,
 tS ⟨_,Tryz.underlying229,trivial⟩,
 tS ⟨_,Tryz.underlying230,trivial⟩,
 tS ⟨_,Tryz.underlying231,trivial⟩,
 tS ⟨_,Tryz.underlying233,trivial⟩,
 tS ⟨_,Tryz.underlying234,trivial⟩,
 tS ⟨_,Tryz.underlying235,trivial⟩,
 tS ⟨_,Tryz.underlying236,⟨rfl,rfl⟩⟩,
 tS ⟨_,Tryz.underlying237,⟨rfl,rfl⟩⟩,
 tS ⟨_,Tryz.underlying238,trivial⟩,
 tS ⟨_,Tryz.underlying239,trivial⟩,
 tS ⟨_,Tryz.underlying240,rfl⟩,
 tS ⟨_,Tryz.underlying241,trivial⟩,
 tS ⟨_,Tryz.underlying242,trivial⟩,
 tS ⟨_,Tryz.underlying243,trivial⟩,
 tS ⟨_,Tryz.underlying244,trivial⟩,
 tS ⟨_,Tryz.underlying245,⟨rfl,rfl⟩⟩,
 tS ⟨_,Tryz.underlying246,trivial⟩,
 tS ⟨_,Tryz.underlying247,trivial⟩,
 tS ⟨_,Tryz.underlying248,trivial⟩,
 tS ⟨_,Tryz.underlying249,trivial⟩,
 tS ⟨_,Tryz.underlying250,⟨rfl,rfl⟩⟩,
 tS ⟨_,Tryz.underlying251,⟨rfl,rfl⟩⟩,
 tS ⟨_,Tryz.underlying253,⟨rfl,rfl⟩⟩,
 tS ⟨_,Tryz.underlying254,trivial⟩,
 tS ⟨_,Tryz.underlying255,trivial⟩,
 tS ⟨_,Tryz.underlying256,trivial⟩,
 tS ⟨_,Tryz.underlying257,trivial⟩,
 tS ⟨_,Tryz.underlying258,trivial⟩,
 tS ⟨_,Tryz.underlying259,trivial⟩,
 tS ⟨_,Tryz.underlying260,rfl⟩,
 tS ⟨_,Tryz.underlying261,trivial⟩,
 tS ⟨_,Tryz.underlying262,trivial⟩,
 tS ⟨_,Tryz.underlying263,trivial⟩,
 tS ⟨_,Tryz.underlying264,trivial⟩,
 tS ⟨_,Tryz.underlying270,trivial⟩,
 tS ⟨_,Tryz.underlying273,trivial⟩,
 tS ⟨_,Tryz.underlying274,rfl⟩,trivial⟩,fun _ fn h=>⟨fn,h⟩,fun _ h=>h⟩
instance : Quiet C:=⟨fun _ _ h=>h⟩
end Go.Proofs.YtihibgcojdfndaaGreatDoor
namespace Go.Tidy
def Det (f : (V → List Blk → Prop) → Prop) : Prop:=∃ (p : Prop) (v : V) (L : List Blk),∀ k,f k ↔ (p ∧ k v L)
theorem Det.no : Det (fun _=>False):=⟨False,.poison,[],fun k=>by simp⟩
theorem Det.ret (v : V) (L : List Blk) : Det (fun k=>k v L):=⟨True,v,L,fun k=>by simp⟩
theorem Det.need {p : Prop} {f : (V → List Blk → Prop) → Prop} (h : Det f) : Det (fun k=>Need p (f k)):=by
 obtain ⟨q,v,L,h⟩:=h
 exact ⟨p ∧ q,v,L,fun k=>⟨fun hn=>⟨⟨hn.out.1,((h k).1 hn.out.2).1⟩,((h k).1 hn.out.2).2⟩,fun hn=>Need.intro hn.1.1 ((h k).2 ⟨hn.1.2,hn.2⟩)⟩⟩
theorem Det.bif {b : Bool} {f : (V → List Blk → Prop) → Prop} (h : Det f) : Det (fun k=>bif b then f k else False):=by
 cases b
 ·exact Det.no
 ·exact h
theorem Det.br {t : Bool} {f : Bool → (V → List Blk → Prop) → Prop} (h : ∀ b,Det (f b)) : Det (fun k=>Br t fun b=>f b k):=by
 obtain ⟨q,v,L,h⟩:=h t
 exact ⟨q,v,L,fun k=>⟨fun hb=>(h k).1 hb.out,fun hb=>Br.lit t rfl ((h k).2 hb)⟩⟩
theorem Det.getE {α : Type} {els : List α} {n : Nat} {f : α → (V → List Blk → Prop) → Prop} (h : ∀ e,Det (f e)) : Det (fun k=>GetE els n fun e=>f e k):=by
 cases e : els[n]? with
 | none=>exact ⟨False,.poison,[],fun k=>by unfold GetE; simp [e]⟩
 | some x =>
  obtain ⟨q,v,L,h⟩:=h x
  refine ⟨q,v,L,fun k=>?_⟩
  unfold GetE
  constructor
  ·rintro ⟨y,hy,hk⟩; rw [e] at hy; cases hy; exact (h k).1 hk
  ·exact fun hk=>⟨x,e,(h k).2 hk⟩
theorem Det.idx {α : Type} {els : List α} {i : Int} {f : Nat → α → (V → List Blk → Prop) → Prop} (h : ∀ n e,Det (f n e)) : Det (fun k=>Idx els i fun n e=>f n e k):=by
 by_cases hh : ∃ n : Nat,i = n ∧ ∃ e,els[n]? = some e
 ·obtain ⟨n,hn,x,e⟩:=hh
  obtain ⟨q,v,L,h⟩:=h n x
  refine ⟨q,v,L,fun k=>?_⟩
  unfold Idx
  constructor
  ·rintro ⟨m,hm,y,hy,hk⟩
   have : m = n:=by omega
   subst this
   rw [e] at hy; cases hy; exact (h k).1 hk
  ·exact fun hk=>⟨n,hn,x,e,(h k).2 hk⟩
 ·refine ⟨False,.poison,[],fun k=>?_⟩
  unfold Idx
  constructor
  ·rintro ⟨m,hm,y,hy,hk⟩; exact absurd ⟨m,hm,y,hy⟩ hh
  ·exact fun h=>h.1.elim
theorem Det.idxN {len : Nat} {i : Int} {f : Nat → (V → List Blk → Prop) → Prop} (h : ∀ n,Det (f n)) : Det (fun k=>IdxN len i fun n=>f n k):=by
 by_cases hh : ∃ n : Nat,i = n ∧ n < len
 ·obtain ⟨n,hn,hl⟩:=hh
  obtain ⟨q,v,L,h⟩:=h n
  refine ⟨q,v,L,fun k=>?_⟩
  unfold IdxN
  constructor
  ·rintro ⟨m,hm,_,hk⟩
   have : m = n:=by omega
   subst this
   exact (h k).1 hk
  ·exact fun hk=>⟨n,hn,hl,(h k).2 hk⟩
 ·refine ⟨False,.poison,[],fun k=>?_⟩
  unfold IdxN
  constructor
  ·rintro ⟨m,hm,hy,hk⟩; exact absurd ⟨m,hm,hy⟩ hh
  ·exact fun h=>h.1.elim
theorem isB_uniq {o : Option V} {d n m : Nat} (h : isB o d n) (h' : isB o d m) : n = m:=by
 unfold isB at h h'
 split at h
 ·simp at h'; omega
 ·rename_i a
  simp at h'; omega
 ·exact h.elim
theorem Det.slice {n : Nat} {lo hi : Option V} {f : Nat → Nat → (V → List Blk → Prop) → Prop} (h : ∀ l m,Det (f l m)) : Det (fun k=>SliceP n lo hi fun l m=>f l m k):=by
 by_cases hh : ∃ l m : Nat,isB lo 0 l ∧ isB hi n m ∧ l ≤ m ∧ m ≤ n
 ·obtain ⟨l,m,h1,h2,h3,h4⟩:=hh
  obtain ⟨q,v,L,h⟩:=h l m
  refine ⟨q,v,L,fun k=>?_⟩
  unfold SliceP
  constructor
  ·rintro ⟨l',m',h1',h2',_,_,hk⟩
   have:=isB_uniq h1 h1'
   have:=isB_uniq h2 h2'
   subst_vars
   exact (h k).1 hk
  ·exact fun hk=>⟨l,m,h1,h2,h3,h4,(h k).2 hk⟩
 ·refine ⟨False,.poison,[],fun k=>?_⟩
  unfold SliceP
  constructor
  ·rintro ⟨l,m,h1,h2,h3,h4,_⟩; exact absurd ⟨l,m,h1,h2,h3,h4⟩ hh
  ·exact fun h=>h.1.elim
theorem vLoad_det (C : Ctx) (t : TypeId) (x : V) (L M : List Blk) : Det (fun k=>vLoad C t x L fun v=>k v M):=by
 unfold vLoad
 repeat' (first | exact Det.no | exact Det.ret _ _ | apply Det.need | apply Det.bif | (apply Det.getE; intro _) | (apply Det.idx; intro _ _) | (apply Det.idxN; intro _) | (apply Det.slice; intro _ _) | (apply Det.br; intro _) | split)
theorem vStore_det (C : Ctx) (t : TypeId) (x y : V) (L : List Blk) : Det (fun k=>vStore C t x y L fun L'=>k .poison L'):=by
 unfold vStore
 repeat' (first | exact Det.no | exact Det.ret _ _ | apply Det.need | apply Det.bif | (apply Det.getE; intro _) | (apply Det.idx; intro _ _) | (apply Det.idxN; intro _) | (apply Det.slice; intro _ _) | (apply Det.br; intro _) | split)
theorem vAlloc_det (C : Ctx) (t : TypeId) (L : List Blk) : Det (fun k=>vAlloc C t L k):=by
 unfold vAlloc
 repeat' (first | exact Det.no | exact Det.ret _ _ | apply Det.need | apply Det.bif | (apply Det.getE; intro _) | (apply Det.idx; intro _ _) | (apply Det.idxN; intro _) | (apply Det.slice; intro _ _) | (apply Det.br; intro _) | split)
theorem vFieldAddr_det (C : Ctx) (s : TypeId) (x : V) (f : Nat) (M : List Blk) : Det (fun k=>vFieldAddr C s x f fun v=>k v M):=by
 unfold vFieldAddr
 repeat' (first | exact Det.no | exact Det.ret _ _ | apply Det.need | apply Det.bif | (apply Det.getE; intro _) | (apply Det.idx; intro _ _) | (apply Det.idxN; intro _) | (apply Det.slice; intro _ _) | (apply Det.br; intro _) | split)
theorem vIndexAddr_det (C : Ctx) (t : TypeId) (x i : V) (L M : List Blk) : Det (fun k=>vIndexAddr C t x i (fun v=>k v M) L):=by
 unfold vIndexAddr
 repeat' (first | exact Det.no | exact Det.ret _ _ | apply Det.need | apply Det.bif | (apply Det.getE; intro _) | (apply Det.idx; intro _ _) | (apply Det.idxN; intro _) | (apply Det.slice; intro _ _) | (apply Det.br; intro _) | split)
theorem vBin_det (C : Ctx) (op : BinOp) (t : TypeId) (x y : V) (M : List Blk) : Det (fun k=>vBin C op t x y fun v=>k v M):=by
 unfold vBin intBin strBin vNilI
 repeat' (first | exact Det.no | exact Det.ret _ _ | apply Det.need | apply Det.bif | (apply Det.getE; intro _) | (apply Det.idx; intro _ _) | (apply Det.idxN; intro _) | (apply Det.slice; intro _ _) | (apply Det.br; intro _) | split)
theorem vUn_det (op : UnOp) (x : V) (M : List Blk) : Det (fun k=>vUn op x fun v=>k v M):=by
 unfold vUn
 repeat' (first | exact Det.no | exact Det.ret _ _ | apply Det.need | apply Det.bif | (apply Det.getE; intro _) | (apply Det.idx; intro _ _) | (apply Det.idxN; intro _) | (apply Det.slice; intro _ _) | (apply Det.br; intro _) | split)
theorem vConv_det (C : Ctx) (s t : TypeId) (x : V) (M : List Blk) : Det (fun k=>vConv C s t x fun v=>k v M):=by
 unfold vConv
 repeat' (first | exact Det.no | exact Det.ret _ _ | split)
theorem Det.bytes {els : List (List V)} {f : ByteArray → (V → List Blk → Prop) → Prop} (h : ∀ s,Det (f s)) : Det (fun k=>BytesP els fun s=>f s k):=by
 by_cases hh : ∃ s : List UInt8,els = bytesV s
 ·obtain ⟨s,rfl⟩:=hh
  obtain ⟨q,v,L,h⟩:=h ⟨s.toArray⟩
  refine ⟨q,v,L,fun k=>?_⟩
  unfold BytesP
  constructor
  ·rintro ⟨s',e,hk⟩
   have : s = s':=bytesV_inj e
   subst this
   exact (h k).1 hk
  ·exact fun hk=>⟨s,rfl,(h k).2 hk⟩
 ·refine ⟨False,.poison,[],fun k=>?_⟩
  unfold BytesP
  constructor
  ·rintro ⟨s,e,_⟩; exact absurd ⟨s,e⟩ hh
  ·exact fun h=>h.1.elim
theorem vConvL_det (C : Ctx) (s t : TypeId) (x : V) (L M : List Blk) : Det (fun k=>vConvL C s t x L fun v=>k v M):=by
 unfold vConvL
 cases isSlT C s with
 | false=>exact vConv_det C s t x M
 | true =>
  unfold vBytes vSrc
  repeat' (first | exact Det.no | exact Det.ret _ _ | apply Det.need | apply Det.bif | (apply Det.bytes; intro _) | split)
theorem vBuild_det (C : Ctx) (t : TypeId) (ps : List (Nat × V)) (M : List Blk) : Det (fun k=>vBuild C t ps fun v=>k v M):=by
 unfold vBuild
 repeat' (first | exact Det.no | exact Det.ret _ _ | apply Det.need | apply Det.bif | (apply Det.getE; intro _) | (apply Det.idx; intro _ _) | (apply Det.idxN; intro _) | (apply Det.slice; intro _ _) | (apply Det.br; intro _) | split)
theorem vBuildSlice_det (C : Ctx) (t : TypeId) (len : Nat) (ps : List (Nat × V)) (L : List Blk) : Det (fun k=>vBuildSlice C t len ps L k):=by
 unfold vBuildSlice
 repeat' (first | exact Det.no | exact Det.ret _ _ | apply Det.need | apply Det.bif | (apply Det.getE; intro _) | (apply Det.idx; intro _ _) | (apply Det.idxN; intro _) | (apply Det.slice; intro _ _) | (apply Det.br; intro _) | split)
theorem vSlice_det (C : Ctx) (t : TypeId) (x : V) (lo hi mx : Option V) (L M : List Blk) : Det (fun k=>vSlice C t x lo hi mx L fun v=>k v M):=by
 unfold vSlice
 repeat' (first | exact Det.no | exact Det.ret _ _ | apply Det.need | apply Det.bif | (apply Det.getE; intro _) | (apply Det.idx; intro _ _) | (apply Det.idxN; intro _) | (apply Det.slice; intro _ _) | (apply Det.br; intro _) | split)
theorem vLenL_det (C : Ctx) (t : TypeId) (x : V) (L M : List Blk) : Det (fun k=>vLenL C t x L fun v=>k v M):=by
 unfold vLenL vLen
 repeat' (first | exact Det.no | exact Det.ret _ _ | apply Det.need | apply Det.bif | (apply Det.getE; intro _) | (apply Det.idx; intro _ _) | (apply Det.idxN; intro _) | (apply Det.slice; intro _ _) | (apply Det.br; intro _) | split)
theorem vAppend_det (C : Ctx) (t : TypeId) (s x : V) (L : List Blk) : Det (fun k=>vAppend C t s x L k):=by
 unfold vAppend vSrc
 repeat' (first | exact Det.no | exact Det.ret _ _ | apply Det.need | apply Det.bif | (apply Det.getE; intro _) | (apply Det.idx; intro _ _) | (apply Det.idxN; intro _) | (apply Det.slice; intro _ _) | (apply Det.br; intro _) | split)
theorem Det.mapF {tk : TK} {es : List (V × V)} {key : V} {f : Option (Nat × V) → (V → List Blk → Prop) → Prop} (h : ∀ r,Det (f r)) : Det (fun k=>MapF tk es key fun r=>f r k):=by
 by_cases h0 : ∀ kv ∈ es,keyV tk kv.1 = true
 ·by_cases hh : ∃ i v,es[i]? = some (key,v) ∧ (∀ (j : Nat) (kv : V × V),j < i → es[j]? = some kv → kv.1 ≠ key)
  ·obtain ⟨i,v,hi,hj⟩:=hh
   obtain ⟨q,x,L,h⟩:=h (some (i,v))
   refine ⟨q,x,L,fun k=>⟨fun hm=>?_,fun hk=>MapF.hit i v h0 hi hj ((h k).2 hk)⟩⟩
   unfold MapF at hm
   rcases hm.2 with ⟨i',v',hi',hj',hk⟩ | ⟨hno,_⟩
   ·have : i = i':=by
     rcases Nat.lt_trichotomy i i' with h | h | h
     ·exact absurd rfl (hj' i _ h hi)
     ·exact h
     ·exact absurd rfl (hj i' _ h hi')
    subst this
    rw [hi] at hi'; cases hi'
    exact (h k).1 hk
   ·exact absurd rfl (hno _ (List.mem_of_getElem? hi))
  ·obtain ⟨q,x,L,h⟩:=h none
   refine ⟨(∀ kv ∈ es,kv.1 ≠ key) ∧ q,x,L,fun k=>⟨fun hm=>?_,fun hk=>MapF.miss h0 hk.1.1 ((h k).2 ⟨hk.1.2,hk.2⟩)⟩⟩
   unfold MapF at hm
   rcases hm.2 with ⟨i',v',hi',hj',_⟩ | ⟨hno,hk⟩
   ·exact absurd ⟨i',v',hi',hj'⟩ hh
   ·exact ⟨⟨hno,((h k).1 hk).1⟩,((h k).1 hk).2⟩
 ·refine ⟨False,.poison,[],fun k=>⟨fun hm=>?_,fun hk=>hk.1.elim⟩⟩
  unfold MapF at hm
  exact absurd hm.1 h0
theorem vLookup_det (C : Ctx) (t : TypeId) (m key : V) (ok : Bool) (L M : List Blk) : Det (fun k=>vLookup C t m key ok L fun v=>k v M):=by
 unfold vLookup
 repeat' (first | exact Det.no | exact Det.ret _ _ | apply Det.need | apply Det.bif | (apply Det.mapF; intro _) | split)
theorem vMapUpdate_det (C : Ctx) (t : TypeId) (m key x : V) (L : List Blk) : Det (fun k=>vMapUpdate C t m key x L fun L'=>k .poison L'):=by
 unfold vMapUpdate
 repeat' (first | exact Det.no | exact Det.ret _ _ | apply Det.need | apply Det.bif | (apply Det.mapF; intro _) | split)
theorem vMapEntry_det (C : Ctx) (t : TypeId) (m key : V) (L : List Blk) : Det (fun k=>vMapEntry C t m key L k):=by
 unfold vMapEntry
 repeat' (first | exact Det.no | exact Det.ret _ _ | apply Det.need | apply Det.bif | (apply Det.mapF; intro _) | split)
theorem vEntryStore_det (m s x : V) (L : List Blk) : Det (fun k=>vEntryStore m s x L fun L'=>k .poison L'):=by
 unfold vEntryStore
 repeat' (first | exact Det.no | exact Det.ret _ _ | (apply Det.idxN; intro _) | (apply Det.getE; intro _) | split)
def isCall : Op → Bool
 | .call c=>match c.callee with | .value _=>true | .invoke ..=>true | _=>false
 | .binOp _ _ _ y _=>isNilSl y
 | .panic _=>true
 | _=>false
theorem vSlice3_det (C : Ctx) (t : TypeId) (x : V) (lo hi : Option V) (m : V) (L : List Blk) : Det (fun k=>vSlice3 C t x lo hi m L k):=by
 unfold vSlice3
 repeat' (first | exact Det.no | exact Det.ret _ _ | apply Det.need | apply Det.bif | split)
theorem vSlice4_det (C : Ctx) (t : TypeId) (x : V) (lo hi : Option V) (m : V) (L : List Blk) : Det (fun k=>vSlice4 C t x lo hi m L k):=by
 unfold vSlice4
 repeat' (first | exact Det.no | exact Det.ret _ _ | apply Det.need | apply Det.bif | (apply Det.slice; intro _ _) | split)
theorem vSliceM_det (C : Ctx) (t : TypeId) (x : V) (lo hi mx : Option V) (c : Bool) (L : List Blk) : Det (fun k=>vSliceM C t x lo hi mx c L k):=by
 cases mx with
 | none=>exact vSlice_det C t x lo hi none L L
 | some m=>cases c with
  | true=>exact vSlice3_det C t x lo hi m L
  | false=>exact vSlice4_det C t x lo hi m L
theorem vClear_det (C : Ctx) (t : TypeId) (s : V) (L : List Blk) : Det (fun k=>vClear C t s L fun L'=>k (.tup []) L'):=by
 unfold vClear
 repeat' (first | exact Det.no | exact Det.ret _ _ | apply Det.need | apply Det.bif | split)
theorem vMin_det (x y : V) (L : List Blk) : Det (fun k=>vMin x y fun v=>k v L):=by
 unfold vMin
 repeat' (first | exact Det.no | exact Det.ret _ _ | apply Det.bif | split)
theorem vMax_det (x y : V) (L : List Blk) : Det (fun k=>vMax x y fun v=>k v L):=by
 unfold vMax
 repeat' (first | exact Det.no | exact Det.ret _ _ | apply Det.bif | split)
theorem vMakeIface_det (C : Ctx) (t : TypeId) (x : V) (L : List Blk) : Det (fun k=>vMakeIface C t x fun v=>k v L):=by
 unfold vMakeIface
 repeat' (first | exact Det.no | exact Det.ret _ _ | apply Det.bif | split)
theorem vTypeAssert_det (C : Ctx) (x : V) (t : TypeId) (ok : Bool) (L : List Blk) : Det (fun k=>vTypeAssert C x t ok fun v=>k v L):=by
 unfold vTypeAssert vHold vFail
 repeat' (first | exact Det.no | exact Det.ret _ _ | apply Det.bif | split)
theorem Det.makeP {n m : Int} {f : Nat → (V → List Blk → Prop) → Prop} (h : ∀ a,Det (f a)) : Det (fun k=>MakeP n m fun a=>f a k):=by
 by_cases hh : ∃ a b : Nat,n = a ∧ m = b ∧ a ≤ b ∧ b ≤ 4294967296
 ·obtain ⟨a,b,h1,h2,h3,h4⟩:=hh
  obtain ⟨q,v,L,h⟩:=h a
  refine ⟨q,v,L,fun k=>?_⟩
  unfold MakeP
  constructor
  ·rintro ⟨a',b',e1,_,_,_,hk⟩
   have : a' = a:=by omega
   subst this
   exact (h k).1 hk
  ·exact fun hk=>⟨a,b,h1,h2,h3,h4,(h k).2 hk⟩
 ·refine ⟨False,.poison,[],fun k=>?_⟩
  unfold MakeP
  constructor
  ·rintro ⟨a,b,e1,e2,e3,e4,_⟩; exact absurd ⟨a,b,e1,e2,e3,e4⟩ hh
  ·exact fun h=>h.1.elim
theorem vMakeSlice_det (C : Ctx) (t : TypeId) (x y : V) (L : List Blk) : Det (fun k=>vMakeSlice C t x y L k):=by
 unfold vMakeSlice
 repeat' (first | exact Det.no | exact Det.ret _ _ | apply Det.bif | (apply Det.makeP; intro _) | split)
theorem vIndex_det (C : Ctx) (t : TypeId) (x i : V) (L : List Blk) : Det (fun k=>vIndex C t x i fun v=>k v L):=by
 unfold vIndex
 repeat' (first | exact Det.no | exact Det.ret _ _ | (apply Det.idxN; intro _) | split)
theorem vOp_det (C : Ctx) (o : Oper) (fr : List (Nat × V)) (L : List Blk) (hc : isCall o.op = false) : Det (fun k=>vOp C o fr L k):=by
 unfold vOp
 cases h : o.op
 case call c =>
  simp only [h,isCall] at hc
  dsimp only []
  cases hcal : c.callee with
  | value f=>simp [hcal] at hc
  | invoke r m=>simp [hcal] at hc
  | builtin b =>
   cases b <;> dsimp only [] <;> repeat' (first | exact Det.no | exact Det.ret _ _ | apply Det.need | apply Det.bif | (apply Det.getE; intro _) | (apply Det.idx; intro _ _) | (apply Det.idxN; intro _) | (apply Det.slice; intro _ _) | (apply Det.br; intro _) | exact vLenL_det _ _ _ _ _ | exact vAppend_det _ _ _ _ _ | exact vClear_det _ _ _ _ | exact vMin_det _ _ _ | exact vMax_det _ _ _ | split)
 case panic x=>rw [h] at hc; cases hc
 case binOp op t x y u =>
  rw [h] at hc
  simp only [isCall] at hc
  dsimp only []
  rw [hc]
  exact vBin_det _ _ _ _ _ _
 case makeFunc fn first caps =>
  cases fn <;> dsimp only []
  all_goals repeat' (first | exact Det.no | exact Det.ret _ _ | apply Det.need | apply Det.bif | (apply Det.getE; intro _) | (apply Det.idx; intro _ _) | (apply Det.idxN; intro _) | (apply Det.slice; intro _ _) | (apply Det.br; intro _) | split)
 case makeMap t r =>
  cases r <;> dsimp only []
  ·exact Det.ret _ _
  ·exact Det.no
 all_goals try dsimp only []
 all_goals repeat' (first | exact Det.no | exact Det.ret _ _ | apply Det.need | apply Det.bif | (apply Det.getE; intro _) | (apply Det.idx; intro _ _) | (apply Det.idxN; intro _) | (apply Det.slice; intro _ _) | (apply Det.br; intro _) | exact vLoad_det _ _ _ _ _ | exact vStore_det _ _ _ _ _ | exact vBox_det _ _ | exact vAlloc_det _ _ _ | exact vFieldAddr_det _ _ _ _ _ | exact vMakeIface_det _ _ _ _ | exact vTypeAssert_det _ _ _ _ _ | exact vIndex_det _ _ _ _ _ | exact vMakeSlice_det _ _ _ _ _ | exact vIndexAddr_det _ _ _ _ _ _ | exact vBin_det _ _ _ _ _ _ | exact vUn_det _ _ _ | exact vConvL_det _ _ _ _ _ _ | exact vBuild_det _ _ _ _ | exact vBuildSlice_det _ _ _ _ _ | exact vSliceM_det _ _ _ _ _ _ _ _ | exact vLookup_det _ _ _ _ _ _ _ | exact vMapUpdate_det _ _ _ _ _ _ | exact vMapEntry_det _ _ _ _ _ | exact vEntryStore_det _ _ _ _ | split)
theorem YieldP.mono {C : Ctx} {b : Nat} {args : List V} {L : List Blk} {k k' : V → List Blk → Prop} (h : YieldP C b args L k) (hk : ∀ X L',k X L' → k' X L') : YieldP C b args L k':=by
 unfold YieldP at h ⊢
 intro g w vs l hg hv hy
 obtain ⟨f,tmps,assign,body,h1,h2⟩:=h g w vs l hg hv hy
 refine ⟨f,tmps,assign,body,h1,RoundIn.mono h2 ?_⟩
 rintro e w' (⟨v,X,L',g',he,hX,hr⟩ | h)
 ·exact .inl ⟨v,X,L',g',he,hk _ _ hX,hr⟩
 ·exact .inr h
theorem vCallV_mono {C : Ctx} {f : V} {args : List V} {L : List Blk} {k k' : V → List Blk → Prop} (h : vCallV C f args L k) (hk : ∀ X L',k X L' → k' X L') : vCallV C f args L k':=by
 unfold vCallV at *
 split at h
 ·exact YieldP.mono h hk
 ·unfold vCallF at *
  split at h
  ·exact CallP.mono h hk
  ·exact CallP.mono h hk
  ·exact h.elim
theorem vNilSl_mono {C : Ctx} {op : BinOp} {t : TypeId} {x : V} {L : List Blk} {k k' : V → Prop} (h : vNilSl C op t x L k) (hk : ∀ v,k v → k' v) : vNilSl C op t x L k':=by
 have q : ∀ {q q' : Bool → Prop},(∀ b,q b → q' b) → vNilQ x L q → vNilQ x L q':=by
  intro q q' hq h
  have n : ∀ {n : Nat},NilP n q → NilP n q':=fun h=>by unfold NilP at h ⊢; exact ⟨fun h0=>hq _ (h.1 h0),hq _ h.2⟩
  unfold vNilQ at h ⊢
  split at h
  ·exact hq _ h
  ·exact n h
  ·split at h
   ·rename_i b gen lo len _ _ gen' _ _ _
    cases hb : Nat.beq gen gen' with
    | false=>simp [hb] at h
    | true=>simp only [hb,cond_true] at h ⊢; exact n h
   ·exact h.elim
  ·exact h.elim
 unfold vNilSl at h ⊢
 split at h
 ·split at h
  ·split at h
   ·exact q (fun b hb=>hk _ hb) h
   ·exact q (fun b hb=>hk _ hb) h
   ·exact h.elim
  ·exact h.elim
 ·exact h.elim
theorem vInvoke_mono {C : Ctx} {x : V} {name : String} {args : List V} {L : List Blk} {k k' : V → List Blk → Prop} (h : vInvoke C x name args L k) (hk : ∀ X L',k X L' → k' X L') : vInvoke C x name args L k':=by
 have m : ∀ {t : TypeId} {y : V},(MethP C t name fun f=>CallP C f (y :: args) L k) → MethP C t name fun f=>CallP C f (y :: args) L k':=fun h=>by
  unfold MethP at h ⊢
  obtain ⟨f,h1,h2⟩:=h
  exact ⟨f,h1,CallP.mono h2 hk⟩
 unfold vInvoke at h ⊢
 split at h
 ·exact m h
 ·exact m h
 ·exact h.elim
theorem vOp_mono {C : Ctx} {o : Oper} {fr : List (Nat × V)} {L : List Blk} {k k' : V → List Blk → Prop} (h : vOp C o fr L k) (hk : ∀ X L',k X L' → k' X L') : vOp C o fr L k':=by
 cases hc : isCall o.op with
 | false =>
  obtain ⟨p,v,M,hd⟩:=vOp_det C o fr L hc
  have:=(hd k).1 h
  exact (hd k').2 ⟨this.1,hk _ _ this.2⟩
 | true =>
  unfold isCall at hc
  split at hc
  ·rename_i c hop
   split at hc
   ·rename_i f hcal
    unfold vOp at h ⊢
    simp only [hop,hcal] at h ⊢
    exact vCallV_mono h hk
   ·rename_i r m hcal
    unfold vOp at h ⊢
    simp only [hop,hcal] at h ⊢
    exact vInvoke_mono h hk
   ·cases hc
  ·rename_i op t x y u hop
   unfold vOp at h ⊢
   simp only [hop,hc] at h ⊢
   exact vNilSl_mono h fun v hv=>hk v L hv
  ·rename_i x hop
   unfold vOp at h ⊢
   simp only [hop] at h ⊢
   exact h
  ·cases hc
section
variable {C : Ctx} {fr fr' : List (Nat × V)} {L : List Blk} {k : V → List Blk → Prop}
theorem ev_congr {x : Operand} (h : ∀ t,x = .tmp t → look fr t = look fr' t) : ev fr x = ev fr' x:=by
 cases x with
 | tmp t=>simp only [ev,h t rfl]
 | _=>rfl
theorem evB_congr {x : Operand} (h : ∀ t,x = .tmp t → look fr t = look fr' t) : evB fr x = evB fr' x:=by
 cases x with
 | tmp t=>simp only [evB,h t rfl]
 | const v =>
  cases v <;> try rfl
  rename_i b
  cases b <;> rfl
 | _=>rfl
theorem vOp_congr {o : Oper} (h : ∀ t,Operand.tmp t ∈ o.op.operands.toList → look fr t = look fr' t) : vOp C o fr L k = vOp C o fr' L k:=by
 have hev : ∀ x,x ∈ o.op.operands.toList → ev fr x = ev fr' x:=fun x hx=>ev_congr fun t ht=>h t (ht ▸ hx)
 have hevB : ∀ x,x ∈ o.op.operands.toList → evB fr x = evB fr' x:=fun x hx=>evB_congr fun t ht=>h t (ht ▸ hx)
 unfold vOp
 cases ho : o.op
 all_goals rw [ho] at hev hevB
 case move x=>simp only [hevB x (by simp [Op.operands])]
 case assign x=>simp only [hevB x (by simp [Op.operands])]
 case pick c a b=>simp only [hevB a (by simp [Op.operands]),hevB b (by simp [Op.operands]),hevB c (by simp [Op.operands])]
 case box t x=>simp only [hev x (by simp [Op.operands])]
 case build t ps =>
  have : ps.toList.map (fun p=>(p.1,ev fr p.2)) = ps.toList.map fun p=>(p.1,ev fr' p.2) :=
   List.map_congr_left fun p hp=>by rw [hev p.2 (by simp only [Op.operands,List.mem_map]; exact ⟨p,hp,rfl⟩)]
  simp only [this]
 case buildSlice t len ps =>
  have : ps.toList.map (fun p=>(p.1,ev fr p.2)) = ps.toList.map fun p=>(p.1,ev fr' p.2) :=
   List.map_congr_left fun p hp=>by rw [hev p.2 (by simp only [Op.operands,List.mem_map]; exact ⟨p,hp,rfl⟩)]
  simp only [this]
 case load t x=>simp only [hev x (by simp [Op.operands])]
 case panic x=>simp only [hev x (by simp [Op.operands])]
 case store t x y=>simp only [hev x (by simp [Op.operands]),hev y (by simp [Op.operands])]
 case nilCheck x=>simp only [hev x (by simp [Op.operands])]
 case binOp op t x y u=>simp only [hev x (by simp [Op.operands]),hev y (by simp [Op.operands])]
 case unOp op t x=>simp only [hevB x (by simp [Op.operands])]
 case convert s t x=>simp only [hev x (by simp [Op.operands])]
 case fieldAddr s x f=>simp only [hev x (by simp [Op.operands])]
 case field s x f=>simp only [hev x (by simp [Op.operands])]
 case indexAddr t x i=>simp only [hev x (by simp [Op.operands]),hev i (by simp [Op.operands])]
 case makeSlice t x y=>simp only [hev x (by simp [Op.operands]),hev y (by simp [Op.operands])]
 case extract x i=>simp only [hev x (by simp [Op.operands])]
 case slice t x lo hi mx =>
  have h1 : lo.map (ev fr) = lo.map (ev fr'):=by cases lo with | none=>rfl | some y=>simp only [Option.map_some,hev y (by simp [Op.operands])]
  have h2 : hi.map (ev fr) = hi.map (ev fr'):=by cases hi with | none=>rfl | some y=>simp only [Option.map_some,hev y (by simp [Op.operands])]
  have h3 : mx.map (ev fr) = mx.map (ev fr'):=by cases mx with | none=>rfl | some y=>simp only [Option.map_some,hev y (by simp [Op.operands])]
  simp only [hev x (by simp [Op.operands]),h1,h2,h3]
 case makeMap t r=>cases r <;> rfl
 case makeInterface t x=>simp only [hev x (by simp [Op.operands])]
 case typeAssert x xt t ok=>simp only [hev x (by simp [Op.operands])]
 case index t x i=>simp only [hev x (by simp [Op.operands]),hev i (by simp [Op.operands])]
 case lookup t x i ok=>simp only [hev x (by simp [Op.operands]),hev i (by simp [Op.operands])]
 case mapUpdate t m x v=>simp only [hev m (by simp [Op.operands]),hev x (by simp [Op.operands]),hev v (by simp [Op.operands])]
 case insert t m x v=>simp only [hev m (by simp [Op.operands]),hev x (by simp [Op.operands]),hev v (by simp [Op.operands])]
 case mapEntry t m x=>simp only [hev m (by simp [Op.operands]),hev x (by simp [Op.operands])]
 case entryStore t m s v=>simp only [hev m (by simp [Op.operands]),hev s (by simp [Op.operands]),hev v (by simp [Op.operands])]
 case makeFunc fn first caps =>
  have : caps.toList.map (ev fr) = caps.toList.map (ev fr'):=List.map_congr_left fun p hp=>hev p (by simp only [Op.operands,Array.toList_append,List.mem_append]; exact .inr hp)
  cases fn <;> simp only [this]
 case call c =>
  obtain ⟨cal,args,tys⟩:=c
  have hm : ∀ x,x ∈ args.toList → ev fr x = ev fr' x:=fun p hp=>hev p (by simp only [Op.operands,Call.operands,Array.toList_append,List.mem_append]; exact .inr hp)
  have ha : args.toList.map (ev fr) = args.toList.map (ev fr'):=List.map_congr_left hm
  cases cal with
  | value f=>simp only [ha,hev f (by simp [Op.operands,Call.operands])]
  | invoke r m=>simp only [ha,hev r (by simp [Op.operands,Call.operands])]
  | builtin b =>
   cases b <;> dsimp only []
   case len =>
    split
    ·rename_i x t h1 h2
     rw [hm x (by rw [h1]; simp)]
    ·rfl
   case append =>
    split
    ·rename_i x y t t' h1 h2
     rw [hm x (by rw [h1]; simp),hm y (by rw [h1]; simp)]
    ·rfl
   case clear =>
    split
    ·rename_i x t h1 h2
     rw [hm x (by rw [h1]; simp)]
    ·rfl
   case min =>
    split
    ·rename_i x y h1
     rw [hm x (by rw [h1]; simp),hm y (by rw [h1]; simp)]
    ·rfl
   case max =>
    split
    ·rename_i x y h1
     rw [hm x (by rw [h1]; simp),hm y (by rw [h1]; simp)]
    ·rfl
def isPure : Op → Bool
 | .move _ | .assign _ | .pick .. | .build .. | .nilCheck _ | .unOp .. | .fieldAddr .. | .field .. | .extract .. | .makeFunc .. | .makeInterface .. | .typeAssert .. | .index ..=>true
 | .binOp _ _ _ y _=>!isNilSl y
 | _=>false
def Pu (f : List Blk → (V → List Blk → Prop) → Prop) : Prop:=∃ (p : Prop) (v : V),∀ L k,f L k ↔ (p ∧ k v L)
theorem Pu.no : Pu (fun _ _=>False):=⟨False,.poison,fun L k=>by simp⟩
theorem Pu.ret (v : V) : Pu (fun L k=>k v L):=⟨True,v,fun L k=>by simp⟩
theorem Pu.need {p : Prop} {f : List Blk → (V → List Blk → Prop) → Prop} (h : Pu f) : Pu (fun L k=>Need p (f L k)):=by
 obtain ⟨q,v,h⟩:=h
 exact ⟨p ∧ q,v,fun L k=>⟨fun hn=>⟨⟨hn.out.1,((h L k).1 hn.out.2).1⟩,((h L k).1 hn.out.2).2⟩,fun hn=>Need.intro hn.1.1 ((h L k).2 ⟨hn.1.2,hn.2⟩)⟩⟩
theorem Pu.bif {b : Bool} {f : List Blk → (V → List Blk → Prop) → Prop} (h : Pu f) : Pu (fun L k=>bif b then f L k else False):=by
 cases b
 ·exact Pu.no
 ·exact h
theorem Pu.br {t : Bool} {f : Bool → List Blk → (V → List Blk → Prop) → Prop} (h : ∀ b,Pu (f b)) : Pu (fun L k=>Br t fun b=>f b L k):=by
 obtain ⟨q,v,h⟩:=h t
 exact ⟨q,v,fun L k=>⟨fun hb=>(h L k).1 hb.out,fun hb=>Br.lit t rfl ((h L k).2 hb)⟩⟩
theorem Pu.idxN {len : Nat} {i : Int} {f : Nat → List Blk → (V → List Blk → Prop) → Prop} (h : ∀ n,Pu (f n)) : Pu (fun L k=>IdxN len i fun n=>f n L k):=by
 by_cases hh : ∃ n : Nat,i = n ∧ n < len
 ·obtain ⟨n,hn,hl⟩:=hh
  obtain ⟨q,v,h⟩:=h n
  refine ⟨q,v,fun L k=>?_⟩
  unfold IdxN
  constructor
  ·rintro ⟨m,hm,_,hk⟩
   have : m = n:=by omega
   subst this
   exact (h L k).1 hk
  ·exact fun hk=>⟨n,hn,hl,(h L k).2 hk⟩
 ·refine ⟨False,.poison,fun L k=>?_⟩
  unfold IdxN
  constructor
  ·rintro ⟨m,hm,hy,hk⟩; exact absurd ⟨m,hm,hy⟩ hh
  ·exact fun h=>h.1.elim
theorem vIndex_pu (C : Ctx) (t : TypeId) (x i : V) : Pu (fun L k=>vIndex C t x i fun v=>k v L):=by
 unfold vIndex
 repeat' (first | exact Pu.no | exact Pu.ret _ | (apply Pu.idxN; intro _) | split)
theorem vFieldAddr_pu (C : Ctx) (s : TypeId) (x : V) (f : Nat) : Pu (fun L k=>vFieldAddr C s x f fun v=>k v L):=by
 unfold vFieldAddr
 repeat' (first | exact Pu.no | exact Pu.ret _ | apply Pu.need | apply Pu.bif | (apply Pu.br; intro _) | split)
theorem vBin_pu (C : Ctx) (op : BinOp) (t : TypeId) (x y : V) : Pu (fun L k=>vBin C op t x y fun v=>k v L):=by
 unfold vBin intBin strBin vNilI
 repeat' (first | exact Pu.no | exact Pu.ret _ | apply Pu.need | apply Pu.bif | (apply Pu.br; intro _) | split)
theorem vUn_pu (op : UnOp) (x : V) : Pu (fun L k=>vUn op x fun v=>k v L):=by
 unfold vUn
 repeat' (first | exact Pu.no | exact Pu.ret _ | apply Pu.need | apply Pu.bif | (apply Pu.br; intro _) | split)
theorem vBuild_pu (C : Ctx) (t : TypeId) (ps : List (Nat × V)) : Pu (fun L k=>vBuild C t ps fun v=>k v L):=by
 unfold vBuild
 repeat' (first | exact Pu.no | exact Pu.ret _ | apply Pu.need | apply Pu.bif | (apply Pu.br; intro _) | split)
theorem vMakeIface_pu (C : Ctx) (t : TypeId) (x : V) : Pu (fun L k=>vMakeIface C t x fun v=>k v L):=by
 unfold vMakeIface
 repeat' (first | exact Pu.no | exact Pu.ret _ | apply Pu.bif | split)
theorem vTypeAssert_pu (C : Ctx) (x : V) (t : TypeId) (ok : Bool) : Pu (fun L k=>vTypeAssert C x t ok fun v=>k v L):=by
 unfold vTypeAssert vHold vFail
 repeat' (first | exact Pu.no | exact Pu.ret _ | apply Pu.bif | split)
theorem vOp_pu (C : Ctx) (o : Oper) (fr : List (Nat × V)) (hc : isPure o.op = true) : Pu (fun L k=>vOp C o fr L k):=by
 unfold vOp
 cases h : o.op
 all_goals first | (rw [h] at hc; cases hc; done) | skip
 case binOp op t x y u =>
  rw [h] at hc
  simp only [isPure,Bool.not_eq_true'] at hc
  dsimp only []
  rw [hc]
  exact vBin_pu _ _ _ _ _
 case makeFunc fn first caps =>
  cases fn <;> dsimp only []
  all_goals repeat' (first | exact Pu.no | exact Pu.ret _ | apply Pu.need | apply Pu.bif | (apply Pu.br; intro _) | split)
 all_goals try dsimp only []
 all_goals repeat' (first | exact Pu.no | exact Pu.ret _ | apply Pu.need | apply Pu.bif | (apply Pu.br; intro _) | exact vFieldAddr_pu _ _ _ _ | exact vBin_pu _ _ _ _ _ | exact vUn_pu _ _ | exact vConv_pu _ _ _ _ | exact vBuild_pu _ _ _ | exact vMakeIface_pu _ _ _ | exact vTypeAssert_pu _ _ _ _ | exact vIndex_pu _ _ _ _ | split)
end
theorem vPut_mono {n : Nat} {dst : Option Tmp} {fr : List (Nat × V)} {v : V} {K K' : List (Nat × V) → Prop} (h : vPut n dst fr v K) (hk : ∀ fr',K fr' → K' fr') : vPut n dst fr v K':=by
 unfold vPut at *
 simp only [V.force_eq] at *
 split at h
 ·exact hk _ h
 ·rename_i d
  cases hb : Nat.blt d n with
  | false=>simp [hb] at h
  | true=>simp only [hb,cond_true] at h ⊢; exact hk _ h
theorem vcOp1_mono {C : Ctx} {n : Nat} {all : List Oper} {o : Oper} {fr : List (Nat × V)} {L : List Blk} {K K' : List (Nat × V) → List Blk → Prop} (h : vcOp1 C n all o fr L K) (hk : ∀ fr' L',K fr' L' → K' fr' L') : vcOp1 C n all o fr L K':=by
 have ex : ∀ fr,(vOp C o fr L fun v L'=>vPut n o.dst fr v fun fr'=>K fr' L') → (vOp C o fr L fun v L'=>vPut n o.dst fr v fun fr'=>K' fr' L'):=fun fr h=>vOp_mono h fun v L' hp=>vPut_mono hp fun fr'=>hk fr' L'
 have sk : ∀ fr,(vPut n o.dst fr (.tup []) fun fr'=>K fr' L) → (vPut n o.dst fr (.tup []) fun fr'=>K' fr' L):=fun fr h=>vPut_mono h fun fr'=>hk fr' L
 unfold vcOp1 at *
 simp only [vOpF_eq] at *
 split at h
 ·exact ex _ h
 ·split at h
  ·exact h.elim
  ·split at h
   ·split at h
    ·exact ex _ h
    ·exact sk _ h
   ·split at h
    ·exact ex _ h
    ·exact sk _ h
   ·rename_i t _
    have h:=h.out
    refine Br.lit t rfl ?_
    split at h
    ·exact ex _ h
    ·exact ex _ h
    ·exact sk _ h
    ·exact sk _ h
   ·exact sk _ h
   ·exact h.elim
end Go.Tidy
/-
 The base layer: regions whose order is drawn.
-/
namespace Go.Tidy
def rdy (ops : List Oper) (done : List Nat) : List Nat :=
 (List.range ops.length).filter fun i=>!done.contains i && match ops[i]? with | some o=>o.after.toList.all fun e=>!Region.binds .any e || done.contains e.on | none=>false
def AllP {α : Type} (p : α → Prop) : List α → Prop
 | []=>True
 | x :: r=>p x ∧ AllP p r
theorem AllP.mem {α : Type} {p : α → Prop} : ∀ {l : List α},AllP p l → ∀ x ∈ l,p x
 | [],_,x,hx=>by simp at hx
 | y :: r,h,x,hx=>by
  rcases List.mem_cons.1 hx with rfl | hx
  ·exact h.1
  ·exact h.2.mem x hx
def vAny (C : Ctx) (n : Nat) (ops : List Oper) : Nat → List Nat → List (Nat × V) → List Blk → (List (Nat × V) → List Blk → Prop) → Prop
 | 0,_done,fr,L,K=>K fr L
 | f + 1,done,fr,L,K =>
  match rdy ops done with
  | []=>K fr L
  | r=>AllP (fun i=>match ops[i]? with | some o=>vcOp1 C n ops o fr L fun fr' L'=>vAny C n ops f (i :: done) fr' L' K | none=>False) r
section
variable {C : Ctx} {n : Nat} {ops : Array Oper} {K : List (Nat × V) → List Blk → Prop}
def Same (ops : Array Oper) (done : List Nat) (listed : Array Bool) : Prop:=listed.size = ops.size ∧ ∀ i,i < ops.size → listed.getD i false = done.contains i
theorem Same.none (ops : Array Oper) : Same ops [] (Array.replicate ops.size false):=⟨by simp,fun i hi=>by simp [Array.getD,hi]⟩
theorem Same.put {done : List Nat} {listed : Array Bool} (h : Same ops done listed) {i : Nat} (_hi : i < ops.size) : Same ops (i :: done) (listed.setIfInBounds i true):=by
 refine ⟨by simp [h.1],fun j hj=>?_⟩
 have hj' : j < listed.size:=by rw [h.1]; exact hj
 simp only [Array.getD_eq_getD_getElem?,List.contains_cons]
 by_cases e : i = j
 ·subst e
  rw [Array.getElem?_setIfInBounds_self_of_lt hj']
  simp
 ·rw [Array.getElem?_setIfInBounds_ne e]
  have:=h.2 j hj
  rw [Array.getD_eq_getD_getElem?] at this
  rw [this]
  simp [Ne.symm e]
theorem getD_of_lt {a : Array Bool} {i : Nat} (h : i < a.size) (x y : Bool) : a.getD i x = a.getD i y:=by simp [Array.getD,h]
theorem Same.ready {done : List Nat} {listed : Array Bool} (h : Same ops done listed) (hedge : ∀ (i : Nat) (o : Oper) (e : Edge),ops[i]? = some o → e ∈ o.after.toList → Region.binds .any e = true → e.on < ops.size) :
  Region.ready .any ops listed = rdy ops.toList done:=by
 unfold Region.ready rdy
 rw [show ops.toList.length = ops.size by simp]
 apply List.filter_congr
 intro i hi
 have hi' : i < ops.size:=by simpa using hi
 rw [getD_of_lt (by rw [h.1]; exact hi') true false,h.2 i hi']
 congr 1
 rw [show ops.toList[i]? = ops[i]? by simp]
 cases ho : ops[i]? with
 | none=>rfl
 | some o =>
  simp only [Option.map_some,Option.getD_some]
  rw [← Array.all_toList]
  rw [Bool.eq_iff_iff,List.all_eq_true,List.all_eq_true]
  refine forall_congr' fun e=>forall_congr' fun he=>?_
  cases hb : Region.binds .any e with
  | false=>simp
  | true=>simp only [Bool.not_true,Bool.false_or]; rw [h.2 _ (hedge i o e ho he hb)]
def edgesB (ops : List Oper) : Bool:=ops.all fun o=>o.after.toList.all fun e=>!Region.binds .any e || Nat.blt e.on ops.length
theorem edgesB.out (h : edgesB ops.toList = true) : ∀ (i : Nat) (o : Oper) (e : Edge),ops[i]? = some o → e ∈ o.after.toList → Region.binds .any e = true → e.on < ops.size:=by
 intro i o e ho he hb
 unfold edgesB at h
 rw [List.all_eq_true] at h
 have:=h o (List.mem_of_getElem? (i:=i) (by simpa using ho))
 rw [List.all_eq_true] at this
 have:=this e he
 simpa [hb,Nat.blt_eq] using this
theorem VLe.refl (x : V) : VLe x x:=fun _ _ _ _ h=>h
theorem any_go (hedge : edgesB ops.toList = true) : ∀ (f t : Nat) (done : List Nat) (listed : Array Bool) (fr : List (Nat × V)) (L : List Blk),Same ops done listed → vAny C n ops.toList f done fr L K →
  vOpsC C n ops.toList ((Region.linearise.go .any ops f t listed []).filterMap fun i=>ops[i]?) fr L K
 | 0,t,done,listed,fr,L,hs,h=>⟨fr,FrLe.refl fr,h⟩
 | f + 1,t,done,listed,fr,L,hs,h=>by
  simp only [Region.linearise.go]
  show vOpsC C n ops.toList ((match (Region.ready .any ops listed)[t % (Region.ready .any ops listed).length]? with
   | some i=>Region.linearise.go .any ops f (t / (Region.ready .any ops listed).length) (listed.setIfInBounds i true) [i]
   | none=>[].reverse).filterMap fun i=>ops[i]?) fr L K
  rw [hs.ready (edgesB.out hedge)]
  cases hi : (rdy ops.toList done)[t % (rdy ops.toList done).length]? with
  | none =>
   have hnil : rdy ops.toList done = []:=by
    cases hr : rdy ops.toList done with
    | nil=>rfl
    | cons x xs =>
     rw [hr] at hi
     have hlt : t % (x :: xs).length < (x :: xs).length:=Nat.mod_lt _ (by simp)
     simp at hi
     simp at hlt
     omega
   simp only [vAny,hnil] at h
   exact ⟨fr,FrLe.refl fr,h⟩
  | some i =>
   have hmem:=List.mem_of_getElem? hi
   have hk : AllP (fun i=>match ops.toList[i]? with | some o=>vcOp1 C n ops.toList o fr L fun fr' L'=>vAny C n ops.toList f (i :: done) fr' L' K | none=>False) (rdy ops.toList done):=by
    simp only [vAny] at h
    cases hr : rdy ops.toList done with
    | nil=>trivial
    | cons x xs=>rw [hr] at h; exact h
   have hk:=hk.mem i hmem
   have hlt : i < ops.size:=by
    simp only [rdy,List.mem_filter,List.mem_range] at hmem
    simpa using hmem.1
   have ho : ops[i]? = some ops[i]:=Array.getElem?_eq_getElem hlt
   rw [show ops.toList[i]? = some ops[i] by simp] at hk
   simp only [] at hk ⊢
   rw [linearise_go_acc,List.reverse_singleton,List.singleton_append,List.filterMap_cons]
   simp only [ho]
   refine ⟨fr,FrLe.refl fr,?_⟩
   refine vcOp1_mono hk fun fr' L' hv=>?_
   exact any_go hedge f _ (i :: done) _ fr' L' (hs.put hlt) hv
end
theorem DrawP.all {C : Ctx} {n : Nat} {ops : Array Oper} {fr : List (Nat × V)} {L : List Blk} {K : List (Nat × V) → List Blk → Prop} (hm : C.P.follows .mixedOrders = true) (hedge : edgesB ops.toList = true)
  (h : vAny C n ops.toList ops.toList.length [] fr L K) : DrawP C n ops fr L K:=by
 unfold DrawP
 intro t
 simp only [Region.schedule,hm,Bool.true_or,if_true,Region.linearise]
 exact any_go hedge _ t [] _ fr L (Same.none ops) (by simpa using h)
end Go.Tidy
/-
 The base layer: drawn regions whose every order comes to the same.
-/
namespace Go.Tidy
def isRead : Op → Bool
 | .load .. | .indexAddr .. | .slice _ _ _ _ none | .lookup .. | .convert ..=>true
 | .call c=>match c.callee with | .builtin .len=>true | _=>false
 | _=>false
theorem rd_of {L : List Blk} {f : (V → Prop) → Prop} (h : Det (fun k=>f fun v=>k v L)) : ∃ (p : Prop) (v : V),∀ k : V → List Blk → Prop,f (fun v=>k v L) ↔ (p ∧ k v L):=by
 obtain ⟨p,v,M,h⟩:=h
 exact ⟨p,v,fun k=>h fun v _=>k v L⟩
theorem vOp_rd (C : Ctx) (o : Oper) (fr : List (Nat × V)) (L : List Blk) (hc : isPure o.op = true ∨ isRead o.op = true) : ∃ (p : Prop) (v : V),∀ k,vOp C o fr L k ↔ (p ∧ k v L):=by
 rcases hc with hc | hc
 ·obtain ⟨p,v,h⟩:=vOp_pu C o fr hc
  exact ⟨p,v,fun k=>h L k⟩
 ·have no : ∃ (p : Prop) (v : V),∀ k : V → List Blk → Prop,False ↔ (p ∧ k v L):=⟨False,.poison,fun k=>by simp⟩
  unfold vOp
  cases h : o.op
  all_goals first | (rw [h] at hc; cases hc; done) | skip
  case load t a=>exact rd_of (vLoad_det C t (ev fr a) L L)
  case indexAddr t x i=>exact rd_of (f:=fun κ=>vIndexAddr C t (ev fr x) (ev fr i) κ L) (vIndexAddr_det C t (ev fr x) (ev fr i) L L)
  case slice t x lo hi mx =>
   cases mx with
   | none=>exact rd_of (vSlice_det C t (ev fr x) (lo.map (ev fr)) (hi.map (ev fr)) none L L)
   | some m=>rw [h] at hc; cases hc
  case lookup t x i ok=>exact rd_of (f:=fun κ=>vLookup C t (ev fr x) (ev fr i) ok L κ) (vLookup_det C t (ev fr x) (ev fr i) ok L L)
  case convert s t x=>exact rd_of (f:=fun κ=>vConvL C s t (ev fr x) L κ) (vConvL_det C s t (ev fr x) L L)
  case call c =>
   obtain ⟨cal,args,tys⟩:=c
   rw [h] at hc
   simp only [isRead] at hc
   cases cal with
   | value f=>cases hc
   | invoke r m=>cases hc
   | builtin b =>
    cases b
    all_goals first | (cases hc; done) | skip
    dsimp only []
    split
    ·exact rd_of (vLenL_det C _ _ L L)
    ·exact no
def isWriter (op : Op) : Bool:=!(isPure op || isRead op || isCall op)
@[irreducible] def QCall (f : (V → List Blk → Prop) → Prop) (L : List Blk) (k : V → List Blk → Prop) : Prop:=∃ v,f (fun x M=>x = v ∧ M = L) ∧ k v L
theorem QCall.intro {f : (V → List Blk → Prop) → Prop} {L : List Blk} {k : V → List Blk → Prop} (v : V) (h : f fun x M=>x = v ∧ M = L) (hk : k v L) : QCall f L k:=by
 unfold QCall; exact ⟨v,h,hk⟩
def qOp (C : Ctx) (o : Oper) (fr : List (Nat × V)) (L : List Blk) (k : V → List Blk → Prop) : Prop :=
 match isCall o.op with
 | true=>QCall (fun k=>vOpF C o fr L k) L k
 | false=>vOpF C o fr L k
theorem qOp_out {C : Ctx} {o : Oper} {fr : List (Nat × V)} {L : List Blk} {k : V → List Blk → Prop} (h : qOp C o fr L k) :
  ∃ v L',vOp C o fr L (fun x M=>x = v ∧ M = L') ∧ k v L' ∧ (isWriter o.op = false → L' = L):=by
 unfold qOp at h
 simp only [vOpF_eq] at h
 cases hc : isCall o.op with
 | true =>
  simp only [hc] at h
  unfold QCall at h
  obtain ⟨v,h1,h2⟩:=h
  exact ⟨v,L,h1,h2,fun _=>rfl⟩
 | false =>
  simp only [hc] at h
  cases hw : isWriter o.op with
  | true =>
   obtain ⟨p,v,M,hd⟩:=vOp_det C o fr L hc
   have:=(hd k).1 h
   exact ⟨v,M,(hd _).2 ⟨this.1,rfl,rfl⟩,this.2,fun h=>by cases h⟩
  | false =>
   have hr : isPure o.op = true ∨ isRead o.op = true:=by
    unfold isWriter at hw
    simp only [hc,Bool.or_false,Bool.not_eq_false'] at hw
    simpa using hw
   obtain ⟨p,v,hd⟩:=vOp_rd C o fr L hr
   have:=(hd k).1 h
   exact ⟨v,L,(hd _).2 ⟨this.1,rfl,rfl⟩,this.2,fun _=>rfl⟩
def qOp1 (C : Ctx) (n : Nat) (all : List Oper) (o : Oper) (fr : List (Nat × V)) (L : List Blk) (K : List (Nat × V) → List Blk → Prop) : Prop :=
 match o.guard with
 | none=>qOp C o fr L fun v L'=>vPut n o.dst fr v fun fr'=>K fr' L'
 | some (j,want) =>
  match dstAt all j with
  | none=>False
  | some d=>match look fr d with
   | .tt=>match want with
    | true=>qOp C o fr L fun v L'=>vPut n o.dst fr v fun fr'=>K fr' L'
    | false=>vPut n o.dst fr (.tup []) fun fr'=>K fr' L
   | .ff=>match want with
    | false=>qOp C o fr L fun v L'=>vPut n o.dst fr v fun fr'=>K fr' L'
    | true=>vPut n o.dst fr (.tup []) fun fr'=>K fr' L
   | .d (.bool t)=>Br t fun b=>match b,want with
    | true,true=>qOp C o ((d,.tt) :: fr) L fun v L'=>vPut n o.dst ((d,.tt) :: fr) v fun fr'=>K fr' L'
    | false,false=>qOp C o ((d,.ff) :: fr) L fun v L'=>vPut n o.dst ((d,.ff) :: fr) v fun fr'=>K fr' L'
    | true,false=>vPut n o.dst ((d,.tt) :: fr) (.tup []) fun fr'=>K fr' L
    | false,true=>vPut n o.dst ((d,.ff) :: fr) (.tup []) fun fr'=>K fr' L
   | .tup []=>vPut n o.dst fr (.tup []) fun fr'=>K fr' L
   | _=>False
def qOps (C : Ctx) (n : Nat) (all : List Oper) : List Oper → List (Nat × V) → List Blk → (List (Nat × V) → List Blk → Prop) → Prop
 | [],fr,L,K=>K fr L
 | o :: rest,fr,L,K=>qOp1 C n all o fr L fun fr' L'=>qOps C n all rest fr' L' K
def VEq (x y : V) : Prop:=VLe x y ∧ VLe y x
theorem VEq.refl (x : V) : VEq x x:=⟨VLe.refl x,VLe.refl x⟩
theorem VEq.symm {x y : V} (h : VEq x y) : VEq y x:=⟨h.2,h.1⟩
theorem VEq.trans {x y z : V} (h : VEq x y) (h' : VEq y z) : VEq x z:=⟨fun g w L v hv=>h'.1 g w L v (h.1 g w L v hv),fun g w L v hv=>h.2 g w L v (h'.2 g w L v hv)⟩
theorem VEq.tt : VEq (.d (.bool true)) .tt:=⟨fun _ _ _ _ h=>by rw [h.bool_of]; exact .tt,fun _ _ _ _ h=>by cases h; exact .d _ _ (.bool _)⟩
theorem VEq.ff : VEq (.d (.bool false)) .ff:=⟨fun _ _ _ _ h=>by rw [h.bool_of]; exact .ff,fun _ _ _ _ h=>by cases h; exact .d _ _ (.bool _)⟩
def Eqv (fr fr' : List (Nat × V)) : Prop:=∀ s,VEq (look fr s) (look fr' s)
theorem Eqv.refl (fr : List (Nat × V)) : Eqv fr fr:=fun _=>VEq.refl _
theorem Eqv.trans {a b c : List (Nat × V)} (h : Eqv a b) (h' : Eqv b c) : Eqv a c:=fun s=>(h s).trans (h' s)
def putF (dst : Option Tmp) (v : V) (fr : List (Nat × V)) : List (Nat × V):=match dst with | some d=>(d,v) :: fr | none=>fr
structure PlO (C : Ctx) (n : Nat) (all : List Oper) (o : Oper) (fr : List (Nat × V)) (L : List Blk) (v : V) (ex : Bool) (L' : List Blk) : Prop where
 run : ex = true → vOp C o fr L fun x M=>x = v ∧ M = L'
 skip : ex = false → v = .tup [] ∧ L' = L
 guard : match o.guard with | none=>ex = true | some (j,want)=>∃ d,dstAt all j = some d ∧ (look fr d = (if ex == want then .tt else .ff) ∨ (look fr d = .tup [] ∧ ex = false))
 dst : ∀ d,o.dst = some d → Nat.blt d n = true
 quiet : isWriter o.op = false → L' = L
theorem vPut_out {n : Nat} {dst : Option Tmp} {fr : List (Nat × V)} {v : V} {K : List (Nat × V) → Prop} (h : vPut n dst fr v K) : K (putF dst v fr) ∧ ∀ d,dst = some d → Nat.blt d n = true:=by
 unfold vPut at h
 simp only [V.force_eq] at h
 cases dst with
 | none=>exact ⟨h,fun d hd=>(by cases hd)⟩
 | some d =>
  simp only at h
  cases hb : Nat.blt d n with
  | false=>simp [hb] at h
  | true=>simp only [hb,cond_true] at h; exact ⟨h,fun d' hd=>by cases hd; exact hb⟩
section
variable {C : Ctx} {n : Nat} {all : List Oper} {o : Oper} {fr : List (Nat × V)} {L : List Blk} {K : List (Nat × V) → List Blk → Prop}
theorem qOp1_out (h : qOp1 C n all o fr L K) : ∃ fr1 v ex L',Eqv fr1 fr ∧ PlO C n all o fr1 L v ex L' ∧ K (putF o.dst v fr1) L':=by
 unfold qOp1 at h
 have exec : ∀ fr1,Eqv fr1 fr → (match o.guard with | none=>True | some (j,want)=>∃ d,dstAt all j = some d ∧ (look fr1 d = (if true == want then .tt else .ff) ∨ (look fr1 d = .tup [] ∧ true = false))) →
   (qOp C o fr1 L fun v L'=>vPut n o.dst fr1 v fun fr'=>K fr' L') → ∃ fr1 v ex L',Eqv fr1 fr ∧ PlO C n all o fr1 L v ex L' ∧ K (putF o.dst v fr1) L':=by
  intro fr1 he hg h
  obtain ⟨v,L',h1,h2,h3⟩:=qOp_out h
  obtain ⟨h4,h5⟩:=vPut_out h2
  refine ⟨fr1,v,true,L',he,⟨fun _=>h1,fun h=>(by cases h),?_,h5,h3⟩,h4⟩
  split
  ·rfl
  ·rename_i hgd; rw [hgd] at hg; exact hg
 have skip : ∀ fr1,Eqv fr1 fr → (∃ j want,o.guard = some (j,want) ∧ ∃ d,dstAt all j = some d ∧ (look fr1 d = (if false == want then .tt else .ff) ∨ (look fr1 d = .tup [] ∧ false = false))) →
   (vPut n o.dst fr1 (.tup []) fun fr'=>K fr' L) → ∃ fr1 v ex L',Eqv fr1 fr ∧ PlO C n all o fr1 L v ex L' ∧ K (putF o.dst v fr1) L':=by
  rintro fr1 he ⟨j,want,hg,hd⟩ h
  obtain ⟨h4,h5⟩:=vPut_out h
  refine ⟨fr1,.tup [],false,L,he,⟨fun h=>(by cases h),fun _=>⟨rfl,rfl⟩,?_,h5,fun _=>rfl⟩,h4⟩
  rw [hg]; exact hd
 cases hgd : o.guard with
 | none =>
  simp only [hgd] at h
  exact exec fr (Eqv.refl _) (by rw [hgd]; trivial) h
 | some jw =>
  obtain ⟨j,want⟩:=jw
  simp only [hgd] at h
  cases hd : dstAt all j with
  | none=>simp [hd] at h
  | some d =>
   simp only [hd] at h
   split at h
   ·rename_i hl
    cases want with
    | true=>exact exec fr (Eqv.refl _) (by rw [hgd]; exact ⟨d,hd,.inl hl⟩) h
    | false=>exact skip fr (Eqv.refl _) ⟨j,false,hgd,d,hd,.inl hl⟩ h
   ·rename_i hl
    cases want with
    | false=>exact exec fr (Eqv.refl _) (by rw [hgd]; exact ⟨d,hd,.inl hl⟩) h
    | true=>exact skip fr (Eqv.refl _) ⟨j,true,hgd,d,hd,.inl hl⟩ h
   ·rename_i t hl
    have h:=h.out
    cases t with
    | true =>
     have he : Eqv ((d,.tt) :: fr) fr:=fun s=>by
      rw [look_cons]
      by_cases e : d = s
      ·subst e; rw [if_pos rfl,hl]; exact VEq.tt.symm
      ·rw [if_neg e]; exact VEq.refl _
     have hl' : look ((d,V.tt) :: fr) d = .tt:=by rw [look_cons,if_pos rfl]
     cases want with
     | true=>exact exec _ he (by rw [hgd]; exact ⟨d,hd,.inl hl'⟩) h
     | false=>exact skip _ he ⟨j,false,hgd,d,hd,.inl hl'⟩ h
    | false =>
     have he : Eqv ((d,.ff) :: fr) fr:=fun s=>by
      rw [look_cons]
      by_cases e : d = s
      ·subst e; rw [if_pos rfl,hl]; exact VEq.ff.symm
      ·rw [if_neg e]; exact VEq.refl _
     have hl' : look ((d,V.ff) :: fr) d = .ff:=by rw [look_cons,if_pos rfl]
     cases want with
     | false=>exact exec _ he (by rw [hgd]; exact ⟨d,hd,.inl hl'⟩) h
     | true=>exact skip _ he ⟨j,true,hgd,d,hd,.inl hl'⟩ h
   ·rename_i hl
    exact skip fr (Eqv.refl _) ⟨j,want,hgd,d,hd,.inr ⟨hl,rfl⟩⟩ h
   ·exact h.elim
theorem qOps_out : ∀ (l : List Oper) (i : Nat) (fr : List (Nat × V)) (L : List Blk),qOps C n all l fr L K → ∃ (F : Nat → List (Nat × V)) (M : Nat → List Blk) (val : Nat → V) (ex : Nat → Bool),
  Eqv (F i) fr ∧ M i = L ∧ (∀ j o,l[j]? = some o → PlO C n all o (F (i + j)) (M (i + j)) (val (i + j)) (ex (i + j)) (M (i + j + 1)) ∧ Eqv (F (i + j + 1)) (putF o.dst (val (i + j)) (F (i + j)))) ∧
  K (F (i + l.length)) (M (i + l.length))
 | [],i,fr,L,h=>⟨fun _=>fr,fun _=>L,fun _=>.poison,fun _=>true,Eqv.refl _,rfl,fun j o ho=>by simp at ho,h⟩
 | o :: l,i,fr,L,h=>by
  obtain ⟨fr1,v,ex,L',h1,h2,h3⟩:=qOp1_out h
  obtain ⟨F,M,val,exs,e1,e2,e3,e4⟩:=qOps_out l (i + 1) _ L' h3
  have up : ∀ {α : Type} (a : α) (f : Nat → α) (j : Nat),(fun k=>if k ≤ i then a else f k) (i + 1 + j) = f (i + 1 + j):=fun a f j=>by
   simp only []; rw [if_neg (by omega)]
  refine ⟨fun k=>if k ≤ i then fr1 else F k,fun k=>if k ≤ i then L else M k,fun k=>if k ≤ i then v else val k,fun k=>if k ≤ i then ex else exs k,?_,?_,?_,?_⟩
  ·simp only [Nat.le_refl,if_true]; exact h1
  ·simp
  ·intro j o' ho'
   cases j with
   | zero =>
    simp at ho'
    subst ho'
    simp only [Nat.add_zero,Nat.le_refl,if_true,show ¬ i + 1 ≤ i by omega,if_false]
    rw [e2]
    exact ⟨h2,e1⟩
   | succ j =>
    have:=e3 j o' (by simpa using ho')
    have a1 : i + (j + 1) = i + 1 + j:=by omega
    rw [a1]
    simp only [show ¬ i + 1 + j ≤ i by omega,show ¬ i + 1 + j + 1 ≤ i by omega,if_false]
    exact this
  ·have a1 : i + (o :: l).length = i + 1 + l.length:=by simp; omega
   rw [a1]
   simp only [show ¬ i + 1 + l.length ≤ i by omega,if_false]
   exact e4
end
end Go.Tidy
/-
 The base layer: a drawn region whose every order comes to the same.
-/
namespace Go.Tidy
def maskGo (T : List Nat) : List Edge → Nat → Nat
 | [],s=>s
 | e :: r,s=>maskGo T r (bif Region.binds .any e then s ||| (1 <<< e.on) ||| T.getD e.on 0 else s)
def maskOf (T : List Nat) (o : Oper) : Nat:=maskGo T o.after.toList 0
def tblGo : List Oper → List Nat → List Nat
 | [],T=>T
 | o :: r,T=>tblGo r (T ++ [maskOf T o])
def looks (all : List Oper) (o : Oper) : List Nat :=
 (o.op.operands.toList.filterMap fun | .tmp t=>some t | _=>none) ++ (match o.guard with | some (j,_)=>(dstAt all j).toList | none=>[])
def apartB (all : List Oper) (T : List Nat) (p q : Oper × Nat) : Bool :=
 Nat.beq p.2 q.2 || ((match q.1.dst with | some d=>!(p.1.dst == some d) | none=>true) &&
  ((T.getD p.2 0).testBit q.2 || (T.getD q.2 0).testBit p.2 ||
    ((match q.1.dst with | some d=>!(looks all p.1).contains d | none=>true) && (isPure p.1.op || !isWriter q.1.op))))
def stableB (all : List Oper) (T : List Nat) : Bool :=
 all.zipIdx.all fun p =>
  (p.1.after.toList.all fun e=>!Region.binds .any e || Nat.blt e.on p.2) &&
  Nat.beq (maskOf T p.1 ||| T.getD p.2 0) (maskOf T p.1) &&
  all.zipIdx.all fun q=>apartB all T p q
theorem maskGo_bit {T : List Nat} {j : Nat} : ∀ (l : List Edge) (s : Nat),(maskGo T l s).testBit j = true → s.testBit j = true ∨ ∃ e ∈ l,Region.binds .any e = true ∧ (j = e.on ∨ (T.getD e.on 0).testBit j = true)
 | [],s,h=>.inl h
 | e :: r,s,h=>by
  simp only [maskGo] at h
  rcases maskGo_bit r _ h with h1 | ⟨e',he',h2⟩
  ·cases hb : Region.binds .any e with
   | false=>rw [hb] at h1; exact .inl h1
   | true =>
    rw [hb] at h1
    simp only [cond_true,Nat.testBit_or,Bool.or_eq_true,Nat.one_shiftLeft,Nat.testBit_two_pow,decide_eq_true_eq] at h1
    rcases h1 with (h1 | h1) | h1
    ·exact .inl h1
    ·exact .inr ⟨e,by simp,hb,.inl h1.symm⟩
    ·exact .inr ⟨e,by simp,hb,.inr h1⟩
  ·exact .inr ⟨e',by simp [he'],h2⟩
section
variable {C : Ctx} {n : Nat} {all : List Oper} {T : List Nat}
structure Stab (all : List Oper) (T : List Nat) : Prop where
 edge : ∀ (i : Nat) (o : Oper) (e : Edge),all[i]? = some o → e ∈ o.after.toList → Region.binds .any e = true → e.on < i
 tbl : ∀ (i : Nat) (o : Oper) (j : Nat),all[i]? = some o → (T.getD i 0).testBit j = true → ∃ e ∈ o.after.toList,Region.binds .any e = true ∧ (j = e.on ∨ (T.getD e.on 0).testBit j = true)
 apart : ∀ (i j : Nat) (o q : Oper),all[i]? = some o → all[j]? = some q → i ≠ j → (∀ d,q.dst = some d → o.dst ≠ some d) ∧
  ((T.getD i 0).testBit j = true ∨ (T.getD j 0).testBit i = true ∨ ((∀ d,q.dst = some d → d ∉ looks all o) ∧ (isPure o.op = true ∨ isWriter q.op = false)))
theorem stab_of (h : stableB all T = true) : Stab all T:=by
 unfold stableB at h
 rw [List.all_eq_true] at h
 have mem : ∀ (i : Nat) (o : Oper),all[i]? = some o → (o,i) ∈ all.zipIdx:=fun i o ho=>by
  rw [List.mem_zipIdx_iff_getElem?]; exact ho
 have h : ∀ (i : Nat) (o : Oper),all[i]? = some o → _:=fun i o ho=>h (o,i) (mem i o ho)
 simp only [Bool.and_eq_true] at h
 refine ⟨fun i o e ho he hb=>?_,fun i o j ho hj=>?_,fun i j o q ho hq hij=>?_⟩
 ·have:=(h i o ho).1.1
  rw [List.all_eq_true] at this
  have:=this e he
  simpa [hb,Nat.blt_eq] using this
 ·have:=(h i o ho).1.2
  have heq:=Nat.eq_of_beq_eq_true this
  have hm : (maskOf T o).testBit j = true:=by
   rw [← heq,Nat.testBit_or,hj,Bool.or_true]
  unfold maskOf at hm
  rcases maskGo_bit _ _ hm with h0 | h1
  ·simp at h0
  ·exact h1
 ·have:=(h i o ho).2
  rw [List.all_eq_true] at this
  have:=this (q,j) (mem j q hq)
  unfold apartB at this
  simp only [Bool.or_eq_true,Bool.and_eq_true] at this
  rcases this with hh | ⟨hd,hh⟩
  ·exact absurd (Nat.eq_of_beq_eq_true hh) hij
  ·refine ⟨fun d hqd=>?_,?_⟩
   ·rw [hqd] at hd
    simp only [Bool.not_eq_true',beq_eq_false_iff_ne,ne_eq] at hd
    exact hd
   ·rcases hh with (hh | hh) | ⟨h1,h2⟩
    ·exact .inl hh
    ·exact .inr (.inl hh)
    ·refine .inr (.inr ⟨fun d hqd=>?_,?_⟩)
     ·rw [hqd] at h1
      simpa using h1
     ·rcases h2 with h2 | h2
      ·exact .inl h2
      ·exact .inr (by simpa using h2)
def Down (all : List Oper) (S : Nat → Prop) : Prop:=∀ (i : Nat) (o : Oper) (e : Edge),S i → all[i]? = some o → e ∈ o.after.toList → Region.binds .any e = true → S e.on
theorem Stab.anc (hs : Stab all T) {S : Nat → Prop} (hd : Down all S) : ∀ (i j : Nat),i < all.length → (T.getD i 0).testBit j = true → (S i → S j) ∧ j < i:=by
 intro i
 induction i using Nat.strongRecOn with
 | _ i ih =>
  intro j hi hj
  obtain ⟨e,he,hb,hh⟩:=hs.tbl i all[i] j (List.getElem?_eq_getElem hi) hj
  have hlt:=hs.edge i all[i] e (List.getElem?_eq_getElem hi) he hb
  rcases hh with rfl | hh
  ·exact ⟨fun h=>hd i _ e h (List.getElem?_eq_getElem hi) he hb,hlt⟩
  ·obtain ⟨h1,h2⟩:=ih e.on hlt j (by omega) hh
   exact ⟨fun h=>h1 (hd i _ e h (List.getElem?_eq_getElem hi) he hb),by omega⟩
theorem Stab.before (hs : Stab all T) {S : Nat → Prop} (hd : Down all S) {i : Nat} (hi : i < all.length) (hr : ∀ (o : Oper) (e : Edge),all[i]? = some o → e ∈ o.after.toList → Region.binds .any e = true → S e.on) {j : Nat}
  (hj : (T.getD i 0).testBit j = true) : S j ∧ j < i:=by
 obtain ⟨e,he,hb,hh⟩:=hs.tbl i all[i] j (List.getElem?_eq_getElem hi) hj
 have hlt:=hs.edge i all[i] e (List.getElem?_eq_getElem hi) he hb
 have hS:=hr _ e (List.getElem?_eq_getElem hi) he hb
 rcases hh with rfl | hh
 ·exact ⟨hS,hlt⟩
 ·obtain ⟨h1,h2⟩:=hs.anc hd e.on j (by omega) hh
  exact ⟨h1 hS,by omega⟩
structure Plan (C : Ctx) (n : Nat) (all : List Oper) (F : Nat → List (Nat × V)) (M : Nat → List Blk) (val : Nat → V) (ex : Nat → Bool) : Prop where
 op : ∀ (i : Nat) (o : Oper),all[i]? = some o → PlO C n all o (F i) (M i) (val i) (ex i) (M (i + 1))
 nxt : ∀ (i : Nat) (o : Oper),all[i]? = some o → Eqv (F (i + 1)) (putF o.dst (val i) (F i))
def Wrote (all : List Oper) (i s : Nat) : Prop:=∃ o : Oper,all[i]? = some o ∧ o.dst = some s
theorem putF_look {dst : Option Tmp} {v : V} {fr : List (Nat × V)} (s : Nat) : look (putF dst v fr) s = if dst = some s then v else look fr s:=by
 unfold putF
 cases dst with
 | none=>simp
 | some d=>simp only [look_cons,Option.some.injEq]
variable {F : Nat → List (Nat × V)} {M : Nat → List Blk} {val : Nat → V} {ex : Nat → Bool}
theorem Plan.text (hp : Plan C n all F M val ex) (hs : Stab all T) : ∀ (i : Nat),i ≤ all.length → ∀ s,(∀ j,j < i → Wrote all j s → VEq (look (F i) s) (val j)) ∧ ((∀ j,j < i → ¬ Wrote all j s) → VEq (look (F i) s) (look (F 0) s))
 | 0,_,s=>⟨fun j hj=>absurd hj (Nat.not_lt_zero j),fun _=>VEq.refl _⟩
 | i + 1,hi,s=>by
  obtain ⟨h1,h2⟩:=hp.text hs i (by omega) s
  have ho : all[i]? = some all[i]:=List.getElem?_eq_getElem (by omega)
  have hn:=hp.nxt i _ ho s
  rw [putF_look] at hn
  refine ⟨fun j hj hw=>?_,fun hw=>?_⟩
  ·by_cases e : j = i
   ·subst e
    obtain ⟨o,ho',hd⟩:=hw
    rw [ho] at ho'; cases ho'
    rw [if_pos hd] at hn
    exact hn
   ·have hji : j < i:=by omega
    by_cases hd : (all[i]).dst = some s
    ·obtain ⟨q,hq,hqd⟩:=hw
     exact absurd hd ((hs.apart i j _ q ho hq (Ne.symm e)).1 s hqd)
    ·rw [if_neg hd] at hn
     exact hn.trans (h1 j hji hw)
  ·have hd : ¬ (all[i]).dst = some s:=fun hd=>hw i (by omega) ⟨_,ho,hd⟩
   rw [if_neg hd] at hn
   exact hn.trans (h2 fun j hj=>hw j (by omega))
theorem Plan.mem (hp : Plan C n all F M val ex) : ∀ (a b : Nat),a ≤ b → b ≤ all.length → (∀ j (o : Oper),a ≤ j → j < b → all[j]? = some o → isWriter o.op = false) → M b = M a:=by
 intro a b hab
 induction b with
 | zero=>intro _ _; rw [show a = 0 by omega]
 | succ b ih =>
  intro hb hw
  by_cases e : a = b + 1
  ·rw [e]
  ·have ho : all[b]? = some all[b]:=List.getElem?_eq_getElem (by omega)
   rw [(hp.op b _ ho).quiet (hw b _ (by omega) (by omega) ho)]
   exact ih (by omega) (by omega) fun j o h1 h2=>hw j o h1 (by omega)
structure Inv (all : List Oper) (F : Nat → List (Nat × V)) (M : Nat → List Blk) (val : Nat → V) (S : Nat → Prop) (fr : List (Nat × V)) (L : List Blk) : Prop where
 down : Down all S
 val : ∀ j s,S j → Wrote all j s → VEq (look fr s) (val j)
 old : ∀ s,(∀ j,S j → ¬ Wrote all j s) → VEq (look fr s) (look (F 0) s)
 mem : ∃ m,m ≤ all.length ∧ L = M m ∧ ∀ j (o : Oper),all[j]? = some o → isWriter o.op = true → (S j ↔ j < m)
theorem Plan.at (hp : Plan C n all F M val ex) (hs : Stab all T) {S : Nat → Prop} {fr : List (Nat × V)} {L : List Blk} (hi : Inv all F M val S fr L) {i : Nat} {o : Oper} (ho : all[i]? = some o) (hS : ¬ S i)
  (hr : ∀ (e : Edge),e ∈ o.after.toList → Region.binds .any e = true → S e.on) :
  (∀ s,s ∈ looks all o → VEq (look fr s) (look (F i) s)) ∧ (isPure o.op = false → L = M i) ∧ ∃ m,m ≤ all.length ∧ L = M m ∧ (isWriter o.op = true → m ≤ i) ∧ ∀ j (q : Oper),all[j]? = some q → isWriter q.op = true → (S j ↔ j < m):=by
 have hlt : i < all.length:=lt_of_get ho
 have hr' : ∀ (o' : Oper) (e : Edge),all[i]? = some o' → e ∈ o'.after.toList → Region.binds .any e = true → S e.on:=fun o' e ho'=>by rw [ho] at ho'; cases ho'; exact hr e
 have cmp : ∀ j,(T.getD i 0).testBit j = true → S j ∧ j < i:=fun j hj=>hs.before hi.down hlt hr' hj
 have cmp' : ∀ j,j < all.length → (T.getD j 0).testBit i = true → ¬ S j ∧ i < j:=fun j hj hb =>
  ⟨fun h=>hS ((hs.anc hi.down j i hj hb).1 h),(hs.anc hi.down j i hj hb).2⟩
 refine ⟨fun s hsl=>?_,fun hpu=>?_,?_⟩
 ·obtain ⟨h1,h2⟩:=hp.text hs i (by omega) s
  by_cases hw : ∃ j,j ≠ i ∧ Wrote all j s
  ·obtain ⟨j,hji,hw⟩:=hw
   have hw':=hw
   obtain ⟨q,hq,hqd⟩:=hw
   have hjl:=lt_of_get hq
   have uniq : ∀ j',Wrote all j' s → j' = j:=by
    rintro j' ⟨q',hq',hqd'⟩
    by_cases e : j' = j
    ·exact e
    ·exact absurd hqd' ((hs.apart j' j q' q hq' hq e).1 s hqd)
   rcases (hs.apart i j o q ho hq (Ne.symm hji)).2 with h | h | h
   ·obtain ⟨a,b⟩:=cmp j h
    exact (hi.val j s a hw').trans (h1 j b hw').symm
   ·obtain ⟨a,b⟩:=cmp' j hjl h
    exact (hi.old s fun j' hj' hwj=>a (uniq j' hwj ▸ hj')).trans (h2 fun j' hj' hwj=>by have:=uniq j' hwj; omega).symm
   ·exact absurd hsl (h.1 s hqd)
  ·have hno : ∀ j,Wrote all j s → j = i:=fun j hj=>Classical.byContradiction fun e=>hw ⟨j,e,hj⟩
   exact (hi.old s fun j hj hwj=>hS (hno j hwj ▸ hj)).trans (h2 fun j hj hwj=>by have:=hno j hwj; omega).symm
 ·obtain ⟨m,hm,hL,hmw⟩:=hi.mem
  have key : ∀ j (q : Oper),j ≠ i → all[j]? = some q → isWriter q.op = true → (j < m ↔ j < i):=by
   intro j q hji hq hw
   rcases (hs.apart i j o q ho hq (Ne.symm hji)).2 with h | h | h
   ·obtain ⟨a,b⟩:=cmp j h
    exact ⟨fun _=>b,fun _=>(hmw j q hq hw).1 a⟩
   ·obtain ⟨a,b⟩:=cmp' j (lt_of_get hq) h
    exact ⟨fun h=>absurd ((hmw j q hq hw).2 h) a,fun h=>by omega⟩
   ·rcases h.2 with h | h
    ·rw [hpu] at h; cases h
    ·rw [hw] at h; cases h
  rw [hL]
  rcases Nat.le_total m i with h | h
  ·refine (hp.mem m i h (by omega) fun j q h1 h2 hq=>?_).symm
   cases hw : isWriter q.op with
   | false=>rfl
   | true=>have:=(key j q (by omega) hq hw).2 h2; omega
  ·refine hp.mem i m h hm fun j q h1 h2 hq=>?_
   cases hw : isWriter q.op with
   | false=>rfl
   | true =>
    by_cases e : j = i
    ·subst e; exact absurd ((hmw j q hq hw).2 h2) hS
    ·have:=(key j q e hq hw).1 h2; omega
 ·obtain ⟨m,hm,hL,hmw⟩:=hi.mem
  refine ⟨m,hm,hL,fun hw=>?_,hmw⟩
  exact Nat.le_of_not_lt fun h=>hS ((hmw i o ho hw).2 h)
end
end Go.Tidy
/-
 The base layer: a drawn region whose every order comes to the same: the run.
-/
namespace Go.Tidy
theorem filter_le {α : Type} {p q : α → Bool} : ∀ {l : List α},(∀ x ∈ l,p x = true → q x = true) → (l.filter p).length ≤ (l.filter q).length
 | [],_=>Nat.le_refl _
 | a :: l,h=>by
  have ih:=filter_le (l:=l) fun x hx=>h x (by simp [hx])
  simp only [List.filter_cons]
  cases hp : p a with
  | true=>rw [h a (by simp) hp]; simpa using ih
  | false =>
   cases q a with
   | true=>simp; omega
   | false=>simpa using ih
theorem filter_lt {α : Type} {p q : α → Bool} : ∀ {l : List α},(∀ x ∈ l,p x = true → q x = true) → (∃ x ∈ l,p x = false ∧ q x = true) → (l.filter p).length < (l.filter q).length
 | [],_,⟨x,hx,_⟩=>by simp at hx
 | a :: l,h,⟨x,hx,h1,h2⟩=>by
  simp only [List.filter_cons]
  rcases List.mem_cons.1 hx with rfl | hx
  ·have:=filter_le (l:=l) (p:=p) (q:=q) fun x hx=>h x (by simp [hx])
   rw [h1,h2]
   simp; omega
  ·have ih:=filter_lt (l:=l) (fun x hx=>h x (by simp [hx])) ⟨x,hx,h1,h2⟩
   cases hp : p a with
   | true=>rw [h a (by simp) hp]; simpa using ih
   | false =>
    cases q a with
    | true=>simp; omega
    | false=>simpa using ih
section
variable {C : Ctx} {n : Nat} {ops : Array Oper} {T : List Nat} {F : Nat → List (Nat × V)} {M : Nat → List Blk} {val : Nat → V} {ex : Nat → Bool} {K : List (Nat × V) → List Blk → Prop}
theorem look_pre (F : List (Nat × V)) (fr : List (Nat × V)) (s : Nat) : ∀ (l : List Nat),look (l.map (fun t=>(t,look F t)) ++ fr) s = if s ∈ l then look F s else look fr s
 | []=>by simp
 | t :: l=>by
  simp only [List.map_cons,List.cons_append,look_cons,look_pre F fr s l]
  by_cases e : t = s
  ·subst e; simp
  ·rw [if_neg e]
   by_cases e2 : s ∈ l
   ·simp [e2]
   ·simp [e2,Ne.symm e]
theorem looks_op {all : List Oper} {o : Oper} {t : Nat} (h : Operand.tmp t ∈ o.op.operands.toList) : t ∈ looks all o:=by
 unfold looks
 rw [List.mem_append,List.mem_filterMap]
 exact .inl ⟨_,h,rfl⟩
theorem looks_guard {all : List Oper} {o : Oper} {j d : Nat} {want : Bool} (h : o.guard = some (j,want)) (hd : dstAt all j = some d) : d ∈ looks all o:=by
 unfold looks
 rw [List.mem_append,h]
 simp [hd]
theorem Plan.step {all : List Oper} (hp : Plan C n all F M val ex) (hs : Stab all T) {S : Nat → Prop} {fr : List (Nat × V)} {L : List Blk} (hi : Inv all F M val S fr L) {i : Nat} {o : Oper} (ho : all[i]? = some o) (hS : ¬ S i)
  (hr : ∀ (e : Edge),e ∈ o.after.toList → Region.binds .any e = true → S e.on) {K' : List (Nat × V) → List Blk → Prop} {S' : Nat → Prop} (hS' : ∀ j,S' j ↔ (S j ∨ j = i))
  (hK : ∀ fr' L',Inv all F M val S' fr' L' → K' fr' L') : ∃ fr1,FrLe fr fr1 ∧ vcOp1 C n all o fr1 L K':=by
 obtain ⟨hl,hpure,m,hm,hL,hmi,hmw⟩:=hp.at hs hi ho hS hr
 have hlt : i < all.length:=lt_of_get ho
 refine ⟨(looks all o).map (fun t=>(t,look (F i) t)) ++ fr,fun s=>?_,?_⟩
 ·rw [look_pre]
  split
  ·rename_i h; exact (hl s h).1
  ·exact VLe.refl _
 ·have hpl:=hp.op i o ho
  generalize hfr1 : (looks all o).map (fun t=>(t,look (F i) t)) ++ fr = fr1
  have hfr1s : ∀ s,look fr1 s = if s ∈ looks all o then look (F i) s else look fr s:=fun s=>by rw [← hfr1,look_pre]
  have hq : ∀ s,VEq (look fr1 s) (look fr s):=fun s=>by
   rw [hfr1s]
   split
   ·rename_i h; exact (hl s h).symm
   ·exact VEq.refl _
  -- the new place
  have inv : ∀ L',(L' = if isWriter o.op then M (i + 1) else L) → Inv all F M val S' (putF o.dst (val i) fr1) L':=by
   intro L' hL'
   refine ⟨?_,?_,?_,?_⟩
   ·intro j q e hj hq he hb
    rcases (hS' j).1 hj with h | rfl
    ·exact (hS' _).2 (.inl (hi.down j q e h hq he hb))
    ·rw [ho] at hq; cases hq
     exact (hS' _).2 (.inl (hr e he hb))
   ·intro j s hj hw
    rw [putF_look]
    by_cases e : o.dst = some s
    ·rw [if_pos e]
     by_cases ej : j = i
     ·rw [ej]; exact VEq.refl _
     ·obtain ⟨q,hq,hqd⟩:=hw
      exact absurd e ((hs.apart i j o q ho hq (Ne.symm ej)).1 s hqd)
    ·rw [if_neg e]
     rcases (hS' j).1 hj with h | rfl
     ·exact (hq s).trans (hi.val j s h hw)
     ·obtain ⟨q,hq,hqd⟩:=hw
      rw [ho] at hq; cases hq
      exact absurd hqd e
   ·intro s hno
    rw [putF_look]
    by_cases e : o.dst = some s
    ·exact absurd ⟨o,ho,e⟩ (hno i ((hS' i).2 (.inr rfl)))
    ·rw [if_neg e]
     exact (hq s).trans (hi.old s fun j hj=>hno j ((hS' j).2 (.inl hj)))
   ·cases hw : isWriter o.op with
    | false =>
     rw [hw] at hL'
     simp at hL'
     refine ⟨m,hm,hL'.trans hL,fun j q hq hqw=>?_⟩
     rw [hS' j,← hmw j q hq hqw]
     refine ⟨fun h=>h.resolve_right fun e=>?_,.inl⟩
     subst e; rw [ho] at hq; cases hq; rw [hw] at hqw; cases hqw
    | true =>
     rw [hw] at hL'
     simp at hL'
     refine ⟨i + 1,by omega,hL',fun j q hq hqw=>?_⟩
     rw [hS' j]
     have hnp : isPure o.op = false:=by
      unfold isWriter at hw; simp at hw; exact hw.1.1
     by_cases e : j = i
     ·simp [e]
     ·have : S j ↔ j < i:=by
       rcases (hs.apart i j o q ho hq (Ne.symm e)).2 with h | h | h
       ·have:=hs.before hi.down hlt (fun o' e' ho'=>by rw [ho] at ho'; cases ho'; exact hr e') h
        exact ⟨fun _=>this.2,fun _=>this.1⟩
       ·have:=hs.anc hi.down j i (lt_of_get hq) h
        exact ⟨fun hj=>absurd (this.1 hj) hS,fun hj=>by omega⟩
       ·rcases h.2 with h | h
        ·rw [hnp] at h; cases h
        ·rw [hqw] at h; cases h
      rw [this]; omega
  -- the run itself
  have run : ex i = true → vOp C o fr1 L fun v L'=>vPut n o.dst fr1 v fun fr'=>K' fr' L':=by
   intro hex
   have h1:=hpl.run hex
   have h2 : vOp C o fr1 (M i) fun x N=>x = val i ∧ N = M (i + 1):=by
    rw [vOp_congr (fr:=fr1) (fr':=F i) fun t ht=>by rw [hfr1s,if_pos (looks_op ht)]]
    exact h1
   have put : ∀ L',(L' = if isWriter o.op then M (i + 1) else L) → vPut n o.dst fr1 (val i) fun fr'=>K' fr' L':=by
    intro L' hL'
    unfold vPut
    simp only [V.force_eq]
    have:=hK _ _ (inv L' hL')
    unfold putF at this
    cases hd : o.dst with
    | none=>rw [hd] at this; exact this
    | some d=>rw [hd] at this; simp only [hpl.dst d hd,cond_true]; exact this
   cases hpu : isPure o.op with
   | false =>
    rw [hpure hpu]
    refine vOp_mono h2 ?_
    rintro x N ⟨rfl,rfl⟩
    refine put _ ?_
    cases hw : isWriter o.op with
    | true=>simp
    | false=>simp; rw [hpl.quiet hw,hpure hpu]
   | true =>
    obtain ⟨p,v,hpv⟩:=vOp_pu C o fr1 hpu
    have h3:=(hpv (M i) _).1 h2
    refine (hpv L _).2 ⟨h3.1,?_⟩
    rw [h3.2.1]
    refine put L ?_
    have : isWriter o.op = false:=by unfold isWriter; rw [hpu]; rfl
    rw [this]; rfl
  have skip : ex i = false → vPut n o.dst fr1 (.tup []) fun fr'=>K' fr' L:=by
   intro hex
   obtain ⟨h1,h2⟩:=hpl.skip hex
   have hL' : L = if isWriter o.op then M (i + 1) else L:=by
    cases hw : isWriter o.op with
    | false=>rfl
    | true =>
     have hnp : isPure o.op = false:=by
      unfold isWriter at hw; simp at hw; exact hw.1.1
     simp; rw [h2,hpure hnp]
   unfold vPut
   simp only [V.force_eq]
   have:=hK _ _ (inv L hL')
   unfold putF at this
   cases hd : o.dst with
   | none=>rw [hd] at this; exact this
   | some d=>rw [hd,h1] at this; simp only [hpl.dst d hd,cond_true]; exact this
  have hg:=hpl.guard
  unfold vcOp1
  simp only [vOpF_eq]
  cases hgd : o.guard with
  | none=>rw [hgd] at hg; exact run hg
  | some jw =>
   obtain ⟨j,want⟩:=jw
   rw [hgd] at hg
   obtain ⟨d,hd,hlk⟩:=hg
   have hfl : look fr1 d = look (F i) d:=by rw [hfr1s,if_pos (looks_guard hgd hd)]
   rcases hlk with hlk | ⟨hlk,hex⟩
   ·have hlk' : look fr1 d = if ex i == want then .tt else .ff:=hfl.trans hlk
    simp only [hd,hlk']
    cases hex : ex i <;> cases want <;> simp <;> first | exact run hex | exact skip hex
   ·have hlk' : look fr1 d = .tup []:=hfl.trans hlk
    simp only [hd,hlk']
    exact skip hex
def cnt (ops : Array Oper) (listed : Array Bool) : Nat:=((List.range ops.size).filter fun i=>!listed.getD i true).length
theorem Plan.done (hp : Plan C n ops.toList F M val ex) (hs : Stab ops.toList T) {S : Nat → Prop} {fr : List (Nat × V)} {L : List Blk} (hi : Inv ops.toList F M val S fr L) (hS : ∀ i,i < ops.size → S i) (hK : K (F ops.size) (M ops.size)) :
  ∃ fr1,FrLe fr fr1 ∧ K fr1 L:=by
 refine ⟨F ops.size,fun s=>?_,?_⟩
 ·obtain ⟨h1,h2⟩:=hp.text hs ops.size (by simp) s
  have hlt : ∀ j,Wrote ops.toList j s → j < ops.size:=fun j ⟨o,ho,_⟩=>by simpa using lt_of_get ho
  by_cases hw : ∃ j,Wrote ops.toList j s
  ·obtain ⟨j,hw⟩:=hw
   exact ((hi.val j s (hS j (hlt j hw)) hw).trans (h1 j (hlt j hw) hw).symm).1
  ·exact ((hi.old s fun j _ hj=>hw ⟨j,hj⟩).trans (h2 fun j _ hj=>hw ⟨j,hj⟩).symm).1
 ·obtain ⟨m,hm,hL,hmw⟩:=hi.mem
  have : M ops.size = M m:=hp.mem m ops.size (by simpa using hm) (by simp) fun j o h1 h2 ho=>by
   cases hw : isWriter o.op with
   | false=>rfl
   | true=>have:=(hmw j o ho hw).1 (hS j h2); omega
  rw [hL,← this]
  exact hK
theorem quiet_go (hp : Plan C n ops.toList F M val ex) (hs : Stab ops.toList T) (hK : K (F ops.size) (M ops.size)) : ∀ (f t : Nat) (listed : Array Bool) (fr : List (Nat × V)) (L : List Blk),listed.size = ops.size →
  Inv ops.toList F M val (fun i=>listed.getD i false = true) fr L → cnt ops listed ≤ f →
  vOpsC C n ops.toList ((Region.linearise.go .any ops f t listed []).filterMap fun i=>ops[i]?) fr L K
 | 0,t,listed,fr,L,hsz,hi,hc=>by
  refine hp.done hs hi (fun i hlt=>?_) hK
  have hnil : (List.range ops.size).filter (fun i=>!listed.getD i true) = []:=List.eq_nil_of_length_eq_zero (Nat.le_zero.1 hc)
  rw [List.filter_eq_nil_iff] at hnil
  have:=hnil i (by simpa using hlt)
  rw [getD_of_lt (by rw [hsz]; exact hlt) false true]
  simpa using this
 | f + 1,t,listed,fr,L,hsz,hi,hc=>by
  simp only [Region.linearise.go]
  show vOpsC C n ops.toList ((match (Region.ready .any ops listed)[t % (Region.ready .any ops listed).length]? with
   | some i=>Region.linearise.go .any ops f (t / (Region.ready .any ops listed).length) (listed.setIfInBounds i true) [i]
   | none=>[].reverse).filterMap fun i=>ops[i]?) fr L K
  cases hr : (Region.ready .any ops listed)[t % (Region.ready .any ops listed).length]? with
  | none =>
   have hnil : Region.ready .any ops listed = []:=by
    cases hr' : Region.ready .any ops listed with
    | nil=>rfl
    | cons x xs =>
     rw [hr'] at hr
     have hlt : t % (x :: xs).length < (x :: xs).length:=Nat.mod_lt _ (by simp)
     simp at hr
     simp at hlt
     omega
   refine hp.done hs hi (fun i=>?_) hK
   induction i using Nat.strongRecOn with
   | _ i ih =>
    intro hlt
    refine Classical.byContradiction fun hn=>?_
    have : i ∈ Region.ready .any ops listed:=by
     unfold Region.ready
     rw [List.mem_filter]
     refine ⟨by simpa using hlt,?_⟩
     rw [getD_of_lt (by rw [hsz]; exact hlt) true false]
     simp only [Bool.not_eq_true] at hn
     rw [hn]
     rw [Array.getElem?_eq_getElem hlt]
     simp only [Option.map_some,Option.getD_some,Bool.not_false,Bool.true_and]
     rw [← Array.all_toList,List.all_eq_true]
     intro e he
     cases hb : Region.binds .any e with
     | false=>simp
     | true =>
      have hlt':=hs.edge i ops[i] e (by simp [hlt]) he hb
      simp only [Bool.not_true,Bool.false_or]
      exact ih e.on hlt' (by omega)
    rw [hnil] at this
    cases this
  | some i =>
   have hmem:=List.mem_of_getElem? hr
   unfold Region.ready at hmem
   rw [List.mem_filter] at hmem
   have hlt : i < ops.size:=by simpa using hmem.1
   have hlt' : i < listed.size:=by rw [hsz]; exact hlt
   have ho : ops[i]? = some ops[i]:=Array.getElem?_eq_getElem hlt
   have h2:=hmem.2
   rw [ho] at h2
   simp only [Option.map_some,Option.getD_some,Bool.and_eq_true,Bool.not_eq_true'] at h2
   obtain ⟨h2a,h2b⟩:=h2
   rw [← Array.all_toList,List.all_eq_true] at h2b
   simp only []
   rw [linearise_go_acc,List.reverse_singleton,List.singleton_append,List.filterMap_cons]
   simp only [ho]
   refine hp.step hs hi (i:=i) (o:=ops[i]) (by simp [hlt]) (by rw [getD_of_lt hlt' false true,h2a]; simp) (fun e he hb=>?_) (S':=fun j=>(listed.setIfInBounds i true).getD j false = true) (fun j=>?_) ?_
   ·have:=h2b e he
    simpa [hb] using this
   ·simp only [Array.getD_eq_getD_getElem?]
    by_cases e : i = j
    ·subst e
     rw [Array.getElem?_setIfInBounds_self_of_lt hlt']
     simp
    ·rw [Array.getElem?_setIfInBounds_ne e]
     simp [Ne.symm e]
   ·intro fr' L' hi'
    refine quiet_go hp hs hK f _ _ fr' L' (by simp [hsz]) hi' ?_
    have : cnt ops (listed.setIfInBounds i true) < cnt ops listed:=by
     unfold cnt
     refine filter_lt (fun x hx hp=>?_) ⟨i,by simpa using hlt,?_,by simp [h2a]⟩
     ·have hx' : x < ops.size:=by simpa using hx
      by_cases e : i = x
      ·subst e; simp [h2a]
      ·simp only [Array.getD_eq_getD_getElem?,Array.getElem?_setIfInBounds_ne e] at hp
       simpa [Array.getD_eq_getD_getElem?] using hp
     ·simp only [Array.getD_eq_getD_getElem?,Array.getElem?_setIfInBounds_self_of_lt hlt']
      rfl
    omega
end
theorem DrawP.quiet {C : Ctx} {n : Nat} {ops : Array Oper} {fr : List (Nat × V)} {L : List Blk} {K : List (Nat × V) → List Blk → Prop} (hm : C.P.follows .mixedOrders = true) (T : List Nat) (hst : stableB ops.toList T = true)
  (h : qOps C n ops.toList ops.toList fr L K) : DrawP C n ops fr L K:=by
 obtain ⟨F,M,val,ex,h1,h2,h3,h4⟩:=qOps_out ops.toList 0 fr L h
 have hs:=stab_of hst
 have hp : Plan C n ops.toList F M val ex:=⟨fun i o ho=>by simpa using (h3 i o ho).1,fun i o ho=>by simpa using (h3 i o ho).2⟩
 unfold DrawP
 intro t
 simp only [Region.schedule,hm,Bool.true_or,if_true,Region.linearise]
 have hz : ∀ j,(Array.replicate ops.size false).getD j false = false:=fun j=>by
  simp only [Array.getD_eq_getD_getElem?,Array.getElem?_replicate]
  split <;> rfl
 refine quiet_go hp hs (by simpa using h4) _ t _ fr L (by simp) ⟨?_,?_,?_,?_⟩ ?_
 ·intro i o e hi; rw [hz] at hi; cases hi
 ·intro j s hj; rw [hz] at hj; cases hj
 ·intro s _; exact (h1 s).symm
 ·exact ⟨0,Nat.zero_le _,h2.symm,fun j o _ _=>by rw [hz]; simp⟩
 ·unfold cnt
  exact Nat.le_trans (List.length_filter_le _ _) (by simp)
end Go.Tidy
/-
 The base layer: from a law's arguments,as they are read,to tidy data; from a call's contract to the law's.
-/
namespace Go.Tidy
inductive TyI (P : Program) : TypeId → List D → Prop
 | bool {t : TypeId} (h : P.underlying t = some .bool) (b : Bool) : TyI P t [.bool b]
 | int {t : TypeId} {k : IntKind} (h : P.underlying t = some (.int k)) (n : Int) (hw : (Lit.int k n).wf = true) : TyI P t [.int k n]
 | str {t : TypeId} (h : P.underlying t = some .string) (s : ByteArray) (hs : s.size ≤ maxLen) : TyI P t [.str s]
 | sl {t e : TypeId} (h : P.underlying t = some (.slice e)) (els : List (List D)) (hl : els.length ≤ maxLen) (hsz : ∀ y ∈ els,y.length = P.cellsOf e) (he : ∀ y ∈ els,TyI P e y) : TyI P t [.sl els]
 | struct {t : TypeId} {fs : Array Field} (h : P.underlying t = some (.struct fs)) (xs : List D) (hl : xs.length = P.cellsOf t)
   (hf : ∀ f ∈ fs.toList,TyI P f.type ((xs.drop f.offset).take (P.cellsOf f.type))) : TyI P t xs
def plainB (P : Program) (l : List TypeId) : Bool:=l.all fun t=>match P.underlying t with
 | some .bool | some (.int _) | some .string=>true
 | some (.slice e)=>l.contains e && Nat.blt 0 (P.cellsOf e)
 | some (.struct fs)=>fs.toList.all fun f=>l.contains f.type
 | _=>false
section
variable {H : Type} {enc : TypeId × Value → H} {P : Program} {w : World} {T : TypeId → Prop}
def RDL (w : World) (xs : List D) (cs : List Value) : Prop:=xs.length = cs.length ∧ ∀ (j : Nat) (x : D) (v : Value),xs[j]? = some x → cs[j]? = some v → RD (· < w.heap.size) w x v
theorem RDL.one {x : D} {v : Value} (h : RD (· < w.heap.size) w x v) : RDL w [x] [v]:=by
 refine ⟨rfl,fun j y u hy hu=>?_⟩
 cases j with
 | zero=>simp at hy hu; subst hy hu; exact h
 | succ j=>simp at hy
theorem RDL.append {xs ys : List D} {cs ds : List Value} (h : RDL w xs cs) (h' : RDL w ys ds) : RDL w (xs ++ ys) (cs ++ ds):=by
 refine ⟨by simp [h.1,h'.1],fun j x v hx hv=>?_⟩
 rcases Nat.lt_or_ge j xs.length with hj | hj
 ·rw [List.getElem?_append_left hj] at hx
  rw [List.getElem?_append_left (by rw [← h.1]; exact hj)] at hv
  exact h.2 j x v hx hv
 ·rw [List.getElem?_append_right hj] at hx
  rw [List.getElem?_append_right (by rw [← h.1]; exact hj),← h.1] at hv
  exact h'.2 _ x v hx hv
theorem mapM_range {α : Type} {f : Nat → Option α} {n : Nat} {l : List α} (h : (List.range n).mapM f = some l) : l.length = n ∧ ∀ i,i < n → f i = l[i]?:=by
 have key : ∀ (xs : List Nat) (l : List α),xs.mapM f = some l → l.length = xs.length ∧ ∀ (i : Nat) (x : Nat),xs[i]? = some x → f x = l[i]?:=by
  intro xs
  induction xs with
  | nil=>intro l h; simp at h; subst h; exact ⟨rfl,fun i x hx=>by simp at hx⟩
  | cons x xs ih =>
   intro l h
   rw [List.mapM_cons] at h
   cases hx : f x with
   | none=>simp [hx] at h
   | some y =>
    cases hy : xs.mapM f with
    | none=>simp [hx,hy] at h
    | some ys =>
     simp [hx,hy] at h
     subst h
     obtain ⟨h1,h2⟩:=ih ys hy
     refine ⟨by simp [h1],fun i z hz=>?_⟩
     cases i with
     | zero=>simp at hz; subst hz; simpa using hx
     | succ i=>simpa using h2 i z (by simpa using hz)
 obtain ⟨h1,h2⟩:=key _ _ h
 refine ⟨by simpa using h1,fun i hi=>h2 i i (by rw [List.getElem?_range hi])⟩
theorem cell_lt {a : Addr} {v : Value} (h : w.cell? a = some v) : a.block < w.heap.size:=by
 rcases Nat.lt_or_ge a.block w.heap.size with hl | hl
 ·exact hl
 ·have : w.heap[a.block]? = none:=Array.getElem?_eq_none hl
  unfold World.cell? at h
  rw [this] at h
  cases h
theorem block_add (a : Addr) (n : Nat) : (a.add n).block = a.block:=by unfold Addr.add; split <;> rfl
end
end Go.Tidy
/-
 The base layer: a law's statement out of its call's contract.
-/
namespace Go.Tidy
section
variable {H : Type} {enc : TypeId × Value → H} {P : Program}
theorem post_of_kept {f : Func} {s : ChangeSpec} {apart fresh handsOn again : Bool} {W W' : World} {args : Array Value} {v : Value} {ds gs : List (DataW H)} {before pa pv : List MemPlace}
  (hW : DataW.Whole enc P f.params.toList s.vars apart W args.toList ds gs before)
  (hres : ∀ (b : Nat) (sp : Nat → Bool) (hd : Bool),DataW.TrodAll enc P W' b sp hd f.resultTypes.toList (v.resultList f.resultTypes.size) (s.fn H (ds ++ gs)).results [])
  (hargs : ∀ sp : Nat → Bool,(∀ p ∈ before,sp p.block = true) → DataW.TrodAll enc P W' 0 sp true f.params.toList args.toList (s.fn H (ds ++ gs)).args pa)
  (hvars : ∀ sp : Nat → Bool,(∀ p ∈ before,sp p.block = true) → DataW.TrodVars enc P W' sp s.vars (s.fn H (ds ++ gs)).vars pv)
  (hps : before = pa ++ pv) (hk : W.keptBut W' (· ∈ before)) (hfz : ∀ a : Addr,a.block < W.heap.size → W'.frozen? a = W.frozen? a)
  (hok : ∀ (j : Nat) (t : TypeId) (r : Value),f.resultTypes[j]? = some t → (v.resultList f.resultTypes.size)[j]? = some r → Value.okWide P W' .any 0 t r) :
  s.post enc P f apart fresh handsOn again W args v W':=by
 have hlt : ∀ p ∈ before,p.block < W.heap.size:=fun p hp=>hW.lt p hp
 have hold : ∀ p ∈ before,(fun b=>decide (b < W.heap.size)) p.block = true:=fun p hp=>by simpa using hlt p hp
 refine ⟨ds,gs,before,[],pa,pv,hW,hres _ _ _,hargs _ hold,hvars _ hold,World.keptBut_mono (fun p hp=>⟨hp,?_⟩) hk,fun _=>?_⟩
 ·rw [hps,List.mem_append] at hp
  exact Or.inr hp
 ·obtain ⟨_,_,_,_,_,hz,hn⟩:=hW
  refine ⟨hok,_,_,([] ++ pa) ++ pv,⟨[] ++ pa,pv,Go.ChangeShapes.trodAll_append (hargs _ (fun _ _=>rfl)) (hres _ _ _),hvars _ (fun _ _=>rfl),rfl,?_,?_⟩,?_⟩
  ·intro b off hp
   have hp' : MemPlace.cell b off ∈ before:=by rw [hps]; simpa using hp
   rw [hfz _ (hlt _ hp')]
   exact hz b off hp'
  ·intro ha
   have:=hn ha
   rw [hps] at this
   simpa using this
  ·intro p hp _
   rw [hps]
   simpa using hp
def argV (P : Program) (t : TypeId) (xs : List D) : V :=
 match P.underlying t with
 | some (.struct _)=>.agg (xs.map .d)
 | _=>match xs with | [x]=>.d x | _=>.poison
def argVs (P : Program) : List TypeId → List (List D) → List V
 | t :: ts,x :: xs=>argV P t x :: argVs P ts xs
 | _,_=>[]
def TyA (P : Program) : List TypeId → List (List D) → Prop
 | [],[]=>True
 | t :: ts,x :: xs=>TyI P t x ∧ TyA P ts xs
 | _,_=>False
variable {w : World}
theorem argV_rv {t : TypeId} {base : Nat} {v : Value} {xs : List D} (hx : RDL w xs v.cells.toList) (ht : TyI P t xs) (hok : Value.okWide P w .any base t v) (g : Gh) (hI : ∀ r,r < w.heap.size → g.I r) (L : List Blk) : RV g w L (argV P t xs) v:=by
 have hd : ∀ {x : D} {u : Value},RD (· < w.heap.size) w x u → RD g.I w x u:=fun h=>h.mono hI (fun _ _ _ h=>h)
 have one : v.cells = #[v] → ∀ x,xs = [x] → RV g w L (.d x) v:=by
  rintro hv x rfl
  rw [hv] at hx
  exact .d _ _ (hd (hx.2 0 x v rfl rfl))
 have cell : (∀ cs,v ≠ .agg cs) → v.cells = #[v]:=fun h=>by cases v <;> first | rfl | exact absurd rfl (h _)
 unfold argV
 cases ht with
 | bool h b =>
  rw [h]
  refine one (cell fun cs hv=>?_) _ rfl
  subst hv; simp [Value.okWide,h,Cell.okWide,Cell.ok] at hok
 | int h n hw =>
  rw [h]
  refine one (cell fun cs hv=>?_) _ rfl
  subst hv; simp [Value.okWide,h,Cell.okWide,Cell.ok] at hok
 | str h s hs =>
  rw [h]
  refine one (cell fun cs hv=>?_) _ rfl
  subst hv; simp [Value.okWide,h,Cell.okWide,Cell.ok] at hok
 | sl h els hl hsz he =>
  rw [h]
  refine one (cell fun cs hv=>?_) _ rfl
  subst hv; simp [Value.okWide,h,Cell.okWide,Cell.ok] at hok
 | struct h xs hl hf =>
  rw [h]
  simp only [Value.okWide,h] at hok
  obtain ⟨cs,rfl,_,_⟩:=hok
  have hx : RDL w xs cs.toList:=hx
  refine .agg _ _ (by rw [List.length_map,hx.1]; simp) (fun j u hu=>?_) (fun j x u hxj hu=>?_)
  ·have hj : j < xs.length:=by rw [hx.1]; simpa using (Array.getElem?_eq_some_iff.1 hu).1
   exact (hx.2 j xs[j] u (List.getElem?_eq_getElem hj) (by simpa using hu)).one
  ·rw [List.getElem?_map] at hxj
   cases e : xs[j]? with
   | none=>rw [e] at hxj; cases hxj
   | some y =>
    rw [e] at hxj; cases hxj
    exact .d _ _ (hd (hx.2 j y u e (by simpa using hu)))
end
end Go.Tidy
