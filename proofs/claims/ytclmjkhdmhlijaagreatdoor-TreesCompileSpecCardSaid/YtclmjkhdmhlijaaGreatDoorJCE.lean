import Derived.Test.YtclmjkhdmhlijaaGreatDoorJCD
import Derived.Shelf.SortM.Plain
import Derived.Shelf.SortM.SortNone
import Derived.Shelf.Slices.CompactI
import Derived.Test.YtclmjkhdmhlijaaGreatDoorCards
import Derived.Test.YtclmjkhdmhlijaaGreatDoorTie
import Derived.WalkKit
import Derived.ProofKit
import Derived.OpenShut
import Derived.Deep.DeepHandedRow
import Derived.Lib.LaidTab
set_option maxRecDepth 100000
set_option maxHeartbeats 0
set_option linter.unusedSimpArgs false
set_option linter.unusedVariables false
namespace Go.Proofs.YtclmjkhdmhlijaaGreatDoor
open Go.Tidy
def byB (l : List Int) : Bool:=decide l.Nodup && l.all fun c=>decide (1 ≤ c) && decide (c ≤ 12)
theorem byB_iff {l : List Int} : byB l = true ↔ ByOk l:=by
 unfold byB
 rw [Bool.and_eq_true,decide_eq_true_eq,List.all_eq_true]
 constructor
 ·exact fun h=>⟨h.1,fun b hb=>by have:=h.2 b hb; simpa using this⟩
 ·exact fun h=>⟨h.1,fun b hb=>by have:=h.2 b hb; simpa using this⟩
def leafB (x : Nd) : Bool:=byB x.by_ && decide (x.var = 0 ∧ x.n = 0 ∧ x.yes = 0 ∧ x.no = 0)
def ltr (v : Int) (x : Nd) : Bool:=decide (x.var = 0) || decide (v < x.var)
def innerA (l : List Nd) (x : Nd) : Prop:=1 ≤ x.var ∧ x.var ≤ 4 ∧ x.by_ = [] ∧ lo x.var < x.n ∧ x.n ≤ hi x.var ∧ 0 ≤ x.yes ∧ x.yes < l.length ∧ 0 ≤ x.no ∧ x.no < l.length ∧ x.yes ≠ x.no
instance (l : List Nd) (x : Nd) : Decidable (innerA l x):=by unfold innerA; infer_instance
def contB (x y : Nd) : Bool:=decide (y.var = x.var ∧ x.n < y.n ∧ y.no ≠ x.no)
def innerB (l : List Nd) (x : Nd) : Bool:=decide (innerA l x) && ltr x.var (ndA l x.z) && (ltr x.var (ndA l x.y) || contB x (ndA l x.y))
def ndB (l : List Nd) (x : Nd) : Bool:=leafB x || innerB l x
def checkT (l : List Nd) : Int:=if 4096 < l.length then 2 else if l.length = 0 then 160 else if (l.all (ndB l) && decide l.Nodup) = true then (if visO l 0 = List.range l.length then 0 else 160) else 160
structure Wf (l : List Nd) : Prop where
 ok : ∀ a,a < l.length → ndB l (ndA l a) = true
theorem ndA_mem {l : List Nd} {a : Nat} (h : a < l.length) : ndA l a ∈ l:=by
 unfold ndA
 rw [List.getD_eq_getElem?_getD,List.getElem?_eq_getElem h]; exact List.getElem_mem h
theorem ndA_get {l : List Nd} {a : Nat} (h : a < l.length) : ndA l a = l[a]:=by
 unfold ndA
 rw [List.getD_eq_getElem?_getD,List.getElem?_eq_getElem h]; rfl
theorem Wf.of {l : List Nd} (h : l.all (ndB l) = true) : Wf l:=⟨fun a ha=>List.all_eq_true.1 h _ (ndA_mem ha)⟩
structure Inn (l : List Nd) (x : Nd) : Prop where
 v1 : 1 ≤ x.var
 v4 : x.var ≤ 4
 by_ : x.by_ = []
 lo : lo x.var < x.n
 hi : x.n ≤ hi x.var
 y : 0 ≤ x.yes ∧ x.yes < l.length
 z : 0 ≤ x.no ∧ x.no < l.length
 ne : x.yes ≠ x.no
 zl : (ndA l x.z).var = 0 ∨ x.var < (ndA l x.z).var
 yl : ((ndA l x.y).var = 0 ∨ x.var < (ndA l x.y).var) ∨ ((ndA l x.y).var = x.var ∧ x.n < (ndA l x.y).n ∧ (ndA l x.y).no ≠ x.no)
theorem innerB_iff {l : List Nd} {x : Nd} : innerB l x = true ↔ Inn l x:=by
 unfold innerB ltr contB
 simp only [Bool.and_eq_true,Bool.or_eq_true,decide_eq_true_eq]
 unfold innerA
 constructor
 ·rintro ⟨⟨⟨h1,h2,h3,h4,h5,h6,h7,h8,h9,h10⟩,hz⟩,hy⟩
  exact ⟨h1,h2,h3,h4,h5,⟨h6,h7⟩,⟨h8,h9⟩,h10,hz,hy⟩
 ·exact fun h=>⟨⟨⟨h.v1,h.v4,h.by_,h.lo,h.hi,h.y.1,h.y.2,h.z.1,h.z.2,h.ne⟩,h.zl⟩,h.yl⟩
theorem Wf.cases {l : List Nd} (h : Wf l) {a : Nat} (ha : a < l.length) : ((ndA l a).var = 0 ∧ ByOk (ndA l a).by_ ∧ (ndA l a).n = 0 ∧ (ndA l a).yes = 0 ∧ (ndA l a).no = 0) ∨ ((ndA l a).var ≠ 0 ∧ Inn l (ndA l a)):=by
 have:=h.ok a ha
 unfold ndB at this
 rw [Bool.or_eq_true] at this
 rcases this with h1 | h1
 ·unfold leafB at h1
  rw [Bool.and_eq_true,decide_eq_true_eq] at h1
  exact .inl ⟨h1.2.1,byB_iff.1 h1.1,h1.2.2⟩
 ·have:=innerB_iff.1 h1
  exact .inr ⟨by have:=this.v1; omega,this⟩
theorem Wf.inn {l : List Nd} (h : Wf l) {a : Nat} (ha : a < l.length) (hv : (ndA l a).var ≠ 0) : Inn l (ndA l a):=by
 rcases h.cases ha with h | h
 ·exact absurd h.1 hv
 ·exact h.2
theorem Wf.closed {l : List Nd} (h : Wf l) : Closed l :=
 ⟨fun a ha hv=>by have:=(h.inn ha hv).y; unfold Nd.y; omega,fun a ha hv=>by have:=(h.inn ha hv).z; unfold Nd.z; omega⟩
structure ValidT (l : List Nd) : Prop where
 le : l.length ≤ 4096
 pos : 0 < l.length
 wf : Wf l
 nd : l.Nodup
 vis : VisL l [0] [] (List.range l.length)
theorem checkT_iff {l : List Nd} : checkT l = 0 ↔ ValidT l:=by
 constructor
 ·intro h
  unfold checkT at h
  by_cases h1 : 4096 < l.length
  ·rw [if_pos h1] at h; cases h
  rw [if_neg h1] at h
  by_cases h2 : l.length = 0
  ·rw [if_pos h2] at h; cases h
  rw [if_neg h2] at h
  by_cases h3 : (l.all (ndB l) && decide l.Nodup) = true
  ·rw [if_pos h3] at h
   by_cases h4 : visO l 0 = List.range l.length
   ·rw [Bool.and_eq_true,decide_eq_true_eq] at h3
    have hw:=Wf.of h3.1
    refine ⟨by omega,by omega,hw,h3.2,?_⟩
    rw [← h4]
    exact visO_vis hw.closed (by omega)
   ·rw [if_neg h4] at h; cases h
  ·rw [if_neg h3] at h; cases h
 ·intro h
  have h1:=h.le
  have h2:=h.pos
  unfold checkT
  rw [if_neg (by omega),if_neg (by omega),if_pos,if_pos]
  ·exact (visO_vis h.wf.closed h.pos).det h.vis
  ·rw [Bool.and_eq_true,decide_eq_true_eq,List.all_eq_true]
   refine ⟨fun x hx=>?_,h.nd⟩
   obtain ⟨i,hi,rfl⟩:=List.getElem_of_mem hx
   rw [← ndA_get hi]
   exact h.wf.ok i hi
theorem lo_ge (v : Int) : 0 ≤ lo v ∧ lo v ≤ 2:=by unfold lo; split <;> omega
theorem hi_le (v : Int) : hi v ≤ 46:=by
 unfold hi
 split
 ·omega
 ·split <;> omega
def rk (x : Nd) : Nat:=if x.var = 0 then 0 else ((5 - x.var) * 50 - x.n).toNat
theorem Wf.rk_le {l : List Nd} (h : Wf l) {a : Nat} (ha : a < l.length) : rk (ndA l a) ≤ 200:=by
 unfold rk
 split
 ·omega
 ·rename_i hv
  have:=h.inn ha hv
  have h1:=this.v1
  have h2:=this.lo
  have h3:=lo_ge (ndA l a).var
  omega
theorem Wf.yl {l : List Nd} (h : Wf l) {a : Nat} (ha : a < l.length) (hv : (ndA l a).var ≠ 0) : (ndA l a).y < l.length:=h.closed.y a ha hv
theorem Wf.zl {l : List Nd} (h : Wf l) {a : Nat} (ha : a < l.length) (hv : (ndA l a).var ≠ 0) : (ndA l a).z < l.length:=h.closed.z a ha hv
theorem Wf.rk_z {l : List Nd} (h : Wf l) {a : Nat} (ha : a < l.length) (hv : (ndA l a).var ≠ 0) : rk (ndA l (ndA l a).z) < rk (ndA l a):=by
 have hi:=h.inn ha hv
 have hz:=h.zl ha hv
 have h1:=hi.v4
 have h2:=hi.hi
 have h3:=hi_le (ndA l a).var
 unfold rk
 rw [if_neg hv]
 split
 ·omega
 ·rename_i hv'
  have hi':=h.inn hz hv'
  have h4:=hi'.lo
  have h5:=lo_ge (ndA l (ndA l a).z).var
  rcases hi.zl with h6 | h6
  ·exact absurd h6 hv'
  ·omega
theorem Wf.rk_y {l : List Nd} (h : Wf l) {a : Nat} (ha : a < l.length) (hv : (ndA l a).var ≠ 0) : rk (ndA l (ndA l a).y) < rk (ndA l a):=by
 have hi:=h.inn ha hv
 have hz:=h.yl ha hv
 have h1:=hi.v4
 have h2:=hi.hi
 have h3:=hi_le (ndA l a).var
 unfold rk
 rw [if_neg hv]
 split
 ·omega
 ·rename_i hv'
  have hi':=h.inn hz hv'
  have h4:=hi'.lo
  have h5:=lo_ge (ndA l (ndA l a).y).var
  have h7:=hi'.hi
  have h8:=hi_le (ndA l (ndA l a).y).var
  rcases hi.yl with (h6 | h6) | h6
  ·exact absurd h6 hv'
  ·omega
  ·omega
inductive T where
 | leaf (b : List Int)
 | node (v n : Int) (y z : T)
 deriving DecidableEq,Inhabited
def T.ev (x : En) : T → List Int
 | .leaf b=>b
 | .node v n y z=>if n ≤ valF v x then y.ev x else z.ev x
def unf (l : List Nd) : Nat → Nat → T
 | 0,a=>.leaf (ndA l a).by_
 | k + 1,a=>if (ndA l a).var = 0 then .leaf (ndA l a).by_ else .node (ndA l a).var (ndA l a).n (unf l k (ndA l a).y) (unf l k (ndA l a).z)
def un (l : List Nd) (a : Nat) : T:=unf l 200 a
theorem unf_fuel {l : List Nd} (h : Wf l) : ∀ (k j a : Nat),a < l.length → rk (ndA l a) ≤ k → rk (ndA l a) ≤ j → unf l k a = unf l j a
 | k,j,a,ha,hk,hj=>by
  by_cases hv : (ndA l a).var = 0
  ·cases k <;> cases j <;> simp only [unf,if_pos hv]
  ·have h1:=h.rk_y ha hv
   have h2:=h.rk_z ha hv
   match k,j,hk,hj with
   | 0,_,hk,_=>omega
   | _ + 1,0,_,hj=>omega
   | k + 1,j + 1,hk,hj =>
    simp only [unf,if_neg hv]
    rw [unf_fuel h k j _ (h.yl ha hv) (by omega) (by omega),unf_fuel h k j _ (h.zl ha hv) (by omega) (by omega)]
theorem un_leaf {l : List Nd} {a : Nat} (hv : (ndA l a).var = 0) : un l a = .leaf (ndA l a).by_:=by
 unfold un; rw [unf,if_pos hv]
theorem un_node {l : List Nd} (h : Wf l) {a : Nat} (ha : a < l.length) (hv : (ndA l a).var ≠ 0) : un l a = .node (ndA l a).var (ndA l a).n (un l (ndA l a).y) (un l (ndA l a).z):=by
 have h1:=h.rk_y ha hv
 have h2:=h.rk_z ha hv
 have h3:=h.rk_le ha
 unfold un
 rw [unf,if_neg hv,unf_fuel h 199 200 _ (h.yl ha hv) (by omega) (by omega),unf_fuel h 199 200 _ (h.zl ha hv) (by omega) (by omega)]
def nx (l : List Nd) (x : En) (a : Nat) : Nat:=if (ndA l a).n ≤ valF (ndA l a).var x then (ndA l a).y else (ndA l a).z
theorem Wf.nx_lt {l : List Nd} (h : Wf l) {x : En} {a : Nat} (ha : a < l.length) (hv : (ndA l a).var ≠ 0) : nx l x a < l.length:=by
 unfold nx; split
 ·exact h.yl ha hv
 ·exact h.zl ha hv
theorem Wf.rk_nx {l : List Nd} (h : Wf l) {x : En} {a : Nat} (ha : a < l.length) (hv : (ndA l a).var ≠ 0) : rk (ndA l (nx l x a)) < rk (ndA l a):=by
 unfold nx; split
 ·exact h.rk_y ha hv
 ·exact h.rk_z ha hv
theorem ev_node {l : List Nd} (h : Wf l) {x : En} {a : Nat} (ha : a < l.length) (hv : (ndA l a).var ≠ 0) : (un l a).ev x = (un l (nx l x a)).ev x:=by
 rw [un_node h ha hv,T.ev]
 unfold nx
 split <;> rfl
def rchF (l : List Nd) (node : Nat) : Nat → Nat → Bool
 | 0,a=>decide (a = node)
 | k + 1,a=>decide (a = node) || (decide ((ndA l a).var ≠ 0) && (rchF l node k (ndA l a).y || rchF l node k (ndA l a).z))
def rch (l : List Nd) (node a : Nat) : Bool:=rchF l node 200 a
theorem rchF_fuel {l : List Nd} (h : Wf l) (node : Nat) : ∀ (k j a : Nat),a < l.length → rk (ndA l a) ≤ k → rk (ndA l a) ≤ j → rchF l node k a = rchF l node j a
 | k,j,a,ha,hk,hj=>by
  by_cases hv : (ndA l a).var = 0
  ·cases k <;> cases j <;> simp [rchF,hv]
  ·have h1:=h.rk_y ha hv
   have h2:=h.rk_z ha hv
   match k,j,hk,hj with
   | 0,_,hk,_=>omega
   | _ + 1,0,_,hj=>omega
   | k + 1,j + 1,hk,hj =>
    simp only [rchF]
    rw [rchF_fuel h node k j _ (h.yl ha hv) (by omega) (by omega),rchF_fuel h node k j _ (h.zl ha hv) (by omega) (by omega)]
theorem rch_leaf {l : List Nd} {node a : Nat} (hv : (ndA l a).var = 0) : rch l node a = decide (a = node):=by
 unfold rch; rw [rchF]; simp [hv]
theorem rch_node {l : List Nd} (h : Wf l) {node a : Nat} (ha : a < l.length) (hv : (ndA l a).var ≠ 0) : rch l node a = (decide (a = node) || (rch l node (ndA l a).y || rch l node (ndA l a).z)):=by
 have h1:=h.rk_y ha hv
 have h2:=h.rk_z ha hv
 have h3:=h.rk_le ha
 unfold rch
 rw [rchF,rchF_fuel h node 199 200 _ (h.yl ha hv) (by omega) (by omega),rchF_fuel h node 199 200 _ (h.zl ha hv) (by omega) (by omega)]
 simp [hv]
theorem rch_self {l : List Nd} (node : Nat) : rch l node node = true:=by unfold rch; rw [rchF]; simp
def setE (x : En) (v n : Int) : En:=if v = 1 then { x with tied:=n } else if v = 2 then { x with round:=n } else if v = 3 then { x with fin:=n } else { x with clubs:=n }
theorem val_set {x : En} {v u n : Int} (hv : 1 ≤ v ∧ v ≤ 4) (hu : 1 ≤ u ∧ u ≤ 4) : valF u (setE x v n) = if u = v then n else valF u x:=by
 have h1 : v = 1 ∨ v = 2 ∨ v = 3 ∨ v = 4:=by omega
 have h2 : u = 1 ∨ u = 2 ∨ u = 3 ∨ u = 4:=by omega
 rcases h1 with rfl | rfl | rfl | rfl <;> rcases h2 with rfl | rfl | rfl | rfl <;> rfl
def greF (l : List Nd) (node : Nat) : Nat → Nat → En → En
 | 0,_,x=>x
 | k + 1,a,x=>if a = node then x else if rch l node (ndA l a).z = true then greF l node k (ndA l a).z x else greF l node k (ndA l a).y (setE x (ndA l a).var (ndA l a).n)
theorem greF_fuel {l : List Nd} (h : Wf l) (node : Nat) : ∀ (k j a : Nat) (x : En),rch l node a = true → a < l.length → rk (ndA l a) ≤ k → rk (ndA l a) ≤ j → greF l node k a x = greF l node j a x
 | k,j,a,x,hr,ha,hk,hj=>by
  by_cases e : a = node
  ·cases k <;> cases j <;> simp only [greF,if_pos e]
  ·by_cases hv : (ndA l a).var = 0
   ·rw [rch_leaf hv] at hr; exact absurd (of_decide_eq_true hr) e
   have h1:=h.rk_y ha hv
   have h2:=h.rk_z ha hv
   match k,j,hk,hj with
   | 0,_,hk,_=>omega
   | _ + 1,0,_,hj=>omega
   | k + 1,j + 1,hk,hj =>
    simp only [greF,if_neg e]
    split
    ·rename_i hz
     exact greF_fuel h node k j _ _ hz (h.zl ha hv) (by omega) (by omega)
    ·rename_i hz
     rw [rch_node h ha hv,decide_eq_false e,Bool.false_or,eq_false_of_ne_true hz,Bool.or_false] at hr
     exact greF_fuel h node k j _ _ hr (h.yl ha hv) (by omega) (by omega)
def gre (l : List Nd) (node a : Nat) (x : En) : En:=greF l node 200 a x
theorem gre_self {l : List Nd} (node : Nat) (x : En) : gre l node node x = x:=by unfold gre; rw [greF,if_pos rfl]
theorem gre_step {l : List Nd} (h : Wf l) {node a : Nat} {x : En} (hr : rch l node a = true) (ha : a < l.length) (e : a ≠ node) :
  (ndA l a).var ≠ 0 ∧ ((rch l node (ndA l a).z = true ∧ gre l node a x = gre l node (ndA l a).z x) ∨ (rch l node (ndA l a).z = false ∧ rch l node (ndA l a).y = true ∧ gre l node a x = gre l node (ndA l a).y (setE x (ndA l a).var (ndA l a).n))):=by
 have hv : (ndA l a).var ≠ 0:=fun hv=>by rw [rch_leaf hv] at hr; exact e (of_decide_eq_true hr)
 refine ⟨hv,?_⟩
 have h1:=h.rk_y ha hv
 have h2:=h.rk_z ha hv
 have h3:=h.rk_le ha
 by_cases hz : rch l node (ndA l a).z = true
 ·refine .inl ⟨hz,?_⟩
  unfold gre
  rw [greF,if_neg e,if_pos hz]
  exact greF_fuel h node 199 200 _ _ hz (h.zl ha hv) (by omega) (by omega)
 ·have hy : rch l node (ndA l a).y = true:=by
   rw [rch_node h ha hv,decide_eq_false e,Bool.false_or,eq_false_of_ne_true hz,Bool.or_false] at hr; exact hr
  refine .inr ⟨eq_false_of_ne_true hz,hy,?_⟩
  unfold gre
  rw [greF,if_neg e,if_neg hz]
  exact greF_fuel h node 199 200 _ _ hy (h.yl ha hv) (by omega) (by omega)
structure Fresh (l : List Nd) (a : Nat) (x : En) : Prop where
 at_ : (ndA l a).var ≠ 0 → valF (ndA l a).var x < (ndA l a).n
 late : ∀ u,1 ≤ u ∧ u ≤ 4 → (ndA l a).var < u → valF u x = lo u
theorem Fresh.z {l : List Nd} (h : Wf l) {a : Nat} {x : En} (ha : a < l.length) (hv : (ndA l a).var ≠ 0) (hf : Fresh l a x) (hvz : (ndA l (ndA l a).z).var ≠ 0) : Fresh l (ndA l a).z x:=by
 have hi:=h.inn ha hv
 have hiz:=h.inn (h.zl ha hv) hvz
 have hlt:=hi.zl.resolve_left hvz
 exact ⟨fun _=>by rw [hf.late _ ⟨hiz.v1,hiz.v4⟩ hlt]; exact hiz.lo,fun u hu h=>hf.late u hu (by omega)⟩
theorem Fresh.y {l : List Nd} (h : Wf l) {a : Nat} {x : En} (ha : a < l.length) (hv : (ndA l a).var ≠ 0) (hf : Fresh l a x) (hvz : (ndA l (ndA l a).y).var ≠ 0) : Fresh l (ndA l a).y (setE x (ndA l a).var (ndA l a).n):=by
 have hi:=h.inn ha hv
 have hiz:=h.inn (h.yl ha hv) hvz
 have hyl:=hi.yl
 refine ⟨fun _=>?_,fun u hu h=>?_⟩
 ·rw [val_set ⟨hi.v1,hi.v4⟩ ⟨hiz.v1,hiz.v4⟩]
  split
  ·omega
  ·rw [hf.late _ ⟨hiz.v1,hiz.v4⟩ (by omega)]; exact hiz.lo
 ·rw [val_set ⟨hi.v1,hi.v4⟩ hu,if_neg (by omega)]
  exact hf.late u hu (by omega)
def lows : En:=⟨2,0,0,2⟩
end Go.Proofs.YtclmjkhdmhlijaaGreatDoor
namespace Go.Proofs.YtclmjkhdmhlijaaGreatDoor
open Go.Tidy
theorem VisL.rch {l : List Nd} (h : Wf l) {st m f : List Nat} (hV : VisL l st m f) : (∀ a ∈ st,a < l.length) → ∀ b ∈ f,b ∈ m ∨ ∃ a ∈ st,rch l b a = true:=by
 induction hV with
 | nil m=>exact fun _ b hb=>.inl hb
 | @met a st m f _ _ ih =>
  intro hs b hb
  rcases ih (fun c hc=>hs c (by simp [hc])) b hb with h1 | ⟨c,hc,h1⟩
  ·exact .inl h1
  ·exact .inr ⟨c,by simp [hc],h1⟩
 | @leaf a st m f _ _ _ ih =>
  intro hs b hb
  rcases ih (fun c hc=>hs c (by simp [hc])) b hb with h1 | ⟨c,hc,h1⟩
  ·rcases List.mem_append.1 h1 with h1 | h1
   ·exact .inl h1
   ·rw [List.mem_singleton.1 h1]; exact .inr ⟨a,by simp,rch_self a⟩
  ·exact .inr ⟨c,by simp [hc],h1⟩
 | @node a st m f _ hv _ ih =>
  intro hs b hb
  have ha:=hs a (by simp)
  rcases ih (fun c hc=>by
   rcases List.mem_cons.1 hc with rfl | hc
   ·exact h.yl ha hv
   rcases List.mem_cons.1 hc with rfl | hc
   ·exact h.zl ha hv
   ·exact hs c (by simp [hc])) b hb with h1 | ⟨c,hc,h1⟩
  ·rcases List.mem_append.1 h1 with h1 | h1
   ·exact .inl h1
   ·rw [List.mem_singleton.1 h1]; exact .inr ⟨a,by simp,rch_self a⟩
  ·rcases List.mem_cons.1 hc with rfl | hc
   ·exact .inr ⟨a,by simp,by rw [rch_node h ha hv,h1]; simp⟩
   rcases List.mem_cons.1 hc with rfl | hc
   ·exact .inr ⟨a,by simp,by rw [rch_node h ha hv,h1]; simp⟩
   ·exact .inr ⟨c,by simp [hc],h1⟩
theorem ValidT.rch {l : List Nd} (h : ValidT l) {i : Nat} (hi : i < l.length) : rch l i 0 = true:=by
 rcases h.vis.rch h.wf (fun a ha=>by rw [List.mem_singleton.1 ha]; exact h.pos) i (List.mem_range.2 hi) with h1 | ⟨a,ha,h1⟩
 ·cases h1
 ·rw [List.mem_singleton.1 ha] at h1; exact h1
def put (F : List Nd) (x : Nd) : List Nd × Nat:=(if x ∈ F then F else F ++ [x],F.idxOf x)
theorem ndA_pre {F F' : List Nd} (h : F <+: F') {a : Nat} (ha : a < F.length) : ndA F' a = ndA F a:=by
 obtain ⟨s,rfl⟩:=h
 rw [ndA_get ha,ndA_get (by simp; omega),List.getElem_append_left ha]
theorem Inn.pre {F F' : List Nd} (h : F <+: F') {x : Nd} (hi : Inn F x) : Inn F' x:=by
 have hl:=h.length_le
 have hy : ndA F' x.y = ndA F x.y:=ndA_pre h (by have:=hi.y; unfold Nd.y; omega)
 have hz : ndA F' x.z = ndA F x.z:=ndA_pre h (by have:=hi.z; unfold Nd.z; omega)
 exact ⟨hi.v1,hi.v4,hi.by_,hi.lo,hi.hi,by have:=hi.y; omega,by have:=hi.z; omega,hi.ne,by rw [hz]; exact hi.zl,by rw [hy]; exact hi.yl⟩
theorem un_pre {F F' : List Nd} (h : F <+: F') (hF : Wf F) (hF' : Wf F') : ∀ (k a : Nat),rk (ndA F a) ≤ k → a < F.length → un F' a = un F a
 | k,a,hk,ha=>by
  have e:=ndA_pre h ha
  have ha':=Nat.lt_of_lt_of_le ha h.length_le
  by_cases hv : (ndA F a).var = 0
  ·rw [un_leaf hv,un_leaf (by rw [e]; exact hv),e]
  ·have h1:=hF.rk_y ha hv
   have h2:=hF.rk_z ha hv
   match k,hk with
   | 0,hk=>omega
   | k + 1,hk =>
    rw [un_node hF ha hv,un_node hF' ha' (by rw [e]; exact hv),e,un_pre h hF hF' k _ (by omega) (hF.yl ha hv),un_pre h hF hF' k _ (by omega) (hF.zl ha hv)]
structure Shf (F : List Nd) : Prop where
 wf : Wf F
 nd : F.Nodup
def Lf (x : Nd) : Prop:=x.var = 0 ∧ ByOk x.by_ ∧ x.n = 0 ∧ x.yes = 0 ∧ x.no = 0
theorem ndB_of {l : List Nd} {x : Nd} (h : Lf x ∨ Inn l x) : ndB l x = true:=by
 unfold ndB
 rw [Bool.or_eq_true]
 rcases h with h | h
 ·refine .inl ?_
  unfold leafB
  rw [Bool.and_eq_true,decide_eq_true_eq]
  exact ⟨byB_iff.2 h.2.1,h.1,h.2.2⟩
 ·exact .inr (innerB_iff.2 h)
theorem Wf.get {l : List Nd} (h : Wf l) {a : Nat} (ha : a < l.length) : Lf (ndA l a) ∨ Inn l (ndA l a):=by
 rcases h.cases ha with h | h
 ·exact .inl h
 ·exact .inr h.2
theorem put_shf {F : List Nd} (h : Shf F) {x : Nd} (hx : Lf x ∨ Inn F x) : Shf (put F x).1 ∧ F <+: (put F x).1 ∧ (put F x).2 < (put F x).1.length ∧ ndA (put F x).1 (put F x).2 = x:=by
 unfold put
 by_cases hm : x ∈ F
 ·have hi:=List.idxOf_lt_length_of_mem hm
  simp only [if_pos hm]
  exact ⟨h,List.prefix_refl _,hi,by rw [ndA_get hi]; exact List.getElem_idxOf hi⟩
 ·simp only [if_neg hm]
  have hi:=List.idxOf_eq_length hm
  have hp : F <+: F ++ [x]:=List.prefix_append _ _
  rw [hi]
  refine ⟨⟨⟨fun a ha=>?_⟩,?_⟩,hp,by simp,by rw [ndA_get (by simp)]; simp⟩
  ·by_cases e : a < F.length
   ·rw [ndA_pre hp e]
    exact ndB_of ((h.wf.get e).imp id (Inn.pre hp))
   ·have : a = F.length:=by simp at ha; omega
    subst this
    rw [ndA_get (by simp)]
    simp only [List.getElem_concat_length]
    exact ndB_of (hx.imp id (Inn.pre hp))
  ·exact List.nodup_append.2 ⟨h.nd,by simp,fun a ha b hb e=>hm (by rw [List.mem_singleton.1 hb] at e; exact e ▸ ha)⟩
def bldV (sub : En → List Nd → List Nd × Nat) (v : Int) (x : En) : List Int → List Nd → Option (Nat × Nat × Int) → List Nd × Nat
 | [],F,none=>(F,0)
 | [],F,some s=>(F,s.1)
 | n :: ns,F,none=>bldV sub v x ns (sub (setE x v n) F).1 (some ((sub (setE x v n) F).2,(sub (setE x v n) F).2,n))
 | n :: ns,F,some (t,f,m) =>
  if (sub (setE x v n) F).2 = f then bldV sub v x ns (sub (setE x v n) F).1 (some (t,f,n))
  else bldV sub v x ns (put (sub (setE x v n) F).1 ⟨v,m,t,(sub (setE x v n) F).2,[]⟩).1 (some ((put (sub (setE x v n) F).1 ⟨v,m,t,(sub (setE x v n) F).2,[]⟩).2,(sub (setE x v n) F).2,n))
def bld (g : En → List Int) : List (Int × List Int) → En → List Nd → List Nd × Nat
 | [],x,F=>put F ⟨0,0,0,0,g x⟩
 | (v,vs) :: r,x,F=>bldV (bld g r) v x vs.reverse F none
def flr : List Int → Int → Int
 | [],n=>n
 | [a],_=>a
 | a :: b :: r,n=>if a ≤ n then a else flr (b :: r) n
def rdE : List (Int × List Int) → En → En → En
 | [],x,_=>x
 | (v,vs) :: r,x,y=>rdE r (setE x v (flr vs.reverse (valF v y))) y
def topV : List (Int × List Int) → Int
 | []=>5
 | (v,_) :: _=>v
structure Bld (g : En → List Int) (r : List (Int × List Int)) (sub : En → List Nd → List Nd × Nat) : Prop where
 shf : ∀ x F,Shf F → Shf (sub x F).1
 pre : ∀ x F,Shf F → F <+: (sub x F).1
 lt : ∀ x F,Shf F → (sub x F).2 < (sub x F).1.length
 top : ∀ x F,Shf F → (ndA (sub x F).1 (sub x F).2).var = 0 ∨ topV r ≤ (ndA (sub x F).1 (sub x F).2).var
 ev : ∀ x F,Shf F → ∀ y,(un (sub x F).1 (sub x F).2).ev y = g (rdE r x y)
structure Mid (g : En → List Int) (r : List (Int × List Int)) (v : Int) (x : En) (F : List Nd) (t f : Nat) (m : Int) (fl : Int → Int) : Prop where
 shf : Shf F
 lt_t : t < F.length
 lt_f : f < F.length
 ft : (ndA F f).var = 0 ∨ v < (ndA F f).var
 tt : t = f ∨ ((ndA F t).var = v ∧ m < (ndA F t).n ∧ (ndA F t).no = f)
 evt : ∀ y,m ≤ valF v y → (un F t).ev y = g (rdE r (setE x v (fl (valF v y))) y)
 evl : ∀ y,valF v y < m → (un F t).ev y = (un F f).ev y
 evf : ∀ y,(un F f).ev y = g (rdE r (setE x v m) y)
theorem flr_cons {a b : Int} {r : List Int} {n : Int} : flr (a :: b :: r) n = if a ≤ n then a else flr (b :: r) n:=rfl
inductive Falls (least : Int) : Int → List Int → Prop
 | nil (m : Int) (h : least ≤ m) : Falls least m []
 | cons {m n : Int} {ns : List Int} (h : n < m) (hr : Falls least n ns) : Falls least m (n :: ns)
theorem Falls.ge {least m : Int} {ns : List Int} (h : Falls least m ns) : least ≤ m:=by
 induction h with
 | nil m h=>exact h
 | cons h _ ih=>omega
theorem Falls.mem {least m : Int} {ns : List Int} (h : Falls least m ns) : ∀ n ∈ ns,least ≤ n ∧ n < m:=by
 induction h with
 | nil m h=>intro n hn; cases hn
 | cons h hr ih =>
  intro k hk
  rcases List.mem_cons.1 hk with rfl | hk
  ·exact ⟨hr.ge,h⟩
  ·have:=ih k hk; omega
theorem bldV_ok {g : En → List Int} {r : List (Int × List Int)} {sub : En → List Nd → List Nd × Nat} (hs : Bld g r sub) {v : Int} (hv : 1 ≤ v ∧ v ≤ 4) (ht : v < topV r) (hr : ∀ p ∈ r,v < p.1 ∧ p.1 ≤ 4) (x : En) :
  ∀ (ns : List Int) (F : List Nd) (t f : Nat) (m : Int) (fl : Int → Int),Mid g r v x F t f m fl → m ≤ hi v → Falls (lo v) m ns →
   Shf (bldV sub v x ns F (some (t,f,m))).1 ∧ F <+: (bldV sub v x ns F (some (t,f,m))).1 ∧ (bldV sub v x ns F (some (t,f,m))).2 < (bldV sub v x ns F (some (t,f,m))).1.length ∧
   ((ndA (bldV sub v x ns F (some (t,f,m))).1 (bldV sub v x ns F (some (t,f,m))).2).var = 0 ∨ v ≤ (ndA (bldV sub v x ns F (some (t,f,m))).1 (bldV sub v x ns F (some (t,f,m))).2).var) ∧
   ∀ y,(un (bldV sub v x ns F (some (t,f,m))).1 (bldV sub v x ns F (some (t,f,m))).2).ev y = g (rdE r (setE x v (if m ≤ valF v y then fl (valF v y) else flr (m :: ns) (valF v y))) y)
 | [],F,t,f,m,fl,hm,hh,_=>by
  rw [bldV]
  refine ⟨hm.shf,List.prefix_refl _,hm.lt_t,?_,fun y=>?_⟩
  ·show (ndA F t).var = 0 ∨ v ≤ (ndA F t).var
   rcases hm.tt with e | e
   ·rw [e]; have:=hm.ft; omega
   ·right; omega
  ·show (un F t).ev y = _
   split
   ·rename_i h; exact hm.evt y h
   ·rename_i h; rw [hm.evl y (by omega),hm.evf]; rfl
 | n :: ns,F,t,f,m,fl,hm,hh,hf=>by
  cases hf with
  | cons hnm hf =>
  have s1:=hs.shf (setE x v n) F hm.shf
  have s2:=hs.pre (setE x v n) F hm.shf
  have s3:=hs.lt (setE x v n) F hm.shf
  have s4:=hs.top (setE x v n) F hm.shf
  have s5:=hs.ev (setE x v n) F hm.shf
  rw [bldV]
  generalize sub (setE x v n) F = P at *
  obtain ⟨F1,p⟩:=P
  simp only at s1 s2 s3 s4 s5 ⊢
  have ut : un F1 t = un F t:=un_pre s2 hm.shf.wf s1.wf _ t (zw21 _) hm.lt_t
  have uf : un F1 f = un F f:=un_pre s2 hm.shf.wf s1.wf _ f (zw21 _) hm.lt_f
  have nt:=ndA_pre s2 hm.lt_t
  have nf:=ndA_pre s2 hm.lt_f
  have hl:=s2.length_le
  have h1:=hm.lt_t
  have h2:=hm.lt_f
  have hfl : ∀ k,(if m ≤ k then fl k else flr (m :: n :: ns) k) = if n ≤ k then (if m ≤ k then fl k else n) else flr (n :: ns) k:=by
   intro k
   rw [flr_cons]
   by_cases c1 : m ≤ k
   ·rw [if_pos c1,if_pos (by omega),if_pos c1]
   ·rw [if_neg c1,if_neg c1]
    by_cases c2 : n ≤ k
    ·rw [if_pos c2,if_neg c1]
     cases ns with
     | nil=>rfl
     | cons b ns=>rw [flr_cons,if_pos c2]
    ·rw [if_neg c2]
  have hset : ∀ y,n ≤ valF v y → (un F1 p).ev y = g (rdE r (setE x v n) y):=fun y _=>s5 y
  by_cases hpf : p = f
  ·subst hpf
   rw [if_pos rfl]
   have hM : Mid g r v x F1 t p n (fun k=>if m ≤ k then fl k else n):=by
    refine ⟨s1,by omega,s3,by rw [nf]; exact hm.ft,?_,fun y hy=>?_,fun y hy=>?_,s5⟩
    ·rcases hm.tt with e | ⟨e1,e2,e3⟩
     ·exact .inl e
     ·exact .inr ⟨by rw [nt]; exact e1,by rw [nt]; omega,by rw [nt]; exact e3⟩
    ·split
     ·rename_i hc; rw [ut]; exact hm.evt y hc
     ·rename_i hc
      rw [ut,hm.evl y (by omega),← uf]
      exact s5 y
    ·rw [ut,uf]; exact hm.evl y (by omega)
   obtain ⟨r1,r2,r3,r4,r5⟩:=bldV_ok hs hv ht hr x ns F1 t p n _ hM (by omega) hf
   refine ⟨r1,s2.trans r2,r3,r4,fun y=>?_⟩
   rw [r5 y,hfl]
  ·rw [if_neg hpf]
   have hInn : Inn F1 ⟨v,m,t,p,[]⟩:=by
    have hlo:=hf.ge
    refine ⟨hv.1,hv.2,rfl,by show lo v < m; omega,hh,by show (0 : Int) ≤ (t : Int) ∧ (t : Int) < _; omega,by show (0 : Int) ≤ (p : Int) ∧ (p : Int) < _; omega,?_,?_,?_⟩
    ·show (t : Int) ≠ (p : Int)
     intro e
     have e : t = p:=by omega
     rcases hm.tt with e1 | ⟨e1,_,_⟩
     ·exact hpf (by omega)
     ·rw [e] at nt
      rw [e] at e1
      rw [nt,e1] at s4
      omega
    ·show (ndA F1 (Int.toNat (p : Int))).var = 0 ∨ v < (ndA F1 (Int.toNat (p : Int))).var
     rw [Int.toNat_natCast]
     omega
    ·show ((ndA F1 (Int.toNat (t : Int))).var = 0 ∨ v < (ndA F1 (Int.toNat (t : Int))).var) ∨ ((ndA F1 (Int.toNat (t : Int))).var = v ∧ m < (ndA F1 (Int.toNat (t : Int))).n ∧ (ndA F1 (Int.toNat (t : Int))).no ≠ (p : Int))
     rw [Int.toNat_natCast,nt]
     rcases hm.tt with e1 | ⟨e1,e2,e3⟩
     ·rw [e1]; exact .inl hm.ft
     ·exact .inr ⟨e1,e2,by rw [e3]; omega⟩
   obtain ⟨q1,q2,q3,q4⟩:=put_shf s1 (.inr hInn)
   generalize put F1 ⟨v,m,t,p,[]⟩ = Q at *
   obtain ⟨F2,q⟩:=Q
   simp only at q1 q2 q3 q4 ⊢
   have hl2:=q2.length_le
   have up : un F2 p = un F1 p:=un_pre q2 s1.wf q1.wf _ p (zw21 _) s3
   have ut2 : un F2 t = un F1 t:=un_pre q2 s1.wf q1.wf _ t (zw21 _) (by omega)
   have np:=ndA_pre q2 s3
   have hvq : (ndA F2 q).var ≠ 0:=by rw [q4]; show v ≠ 0; omega
   have uq : un F2 q = .node v m (un F t) (un F1 p):=by
    rw [un_node q1.wf q3 hvq,q4]
    show T.node v m (un F2 (Int.toNat (t : Int))) (un F2 (Int.toNat (p : Int))) = _
    rw [Int.toNat_natCast,Int.toNat_natCast,up,ut2,ut]
   have hM : Mid g r v x F2 q p n (fun k=>if m ≤ k then fl k else n):=by
    refine ⟨q1,q3,by omega,?_,.inr ⟨by rw [q4],by rw [q4]; exact hnm,by rw [q4]⟩,fun y hy=>?_,fun y hy=>?_,fun y=>by rw [up]; exact s5 y⟩
    ·rw [np]
     rcases s4 with h | h
     ·exact .inl h
     ·exact .inr (by omega)
    ·rw [uq,T.ev]
     by_cases c : m ≤ valF v y
     ·rw [if_pos c,if_pos c]; exact hm.evt y c
     ·rw [if_neg c,if_neg c]; exact s5 y
    ·rw [uq,T.ev,if_neg (by omega),up]
   obtain ⟨r1,r2,r3,r4,r5⟩:=bldV_ok hs hv ht hr x ns F2 q p n _ hM (by omega) hf
   refine ⟨r1,(s2.trans q2).trans r2,r3,r4,fun y=>?_⟩
   rw [r5 y,hfl]
structure Vals (v : Int) (vs : List Int) : Prop where
 ne : ∃ m ns,vs.reverse = m :: ns ∧ m ≤ hi v ∧ Falls (lo v) m ns
theorem bld_step {g : En → List Int} {r : List (Int × List Int)} (hs : Bld g r (bld g r)) {v : Int} (hv : 1 ≤ v ∧ v ≤ 4) (ht : v < topV r) (hr : ∀ p ∈ r,v < p.1 ∧ p.1 ≤ 4) {vs : List Int} (hvs : Vals v vs) : Bld g ((v,vs) :: r) (bld g ((v,vs) :: r)):=by
 obtain ⟨m,ns,e,hm,hf⟩:=hvs.ne
 have key : ∀ x F,Shf F → Shf (bld g ((v,vs) :: r) x F).1 ∧ F <+: (bld g ((v,vs) :: r) x F).1 ∧ (bld g ((v,vs) :: r) x F).2 < (bld g ((v,vs) :: r) x F).1.length ∧
   ((ndA (bld g ((v,vs) :: r) x F).1 (bld g ((v,vs) :: r) x F).2).var = 0 ∨ v ≤ (ndA (bld g ((v,vs) :: r) x F).1 (bld g ((v,vs) :: r) x F).2).var) ∧
   ∀ y,(un (bld g ((v,vs) :: r) x F).1 (bld g ((v,vs) :: r) x F).2).ev y = g (rdE ((v,vs) :: r) x y):=by
  intro x F hF
  rw [bld,e,bldV]
  have s1:=hs.shf (setE x v m) F hF
  have s2:=hs.pre (setE x v m) F hF
  have s3:=hs.lt (setE x v m) F hF
  have s4:=hs.top (setE x v m) F hF
  have s5:=hs.ev (setE x v m) F hF
  generalize bld g r (setE x v m) F = P at *
  obtain ⟨F1,p⟩:=P
  simp only at s1 s2 s3 s4 s5 ⊢
  have hlt : (ndA F1 p).var = 0 ∨ v < (ndA F1 p).var:=by omega
  have hM : Mid g r v x F1 p p m (fun _=>m):=⟨s1,s3,s3,hlt,.inl rfl,fun y _=>s5 y,fun y _=>rfl,s5⟩
  obtain ⟨r1,r2,r3,r4,r5⟩:=bldV_ok hs hv ht hr x ns F1 p p m _ hM hm hf
  refine ⟨r1,s2.trans r2,r3,r4,fun y=>?_⟩
  rw [r5 y,rdE,e]
  have : (if m ≤ valF v y then m else flr (m :: ns) (valF v y)) = flr (m :: ns) (valF v y):=by
   split
   ·rename_i c
    cases ns with
    | nil=>rfl
    | cons b ns=>rw [flr_cons,if_pos c]
   ·rfl
  rw [this]
 exact ⟨fun x F h=>(key x F h).1,fun x F h=>(key x F h).2.1,fun x F h=>(key x F h).2.2.1,fun x F h=>(key x F h).2.2.2.1,fun x F h=>(key x F h).2.2.2.2⟩
theorem bld_nil {g : En → List Int} (hg : ∀ x,ByOk (g x)) : Bld g [] (bld g []):=by
 have key : ∀ x F,Shf F → _:=fun x F h=>put_shf (F:=F) h (x:=⟨0,0,0,0,g x⟩) (.inl ⟨rfl,hg x,rfl,rfl,rfl⟩)
 refine ⟨fun x F h=>(key x F h).1,fun x F h=>(key x F h).2.1,fun x F h=>(key x F h).2.2.1,fun x F h=>.inl ?_,fun x F h y=>?_⟩
 ·rw [bld,(key x F h).2.2.2]
 ·rw [bld,un_leaf (by rw [(key x F h).2.2.2]),(key x F h).2.2.2]; rfl
def vlist (a b c d : List Int) : List (Int × List Int):=[(1,a),(2,b),(3,c),(4,d)]
theorem bld_ok {g : En → List Int} (hg : ∀ x,ByOk (g x)) {a b c d : List Int} (ha : Vals 1 a) (hb : Vals 2 b) (hc : Vals 3 c) (hd : Vals 4 d) : Bld g (vlist a b c d) (bld g (vlist a b c d)):=by
 have h4:=bld_step (bld_nil hg) (v:=4) (by decide) (by decide) (by simp) hd
 have h3:=bld_step h4 (v:=3) (by decide) (show (3 : Int) < 4 by decide) (by simp) hc
 have h2:=bld_step h3 (v:=2) (by decide) (show (2 : Int) < 3 by decide) (by simp) hb
 exact bld_step h2 (v:=1) (by decide) (show (1 : Int) < 2 by decide) (by simp) ha
end Go.Proofs.YtclmjkhdmhlijaaGreatDoor
namespace Go.Proofs.YtclmjkhdmhlijaaGreatDoor
open Go.Tidy
def ren (o : List Nat) (x : Nd) : Nd:=if x.var = 0 then x else ⟨x.var,x.n,(o.idxOf x.y : Nat),(o.idxOf x.z : Nat),x.by_⟩
def renum (F : List Nd) (o : List Nat) : List Nd:=o.map fun a=>ren o (ndA F a)
theorem ren_var (o : List Nat) (x : Nd) : (ren o x).var = x.var:=by unfold ren; split <;> rfl
theorem ren_n (o : List Nat) (x : Nd) : (ren o x).n = x.n:=by unfold ren; split <;> rfl
theorem ren_by (o : List Nat) (x : Nd) : (ren o x).by_ = x.by_:=by unfold ren; split <;> rfl
theorem ren_y {o : List Nat} {x : Nd} (h : x.var ≠ 0) : (ren o x).y = o.idxOf x.y:=by unfold ren; rw [if_neg h]; show Int.toNat ((_ : Nat) : Int) = _; rw [Int.toNat_natCast]
theorem ren_z {o : List Nat} {x : Nd} (h : x.var ≠ 0) : (ren o x).z = o.idxOf x.z:=by unfold ren; rw [if_neg h]; show Int.toNat ((_ : Nat) : Int) = _; rw [Int.toNat_natCast]
theorem VisL.map {F t : List Nd} (φ : Nat → Nat) (S : Nat → Prop) (hinj : ∀ a b,S a → S b → φ a = φ b → a = b)
  (hn : ∀ a,S a → (ndA t (φ a)).var = (ndA F a).var ∧ ((ndA F a).var ≠ 0 → (ndA t (φ a)).y = φ (ndA F a).y ∧ (ndA t (φ a)).z = φ (ndA F a).z ∧ S (ndA F a).y ∧ S (ndA F a).z))
  {st m f : List Nat} (h : VisL F st m f) : (∀ a ∈ st,S a) → (∀ a ∈ m,S a) → VisL t (st.map φ) (m.map φ) (f.map φ):=by
 have mem : ∀ {a : Nat} {m : List Nat},S a → (∀ b ∈ m,S b) → (φ a ∈ m.map φ → a ∈ m):=fun ha hm hx=>by
  obtain ⟨b,hb,e⟩:=List.mem_map.1 hx
  exact hinj _ _ (hm b hb) ha e ▸ hb
 induction h with
 | nil m=>exact fun _ _=>.nil _
 | met h hr ih =>
  intro hs hm
  exact .met (List.mem_map.2 ⟨_,h,rfl⟩) (ih (fun b hb=>hs b (by simp [hb])) hm)
 | @leaf a st m f h hv hr ih =>
  intro hs hm
  have ha:=hs a (by simp)
  have:=ih (fun b hb=>hs b (by simp [hb])) fun b hb=>by
   rcases List.mem_append.1 hb with hb | hb
   ·exact hm b hb
   ·rw [List.mem_singleton.1 hb]; exact ha
  rw [List.map_append] at this
  exact .leaf (fun hx=>h (mem ha hm hx)) (by rw [(hn a ha).1]; exact hv) this
 | @node a st m f h hv hr ih =>
  intro hs hm
  have ha:=hs a (by simp)
  obtain ⟨h1,h2⟩:=hn a ha
  obtain ⟨h3,h4,h5,h6⟩:=h2 hv
  have:=ih (fun b hb=>by
   rcases List.mem_cons.1 hb with rfl | hb
   ·exact h5
   rcases List.mem_cons.1 hb with rfl | hb
   ·exact h6
   ·exact hs b (by simp [hb])) fun b hb=>by
   rcases List.mem_append.1 hb with hb | hb
   ·exact hm b hb
   ·rw [List.mem_singleton.1 hb]; exact ha
  rw [List.map_append,List.map_cons,List.map_cons,← h3,← h4] at this
  exact .node (fun hx=>h (mem ha hm hx)) (by rw [h1]; exact hv) this
theorem nd_inj {α : Type} {l : List α} (h : l.Nodup) {i j : Nat} (hi : i < l.length) (hj : j < l.length) (e : l[i] = l[j]) : i = j:=by
 rcases Nat.lt_trichotomy i j with h1 | h1 | h1
 ·exact absurd e (List.pairwise_iff_getElem.1 (List.nodup_iff_pairwise_ne.1 h) i j hi hj h1)
 ·exact h1
 ·exact absurd e.symm (List.pairwise_iff_getElem.1 (List.nodup_iff_pairwise_ne.1 h) j i hj hi h1)
theorem idx_inj {o : List Nat} {a b : Nat} (ha : a ∈ o) (h : o.idxOf a = o.idxOf b) : a = b:=by
 have h1:=List.idxOf_lt_length_of_mem ha
 have h2 : o.idxOf b < o.length:=h ▸ h1
 have e1 : o[o.idxOf a] = a:=List.getElem_idxOf h1
 have e2 : o[o.idxOf b] = b:=List.getElem_idxOf h2
 rw [← e1,← e2]
 congr 1
theorem idx_get {o : List Nat} (hn : o.Nodup) {i : Nat} (hi : i < o.length) : o.idxOf o[i] = i:=by
 have h1:=List.idxOf_lt_length_of_mem (List.getElem_mem hi)
 have e1 : o[o.idxOf o[i]] = o[i]:=List.getElem_idxOf h1
 exact nd_inj hn _ _ e1
theorem renum_at {F : List Nd} {o : List Nat} {a : Nat} (ha : a ∈ o) : ndA (renum F o) (o.idxOf a) = ren o (ndA F a):=by
 have h1:=List.idxOf_lt_length_of_mem ha
 rw [ndA_get (by unfold renum; simpa using h1)]
 unfold renum
 rw [List.getElem_map,List.getElem_idxOf h1]
theorem VisL.first {F : List Nd} {root : Nat} {o : List Nat} (h : VisL F [root] [] o) : ∃ r,o = root :: r:=by
 have : [root] <+: o:=by
  cases h with
  | met h=>cases h
  | leaf _ _ h=>exact h.pre
  | node _ _ h=>exact h.pre
 obtain ⟨r,e⟩:=this
 exact ⟨r,e.symm⟩
theorem nat_int {a b : Int} (ha : 0 ≤ a) (hb : 0 ≤ b) (h : a.toNat = b.toNat) : a = b:=by omega
theorem renum_ok {F : List Nd} (hF : Shf F) {root : Nat} (hr : root < F.length) {o : List Nat} (hV : VisL F [root] [] o) (hl : o.length ≤ 4096) :
  ValidT (renum F o) ∧ ∀ y,(un (renum F o) 0).ev y = (un F root).ev y:=by
 have hm : MetOk F.length o:=hV.metok hF.wf.closed (fun a ha=>by rw [List.mem_singleton.1 ha]; exact hr) ⟨List.nodup_nil,fun a ha=>by cases ha⟩
 have hk:=hV.kids (fun a ha=>by cases ha)
 have len : (renum F o).length = o.length:=by unfold renum; simp
 obtain ⟨r,ho⟩:=hV.first
 have h0 : o.idxOf root = 0:=by rw [ho]; simp
 have hroot : root ∈ o:=by rw [ho]; simp
 have inn : ∀ a ∈ o,(ndA F a).var ≠ 0 → Inn F (ndA F a):=fun a ha hv=>hF.wf.inn (hm.lt a ha) hv
 have lt : ∀ a ∈ o,o.idxOf a < o.length:=fun a ha=>List.idxOf_lt_length_of_mem ha
 have hwf : Wf (renum F o):=by
  refine ⟨fun i hi=>?_⟩
  rw [len] at hi
  have ha : o[i] ∈ o:=List.getElem_mem hi
  have e : ndA (renum F o) i = ren o (ndA F o[i]):=by
   have:=renum_at (F:=F) ha
   rwa [idx_get hm.nd hi] at this
  rw [e]
  generalize o[i] = a at ha
  by_cases hv : (ndA F a).var = 0
  ·unfold ren; rw [if_pos hv]
   refine ndB_of (.inl ?_)
   rcases hF.wf.get (hm.lt a ha) with h | h
   ·exact h
   ·have:=h.v1; omega
  ·have hi:=inn a ha hv
   obtain ⟨ky,kz⟩:=hk a ha hv
   have ly:=lt _ ky
   have lz:=lt _ kz
   refine ndB_of (.inr ⟨by rw [ren_var]; exact hi.v1,by rw [ren_var]; exact hi.v4,by rw [ren_by]; exact hi.by_,by rw [ren_var,ren_n]; exact hi.lo,by rw [ren_var,ren_n]; exact hi.hi,?_,?_,?_,?_,?_⟩)
   ·unfold ren; rw [if_neg hv,len]; show (0 : Int) ≤ ((_ : Nat) : Int) ∧ ((_ : Nat) : Int) < _; omega
   ·unfold ren; rw [if_neg hv,len]; show (0 : Int) ≤ ((_ : Nat) : Int) ∧ ((_ : Nat) : Int) < _; omega
   ·unfold ren; rw [if_neg hv]
    show ((_ : Nat) : Int) ≠ ((_ : Nat) : Int)
    intro e
    have:=idx_inj (b:=(ndA F a).z) ky (by omega)
    exact hi.ne (nat_int hi.y.1 hi.z.1 this)
   ·rw [ren_z hv,renum_at kz,ren_var,ren_var]; exact hi.zl
   ·rw [ren_y hv,renum_at ky,ren_var,ren_var,ren_n,ren_n]
    rcases hi.yl with h | ⟨h1,h2,h3⟩
    ·exact .inl h
    ·refine .inr ⟨h1,h2,?_⟩
     have hvy : (ndA F (ndA F a).y).var ≠ 0:=by rw [h1]; exact hv
     have kyz:=(hk _ ky hvy).2
     have hiy:=inn _ ky hvy
     unfold ren
     rw [if_neg hv,if_neg hvy]
     show ((_ : Nat) : Int) ≠ ((_ : Nat) : Int)
     intro e
     have:=idx_inj (b:=(ndA F a).z) kyz (by omega)
     exact h3 (nat_int hiy.z.1 hi.z.1 this)
 have hun : ∀ (k a : Nat),a ∈ o → rk (ndA F a) ≤ k → un (renum F o) (o.idxOf a) = un F a:=by
  intro k
  induction k with
  | zero =>
   intro a ha hk0
   by_cases hv : (ndA F a).var = 0
   ·rw [un_leaf hv,un_leaf (by rw [renum_at ha,ren_var]; exact hv),renum_at ha,ren_by]
   ·have:=hF.wf.rk_y (hm.lt a ha) hv; omega
  | succ k ih =>
   intro a ha hk0
   by_cases hv : (ndA F a).var = 0
   ·rw [un_leaf hv,un_leaf (by rw [renum_at ha,ren_var]; exact hv),renum_at ha,ren_by]
   ·obtain ⟨ky,kz⟩:=hk a ha hv
    have h1:=hF.wf.rk_y (hm.lt a ha) hv
    have h2:=hF.wf.rk_z (hm.lt a ha) hv
    rw [un_node hF.wf (hm.lt a ha) hv,un_node hwf (by rw [len]; exact lt a ha) (by rw [renum_at ha,ren_var]; exact hv),renum_at ha,ren_var,ren_n,ren_y hv,ren_z hv,ih _ ky (by omega),ih _ kz (by omega)]
 refine ⟨⟨by rw [len]; exact hl,by rw [len,ho]; simp,hwf,?_,?_⟩,fun y=>?_⟩
 ·unfold renum
  rw [List.nodup_iff_pairwise_ne,List.pairwise_map]
  refine (List.nodup_iff_pairwise_ne.1 hm.nd).imp_of_mem ?_
  intro a b ha hb hab e
  apply hab
  have hv : (ndA F a).var = (ndA F b).var:=by rw [← ren_var o (ndA F a),e,ren_var]
  have key : ndA F a = ndA F b:=by
   by_cases h : (ndA F a).var = 0
   ·unfold ren at e; rw [if_pos h,if_pos (by rw [← hv]; exact h)] at e; exact e
   ·have h' : (ndA F b).var ≠ 0:=by rw [← hv]; exact h
    have i1:=inn a ha h
    have i2:=inn b hb h'
    obtain ⟨ky,kz⟩:=hk a ha h
    have e1:=congrArg Nd.n e
    have e2:=congrArg Nd.y e
    have e3:=congrArg Nd.z e
    rw [ren_n,ren_n] at e1
    rw [ren_y h,ren_y h'] at e2
    rw [ren_z h,ren_z h'] at e3
    have e4:=nat_int i1.y.1 i2.y.1 (idx_inj ky e2)
    have e5:=nat_int i1.z.1 i2.z.1 (idx_inj kz e3)
    have e6 : (ndA F a).by_ = (ndA F b).by_:=by rw [i1.by_,i2.by_]
    generalize ndA F a = p at *
    generalize ndA F b = q at *
    cases p; cases q; simp_all
  rw [ndA_get (hm.lt a ha),ndA_get (hm.lt b hb)] at key
  exact nd_inj hF.nd _ _ key
 ·have hv:=VisL.map (t:=renum F o) o.idxOf (· ∈ o) (fun a b ha _ e=>idx_inj ha e) (fun a ha=>⟨by rw [renum_at ha,ren_var],fun hv=>by
   rw [renum_at ha,ren_y hv,ren_z hv]
   exact ⟨rfl,rfl,hk a ha hv⟩⟩) hV (fun a ha=>by rw [List.mem_singleton.1 ha]; exact hroot) (fun a ha=>by cases ha)
  rw [List.map_singleton,h0,List.map_nil] at hv
  have : o.map o.idxOf = List.range (renum F o).length:=by
   refine List.ext_getElem (by rw [len]; simp) fun i h1 h2=>?_
   rw [List.getElem_map,List.getElem_range,idx_get hm.nd]
  rw [this] at hv
  exact hv
 ·have:=hun _ root hroot (zw21 _)
  rw [h0] at this
  rw [this]
def bndB : List (Int × List Int) → Nat
 | []=>1
 | (_,vs) :: r=>vs.length * (bndB r + 1)
theorem put_len (F : List Nd) (x : Nd) : (put F x).1.length ≤ F.length + 1:=by
 unfold put; simp only; split <;> simp
theorem bldV_len {sub : En → List Nd → List Nd × Nat} {b : Nat} (hs : ∀ x F,(sub x F).1.length ≤ F.length + b) (v : Int) (x : En) : ∀ (ns : List Int) (F : List Nd) (s : Option (Nat × Nat × Int)),(bldV sub v x ns F s).1.length ≤ F.length + ns.length * (b + 1)
 | [],F,none=>by rw [bldV]; simp
 | [],F,some s=>by rw [bldV]; simp
 | n :: ns,F,none=>by
  rw [bldV]
  have h1:=bldV_len hs v x ns (sub (setE x v n) F).1 (some ((sub (setE x v n) F).2,(sub (setE x v n) F).2,n))
  have h2:=hs (setE x v n) F
  rw [List.length_cons,Nat.succ_mul]
  omega
 | n :: ns,F,some (t,f,m)=>by
  rw [bldV]
  have h2:=hs (setE x v n) F
  split
  ·have h1:=bldV_len hs v x ns (sub (setE x v n) F).1 (some (t,f,n))
   rw [List.length_cons,Nat.succ_mul]
   omega
  ·have h1:=bldV_len hs v x ns (put (sub (setE x v n) F).1 ⟨v,m,t,(sub (setE x v n) F).2,[]⟩).1 (some ((put (sub (setE x v n) F).1 ⟨v,m,t,(sub (setE x v n) F).2,[]⟩).2,(sub (setE x v n) F).2,n))
   have h3:=put_len (sub (setE x v n) F).1 ⟨v,m,t,(sub (setE x v n) F).2,[]⟩
   rw [List.length_cons,Nat.succ_mul]
   omega
theorem bld_len (g : En → List Int) : ∀ (r : List (Int × List Int)) (x : En) (F : List Nd),(bld g r x F).1.length ≤ F.length + bndB r
 | [],x,F=>put_len F _
 | (v,vs) :: r,x,F=>by
  have:=bldV_len (bld_len g r) v x vs.reverse F none
  rw [List.length_reverse] at this
  exact this
theorem bnd_few {a b c d : List Int} (ha : 0 < a.length) (hb : 0 < b.length) (hc : 0 < c.length) (h : a.length * b.length * c.length * d.length ≤ 300) (hd : 0 < d.length) : bndB (vlist a b c d) ≤ 1500:=by
 show a.length * (b.length * (c.length * (d.length * (1 + 1) + 1) + 1) + 1) ≤ 1500
 generalize a.length = p at *
 generalize b.length = q at *
 generalize c.length = r at *
 generalize d.length = s at *
 have h1 : p ≤ p * q * r * s:=by
  have : p * 1 ≤ p * (q * r * s):=Nat.mul_le_mul_left p (Nat.mul_pos (Nat.mul_pos hb hc) hd)
  simpa [Nat.mul_assoc] using this
 have h2 : p * q ≤ p * q * r * s:=by
  have : p * q * 1 ≤ p * q * (r * s):=Nat.mul_le_mul_left _ (Nat.mul_pos hc hd)
  simpa [Nat.mul_assoc] using this
 have h3 : p * q * r ≤ p * q * r * s:=by
  have : p * q * r * 1 ≤ p * q * r * s:=Nat.mul_le_mul_left _ hd
  simpa using this
 have e : p * (q * (r * (s * (1 + 1) + 1) + 1) + 1) = 2 * (p * q * r * s) + p * q * r + p * q + p:=by
  simp only [Nat.mul_add,Nat.mul_one,Nat.mul_assoc]
  omega
 omega
def cmpO (g : En → List Int) (a b c d : List Int) : List Nat:=visO (bld g (vlist a b c d) ⟨0,0,0,0⟩ []).1 (bld g (vlist a b c d) ⟨0,0,0,0⟩ []).2
def cmpT (g : En → List Int) (a b c d : List Int) : List Nd:=renum (bld g (vlist a b c d) ⟨0,0,0,0⟩ []).1 (cmpO g a b c d)
theorem shf_nil : Shf []:=⟨⟨fun a ha=>absurd ha (Nat.not_lt_zero a)⟩,List.nodup_nil⟩
theorem cmp_vis {g : En → List Int} (hg : ∀ x,ByOk (g x)) {a b c d : List Int} (ha : Vals 1 a) (hb : Vals 2 b) (hc : Vals 3 c) (hd : Vals 4 d) : Shf (bld g (vlist a b c d) ⟨0,0,0,0⟩ []).1 ∧ (bld g (vlist a b c d) ⟨0,0,0,0⟩ []).2 < (bld g (vlist a b c d) ⟨0,0,0,0⟩ []).1.length ∧
  VisL (bld g (vlist a b c d) ⟨0,0,0,0⟩ []).1 [(bld g (vlist a b c d) ⟨0,0,0,0⟩ []).2] [] (cmpO g a b c d):=by
 have hB:=bld_ok hg ha hb hc hd
 have h1:=hB.shf ⟨0,0,0,0⟩ [] shf_nil
 have h2:=hB.lt ⟨0,0,0,0⟩ [] shf_nil
 exact ⟨h1,h2,visO_vis h1.wf.closed h2⟩
theorem cmp_ok {g : En → List Int} (hg : ∀ x,ByOk (g x)) {a b c d : List Int} (ha : Vals 1 a) (hb : Vals 2 b) (hc : Vals 3 c) (hd : Vals 4 d) (hl : (cmpO g a b c d).length ≤ 4096) :
  ValidT (cmpT g a b c d) ∧ ∀ y,(un (cmpT g a b c d) 0).ev y = g (rdE (vlist a b c d) ⟨0,0,0,0⟩ y):=by
 obtain ⟨h1,h2,h3⟩:=cmp_vis hg ha hb hc hd
 obtain ⟨h4,h5⟩:=renum_ok h1 h2 h3 hl
 exact ⟨h4,fun y=>by rw [cmpT,h5 y,(bld_ok hg ha hb hc hd).ev _ _ shf_nil y]⟩
theorem cmp_len {g : En → List Int} (hg : ∀ x,ByOk (g x)) {a b c d : List Int} (ha : Vals 1 a) (hb : Vals 2 b) (hc : Vals 3 c) (hd : Vals 4 d) (h : a.length * b.length * c.length * d.length ≤ 300) : (cmpO g a b c d).length ≤ 1500:=by
 obtain ⟨h1,h2,h3⟩:=cmp_vis hg ha hb hc hd
 have hm : MetOk _ _:=h3.metok h1.wf.closed (fun a ha=>by rw [List.mem_singleton.1 ha]; exact h2) ⟨List.nodup_nil,fun a ha=>by cases ha⟩
 have hn : ∀ {v : Int} {vs : List Int},Vals v vs → 0 < vs.length:=fun h=>by
  obtain ⟨m,ns,e,_⟩:=h.ne
  have:=congrArg List.length e
  simp at this; omega
 have:=bld_len g (vlist a b c d) ⟨0,0,0,0⟩ []
 have h5:=bnd_few (hn ha) (hn hb) (hn hc) h (hn hd)
 have h6:=hm.len
 simp only [List.length_nil] at this
 omega
end Go.Proofs.YtclmjkhdmhlijaaGreatDoor
namespace Go.Proofs.YtclmjkhdmhlijaaGreatDoor
open Go.Tidy
theorem un_inj {l : List Nd} (h : Wf l) (hn : l.Nodup) : ∀ (k a b : Nat),rk (ndA l a) ≤ k → a < l.length → b < l.length → un l a = un l b → a = b
 | k,a,b,hk,ha,hb,e=>by
  have fin : ndA l a = ndA l b → a = b:=fun e=>by
   rw [ndA_get ha,ndA_get hb] at e
   exact nd_inj hn _ _ e
  by_cases hv : (ndA l a).var = 0
  ·rw [un_leaf hv] at e
   by_cases hv' : (ndA l b).var = 0
   ·rw [un_leaf hv'] at e
    injection e with e
    have c1:=(h.cases ha).resolve_right (fun h=>h.1 hv)
    have c2:=(h.cases hb).resolve_right (fun h=>h.1 hv')
    apply fin
    generalize ndA l a = p at *
    generalize ndA l b = q at *
    cases p; cases q; simp_all
   ·rw [un_node h hb hv'] at e; cases e
  ·rw [un_node h ha hv] at e
   by_cases hv' : (ndA l b).var = 0
   ·rw [un_leaf hv'] at e; cases e
   ·rw [un_node h hb hv'] at e
    injection e with e1 e2 e3 e4
    have h1:=h.rk_y ha hv
    have h2:=h.rk_z ha hv
    match k,hk with
    | 0,hk=>omega
    | k + 1,hk =>
     have e3:=un_inj h hn k _ _ (by omega) (h.yl ha hv) (h.yl hb hv') e3
     have e4:=un_inj h hn k _ _ (by omega) (h.zl ha hv) (h.zl hb hv') e4
     have i1:=h.inn ha hv
     have i2:=h.inn hb hv'
     have e5:=nat_int i1.y.1 i2.y.1 e3
     have e6:=nat_int i1.z.1 i2.z.1 e4
     have e7 : (ndA l a).by_ = (ndA l b).by_:=by rw [i1.by_,i2.by_]
     apply fin
     generalize ndA l a = p at *
     generalize ndA l b = q at *
     cases p; cases q; simp_all
def T.top : T → Int
 | .leaf _=>5
 | .node v _ _ _=>v
def T.sz : T → Nat
 | .leaf _=>1
 | .node _ _ y z=>1 + y.sz + z.sz
def T.piece (v : Int) : T → T
 | .leaf b=>.leaf b
 | .node u n y z=>if u = v then z else .node u n y z
inductive Red : T → Prop
 | leaf (b : List Int) : Red (.leaf b)
 | node {v n : Int} {y z : T} (hv : 1 ≤ v ∧ v ≤ 4) (hn : lo v < n ∧ n ≤ hi v) (hz : v < z.top) (hy : v < y.top ∨ ∃ m y' z',y = .node v m y' z' ∧ n < m) (hp : y.piece v ≠ z) (ry : Red y) (rz : Red z) : Red (.node v n y z)
def Box (y : En) : Prop:=∀ u,1 ≤ u ∧ u ≤ 4 → lo u ≤ valF u y ∧ valF u y ≤ hi u
theorem Box.set {y : En} (h : Box y) {v n : Int} (hv : 1 ≤ v ∧ v ≤ 4) (hn : lo v ≤ n ∧ n ≤ hi v) : Box (setE y v n):=fun u hu=>by
 rw [val_set hv hu]
 split
 ·rename_i e; rw [e]; exact hn
 ·exact h u hu
theorem VisL.other {l m : List Nd} (hl : Wf l) (hln : l.Nodup) (hm : Wf m) (hmn : m.Nodup) {st mt f : List Nat} (h : VisL l st mt f) : ∀ st' mt',st.map (un l) = st'.map (un m) → mt.map (un l) = mt'.map (un m) →
  (∀ a ∈ st,a < l.length) → (∀ a ∈ mt,a < l.length) → (∀ a ∈ st',a < m.length) → (∀ a ∈ mt',a < m.length) → ∃ f',VisL m st' mt' f' ∧ f.map (un l) = f'.map (un m):=by
 have mem : ∀ {a a' : Nat} {mt mt' : List Nat},un l a = un m a' → mt.map (un l) = mt'.map (un m) → a < l.length → a' < m.length → (∀ a ∈ mt,a < l.length) → (∀ a ∈ mt',a < m.length) → (a ∈ mt ↔ a' ∈ mt'):=by
  intro a a' mt mt' e e' ha ha' h1 h2
  constructor
  ·intro h
   have : un l a ∈ mt'.map (un m):=e' ▸ List.mem_map.2 ⟨a,h,rfl⟩
   obtain ⟨b,hb,eb⟩:=List.mem_map.1 this
   have:=un_inj hm hmn _ _ _ (zw21 _) (h2 b hb) ha' (eb.trans e)
   exact this ▸ hb
  ·intro h
   have : un m a' ∈ mt.map (un l):=e' ▸ List.mem_map.2 ⟨a',h,rfl⟩
   obtain ⟨b,hb,eb⟩:=List.mem_map.1 this
   have:=un_inj hl hln _ _ _ (zw21 _) (h1 b hb) ha (eb.trans e.symm)
   exact this ▸ hb
 have kind : ∀ {a a' : Nat},un l a = un m a' → a < l.length → a' < m.length → ((ndA l a).var = 0 ↔ (ndA m a').var = 0):=by
  intro a a' e ha ha'
  by_cases h1 : (ndA l a).var = 0 <;> by_cases h2 : (ndA m a').var = 0
  ·exact iff_of_true h1 h2
  ·rw [un_leaf h1,un_node hm ha' h2] at e; cases e
  ·rw [un_leaf h2,un_node hl ha h1] at e; cases e
  ·exact iff_of_false h1 h2
 induction h with
 | nil mt =>
  intro st' mt' e1 e2 _ _ _ _
  have : st' = []:=by simpa using e1.symm
  subst this
  exact ⟨mt',.nil mt',e2⟩
 | @met a st mt f h hr ih =>
  intro st' mt' e1 e2 b1 b2 b3 b4
  cases st' with
  | nil=>simp at e1
  | cons a' st' =>
   simp only [List.map_cons,List.cons.injEq] at e1
   obtain ⟨f',h1,h2⟩:=ih st' mt' e1.2 e2 (fun b hb=>b1 b (by simp [hb])) b2 (fun b hb=>b3 b (by simp [hb])) b4
   exact ⟨f',.met ((mem e1.1 e2 (b1 a (by simp)) (b3 a' (by simp)) b2 b4).1 h) h1,h2⟩
 | @leaf a st mt f h hv hr ih =>
  intro st' mt' e1 e2 b1 b2 b3 b4
  cases st' with
  | nil=>simp at e1
  | cons a' st' =>
   simp only [List.map_cons,List.cons.injEq] at e1
   have ha:=b1 a (by simp)
   have ha':=b3 a' (by simp)
   obtain ⟨f',h1,h2⟩:=ih st' (mt' ++ [a']) e1.2 (by rw [List.map_append,List.map_append,e2]; simp [e1.1]) (fun b hb=>b1 b (by simp [hb])) (fun b hb=>by
     rcases List.mem_append.1 hb with hb | hb
     ·exact b2 b hb
     ·rw [List.mem_singleton.1 hb]; exact ha) (fun b hb=>b3 b (by simp [hb])) (fun b hb=>by
     rcases List.mem_append.1 hb with hb | hb
     ·exact b4 b hb
     ·rw [List.mem_singleton.1 hb]; exact ha')
   exact ⟨f',.leaf (fun hx=>h ((mem e1.1 e2 ha ha' b2 b4).2 hx)) ((kind e1.1 ha ha').1 hv) h1,h2⟩
 | @node a st mt f h hv hr ih =>
  intro st' mt' e1 e2 b1 b2 b3 b4
  cases st' with
  | nil=>simp at e1
  | cons a' st' =>
   simp only [List.map_cons,List.cons.injEq] at e1
   have ha:=b1 a (by simp)
   have ha':=b3 a' (by simp)
   have hv' : (ndA m a').var ≠ 0:=fun h=>hv ((kind e1.1 ha ha').2 h)
   have e3:=e1.1
   rw [un_node hl ha hv,un_node hm ha' hv'] at e3
   injection e3 with _ _ e4 e5
   obtain ⟨f',h1,h2⟩:=ih ((ndA m a').y :: (ndA m a').z :: st') (mt' ++ [a']) (by simp [e4,e5,e1.2]) (by rw [List.map_append,List.map_append,e2]; simp [e1.1]) (fun b hb=>by
     rcases List.mem_cons.1 hb with rfl | hb
     ·exact hl.yl ha hv
     rcases List.mem_cons.1 hb with rfl | hb
     ·exact hl.zl ha hv
     ·exact b1 b (by simp [hb])) (fun b hb=>by
     rcases List.mem_append.1 hb with hb | hb
     ·exact b2 b hb
     ·rw [List.mem_singleton.1 hb]; exact ha) (fun b hb=>by
     rcases List.mem_cons.1 hb with rfl | hb
     ·exact hm.yl ha' hv'
     rcases List.mem_cons.1 hb with rfl | hb
     ·exact hm.zl ha' hv'
     ·exact b3 b (by simp [hb])) (fun b hb=>by
     rcases List.mem_append.1 hb with hb | hb
     ·exact b4 b hb
     ·rw [List.mem_singleton.1 hb]; exact ha')
   exact ⟨f',.node (fun hx=>h ((mem e1.1 e2 ha ha' b2 b4).2 hx)) hv' h1,h2⟩
end Go.Proofs.YtclmjkhdmhlijaaGreatDoor
namespace Go.Proofs.YtclmjkhdmhlijaaGreatDoor
open Go.Tidy
variable {L : List Blk} {k : V → List Blk → Prop}
theorem vCos_mem : ∀ {l : List Co},vCos l = true → ∀ c ∈ l,vCo c = true
 | [],_,c,hc=>by cases hc
 | d :: l,h,c,hc=>by
  rw [vCos,Bool.and_eq_true] at h
  rcases List.mem_cons.1 hc with rfl | hc
  ·exact h.1
  ·exact vCos_mem h.2 c hc
theorem vSps_mem : ∀ {l : List Sp},vSps l = true → ∀ c ∈ l,vSp c = true
 | [],_,c,hc=>by cases hc
 | d :: l,h,c,hc=>by
  rw [vSps,Bool.and_eq_true] at h
  rcases List.mem_cons.1 hc with rfl | hc
  ·exact h.1
  ·exact vSps_mem h.2 c hc
theorem hco_of : ∀ (n : Nat) (c : Co),SizeOf.sizeOf c ≤ n → vCo c = true → LCo c → HCo c
 | 0,c,h,_,_=>absurd h (by cases c; simp)
 | n + 1,c,hsz,hv,hl=>by
  have hlen:=hl.len
  have hsub:=hl.sub
  have ps : ∀ p ∈ c.parts,SizeOf.sizeOf p < SizeOf.sizeOf c:=fun p hp=>part_sizeC hp
  cases c with | mk kd v m ps0 =>
  simp only [Co.parts] at hlen hsub ps
  have key : (kd = 4 → 0 < ps0.length) ∧ ∀ p ∈ ps0,vCo p = true:=by
   rw [vCo] at hv
   split at hv
   ·simp only [Bool.and_eq_true,decide_eq_true_eq] at hv
    have h0 : ps0.length = 0:=by omega
    exact ⟨fun h=>by omega,fun p hp=>by rw [List.length_eq_zero_iff.1 h0] at hp; cases hp⟩
   ·split at hv
    ·simp only [Bool.and_eq_true,decide_eq_true_eq] at hv
     exact ⟨fun _=>by omega,vCos_mem hv.2⟩
    ·split at hv
     ·simp only [Bool.and_eq_true,decide_eq_true_eq] at hv
      exact ⟨fun _=>by omega,vCos_mem hv.2⟩
     ·cases hv
  exact .mk key.1 (by simp only [Co.parts]; omega) fun p hp=>hco_of n p (by have:=ps p hp; omega) (key.2 p hp) (hsub p hp)
theorem dsp_of : ∀ (n : Nat) (s : Sp),SizeOf.sizeOf s ≤ n → vSp s = true → LSp s → DSp s
 | 0,s,h,_,_=>absurd h (by cases s; simp)
 | n + 1,s,hsz,hv,hl=>by
  obtain ⟨h1,h2,hc,ht,he⟩:=hl
  cases s with | mk kd b c t e =>
  simp only [Sp.mk.sizeOf_spec] at hsz
  simp only [Sp.thn,Sp.els,Sp.cond] at h1 h2 hc ht he
  rw [vSp] at hv
  have hz : ∀ {l : List Sp} {p : Sp},p ∈ l → SizeOf.sizeOf p < SizeOf.sizeOf l:=fun h=>List.sizeOf_lt_of_mem h
  split at hv
  ·rename_i k1
   simp only [Bool.and_eq_true,decide_eq_true_eq] at hv
   have t0 : t.length = 0:=by omega
   have e0 : e.length = 0:=by omega
   refine .mk (fun h=>by simp only [Sp.kind] at h; omega) (fun _=>hv.1.1) h1 h2 (fun p hp=>?_) (fun p hp=>?_)
   ·simp only [Sp.thn] at hp; rw [List.length_eq_zero_iff.1 t0] at hp; cases hp
   ·simp only [Sp.els] at hp; rw [List.length_eq_zero_iff.1 e0] at hp; cases hp
  ·split at hv
   ·rename_i k2
    simp only [Bool.and_eq_true,decide_eq_true_eq] at hv
    refine .mk (fun _=>hco_of _ _ (zw21 _) hv.1.1.1.2 hc) (fun h=>absurd k2 h) h1 h2 (fun p hp=>?_) (fun p hp=>?_)
    ·simp only [Sp.thn] at hp; exact dsp_of n p (by have:=hz hp; omega) (vSps_mem hv.1.2 p hp) (ht p hp)
    ·simp only [Sp.els] at hp; exact dsp_of n p (by have:=hz hp; omega) (vSps_mem hv.2 p hp) (he p hp)
   ·cases hv
theorem check_ok {l : List Fm} (h : checkF l = 0) : (wF 40 l 0 (0,0)).1 = true ∧ l.length ≠ 0 ∧ ∀ f ∈ l,vFm f = true:=by
 unfold checkF at h
 split at h
 ·rename_i h1
  split at h
  ·cases h
  ·rename_i h2
   split at h
   ·cases h
   ·rename_i h3
    refine ⟨h1,h2,fun f hf=>?_⟩
    cases hv : vFm f with
    | true=>rfl
    | false=>exact absurd (List.any_eq_true.2 ⟨f,hf,by rw [hv]; rfl⟩) h3
 ·cases h
theorem order_dsp {l : List Sp} (hl : LSs l) (h : orderF l = 0) : ∀ s ∈ l,DSp s:=fun s hs =>
 dsp_of _ s (zw21 _) ((check_ok h).2.2 (.s s) (List.mem_map.2 ⟨s,hs,rfl⟩)) (hl.all s hs)
theorem same_c (a b : List Int) (ha : a.length ≤ 4611686018427387904) (hb : b.length ≤ 4611686018427387904) (h : k (B (decide (a = b))) L) : CallP C 13 [.d (ins a),.d (ins b)] L k:=by
 refine CallP.pure ?_ rfl (fun _=>rfl) h
 clear h
 refine callP_of C_ok Tryz.func13 rfl rfl (n:=_) rfl (zw18 rfl) (rs:=_) rfl ?_
 by_cases h1 : ((a.map fun n=>[DI n]).length : Int) = ((b.map fun n=>[DI n]).length : Int)
 rotate_left
 ·have hne : a ≠ b:=fun e=>h1 (by rw [e])
  repeat' ((conv=>whnf); first|refine zw9 (zw20 h1) ?_|refine zw0 ?_|refine zw1 ?_|refine zw2 (fun h=>?_) (fun h=>?_)|refine zw3 ?_|refine zw4 (fun h=>?_) (fun h=>?_)|refine zw5 _ rfl ?_|refine zw6 rfl ?_|refine zw7 mixed rfl ?_)
  conv=>whnf
  exact FinP.drop (n:=0) rfl (zw21 0) rfl rfl ⟨rfl,congrArg B (zw20 hne).symm⟩
 have hl : a.length = b.length:=by rw [List.length_map,List.length_map] at h1; omega
 repeat' ((conv=>whnf); first|refine zw8 (zw19 h1) ?_|refine zw0 ?_|refine zw1 ?_|refine zw2 (fun h=>?_) (fun h=>?_)|refine zw3 ?_|refine zw4 (fun h=>?_) (fun h=>?_)|refine zw5 _ rfl ?_|refine zw6 rfl ?_|refine zw7 mixed rfl ?_)
 conv=>whnf
 refine LoopP.inv (fun i=>i ≤ a.length ∧ ∀ (j : Nat) (h : j < a.length) (h' : j < b.length),j < i → a[j] = b[j]) (fun i=>⟨[(0,.d (ins a)),(1,.d (ins b)),(5,I i)],Tryz.f13.ntmps,[],[],none⟩) (fun i=>a.length - i) 0 ⟨zw22 _,fun j _ _ h=>absurd h (Nat.not_lt_zero j)⟩ ?_ ?_
 ·exact Weak.to 0 rfl (zw22 _) (zw22 _) ⟨rfl,rfl,rfl,trivial⟩
 rintro i ⟨hi,heq⟩
 by_cases hi' : i < a.length
 ·have hlt : (i : Int) < ((a.map fun n=>[DI n]).length : Int):=by rw [List.length_map]; omega
  have hib : i < b.length:=by omega
  have hw : IntKind.i64.wrap ((i : Int) + 1) = ((i + 1 : Nat) : Int):=by rw [wrap_in (by omega)]; omega
  have r1 : (a.map fun n=>[DI n])[i]? = some [DI a[i]]:=by rw [List.getElem?_map,List.getElem?_eq_getElem hi']; rfl
  have r2 : (b.map fun n=>[DI n])[i]? = some [DI b[i]]:=by rw [List.getElem?_map,List.getElem?_eq_getElem hib]; rfl
  by_cases hq : a[i] = b[i]
  ·repeat' (conv => whnf
            first|refine zw8 (zw19 hlt) ?_|refine zw8 (zw19 hq) ?_|refine zw0 ?_|refine zw1 ?_|refine zw2 (fun h=>?_) (fun h=>?_)|refine zw3 ?_|refine zw4 (fun h=>?_) (fun h=>?_)|refine zw5 _ rfl ?_|refine zw6 rfl ?_|refine zw7 mixed rfl ?_|refine zw10 i _ rfl r1 ?_|refine zw10 i _ rfl r2 ?_)
   conv=>whnf
   exact ⟨i + 1,⟨hi',fun j hj hj' hji=>by
    by_cases e : j = i
    ·subst e; exact hq
    ·exact heq j hj hj' (by omega)⟩,by omega,Weak.to 0 rfl (zw22 _) (zw22 _) ⟨rfl,rfl,congrArg I hw,trivial⟩⟩
  ·have hne : a ≠ b:=fun e=>hq (by subst e; rfl)
   repeat' ((conv=>whnf); first|refine zw8 (zw19 hlt) ?_|refine zw9 (zw20 hq) ?_|refine zw0 ?_|refine zw1 ?_|refine zw2 (fun h=>?_) (fun h=>?_)|refine zw3 ?_|refine zw4 (fun h=>?_) (fun h=>?_)|refine zw5 _ rfl ?_|refine zw6 rfl ?_|refine zw7 mixed rfl ?_|refine zw10 i _ rfl r1 ?_|refine zw10 i _ rfl r2 ?_)
   conv=>whnf
   exact FinP.drop (n:=0) rfl (zw21 0) rfl rfl ⟨rfl,congrArg B (zw20 hne).symm⟩
 ·have hlt : ¬ (i : Int) < ((a.map fun n=>[DI n]).length : Int):=by rw [List.length_map]; omega
  have hab : a = b:=List.ext_getElem hl fun j h1 h2=>heq j h1 h2 (by omega)
  repeat' ((conv=>whnf); first|refine zw9 (zw20 hlt) ?_|refine zw0 ?_|refine zw1 ?_|refine zw2 (fun h=>?_) (fun h=>?_)|refine zw3 ?_|refine zw4 (fun h=>?_) (fun h=>?_)|refine zw5 _ rfl ?_|refine zw6 rfl ?_|refine zw7 mixed rfl ?_)
  conv=>whnf
  exact FinP.drop (n:=0) rfl (zw21 0) rfl rfl ⟨rfl,congrArg B (zw19 hab).symm⟩
end Go.Proofs.YtclmjkhdmhlijaaGreatDoor
namespace Go.Proofs.YtclmjkhdmhlijaaGreatDoor
open Go.Tidy
variable {L : List Blk} {k : V → List Blk → Prop}
def Nd.cells (x : Nd) : List D:=[DI x.var,DI x.n,DI x.yes,DI x.no,ins x.by_]
abbrev ndV (x : Nd) : V:=.agg (x.cells.map .d)
def nds (l : List Nd) : D:=.sl (l.map Nd.cells)
theorem bounds_c (v : Int) (h : k (.tup [I (lo v),I (hi v)]) L) : CallP C 20 [I v] L k:=by
 refine CallP.pure ?_ rfl (fun _=>rfl) h
 clear h
 refine callP_of C_ok Tryz.func20 rfl rfl (n:=_) rfl (zw18 rfl) (rs:=_) rfl ?_
 repeat' ((conv=>whnf); first|refine zw0 ?_|refine zw1 ?_|refine zw2 (fun h=>?_) (fun h=>?_)|refine zw3 ?_|refine zw4 (fun h=>?_) (fun h=>?_)|refine zw5 _ rfl ?_|refine zw6 rfl ?_|refine zw7 mixed rfl ?_)
 all_goals conv=>whnf
 all_goals refine zw15 (n:=0) rfl (zw21 0) rfl rfl ⟨rfl,?_⟩
 all_goals first
  | (rw [show v = 2 by assumption]; rfl)
  | (rw [show v = 3 by assumption]; rfl)
  | (have h1 : v ≠ 2 := by assumption
     have h2 : v ≠ 3:=by assumption
     unfold lo hi
     rw [if_neg (by rintro (h | h) <;> contradiction),if_neg h1,if_neg h2]; rfl)
theorem rbounds_c (v : Int) (h : k (.tup [I (lo v),I (hi v)]) L) : CallP C 45 [I v] L k:=by
 refine CallP.pure ?_ rfl (fun _=>rfl) h
 clear h
 refine callP_of C_ok Tryz.func45 rfl rfl (n:=_) rfl (zw18 rfl) (rs:=_) rfl ?_
 repeat' ((conv=>whnf); first|refine zw0 ?_|refine zw1 ?_|refine zw2 (fun h=>?_) (fun h=>?_)|refine zw3 ?_|refine zw4 (fun h=>?_) (fun h=>?_)|refine zw5 _ rfl ?_|refine zw6 rfl ?_|refine zw7 mixed rfl ?_)
 all_goals conv=>whnf
 all_goals refine zw15 (n:=0) rfl (zw21 0) rfl rfl ⟨rfl,?_⟩
 all_goals first
  | (rw [show v = 2 by assumption]; rfl)
  | (rw [show v = 3 by assumption]; rfl)
  | (have h1 : v ≠ 2 := by assumption
     have h2 : v ≠ 3:=by assumption
     unfold lo hi
     rw [if_neg (by rintro (h | h) <;> contradiction),if_neg h1,if_neg h2]; rfl)
theorem tvalue_c (v : Int) (x : En) (hv : 1 ≤ v ∧ v ≤ 4) (h : k (I (valF v x)) L) : CallP C 63 [I v,enV x] L k:=by
 have h4 : v = 1 ∨ v = 2 ∨ v = 3 ∨ v = 4:=by omega
 rcases h4 with rfl | rfl | rfl | rfl
 ·refine CallP.pure ?_ rfl (fun _=>rfl) h
  clear h
  refine callP_of C_ok Tryz.func63 rfl rfl (n:=_) rfl (zw18 rfl) (rs:=_) rfl ?_
  repeat' ((conv=>whnf); first|refine zw0 ?_|refine zw1 ?_|refine zw2 (fun h=>?_) (fun h=>?_)|refine zw3 ?_|refine zw4 (fun h=>?_) (fun h=>?_)|refine zw5 _ rfl ?_|refine zw6 rfl ?_|refine zw7 mixed rfl ?_|refine IdxN.intro 1 rfl (by decide) ?_)
  conv=>whnf
  exact FinP.drop (n:=0) rfl (zw21 0) rfl rfl ⟨rfl,rfl⟩
 ·refine CallP.pure ?_ rfl (fun _=>rfl) h
  clear h
  refine callP_of C_ok Tryz.func63 rfl rfl (n:=_) rfl (zw18 rfl) (rs:=_) rfl ?_
  repeat' ((conv=>whnf); first|refine zw0 ?_|refine zw1 ?_|refine zw2 (fun h=>?_) (fun h=>?_)|refine zw3 ?_|refine zw4 (fun h=>?_) (fun h=>?_)|refine zw5 _ rfl ?_|refine zw6 rfl ?_|refine zw7 mixed rfl ?_|refine IdxN.intro 2 rfl (by decide) ?_)
  conv=>whnf
  exact FinP.drop (n:=0) rfl (zw21 0) rfl rfl ⟨rfl,rfl⟩
 ·refine CallP.pure ?_ rfl (fun _=>rfl) h
  clear h
  refine callP_of C_ok Tryz.func63 rfl rfl (n:=_) rfl (zw18 rfl) (rs:=_) rfl ?_
  repeat' ((conv=>whnf); first|refine zw0 ?_|refine zw1 ?_|refine zw2 (fun h=>?_) (fun h=>?_)|refine zw3 ?_|refine zw4 (fun h=>?_) (fun h=>?_)|refine zw5 _ rfl ?_|refine zw6 rfl ?_|refine zw7 mixed rfl ?_|refine IdxN.intro 3 rfl (by decide) ?_)
  conv=>whnf
  exact FinP.drop (n:=0) rfl (zw21 0) rfl rfl ⟨rfl,rfl⟩
 ·refine CallP.pure ?_ rfl (fun _=>rfl) h
  clear h
  refine callP_of C_ok Tryz.func63 rfl rfl (n:=_) rfl (zw18 rfl) (rs:=_) rfl ?_
  repeat' ((conv=>whnf); first|refine zw0 ?_|refine zw1 ?_|refine zw2 (fun h=>?_) (fun h=>?_)|refine zw3 ?_|refine zw4 (fun h=>?_) (fun h=>?_)|refine zw5 _ rfl ?_|refine zw6 rfl ?_|refine zw7 mixed rfl ?_|refine IdxN.intro 4 rfl (by decide) ?_)
  conv=>whnf
  exact FinP.drop (n:=0) rfl (zw21 0) rfl rfl ⟨rfl,rfl⟩
def nxI (d : Nd) (x : En) : Int:=if d.n ≤ valF d.var x then d.yes else d.no
theorem next_c (d : Nd) (x : En) (hv : 1 ≤ d.var ∧ d.var ≤ 4) (h : k (I (nxI d x)) L) : CallP C 36 [ndV d,enV x] L k:=by
 refine CallP.pure ?_ rfl (fun _=>rfl) h
 clear h
 refine callP_of C_ok Tryz.func36 rfl rfl (n:=_) rfl (zw18 rfl) (rs:=_) rfl ?_
 by_cases c : d.n ≤ valF d.var x
 ·repeat' (conv => whnf
           first|refine zw12 _ (tvalue_c d.var x hv ⟨rfl,rfl⟩) ?_|refine zw8 (zw19 c) ?_|refine zw0 ?_|refine zw1 ?_|refine zw2 (fun h=>?_) (fun h=>?_)|refine zw3 ?_|refine zw4 (fun h=>?_) (fun h=>?_)|refine zw5 _ rfl ?_|refine zw6 rfl ?_|refine zw7 mixed rfl ?_)
  conv=>whnf
  exact FinP.drop (n:=0) rfl (zw21 0) rfl rfl ⟨rfl,congrArg I (if_pos c).symm⟩
 ·repeat' (conv => whnf
           first|refine zw12 _ (tvalue_c d.var x hv ⟨rfl,rfl⟩) ?_|refine zw9 (zw20 c) ?_|refine zw0 ?_|refine zw1 ?_|refine zw2 (fun h=>?_) (fun h=>?_)|refine zw3 ?_|refine zw4 (fun h=>?_) (fun h=>?_)|refine zw5 _ rfl ?_|refine zw6 rfl ?_|refine zw7 mixed rfl ?_)
  conv=>whnf
  exact FinP.drop (n:=0) rfl (zw21 0) rfl rfl ⟨rfl,congrArg I (if_neg c).symm⟩
def byU (c : Int) : UInt8:=UInt8.ofNat (IntKind.u8.wrap c).toNat
def byS (l : List Int) : ByteArray:=⟨(l.map byU).toArray⟩
def keyV' (x : Nd) : V:=.agg [I x.var,I x.n,I x.yes,I x.no,.d (.str (byS x.by_))]
theorem wrap_u8 (c : Int) : IntKind.u8.wrap c = ((byU c).toNat : Int):=by
 have h : 0 ≤ IntKind.u8.wrap c ∧ IntKind.u8.wrap c < 256:=by
  show 0 ≤ c % 256 ∧ c % 256 < 256
  omega
 unfold byU
 rw [UInt8.toNat_ofNat']
 omega
def kyL (l : List Int) (i : Nat) : List UInt8:=(l.take i).map byU ++ List.replicate (l.length - i) 0
theorem bytesV_bel (n : Nat) : ∀ s : List UInt8,belR n (bytesV s) = true
 | []=>rfl
 | _ :: s=>by simp only [bytesV,List.map_cons,belR,V.belL,V.bel,Bool.true_and]; exact bytesV_bel n s
theorem kyL_set {l : List Int} {i : Nat} (h : i < l.length) : (bytesV (kyL l i)).set (0 + i) [.d (.int .u8 (IntKind.u8.wrap l[i]))] = bytesV (kyL l (i + 1)):=by
 rw [wrap_u8,Nat.zero_add]
 unfold bytesV
 rw [← List.map_set]
 congr 1
 unfold kyL
 rw [take_next h,List.map_append,List.set_append_right _ _ (by simp; omega),List.append_assoc]
 congr 1
 rw [List.length_map,List.length_take,Nat.min_eq_left (Nat.le_of_lt h),Nat.sub_self]
 obtain ⟨m,hm⟩ : ∃ m,l.length - i = m + 1:=⟨l.length - i - 1,by omega⟩
 rw [hm,show l.length - (i + 1) = m by omega]
 rfl
theorem kyL_at {l : List Int} {i : Nat} (h : i < l.length) : (bytesV (kyL l i))[0 + i]? = some [.d (.int .u8 0)]:=by
 rw [Nat.zero_add]
 unfold bytesV kyL
 rw [List.getElem?_map,List.getElem?_append_right (by simp; omega),List.getElem?_replicate]
 simp
 omega
theorem keyOf_c (x : Nd) (hl : x.by_.length ≤ 1073741824) (h : k (keyV' x) L) : CallP C 39 [ndV x] L k:=by
 refine CallP.pure ?_ rfl (fun _=>rfl) h
 clear h
 refine callP_of C_ok Tryz.func39 rfl rfl (n:=_) rfl (zw18 rfl) (rs:=_) rfl ?_
 repeat' ((conv=>whnf); first|refine zw0 ?_|refine zw1 ?_|refine zw2 (fun h=>?_) (fun h=>?_)|refine zw3 ?_|refine zw4 (fun h=>?_) (fun h=>?_)|refine zw5 _ rfl ?_|refine zw6 rfl ?_|refine zw7 mixed rfl ?_|refine MakeP.intro x.by_.length x.by_.length (congrArg Nat.cast (List.length_map _)) (congrArg Nat.cast (List.length_map _)) (zw21 _) (by omega) ?_)
 conv=>whnf
 have e0 : List.replicate x.by_.length [V.d (.int .u8 0)] = bytesV (kyL x.by_ 0):=by unfold bytesV kyL; simp
 refine LoopP.inv (fun i=>i ≤ x.by_.length) (fun i=>⟨[(1,.ptr 0 0),(2,.ptr 1 0),(3,.own 2 0 0 x.by_.length),(11,.d (ins x.by_)),(12,I x.by_.length),(13,I i)],Tryz.f39.ntmps,[.cells (x.cells.map .d),.cells [I 0,I 0,I 0,I 0,.d (.str ⟨#[]⟩)],.row 0 1 (bytesV (kyL x.by_ i))],[],none⟩) (fun i=>x.by_.length - i) 0 (zw22 _) ?_ ?_
 ·exact Weak.to 3 (Eq.trans rfl (congrArg (fun r=>[Blk.cells (x.cells.map .d),.cells [I 0,I 0,I 0,I 0,.d (.str ⟨#[]⟩)],.row 0 1 r]) e0)) (Nat.zero_le _) (Nat.le_of_ble_eq_true rfl) ⟨rfl,rfl,rfl,rfl,congrArg I (by simp),rfl,trivial⟩ (hB:=by show (belR 3 (bytesV _) && true) = true; rw [bytesV_bel]; rfl)
 intro i hi
 by_cases hi' : i < x.by_.length
 ·have hlt : (i : Int) < (x.by_.length : Int):=by omega
  have hw : IntKind.i64.wrap ((i : Int) + 1) = ((i + 1 : Nat) : Int):=by rw [wrap_in (by omega)]; omega
  have r1 : (x.by_.map fun n=>[DI n])[i]? = some [DI x.by_[i]]:=by rw [List.getElem?_map,List.getElem?_eq_getElem hi']; rfl
  repeat' ((conv=>whnf); first|refine zw8 (zw19 hlt) ?_|refine zw10 i _ rfl r1 ?_|refine IdxN.intro i rfl hi' ?_|refine zw5 _ (kyL_at hi') ?_|refine zw0 ?_|refine zw1 ?_|refine zw2 (fun h=>?_) (fun h=>?_)|refine zw3 ?_|refine zw4 (fun h=>?_) (fun h=>?_)|refine zw5 _ rfl ?_|refine zw6 rfl ?_|refine zw7 mixed rfl ?_)
  conv=>whnf
  exact ⟨i + 1,hi',by omega,Weak.to 3 (Eq.trans rfl (congrArg (fun r=>[Blk.cells (x.cells.map .d),.cells [I 0,I 0,I 0,I 0,.d (.str ⟨#[]⟩)],.row 0 1 r]) (kyL_set hi'))) (Nat.zero_le _) (Nat.le_of_ble_eq_true rfl) ⟨rfl,rfl,rfl,rfl,rfl,congrArg I hw,trivial⟩ (hB:=by show (belR 3 (bytesV _) && true) = true; rw [bytesV_bel]; rfl)⟩
 ·have hlt : ¬ (i : Int) < (x.by_.length : Int):=by omega
  have e1 : kyL x.by_ i = x.by_.map byU:=by unfold kyL; rw [List.take_of_length_le (by omega),show x.by_.length - i = 0 by omega]; simp
  have e2 : ((bytesV (kyL x.by_ i)).drop 0).take x.by_.length = bytesV (x.by_.map byU):=by rw [e1,List.drop_zero,List.take_of_length_le (by simp [bytesV])]
  repeat' ((conv=>whnf); first|refine zw9 (zw20 hlt) ?_|refine BytesP.intro (x.by_.map byU) e2 ?_|refine zw0 ?_|refine zw1 ?_|refine zw2 (fun h=>?_) (fun h=>?_)|refine zw3 ?_|refine zw4 (fun h=>?_) (fun h=>?_)|refine zw5 _ rfl ?_|refine zw6 rfl ?_|refine zw7 mixed rfl ?_)
  conv=>whnf
  exact FinP.drop (n:=0) rfl (zw21 0) rfl rfl ⟨rfl,rfl⟩
end Go.Proofs.YtclmjkhdmhlijaaGreatDoor
namespace Go.Proofs.YtclmjkhdmhlijaaGreatDoor
open Go.Tidy
variable {L : List Blk} {k : V → List Blk → Prop}
def okAt (l : List Int) (j : Nat) : Bool:=decide (1 ≤ l.getD j 0) && decide (l.getD j 0 ≤ 12) && !((l.take j).any fun v=>decide (l.getD j 0 = v))
theorem getD_at {l : List Int} {j : Nat} (h : j < l.length) : l.getD j 0 = l[j]:=by rw [List.getD_eq_getElem?_getD,List.getElem?_eq_getElem h]; rfl
theorem byB_at {l : List Int} : byB l = true ↔ ∀ j,j < l.length → okAt l j = true:=by
 rw [byB_iff]
 constructor
 ·intro h j hj
  have h1:=h.rg _ (List.getElem_mem hj)
  unfold okAt
  rw [getD_at hj]
  simp only [Bool.and_eq_true,decide_eq_true_eq,Bool.not_eq_true']
  refine ⟨h1,?_⟩
  rw [Bool.eq_false_iff]
  intro hc
  obtain ⟨v,hv,e⟩:=List.any_eq_true.1 hc
  have e:=of_decide_eq_true e
  obtain ⟨i,hi,rfl⟩:=List.getElem_of_mem hv
  rw [List.getElem_take] at e
  rw [List.length_take] at hi
  have:=nd_inj h.nd hj (by omega) e
  omega
 ·intro h
  refine ⟨?_,fun b hb=>?_⟩
  ·rw [List.nodup_iff_pairwise_ne,List.pairwise_iff_getElem]
   intro i j hi hj hij e
   have h1:=h j hj
   unfold okAt at h1
   rw [getD_at hj] at h1
   simp only [Bool.and_eq_true,decide_eq_true_eq,Bool.not_eq_true'] at h1
   have h2 : ((l.take j).any fun v=>decide (l[j] = v)) = true:=List.any_eq_true.2 ⟨l[i],by rw [List.mem_iff_getElem]; exact ⟨i,by rw [List.length_take]; omega,by rw [List.getElem_take]⟩,decide_eq_true e.symm⟩
   rw [h1.2] at h2; cases h2
  ·obtain ⟨j,hj,rfl⟩:=List.getElem_of_mem hb
   have h1:=h j hj
   unfold okAt at h1
   rw [getD_at hj] at h1
   simp only [Bool.and_eq_true,decide_eq_true_eq] at h1
   exact h1.1
theorem byB_no {l : List Int} {j : Nat} (hj : j < l.length) (h : okAt l j = false) : byB l = false:=by
 rw [Bool.eq_false_iff]
 intro hc
 have:=byB_at.1 hc j hj
 rw [h] at this; cases this
theorem leaf_no {x : Nd} (h : byB x.by_ = false) : false = leafB x:=by unfold leafB; rw [h]; rfl
theorem take_ints (l : List Int) (i : Nat) : ((l.map fun n=>[DI n]).drop 0).take i = (l.take i).map fun n=>[DI n]:=by rw [List.drop_zero,List.map_take]
theorem isLeaf_c (x : Nd) (hl : x.by_.length ≤ 1073741824) (h : k (B (leafB x)) L) : CallP C 37 [ndV x] L k:=by
 refine CallP.pure ?_ rfl (fun _=>rfl) h
 clear h
 refine callP_of C_ok Tryz.func37 rfl rfl (n:=_) rfl (zw18 rfl) (rs:=_) rfl ?_
 repeat' ((conv=>whnf); first|refine zw0 ?_|refine zw1 ?_|refine zw2 (fun h=>?_) (fun h=>?_)|refine zw3 ?_|refine zw4 (fun h=>?_) (fun h=>?_)|refine zw5 _ rfl ?_|refine zw6 rfl ?_|refine zw7 mixed rfl ?_)
 conv=>whnf
 refine LoopP.inv (fun i=>i ≤ x.by_.length ∧ ∀ j,j < i → okAt x.by_ j = true) (fun i=>⟨[(1,.ptr 0 0),(6,.d (ins x.by_)),(7,I x.by_.length),(8,I i)],Tryz.f37.ntmps,[.cells (x.cells.map .d)],[],none⟩) (fun i=>x.by_.length - i) 0 ⟨zw22 _,fun j h=>absurd h (Nat.not_lt_zero j)⟩ ?_ ?_
 ·exact Weak.by ⟨rfl,rfl,congrArg I (by simp),rfl,trivial⟩
 rintro i ⟨hi,hok⟩
 by_cases hi' : i < x.by_.length
 ·have hlt : (i : Int) < (x.by_.length : Int):=by omega
  have hw : IntKind.i64.wrap ((i : Int) + 1) = ((i + 1 : Nat) : Int):=by rw [wrap_in (by omega)]; omega
  have r1 : (x.by_.map fun n=>[DI n])[i]? = some [DI (x.by_.getD i 0)]:=by rw [List.getElem?_map,List.getElem?_eq_getElem hi',getD_at hi']; rfl
  have hno : okAt x.by_ i = false → false = leafB x:=fun h=>leaf_no (byB_no hi' h)
  have hcon : ∀ {L : List Blk} {k : V → List Blk → Prop},k (B ((x.by_.take i).any fun v=>decide (x.by_.getD i 0 = v))) L → CallP C 54 [.d (.sl (((x.by_.map fun n=>[DI n]).drop 0).take i)),I (x.by_.getD i 0)] L k:=fun h=>by
   rw [take_ints]; exact icontains_c (x.by_.take i) (by rw [List.length_take]; omega) _ h
  have hsl : ∀ {k : Nat → Nat → Prop},k 0 i → SliceP (x.by_.map fun n=>[DI n]).length none (some (I i)) k:=fun h=>SliceP.intro 0 i rfl rfl (Nat.zero_le _) (by rw [List.length_map]; omega) h
  have hall : okAt x.by_ i = true → i + 1 ≤ x.by_.length ∧ ∀ j,j < i + 1 → okAt x.by_ j = true:=fun h=>⟨hi',fun j hj=>by
   by_cases e : j = i
   ·subst e; exact h
   ·exact hok j (by omega)⟩
  have hdef : okAt x.by_ i = (decide (1 ≤ x.by_.getD i 0) && decide (x.by_.getD i 0 ≤ 12) && !((x.by_.take i).any fun v=>decide (x.by_.getD i 0 = v))):=rfl
  generalize okAt x.by_ i = ok at hno hall hdef
  generalize x.by_.getD i 0 = c at *
  by_cases c1 : c < 1
  ·repeat' (conv => whnf
            first|refine zw8 (zw19 hlt) ?_|refine zw8 (zw19 c1) ?_|refine zw0 ?_|refine zw1 ?_|refine zw2 (fun h=>?_) (fun h=>?_)|refine zw3 ?_|refine zw4 (fun h=>?_) (fun h=>?_)|refine zw5 _ rfl ?_|refine zw6 rfl ?_|refine zw7 mixed rfl ?_|refine zw10 i _ rfl r1 ?_|refine hsl ?_|refine hcon ?_|refine zw6 (rdI_e x.by_) ?_)
   conv=>whnf
   exact FinP.drop (n:=0) rfl (Nat.le_refl 0) rfl rfl ⟨rfl,congrArg B (hno (by rw [hdef,decide_eq_false (by omega)]; rfl))⟩
  by_cases c2 : 12 < c
  ·repeat' (conv => whnf
            first|refine zw8 (zw19 hlt) ?_|refine zw9 (zw20 c1) ?_|refine zw8 (zw19 c2) ?_|refine zw0 ?_|refine zw1 ?_|refine zw2 (fun h=>?_) (fun h=>?_)|refine zw3 ?_|refine zw4 (fun h=>?_) (fun h=>?_)|refine zw5 _ rfl ?_|refine zw6 rfl ?_|refine zw7 mixed rfl ?_|refine zw10 i _ rfl r1 ?_|refine hsl ?_|refine hcon ?_|refine zw6 (rdI_e x.by_) ?_)
   conv=>whnf
   exact FinP.drop (n:=0) rfl (Nat.le_refl 0) rfl rfl ⟨rfl,congrArg B (hno (by rw [hdef,decide_eq_false (p:=c ≤ 12) (by omega),Bool.and_false]; rfl))⟩
  by_cases c3 : ((x.by_.take i).any fun v=>decide (c = v)) = true
  ·repeat' (conv => whnf
            first|refine zw8 (zw19 hlt) ?_|refine zw9 (zw20 c1) ?_|refine zw9 (zw20 c2) ?_|refine zw8 c3 ?_|refine zw0 ?_|refine zw1 ?_|refine zw2 (fun h=>?_) (fun h=>?_)|refine zw3 ?_|refine zw4 (fun h=>?_) (fun h=>?_)|refine zw5 _ rfl ?_|refine zw6 rfl ?_|refine zw7 mixed rfl ?_|refine zw10 i _ rfl r1 ?_|refine hsl ?_|refine hcon ?_|refine zw6 (rdI_e x.by_) ?_)
   conv=>whnf
   exact FinP.drop (n:=0) rfl (Nat.le_refl 0) rfl rfl ⟨rfl,congrArg B (hno (by rw [hdef,c3]; simp))⟩
  ·have c3':=eq_false_of_ne_true c3
   repeat' ((conv=>whnf); first|refine zw8 (zw19 hlt) ?_|refine zw9 (zw20 c1) ?_|refine zw9 (zw20 c2) ?_|refine zw9 c3' ?_|refine zw0 ?_|refine zw1 ?_|refine zw2 (fun h=>?_) (fun h=>?_)|refine zw3 ?_|refine zw4 (fun h=>?_) (fun h=>?_)|refine zw5 _ rfl ?_|refine zw6 rfl ?_|refine zw7 mixed rfl ?_|refine zw10 i _ rfl r1 ?_|refine hsl ?_|refine hcon ?_|refine zw6 (rdI_e x.by_) ?_)
   conv=>whnf
   exact ⟨i + 1,hall (by rw [hdef,c3',decide_eq_true (p:=1 ≤ c) (by omega),decide_eq_true (p:=c ≤ 12) (by omega)]; rfl),by omega,Weak.by ⟨rfl,rfl,rfl,congrArg I hw,trivial⟩⟩
 ·have hlt : ¬ (i : Int) < (x.by_.length : Int):=by omega
  have hby : byB x.by_ = true:=byB_at.2 fun j hj=>hok j (by omega)
  have e : leafB x = decide (x.var = 0 ∧ x.n = 0 ∧ x.yes = 0 ∧ x.no = 0):=by unfold leafB; rw [hby]; rfl
  rw [e]
  repeat' ((conv=>whnf); first|refine zw9 (zw20 hlt) ?_|refine zw0 ?_|refine zw1 ?_|refine zw2 (fun h=>?_) (fun h=>?_)|refine zw3 ?_|refine zw4 (fun h=>?_) (fun h=>?_)|refine zw5 _ rfl ?_|refine zw6 rfl ?_|refine zw7 mixed rfl ?_)
  all_goals conv=>whnf
  all_goals refine zw15 (n:=0) rfl (zw21 0) rfl rfl ⟨rfl,congrArg B ?_⟩
  all_goals simp_all
def inI (n : Nat) (i : Int) : Bool:=decide (0 ≤ i) && decide (i < n)
theorem within1_c (l : List Nd) (i : Int) (h : k (B (inI l.length i)) L) : CallP C 64 [I i,.d (.rptr [nds l])] L k:=by
 refine CallP.pure ?_ rfl (fun _=>rfl) h
 clear h
 refine callP_of C_ok Tryz.func64 rfl rfl (n:=_) rfl (zw18 rfl) (rs:=_) rfl ?_
 repeat' ((conv=>whnf); first|refine zw0 ?_|refine zw1 ?_|refine zw2 (fun h=>?_) (fun h=>?_)|refine zw3 ?_|refine zw4 (fun h=>?_) (fun h=>?_)|refine zw5 _ rfl ?_|refine zw6 rfl ?_|refine zw7 mixed rfl ?_)
 all_goals conv=>whnf
 all_goals refine zw15 (n:=0) rfl (zw21 0) rfl rfl ⟨rfl,congrArg B ?_⟩
 all_goals first | (simp_all [inI,nds]; done) | (simp [inI,nds]; omega)
theorem later2_c (x y : Nd) (h : k (B (ltr y.var x)) L) : CallP C 65 [ndV x,.d (.rptr y.cells)] L k:=by
 refine CallP.pure ?_ rfl (fun _=>rfl) h
 clear h
 refine callP_of C_ok Tryz.func65 rfl rfl (n:=_) rfl (zw18 rfl) (rs:=_) rfl ?_
 repeat' ((conv=>whnf); first|refine zw0 ?_|refine zw1 ?_|refine zw2 (fun h=>?_) (fun h=>?_)|refine zw3 ?_|refine zw4 (fun h=>?_) (fun h=>?_)|refine zw5 _ rfl ?_|refine zw6 rfl ?_|refine zw7 mixed rfl ?_)
 all_goals conv=>whnf
 all_goals refine zw15 (n:=0) rfl (zw21 0) rfl rfl ⟨rfl,congrArg B ?_⟩
 all_goals simp_all [ltr]
theorem equal_c (a b : List Int) (ha : a.length ≤ 4611686018427387904) (hb : b.length ≤ 4611686018427387904) (h : k (B (decide (a = b))) L) : CallP C 43 [.d (ins a),.d (ins b)] L k:=by
 refine CallP.pure ?_ rfl (fun _=>rfl) h
 clear h
 refine callP_of C_ok Tryz.func43 rfl rfl (n:=_) rfl (zw18 rfl) (rs:=_) rfl ?_
 by_cases h1 : ((a.map fun n=>[DI n]).length : Int) = ((b.map fun n=>[DI n]).length : Int)
 rotate_left
 ·have hne : a ≠ b:=fun e=>h1 (by rw [e])
  repeat' ((conv=>whnf); first|refine zw9 (zw20 h1) ?_|refine zw0 ?_|refine zw1 ?_|refine zw2 (fun h=>?_) (fun h=>?_)|refine zw3 ?_|refine zw4 (fun h=>?_) (fun h=>?_)|refine zw5 _ rfl ?_|refine zw6 rfl ?_|refine zw7 mixed rfl ?_)
  conv=>whnf
  exact FinP.drop (n:=0) rfl (zw21 0) rfl rfl ⟨rfl,congrArg B (zw20 hne).symm⟩
 have hl : a.length = b.length:=by rw [List.length_map,List.length_map] at h1; omega
 repeat' ((conv=>whnf); first|refine zw8 (zw19 h1) ?_|refine zw0 ?_|refine zw1 ?_|refine zw2 (fun h=>?_) (fun h=>?_)|refine zw3 ?_|refine zw4 (fun h=>?_) (fun h=>?_)|refine zw5 _ rfl ?_|refine zw6 rfl ?_|refine zw7 mixed rfl ?_)
 conv=>whnf
 refine LoopP.inv (fun i=>i ≤ a.length ∧ ∀ (j : Nat) (h : j < a.length) (h' : j < b.length),j < i → a[j] = b[j]) (fun i=>⟨[(0,.d (ins a)),(1,.d (ins b)),(12,I a.length),(13,I i)],Tryz.f43.ntmps,[],[],none⟩) (fun i=>a.length - i) 0 ⟨zw22 _,fun j _ _ h=>absurd h (Nat.not_lt_zero j)⟩ ?_ ?_
 ·exact Weak.to 0 rfl (Nat.zero_le _) (Nat.zero_le _) ⟨rfl,rfl,congrArg I (by simp),rfl,trivial⟩
 rintro i ⟨hi,heq⟩
 by_cases hi' : i < a.length
 ·have hlt : (i : Int) < (a.length : Int):=by omega
  have hib : i < b.length:=by omega
  have hw : IntKind.i64.wrap ((i : Int) + 1) = ((i + 1 : Nat) : Int):=by rw [wrap_in (by omega)]; omega
  have r1 : (a.map fun n=>[DI n])[i]? = some [DI a[i]]:=by rw [List.getElem?_map,List.getElem?_eq_getElem hi']; rfl
  have r2 : (b.map fun n=>[DI n])[i]? = some [DI b[i]]:=by rw [List.getElem?_map,List.getElem?_eq_getElem hib]; rfl
  by_cases hq : a[i] = b[i]
  ·repeat' (conv => whnf
            first|refine zw8 (zw19 hlt) ?_|refine zw8 (zw19 hq) ?_|refine zw0 ?_|refine zw1 ?_|refine zw2 (fun h=>?_) (fun h=>?_)|refine zw3 ?_|refine zw4 (fun h=>?_) (fun h=>?_)|refine zw5 _ rfl ?_|refine zw6 rfl ?_|refine zw7 mixed rfl ?_|refine zw10 i _ rfl r1 ?_|refine zw10 i _ rfl r2 ?_)
   conv=>whnf
   exact ⟨i + 1,⟨hi',fun j hj hj' hji=>by
    by_cases e : j = i
    ·subst e; exact hq
    ·exact heq j hj hj' (by omega)⟩,by omega,Weak.to 0 rfl (zw22 _) (zw22 _) ⟨rfl,rfl,rfl,congrArg I hw,trivial⟩⟩
  ·have hne : a ≠ b:=fun e=>hq (by subst e; rfl)
   repeat' ((conv=>whnf); first|refine zw8 (zw19 hlt) ?_|refine zw9 (zw20 hq) ?_|refine zw0 ?_|refine zw1 ?_|refine zw2 (fun h=>?_) (fun h=>?_)|refine zw3 ?_|refine zw4 (fun h=>?_) (fun h=>?_)|refine zw5 _ rfl ?_|refine zw6 rfl ?_|refine zw7 mixed rfl ?_|refine zw10 i _ rfl r1 ?_|refine zw10 i _ rfl r2 ?_)
   conv=>whnf
   exact FinP.drop (n:=0) rfl (zw21 0) rfl rfl ⟨rfl,congrArg B (zw20 hne).symm⟩
 ·have hlt : ¬ (i : Int) < (a.length : Int):=by omega
  have hab : a = b:=List.ext_getElem hl fun j h1 h2=>heq j h1 h2 (by omega)
  repeat' ((conv=>whnf); first|refine zw9 (zw20 hlt) ?_|refine zw0 ?_|refine zw1 ?_|refine zw2 (fun h=>?_) (fun h=>?_)|refine zw3 ?_|refine zw4 (fun h=>?_) (fun h=>?_)|refine zw5 _ rfl ?_|refine zw6 rfl ?_|refine zw7 mixed rfl ?_)
  conv=>whnf
  exact FinP.drop (n:=0) rfl (zw21 0) rfl rfl ⟨rfl,congrArg B (zw19 hab).symm⟩
theorem same1_c (x y : Nd) (hx : x.by_.length ≤ 4611686018427387904) (hy : y.by_.length ≤ 4611686018427387904) (h : k (B (decide (x = y))) L) : CallP C 42 [ndV x,ndV y] L k:=by
 have he : ∀ {L : List Blk} {k : V → List Blk → Prop},k (B (decide (x.by_ = y.by_))) L → CallP C 43 [.d (ins x.by_),.d (ins y.by_)] L k:=fun h=>equal_c _ _ hx hy h
 refine CallP.pure ?_ rfl (fun _=>rfl) h
 clear h
 refine callP_of C_ok Tryz.func42 rfl rfl (n:=_) rfl (zw18 rfl) (rs:=_) rfl ?_
 repeat' ((conv=>whnf); first|refine zw0 ?_|refine zw1 ?_|refine zw2 (fun h=>?_) (fun h=>?_)|refine zw3 ?_|refine zw4 (fun h=>?_) (fun h=>?_)|refine zw5 _ rfl ?_|refine zw6 rfl ?_|refine zw7 mixed rfl ?_|refine he ?_)
 all_goals conv=>whnf
 all_goals refine zw15 (n:=0) rfl (zw21 0) rfl rfl ⟨rfl,congrArg B ?_⟩
 all_goals cases x
 all_goals cases y
 all_goals simp_all
theorem nds_at {l : List Nd} {i : Nat} (h : i < l.length) : (l.map Nd.cells)[i]? = some [DI l[i].var,DI l[i].n,DI l[i].yes,DI l[i].no,ins l[i].by_]:=by rw [List.getElem?_map,List.getElem?_eq_getElem h]; rfl
theorem equalF_c (a b : List Nd) (ha : a.length ≤ 4611686018427387904) (hb : b.length ≤ 4611686018427387904) (hs : ∀ x ∈ a,x.by_.length ≤ 4611686018427387904) (ht : ∀ x ∈ b,x.by_.length ≤ 4611686018427387904) (h : k (B (decide (a = b))) L) :
  CallP C 41 [.d (nds a),.d (nds b),.fn 42 []] L k:=by
 refine CallP.pure ?_ rfl (fun _=>rfl) h
 clear h
 refine callP_of C_ok Tryz.func41 rfl rfl (n:=_) rfl (zw18 rfl) (rs:=_) rfl ?_
 by_cases h1 : ((a.map Nd.cells).length : Int) = ((b.map Nd.cells).length : Int)
 rotate_left
 ·have hne : a ≠ b:=fun e=>h1 (by rw [e])
  repeat' ((conv=>whnf); first|refine zw9 (zw20 h1) ?_|refine zw0 ?_|refine zw1 ?_|refine zw2 (fun h=>?_) (fun h=>?_)|refine zw3 ?_|refine zw4 (fun h=>?_) (fun h=>?_)|refine zw5 _ rfl ?_|refine zw6 rfl ?_|refine zw7 mixed rfl ?_)
  conv=>whnf
  exact FinP.drop (n:=0) rfl (zw21 0) rfl rfl ⟨rfl,congrArg B (zw20 hne).symm⟩
 have hl : a.length = b.length:=by rw [List.length_map,List.length_map] at h1; omega
 repeat' ((conv=>whnf); first|refine zw8 (zw19 h1) ?_|refine zw0 ?_|refine zw1 ?_|refine zw2 (fun h=>?_) (fun h=>?_)|refine zw3 ?_|refine zw4 (fun h=>?_) (fun h=>?_)|refine zw5 _ rfl ?_|refine zw6 rfl ?_|refine zw7 mixed rfl ?_)
 conv=>whnf
 refine LoopP.inv (fun i=>i ≤ a.length ∧ ∀ (j : Nat) (h : j < a.length) (h' : j < b.length),j < i → a[j] = b[j]) (fun i=>⟨[(1,.d (nds b)),(2,.fn 42 []),(15,.d (nds a)),(16,I a.length),(17,I i)],Tryz.f41.ntmps,[],[],none⟩) (fun i=>a.length - i) 0 ⟨zw22 _,fun j _ _ h=>absurd h (Nat.not_lt_zero j)⟩ ?_ ?_
 ·exact Weak.to 0 rfl (Nat.zero_le _) (Nat.zero_le _) ⟨rfl,rfl,rfl,congrArg I (by simp),rfl,trivial⟩
 rintro i ⟨hi,heq⟩
 by_cases hi' : i < a.length
 ·have hlt : (i : Int) < (a.length : Int):=by omega
  have hib : i < b.length:=by omega
  have hw : IntKind.i64.wrap ((i : Int) + 1) = ((i + 1 : Nat) : Int):=by rw [wrap_in (by omega)]; omega
  have r1:=nds_at hi'
  have r2:=nds_at hib
  have hsm : ∀ {L : List Blk} {k : V → List Blk → Prop},k (B (decide (a[i] = b[i]))) L → CallP C 42 [.agg [I a[i].var,I a[i].n,I a[i].yes,I a[i].no,.d (ins a[i].by_)],.agg [I b[i].var,I b[i].n,I b[i].yes,I b[i].no,.d (ins b[i].by_)]] L k:=fun h=>same1_c a[i] b[i] (hs _ (List.getElem_mem hi')) (ht _ (List.getElem_mem hib)) h
  by_cases hq : a[i] = b[i]
  ·repeat' (conv => whnf
            first|refine zw8 (zw19 hlt) ?_|refine zw8 (zw19 hq) ?_|refine zw0 ?_|refine zw1 ?_|refine zw2 (fun h=>?_) (fun h=>?_)|refine zw3 ?_|refine zw4 (fun h=>?_) (fun h=>?_)|refine zw5 _ rfl ?_|refine zw6 rfl ?_|refine zw7 mixed rfl ?_|refine zw10 i _ rfl r1 ?_|refine zw10 i _ rfl r2 ?_|refine hsm ?_)
   conv=>whnf
   exact ⟨i + 1,⟨hi',fun j hj hj' hji=>by
    by_cases e : j = i
    ·subst e; exact hq
    ·exact heq j hj hj' (by omega)⟩,by omega,Weak.to 0 rfl (zw22 _) (zw22 _) ⟨rfl,rfl,rfl,rfl,congrArg I hw,trivial⟩⟩
  ·have hne : a ≠ b:=fun e=>hq (by subst e; rfl)
   repeat' ((conv=>whnf); first|refine zw8 (zw19 hlt) ?_|refine zw9 (zw20 hq) ?_|refine zw0 ?_|refine zw1 ?_|refine zw2 (fun h=>?_) (fun h=>?_)|refine zw3 ?_|refine zw4 (fun h=>?_) (fun h=>?_)|refine zw5 _ rfl ?_|refine zw6 rfl ?_|refine zw7 mixed rfl ?_|refine zw10 i _ rfl r1 ?_|refine zw10 i _ rfl r2 ?_|refine hsm ?_)
   conv=>whnf
   exact FinP.drop (n:=0) rfl (zw21 0) rfl rfl ⟨rfl,congrArg B (zw20 hne).symm⟩
 ·have hlt : ¬ (i : Int) < (a.length : Int):=by omega
  have hab : a = b:=List.ext_getElem hl fun j h1 h2=>heq j h1 h2 (by omega)
  repeat' ((conv=>whnf); first|refine zw9 (zw20 hlt) ?_|refine zw0 ?_|refine zw1 ?_|refine zw2 (fun h=>?_) (fun h=>?_)|refine zw3 ?_|refine zw4 (fun h=>?_) (fun h=>?_)|refine zw5 _ rfl ?_|refine zw6 rfl ?_|refine zw7 mixed rfl ?_)
  conv=>whnf
  exact FinP.drop (n:=0) rfl (zw21 0) rfl rfl ⟨rfl,congrArg B (zw19 hab).symm⟩
abbrev treV (l : List Nd) : V:=.agg [.d (nds l)]
theorem tsame_c (a b : List Nd) (ha : a.length ≤ 4611686018427387904) (hb : b.length ≤ 4611686018427387904) (hs : ∀ x ∈ a,x.by_.length ≤ 4611686018427387904) (ht : ∀ x ∈ b,x.by_.length ≤ 4611686018427387904) (h : k (B (decide (a = b))) L) : CallP C 15 [treV a,treV b] L k:=by
 refine CallP.pure ?_ rfl (fun _=>rfl) h
 clear h
 refine callP_of C_ok Tryz.func15 rfl rfl (n:=_) rfl (zw18 rfl) (rs:=_) rfl ?_
 repeat' ((conv=>whnf); first|refine zw0 ?_|refine zw1 ?_|refine zw2 (fun h=>?_) (fun h=>?_)|refine zw3 ?_|refine zw4 (fun h=>?_) (fun h=>?_)|refine zw5 _ rfl ?_|refine zw6 rfl ?_|refine zw7 mixed rfl ?_|refine equalF_c a b ha hb hs ht ?_)
 conv=>whnf
 exact FinP.drop (n:=0) rfl (zw21 0) rfl rfl ⟨rfl,rfl⟩
end Go.Proofs.YtclmjkhdmhlijaaGreatDoor
namespace Go.Proofs.YtclmjkhdmhlijaaGreatDoor
open Go.Tidy
variable {L : List Blk} {k : V → List Blk → Prop}
theorem inner_no {l : List Nd} {x : Nd} (h : ¬ innerA l x) : false = innerB l x:=by unfold innerB; rw [decide_eq_false h]; rfl
theorem nds_at' {l : List Nd} {i : Nat} (h : i < l.length) : (l.map Nd.cells)[i]? = some [DI (ndA l i).var,DI (ndA l i).n,DI (ndA l i).yes,DI (ndA l i).no,ins (ndA l i).by_]:=by rw [nds_at h,ndA_get h]
theorem isInner_c (l : List Nd) (x : Nd) (h : k (B (innerB l x)) L) : CallP C 38 [.d (nds l),ndV x] L k:=by
 have hw1 : ∀ {L : List Blk} {k : V → List Blk → Prop},k (B (inI l.length x.yes)) L → CallP C 64 [I x.yes,.d (.rptr [nds l])] L k:=fun h=>within1_c l x.yes h
 have hw2 : ∀ {L : List Blk} {k : V → List Blk → Prop},k (B (inI l.length x.no)) L → CallP C 64 [I x.no,.d (.rptr [nds l])] L k:=fun h=>within1_c l x.no h
 have hlt : ∀ {L : List Blk} {k : V → List Blk → Prop} (y : Nd),k (B (ltr x.var y)) L → CallP C 65 [ndV y,.d (.rptr x.cells)] L k:=fun y h=>later2_c y x h
 refine CallP.pure ?_ rfl (fun _=>rfl) h
 clear h
 refine callP_cut (fun c=>match c with | .region 0 _ _=>true | _=>false) C_ok Tryz.func38 rfl rfl (n:=_) rfl (zw18 rfl) (rs:=_) rfl ?_
 conv=>whnf
 refine CutP.intro (ι:=Unit) (fun _=>⟨[(2,.d (.rptr [nds l])),(3,.d (.rptr x.cells)),(4,B false)],Tryz.f38.ntmps,[],[],none⟩) ?_ (fun _=>?_)
 ·repeat' (conv => whnf
           first|refine zw0 ?_|refine zw1 ?_|refine zw2 (fun h=>?_) (fun h=>?_)|refine zw3 ?_|refine zw4 (fun h=>?_) (fun h=>?_)|refine zw5 _ rfl ?_|refine zw6 rfl ?_|refine zw7 mixed rfl ?_)
  conv=>whnf
  exact ⟨(),Weak.thaw 0 (Nat.le_refl 0) (Nat.zero_le _) rfl ⟨.inr (.d (.ptrL (Nat.zero_le _) rfl (.cons (.d _) .nil))),.inr (.d (.ptrL (Nat.zero_le _) rfl (.cons (.d _) (.cons (.d _) (.cons (.d _) (.cons (.d _) (.cons (.d _) .nil))))))),.inl ⟨rfl,rfl⟩,trivial⟩ (fun b x y hx hy=>by simp at hy)⟩
 by_cases c1 : x.var < 1
 ·repeat' (conv => whnf
           first|refine zw8 (zw19 c1) ?_|refine bounds_c x.var ?_|refine hw1 ?_|refine hw2 ?_|refine zw0 ?_|refine zw1 ?_|refine zw2 (fun h=>?_) (fun h=>?_)|refine zw3 ?_|refine zw4 (fun h=>?_) (fun h=>?_)|refine zw5 _ rfl ?_|refine zw6 rfl ?_|refine zw7 mixed rfl ?_)
  conv=>whnf
  exact FinP.drop (n:=0) rfl (zw21 0) rfl rfl ⟨rfl,congrArg B (inner_no fun hA=>by have h1:=hA.1; have h2:=hA.2.1; have h3:=hA.2.2.1; have h4:=hA.2.2.2; omega)⟩
 by_cases c2 : 4 < x.var
 ·repeat' (conv => whnf
           first|refine zw9 (zw20 c1) ?_|refine zw8 (zw19 c2) ?_|refine bounds_c x.var ?_|refine hw1 ?_|refine hw2 ?_|refine zw0 ?_|refine zw1 ?_|refine zw2 (fun h=>?_) (fun h=>?_)|refine zw3 ?_|refine zw4 (fun h=>?_) (fun h=>?_)|refine zw5 _ rfl ?_|refine zw6 rfl ?_|refine zw7 mixed rfl ?_)
  conv=>whnf
  exact FinP.drop (n:=0) rfl (zw21 0) rfl rfl ⟨rfl,congrArg B (inner_no fun hA=>by have h1:=hA.1; have h2:=hA.2.1; have h3:=hA.2.2.1; have h4:=hA.2.2.2; omega)⟩
 by_cases c3 : (0 : Int) < ((x.by_.map fun n=>[DI n]).length : Int)
 ·repeat' (conv => whnf
           first|refine zw9 (zw20 c1) ?_|refine zw9 (zw20 c2) ?_|refine zw8 (zw19 c3) ?_|refine bounds_c x.var ?_|refine hw1 ?_|refine hw2 ?_|refine zw0 ?_|refine zw1 ?_|refine zw2 (fun h=>?_) (fun h=>?_)|refine zw3 ?_|refine zw4 (fun h=>?_) (fun h=>?_)|refine zw5 _ rfl ?_|refine zw6 rfl ?_|refine zw7 mixed rfl ?_)
  conv=>whnf
  exact FinP.drop (n:=0) rfl (Nat.le_refl 0) rfl rfl ⟨rfl,congrArg B (inner_no fun hA=>by have h1:=hA.1; have h2:=hA.2.1; have h3:=hA.2.2.1; have h4:=hA.2.2.2; rw [h3] at c3; simp at c3)⟩
 by_cases c4 : x.n ≤ lo x.var
 ·repeat' (conv => whnf
           first|refine zw9 (zw20 c1) ?_|refine zw9 (zw20 c2) ?_|refine zw9 (zw20 c3) ?_|refine zw8 (zw19 c4) ?_|refine bounds_c x.var ?_|refine hw1 ?_|refine hw2 ?_|refine zw0 ?_|refine zw1 ?_|refine zw2 (fun h=>?_) (fun h=>?_)|refine zw3 ?_|refine zw4 (fun h=>?_) (fun h=>?_)|refine zw5 _ rfl ?_|refine zw6 rfl ?_|refine zw7 mixed rfl ?_)
  conv=>whnf
  exact FinP.drop (n:=0) rfl (zw21 0) rfl rfl ⟨rfl,congrArg B (inner_no fun hA=>by have h1:=hA.1; have h2:=hA.2.1; have h3:=hA.2.2.1; have h4:=hA.2.2.2; omega)⟩
 by_cases c5 : hi x.var < x.n
 ·repeat' (conv => whnf
           first|refine zw9 (zw20 c1) ?_|refine zw9 (zw20 c2) ?_|refine zw9 (zw20 c3) ?_|refine zw9 (zw20 c4) ?_|refine zw8 (zw19 c5) ?_|refine bounds_c x.var ?_|refine hw1 ?_|refine hw2 ?_|refine zw0 ?_|refine zw1 ?_|refine zw2 (fun h=>?_) (fun h=>?_)|refine zw3 ?_|refine zw4 (fun h=>?_) (fun h=>?_)|refine zw5 _ rfl ?_|refine zw6 rfl ?_|refine zw7 mixed rfl ?_)
  conv=>whnf
  exact FinP.drop (n:=0) rfl (zw21 0) rfl rfl ⟨rfl,congrArg B (inner_no fun hA=>by have h1:=hA.1; have h2:=hA.2.1; have h3:=hA.2.2.1; have h4:=hA.2.2.2; omega)⟩
 by_cases c6 : inI l.length x.yes = false
 ·repeat' (conv => whnf
           first|refine zw9 (zw20 c1) ?_|refine zw9 (zw20 c2) ?_|refine zw9 (zw20 c3) ?_|refine zw9 (zw20 c4) ?_|refine zw9 (zw20 c5) ?_|refine zw9 c6 ?_|refine bounds_c x.var ?_|refine hw1 ?_|refine hw2 ?_|refine zw0 ?_|refine zw1 ?_|refine zw2 (fun h=>?_) (fun h=>?_)|refine zw3 ?_|refine zw4 (fun h=>?_) (fun h=>?_)|refine zw5 _ rfl ?_|refine zw6 rfl ?_|refine zw7 mixed rfl ?_)
  conv=>whnf
  exact FinP.drop (n:=0) rfl (Nat.le_refl 0) rfl rfl ⟨rfl,congrArg B (inner_no fun hA=>by have h1:=hA.1; have h2:=hA.2.1; have h3:=hA.2.2.1; have h4:=hA.2.2.2; simp only [inI,Bool.and_eq_false_iff,decide_eq_false_iff_not] at c6; omega)⟩
 have c6' : inI l.length x.yes = true:=by simpa using c6
 by_cases c7 : inI l.length x.no = false
 ·repeat' (conv => whnf
           first|refine zw9 (zw20 c1) ?_|refine zw9 (zw20 c2) ?_|refine zw9 (zw20 c3) ?_|refine zw9 (zw20 c4) ?_|refine zw9 (zw20 c5) ?_|refine zw8 c6' ?_|refine zw9 c7 ?_|refine bounds_c x.var ?_|refine hw1 ?_|refine hw2 ?_|refine zw0 ?_|refine zw1 ?_|refine zw2 (fun h=>?_) (fun h=>?_)|refine zw3 ?_|refine zw4 (fun h=>?_) (fun h=>?_)|refine zw5 _ rfl ?_|refine zw6 rfl ?_|refine zw7 mixed rfl ?_)
  conv=>whnf
  exact FinP.drop (n:=0) rfl (Nat.le_refl 0) rfl rfl ⟨rfl,congrArg B (inner_no fun hA=>by have h1:=hA.1; have h2:=hA.2.1; have h3:=hA.2.2.1; have h4:=hA.2.2.2; simp only [inI,Bool.and_eq_false_iff,decide_eq_false_iff_not] at c7; omega)⟩
 have c7' : inI l.length x.no = true:=by simpa using c7
 by_cases c8 : x.yes = x.no
 ·repeat' (conv => whnf
           first|refine zw9 (zw20 c1) ?_|refine zw9 (zw20 c2) ?_|refine zw9 (zw20 c3) ?_|refine zw9 (zw20 c4) ?_|refine zw9 (zw20 c5) ?_|refine zw8 c6' ?_|refine zw8 c7' ?_|refine zw8 (zw19 c8) ?_|refine bounds_c x.var ?_|refine hw1 ?_|refine hw2 ?_|refine zw0 ?_|refine zw1 ?_|refine zw2 (fun h=>?_) (fun h=>?_)|refine zw3 ?_|refine zw4 (fun h=>?_) (fun h=>?_)|refine zw5 _ rfl ?_|refine zw6 rfl ?_|refine zw7 mixed rfl ?_)
  conv=>whnf
  exact FinP.drop (n:=0) rfl (zw21 0) rfl rfl ⟨rfl,congrArg B (inner_no fun hA=>by have h1:=hA.1; have h2:=hA.2.1; have h3:=hA.2.2.1; have h4:=hA.2.2.2; omega)⟩
 simp only [inI,Bool.and_eq_true,decide_eq_true_eq] at c6' c7'
 have hA : innerA l x → True:=fun _=>trivial
 have hby : x.by_ = []:=by
  cases e : x.by_ with
  | nil=>rfl
  | cons a r=>rw [e] at c3; simp at c3
 have hA : innerA l x:=⟨by omega,by omega,hby,by omega,by omega,c6'.1,c6'.2,c7'.1,c7'.2,c8⟩
 have hz : x.z < l.length:=by unfold Nd.z; omega
 have hy : x.y < l.length:=by unfold Nd.y; omega
 have ez : x.no = (x.z : Nat):=by unfold Nd.z; omega
 have ey : x.yes = (x.y : Nat):=by unfold Nd.y; omega
 have hE : innerB l x = (ltr x.var (ndA l x.z) && (ltr x.var (ndA l x.y) || contB x (ndA l x.y))):=by unfold innerB; rw [decide_eq_true hA,Bool.true_and]
 rw [hE]
 have c6 : inI l.length x.yes = true:=by simp [inI]; omega
 have c7 : inI l.length x.no = true:=by simp [inI]; omega
 have r1:=nds_at' hz
 have r2:=nds_at' hy
 repeat' ((conv=>whnf); first|refine zw9 (zw20 c1) ?_|refine zw9 (zw20 c2) ?_|refine zw9 (zw20 c3) ?_|refine zw9 (zw20 c4) ?_|refine zw9 (zw20 c5) ?_|refine zw8 c6 ?_|refine zw8 c7 ?_|refine zw9 (zw20 c8) ?_|refine bounds_c x.var ?_|refine hw1 ?_|refine hw2 ?_|refine zw10 x.z _ ez r1 ?_|refine zw10 x.y _ ey r2 ?_|refine zw0 ?_|refine zw1 ?_|refine zw2 (fun h=>?_) (fun h=>?_)|refine zw3 ?_|refine zw4 (fun h=>?_) (fun h=>?_)|refine zw5 _ rfl ?_|refine zw6 rfl ?_|refine zw7 mixed rfl ?_)
 conv=>whnf
 refine DrawP.por mixed [] [[(0,3),(1,0),(2,3),(3,3),(4,3),(5,1),(6,0),(7,1),(8,1),(9,1),(10,0),(11,0),(12,0),(13,0)],[(0,3),(1,0),(2,3),(3,3),(4,3),(5,1),(6,0),(7,1),(8,1),(9,1),(11,0),(10,0),(12,0),(13,0)]] (by kernel_rfl) ?_
 conv=>whnf
 refine And.intro ?_ ?_
 all_goals
  repeat' ((conv=>whnf); first|refine zw10 x.z _ ez r1 ?_|refine zw10 x.y _ ey r2 ?_|refine hlt (ndA l x.z) ?_|refine hlt (ndA l x.y) ?_|refine zw0 ?_|refine zw1 ?_|refine zw2 (fun h=>?_) (fun h=>?_)|refine zw3 ?_|refine zw4 (fun h=>?_) (fun h=>?_)|refine zw5 _ rfl ?_|refine zw6 rfl ?_|refine zw7 mixed rfl ?_)
 all_goals conv=>whnf
 all_goals refine zw15 (n:=0) rfl (zw21 0) rfl rfl ⟨rfl,congrArg B ?_⟩
 all_goals clear hw1 hw2 hlt hE r1 r2 c1 c2 c3 c4 c5 c6' c7' hA hby hz hy ez ey c6 c7 c8
 all_goals first | (simp_all [contB]; done) | (simp_all [contB]; omega)
end Go.Proofs.YtclmjkhdmhlijaaGreatDoor
namespace Go.Proofs
open Go.Shelf
def Tryz.sortA_ren : Go.Shelf.Ren:=⟨fun | 5=>21 | 8=>51 | 7=>50 | 19=>81 | 20=>82 | 10=>73 | 11=>74 | 12=>75 | 13=>76 | 14=>77 | 15=>78 | 16=>66 | 17=>79 | 18=>80 | 30=>94 | 31=>95 | 32=>96 | 33=>97 | 34=>98 | 35=>89 | 40=>104 | n=>n,fun | 23=>37 | 25=>3 | 3=>3 | 32=>100 | 22=>37 | 0=>0 | 44=>134 | 46=>136 | 4=>4 | 36=>128 | 35=>127 | 41=>104 | 5=>5 | 9=>9 | 53=>147 | 57=>61 | 63=>153 | 64=>53 | n=>n,fun n=>n⟩
theorem Tryz.sortA : Go.Proofs.SlLaysM.n5 Tryz.prog Tryz.sortA_ren:={
 mixed:=by kernel_rfl
 f5:=⟨Tryz.f21.name,by decide,Tryz.func21.trans (congrArg some (by kernel_rfl))⟩
 f7:=⟨Tryz.f50.name,by decide,Tryz.func50.trans (congrArg some (by kernel_rfl))⟩
 f8:=Tryz.func51.trans (congrArg some (by kernel_rfl))
 f10:=⟨Tryz.f73.name,by decide,Tryz.func73.trans (congrArg some (by kernel_rfl))⟩
 f11:=⟨Tryz.f74.name,by decide,Tryz.func74.trans (congrArg some (by kernel_rfl))⟩
 f12:=⟨Tryz.f75.name,by decide,Tryz.func75.trans (congrArg some (by kernel_rfl))⟩
 f13:=⟨Tryz.f76.name,by decide,Tryz.func76.trans (congrArg some (by kernel_rfl))⟩
 f14:=⟨Tryz.f77.name,by decide,Tryz.func77.trans (congrArg some (by kernel_rfl))⟩
 f15:=⟨Tryz.f78.name,by decide,Tryz.func78.trans (congrArg some (by kernel_rfl))⟩
 f16:=⟨Tryz.f66.name,by decide,Tryz.func66.trans (congrArg some (by kernel_rfl))⟩
 f17:=⟨Tryz.f79.name,by decide,Tryz.func79.trans (congrArg some (by kernel_rfl))⟩
 f18:=⟨Tryz.f80.name,by decide,Tryz.func80.trans (congrArg some (by kernel_rfl))⟩
 f19:=Tryz.func81.trans (congrArg some (by kernel_rfl))
 f20:=Tryz.func82.trans (congrArg some (by kernel_rfl))
 f30:=⟨Tryz.f94.name,by decide,Tryz.func94.trans (congrArg some (by kernel_rfl))⟩
 f31:=Tryz.func95.trans (congrArg some (by kernel_rfl))
 f32:=Tryz.func96.trans (congrArg some (by kernel_rfl))
 f33:=⟨Tryz.f97.name,by decide,Tryz.func97.trans (congrArg some (by kernel_rfl))⟩
 f34:=⟨Tryz.f98.name,by decide,Tryz.func98.trans (congrArg some (by kernel_rfl))⟩
 f35:=⟨Tryz.f89.name,by decide,Tryz.func89.trans (congrArg some (by kernel_rfl))⟩
 f40:=⟨Tryz.f104.name,by decide,Tryz.func104.trans (congrArg some (by kernel_rfl))⟩
 t0:=Tryz.underlying0
 a0:=Tryz.isAgg0
 z0:=Tryz.sizeOf0
 v0:=Tryz.zeroValue0
 t3:=Tryz.underlying3
 a3:=Tryz.isAgg3
 z3:=Tryz.sizeOf3
 v3:=Tryz.zeroValue3
 t4:=Tryz.underlying4
 a4:=Tryz.isAgg4
 z4:=Tryz.sizeOf4
 v4:=Tryz.zeroValue4
 t5:=Tryz.underlying5
 a5:=Tryz.isAgg5
 z5:=Tryz.sizeOf5
 v5:=Tryz.zeroValue5
 t9:=Tryz.underlying9
 a9:=Tryz.isAgg9
 z9:=Tryz.sizeOf9
 v9:=Tryz.zeroValue9
 t22:=Tryz.underlying37
 a22:=Tryz.isAgg37
 z22:=Tryz.sizeOf37
 v22:=Tryz.zeroValue37
 t23:=Tryz.underlying37
 a23:=Tryz.isAgg37
 z23:=Tryz.sizeOf37
 v23:=Tryz.zeroValue37
 t25:=Tryz.underlying3
 a25:=Tryz.isAgg3
 z25:=Tryz.sizeOf3
 v25:=Tryz.zeroValue3
 t32:=Tryz.underlying100
 a32:=Tryz.isAgg100
 z32:=Tryz.sizeOf100
 v32:=Tryz.zeroValue100
 t35:=Tryz.underlying127
 a35:=Tryz.isAgg127
 z35:=Tryz.sizeOf127
 v35:=Tryz.zeroValue127
 t36:=Tryz.underlying128
 a36:=Tryz.isAgg128
 z36:=Tryz.sizeOf128
 v36:=Tryz.zeroValue128
 t41:=Tryz.underlying104
 a41:=Tryz.isAgg104
 z41:=Tryz.sizeOf104
 v41:=Tryz.zeroValue104
 t44:=Tryz.underlying134
 a44:=Tryz.isAgg134
 z44:=Tryz.sizeOf134
 v44:=Tryz.zeroValue134
 t46:=Tryz.underlying136
 a46:=Tryz.isAgg136
 z46:=Tryz.sizeOf136
 v46:=Tryz.zeroValue136
 t53:=Tryz.underlying147
 a53:=Tryz.isAgg147
 z53:=Tryz.sizeOf147
 v53:=Tryz.zeroValue147
 t57:=Tryz.underlying61
 a57:=Tryz.isAgg61
 z57:=Tryz.sizeOf61
 v57:=Tryz.zeroValue61
 t63:=Tryz.underlying153
 a63:=Tryz.isAgg153
 z63:=Tryz.sizeOf153
 v63:=Tryz.zeroValue153
 t64:=Tryz.underlying53
 a64:=Tryz.isAgg53
 z64:=Tryz.sizeOf53
 v64:=Tryz.zeroValue53 }
def Tryz.cpaA_ren : Go.Shelf.Ren:=⟨fun | 20=>22 | n=>n,fun | 22=>37 | 3=>3 | 4=>4 | 0=>0 | n=>n,fun | n=>n⟩
theorem Tryz.cpaA : Go.Proofs.Lays2.n20 Tryz.prog Tryz.cpaA_ren:={
 mixed:=by kernel_rfl
 f20:=Tryz.func22.trans (congrArg some (by kernel_rfl))
 t0:=Tryz.underlying0
 a0:=Tryz.isAgg0
 z0:=Tryz.sizeOf0
 v0:=Tryz.zeroValue0
 t3:=Tryz.underlying3
 a3:=Tryz.isAgg3
 z3:=Tryz.sizeOf3
 v3:=Tryz.zeroValue3
 t4:=Tryz.underlying4
 a4:=Tryz.isAgg4
 z4:=Tryz.sizeOf4
 v4:=Tryz.zeroValue4
 t22:=Tryz.underlying37
 a22:=Tryz.isAgg37
 z22:=Tryz.sizeOf37
 v22:=Tryz.zeroValue37
 i3:=by kernel_rfl }
end Go.Proofs
namespace Go.Proofs.YtclmjkhdmhlijaaGreatDoor
open Go.Tidy
variable {L : List Blk} {k : V → List Blk → Prop}
theorem put_get {d : List Int} {cur : Array Value} {j : Nat} (hj : j < d.length) (hc : d.length ≤ cur.size) : (Go.Sort.putCells (Value.int .i64) 0 d.toArray cur)[j]? = some (.int .i64 d[j]):=by
 unfold Go.Sort.putCells
 rw [Array.getElem?_mapIdx,Array.getElem?_eq_getElem (by omega)]
 simp only [Option.map_some,Nat.zero_le,Nat.zero_add,List.size_toArray,true_and,Nat.sub_zero,if_pos hj]
 rw [getElem!_pos d.toArray j (by simpa using hj)]
 simp
theorem put_size (d : List Int) (cur : Array Value) : (Go.Sort.putCells (Value.int .i64) 0 d.toArray cur).size = cur.size:=by unfold Go.Sort.putCells; simp
theorem put_one {d : List Int} {cur : Array Value} (h : ∀ (i : Nat) (v : Value),cur[i]? = some v → v.oneCell' = true) : ∀ (i : Nat) (v : Value),(Go.Sort.putCells (Value.int .i64) 0 d.toArray cur)[i]? = some v → v.oneCell' = true:=by
 intro i v hv
 unfold Go.Sort.putCells at hv
 rw [Array.getElem?_mapIdx] at hv
 cases hc : cur[i]? with
 | none=>rw [hc] at hv; cases hv
 | some u =>
  rw [hc] at hv
  simp only [Option.map_some,Option.some.injEq] at hv
  split at hv
  ·rw [← hv]; rfl
  ·rw [← hv]; exact h i u hc
theorem rdI_len (l : List Int) : (rdI l).length = l.length:=by unfold rdI; simp
theorem rdI_get {l : List Int} {i j : Nat} {x : V} (h : ((rdI l)[i]?).bind (fun e=>e[j]?) = some x) : j = 0 ∧ ∃ hi : i < l.length,x = I l[i]:=by
 unfold rdI at h
 rw [List.getElem?_map] at h
 cases hq : l[i]? with
 | none=>rw [hq] at h; cases h
 | some y =>
  have hi:=lt_of_get hq
  rw [List.getElem?_eq_getElem hi] at hq
  cases hq
  rw [List.getElem?_eq_getElem hi] at h
  cases j with
  | zero=>simp at h; exact ⟨rfl,hi,h.symm⟩
  | succ j=>simp at h
theorem rdI_ones (l : List Int) : ∀ e ∈ rdI l,e.length = 1:=fun e he=>by
 obtain ⟨n,_,rfl⟩:=List.mem_map.1 he; rfl
theorem rowI_at {g : Gh} {w : World} {b gen : Nat} {l : List Int} {v : Value} (hg : Go.Tidy.Good g w L) (hL : L[b]? = some (.row gen 1 (rdI l))) (hl : 0 < l.length) (hv : RV g w L (.own b gen 0 l.length) v) :
  ∃ r c cur T,v = .slice (some ⟨r,0,none⟩) l.length c ∧ g.m b = some r ∧ w.heap[r]? = some (.cells cur T (0,0)) ∧ l.length ≤ c ∧ c ≤ 9223372036854775807 ∧ (0 + c) * 1 ≤ g.cap b ∧ cur.size = g.cap b ∧ l.length ≤ cur.size ∧ (∀ (i : Nat) (v : Value),cur[i]? = some v → v.oneCell' = true) ∧
   Go.Sort.Holds (Value.int .i64) w r 0 l.toArray:=by
 generalize hn : l.length = n at hv
 cases hv with
 | ownX _ _ _ _ a n c hL'=>rw [hL] at hL'; cases hL'
 | ownO _ _ gen2 _ _ _ _ a n c hL' hg'=>rw [hL] at hL'; cases hL'; omega
 | ownN _ _ sz2 els2 hL' hm'=>omega
 | own _ _ _ _ sz r o c els hL' hm ho hc hlc hle =>
 rw [hL] at hL'; cases hL'
 subst hn
 obtain ⟨_,hels,⟨hm',hnil⟩ | ⟨r',cur,T,hm',hh,hcap,hbig,hone,hrec⟩⟩:=hg.blk b _ hL
 ·rw [hm'] at hm; cases hm
 rw [hm] at hm'; cases hm'
 have ho0 : o = 0:=by rcases ho with h | h <;> omega
 subst ho0
 rw [rdI_len,Nat.mul_one] at hbig
 have hcur : ∀ (j : Nat) (hj : j < l.length),cur[j]? = some (.int .i64 l[j]):=fun j hj=>by
  have hv : cur[j]? = some cur[j]:=Array.getElem?_eq_getElem (by omega)
  have hx : ((rdI l)[j]?).bind (fun e=>e[0]?) = some (I l[j]):=by unfold rdI; rw [List.getElem?_map,List.getElem?_eq_getElem hj]; rfl
  have hr:=hrec j 0 (I l[j]) cur[j] hx (by rw [show j * 1 + 0 = j by omega]; exact hv)
  rw [hv]
  generalize cur[j] = u at hr ⊢
  cases hr with | d _ _ hd=>cases hd; rfl
 refine ⟨r,c,cur,T,rfl,hm,hh,hlc.1,hlc.2,hc,hcap,hbig,hone,fun j hj=>?_⟩
 have hj' : j < l.length:=by simpa using hj
 refine ⟨?_,?_⟩
 ·rw [cell_row hh,Nat.zero_add,hcur j hj',getElem!_pos l.toArray j hj]; simp
 ·simp [World.frozen?,hh]
theorem rowI_put {g : Gh} {w w' : World} {b gen r : Nat} {l ds : List Int} {cur : Array Value} {T : TypeId} (hg : Go.Tidy.Good g w L) (hL : L[b]? = some (.row gen 1 (rdI l))) (hdl : ds.length = l.length) (hm : g.m b = some r) (hh : w.heap[r]? = some (.cells cur T (0,0)))
  (hcap : cur.size = g.cap b) (hbig : l.length ≤ cur.size) (hone : ∀ (i : Nat) (v : Value),cur[i]? = some v → v.oneCell' = true) (henv : w'.tape = w.tape ∧ w'.os = w.os ∧ w'.output = w.output) (hsize : w.heap.size ≤ w'.heap.size)
  (hheap : ∀ p,p < w.heap.size → w'.heap[p]? = if r = p then some (.cells (Go.Sort.putCells (Value.int .i64) 0 ds.toArray cur) T (0,0)) else w.heap[p]?) :
  Go.Tidy.Good g w' (L.set b (.row gen 1 (rdI ds))) ∧ Prog L.length g w L g w' (L.set b (.row gen 1 (rdI ds))):=by
 have hbl:=lt_of_get hL
 have hrl : r < w.heap.size:=(Array.getElem?_eq_some_iff.1 hh).1
 have S : Step g w L b (.row gen 1 (rdI ds)) g w':=by
  refine ⟨hg,⟨_,hL,by simp⟩,by rw [hL]; simp,henv,hsize,rfl,fun _ _=>rfl,fun _ _=>rfl,fun p o ho hne=>?_,fun r hr=>.inl hr,?_⟩
  ·rw [hheap p (Array.getElem?_eq_some_iff.1 ho).1,if_neg (fun e=>hne (by rw [← e]; exact hm))]; exact ho
  ·exact ⟨fun cs' e=>(by rw [hL] at e; cases e),fun gen1 sz1 els1 e=>(by rw [hL] at e; cases e; exact .inr ⟨_,_,_,List.getElem?_set_self hbl,.inr ⟨rfl,rfl,rfl,rfl,by rw [rdI_len,rdI_len,hdl]⟩⟩),fun es e=>(by rw [hL] at e; cases e),fun l e=>(by rw [hL] at e; cases e),fun e=>(by rw [hL] at e; cases e)⟩
 refine ⟨S.good' ⟨Nat.zero_lt_one,rdI_ones ds,.inr ⟨r,_,T,hm,by rw [hheap r hrl,if_pos rfl],?_,?_,put_one hone,fun i' j x v hx hv=>?_⟩⟩,S.prog⟩
 ·rw [put_size]; exact hcap
 ·rw [put_size,rdI_len,hdl]; omega
 ·obtain ⟨rfl,hi',rfl⟩:=rdI_get hx
  rw [show i' * 1 + 0 = i' by omega,put_get hi' (by omega)] at hv
  cases hv
  exact .d _ _ (.int _ _)
theorem putRow_heap {w : World} {q r : Nat} {ds : List Int} {cur : Array Value} {T : TypeId} (hh : w.heap[r]? = some (.cells cur T (0,0))) : ∀ p,(Go.Sort.putRow (Value.int .i64) (Go.Sort.ahead w q) r 0 ds.toArray).heap[p]? = if r = p then some (.cells (Go.Sort.putCells (Value.int .i64) 0 ds.toArray cur) T (0,0)) else w.heap[p]?:=fun p=>by
 show (w.heap.modify r _)[p]? = _
 rw [Array.getElem?_modify]
 split
 ·rename_i e; subst e; rw [hh]; rfl
 ·rfl
theorem putRow_size {w : World} {q r : Nat} {ds : List Int} : (Go.Sort.putRow (Value.int .i64) (Go.Sort.ahead w q) r 0 ds.toArray).heap.size = w.heap.size:=by
 show (w.heap.modify r _).size = _
 simp
def sortI (l : List Int) : List Int:=l.mergeSort fun x y=>decide (x ≤ y)
theorem sort_c {b gen : Nat} {l : List Int} (hL : L[b]? = some (.row gen 1 (rdI l))) (hl : 0 < l.length) (hl' : l.length ≤ 1073741824) (h : k (.tup []) (L.set b (.row gen 1 (rdI (sortI l))))) :
  CallP C 21 [.own b gen 0 l.length] L k:=by
 unfold CallP
 refine ⟨⟨_,Tryz.func21,rfl,rfl⟩,fun g w vs hg hv=>?_⟩
 obtain ⟨hlen,hrel⟩:=hv
 obtain ⟨v,rfl⟩ : ∃ v,vs = #[v]:=by
  match vs,hlen with
  | ⟨[v]⟩,_=>exact ⟨v,rfl⟩
 obtain ⟨r,c,cur,T,rfl,hm,hh,hc1,hc2,hc3,hcap,hbig,hone,hH⟩:=rowI_at hg hL hl (hrel 0 _ v rfl rfl)
 have hrl : r < w.heap.size:=(Array.getElem?_eq_some_iff.1 hh).1
 have hD:=AnyM.slices_Sort_int Tryz.sortA r 0 c l w hH hrl (by omega)
 refine hD.mono ?_
 rintro e w' ⟨rfl,q,os,rfl⟩
 have hdl : (sortI l).length = l.length:=List.length_mergeSort l
 have hsz : (Go.Sort.grow (Go.Sort.putRow (Value.int .i64) (Go.Sort.ahead w q) r 0 (sortI l).toArray) os).heap.size = w.heap.size + os.size:=by
  show (_ ++ os).size = _
  rw [Array.size_append,putRow_size]
 obtain ⟨hG,hP⟩:=rowI_put (w':=Go.Sort.grow (Go.Sort.putRow (Value.int .i64) (Go.Sort.ahead w q) r 0 (sortI l).toArray) os) hg hL hdl hm hh hcap hbig hone ⟨rfl,rfl,rfl⟩ (by rw [hsz]; omega) fun p hp=>by
  rw [← putRow_heap (q:=q) hh p]
  show (_ ++ os)[p]? = _
  exact Array.getElem?_append_left (by rw [putRow_size]; exact hp)
 exact .inl ⟨_,.tup [],_,g,rfl,h,.tup _ _ rfl (fun j x v hx _=>by simp at hx),hG,hP⟩
def cpI (l : List Int) : List Int:=Go.Lib.compact l
theorem compact_c {b gen : Nat} {l : List Int} (hL : L[b]? = some (.row gen 1 (rdI l))) (hl : 0 < l.length) (hle : (cpI l).length ≤ l.length) (h : k (.own b gen 0 (cpI l).length) (L.set b (.row gen 1 (rdI (cpI l ++ List.replicate (l.length - (cpI l).length) 0))))) :
  CallP C 22 [.own b gen 0 l.length] L k:=by
 unfold CallP
 refine ⟨⟨_,Tryz.func22,rfl,rfl⟩,fun g w vs hg hv=>?_⟩
 obtain ⟨hlen,hrel⟩:=hv
 obtain ⟨v,rfl⟩ : ∃ v,vs = #[v]:=by
  match vs,hlen with
  | ⟨[v]⟩,_=>exact ⟨v,rfl⟩
 obtain ⟨r,c,cur,T,rfl,hm,hh,hc1,hc2,hc3,hcap,hbig,hone,hH⟩:=rowI_at hg hL hl (hrel 0 _ v rfl rfl)
 have hbl:=lt_of_get hL
 have hD:=Any.slices_Compact_int Tryz.cpaA r 0 c l w hH (by omega) hc1
 refine hD.mono ?_
 rintro e w' ⟨rfl,q,rfl⟩
 have hdl : (cpI l ++ List.replicate (l.length - (cpI l).length) 0).length = l.length:=by rw [List.length_append,List.length_replicate]; omega
 obtain ⟨hG,hP⟩:=rowI_put (w':=Go.Sort.putRow (Value.int .i64) (Go.Sort.ahead w q) r 0 (cpI l ++ List.replicate (l.length - (cpI l).length) 0).toArray) hg hL hdl hm hh hcap hbig hone ⟨rfl,rfl,rfl⟩ (by rw [putRow_size]; omega) fun p _=>putRow_heap hh p
 exact .inl ⟨_,.own b gen 0 (cpI l).length,_,g,rfl,h,.own _ _ _ _ 1 r 0 c _ (List.getElem?_set_self hbl) hm (.inr rfl) hc3 ⟨by show (cpI l).length ≤ c; omega,hc2⟩ (by rw [rdI_len,hdl]; omega),hG,hP⟩
end Go.Proofs.YtclmjkhdmhlijaaGreatDoor
namespace Go.Proofs.YtclmjkhdmhlijaaGreatDoor
open Go.Tidy
variable {L : List Blk} {k : V → List Blk → Prop}
def natI (l : List Nat) : List Int:=l.map fun n : Nat=>(n : Int)
theorem natI_len (l : List Nat) : (natI l).length = l.length:=by unfold natI; simp
def metR (n : Nat) (m : List Nat) : List (List V):=(List.range n).map fun i=>[B (m.contains i)]
theorem metR_bel (k n : Nat) (m : List Nat) : belR k (metR n m) = true:=by
 unfold metR
 induction (List.range n) with
 | nil=>rfl
 | cons i r ih=>simp only [List.map_cons,belR,V.belL,V.bel,Bool.true_and]; exact ih
theorem metR_nil (n : Nat) : List.replicate n [B false] = metR n []:=by
 unfold metR
 apply List.ext_getElem
 ·simp
 ·intro i h1 h2; simp
theorem metR_at {n a : Nat} (m : List Nat) (h : a < n) : (metR n m)[0 + a]? = some [B (m.contains a)]:=by
 unfold metR; rw [Nat.zero_add,List.getElem?_map,List.getElem?_range h]; rfl
theorem metR_set {n a : Nat} (m : List Nat) (h : a < n) : (metR n m).set (0 + a) [B true] = metR n (m ++ [a]):=by
 rw [Nat.zero_add]
 unfold metR
 apply List.ext_getElem
 ·simp
 ·intro i h1 h2
  rw [List.getElem_set,List.getElem_map,List.getElem_map,List.getElem_range]
  by_cases e : a = i
  ·subst e; rw [if_pos rfl]; simp
  ·rw [if_neg e]
   congr 2
   simp only [List.contains_append,List.contains_cons,List.contains_nil,Bool.or_false]
   rw [show (i == a) = false by simp; omega,Bool.or_false]
def visB (n : Nat) (st m : List Nat) (jk : List Int) (g : Nat) : List Blk:=[.row 0 1 (metR n m),.row g 1 (rdI (natI st.reverse ++ jk)),.row m.length 1 (rdI (natI m))]
theorem visB_bel (n : Nat) (st m : List Nat) (jk : List Int) (g : Nat) : belB 3 (visB n st m jk g) = true:=by
 show (belR 3 (metR n m) && (belR 3 (rdI _) && (belR 3 (rdI _) && true))) = true
 rw [metR_bel,rdI_bel,rdI_bel]; rfl
theorem stk_at (a : Nat) (st : List Nat) (jk : List Int) : (rdI (natI (a :: st).reverse ++ jk))[0 + st.length]? = some [I a]:=by
 unfold rdI natI
 rw [Nat.zero_add,List.getElem?_map,List.getElem?_append_left (by simp),List.reverse_cons,List.map_append,List.getElem?_append_right (by simp)]
 simp
theorem stk_pop (a : Nat) (st : List Nat) (jk : List Int) : natI (a :: st).reverse ++ jk = natI st.reverse ++ ((a : Int) :: jk):=by
 unfold natI; simp
theorem stk_push (st : List Nat) (jk : List Int) (y z : Nat) : (rdI (natI st.reverse ++ jk)).take st.length ++ [[I z],[I y]] = rdI (natI (y :: z :: st).reverse ++ []):=by
 unfold rdI natI
 rw [List.map_append,List.take_append_of_le_length (by simp),List.take_of_length_le (by simp)]
 simp
theorem ord_push (m : List Nat) (a : Nat) : (rdI (natI m)).take m.length ++ [[I a]] = rdI (natI (m ++ [a])):=by
 unfold rdI natI
 rw [List.take_of_length_le (by simp)]
 simp
theorem visit_c (l : List Nd) (root : Nat) (hc : Closed l) (hr : root < l.length) (hl : l.length ≤ 1073741824) (hneg : ∀ x ∈ l,x.var ≠ 0 → 0 ≤ x.yes ∧ 0 ≤ x.no) (h : k (.d (ins (natI (visO l root)))) L) : CallP C 27 [.d (nds l),I root] L k:=by
 have hv:=visO_vis hc hr
 generalize visO l root = f at hv h
 refine CallP.pure ?_ rfl (fun _=>rfl) h
 clear h
 refine callP_of C_ok Tryz.func27 rfl rfl (n:=_) rfl (zw18 rfl) (rs:=_) rfl ?_
 repeat' ((conv=>whnf); first|refine zw0 ?_|refine zw1 ?_|refine zw2 (fun h=>?_) (fun h=>?_)|refine zw3 ?_|refine zw4 (fun h=>?_) (fun h=>?_)|refine zw5 _ rfl ?_|refine zw6 rfl ?_|refine zw7 mixed rfl ?_|refine MakeP.intro l.length l.length (congrArg Nat.cast (List.length_map _)) (congrArg Nat.cast (List.length_map _)) (zw21 _) (zw23 hl (by decide)) ?_)
 conv=>whnf
 refine LoopP.inv (α:=(List Nat × List Nat) × List Int × Nat) (fun s=>VisL l s.1.1 s.1.2 f ∧ (∀ a ∈ s.1.1,a < l.length) ∧ MetOk l.length s.1.2 ∧ s.1.1.length ≤ s.1.2.length + 1) (fun s=>⟨[(0,.d (nds l)),(4,.own 2 s.1.2.length 0 s.1.2.length),(5,.own 0 0 0 l.length),(6,.own 1 s.2.2 0 s.1.1.length)],Tryz.f27.ntmps,visB l.length s.1.1 s.1.2 s.2.1 s.2.2,[],none⟩) (fun s=>3 * unm l.length s.1.2 + s.1.1.length) (([root],[]),[],0) ⟨hv,fun a ha=>by rw [List.mem_singleton.1 ha]; exact hr,⟨List.nodup_nil,fun a ha=>by cases ha⟩,Nat.le_refl _⟩ ?_ ?_
 ·refine (Weak.nilOwn 4 1 rfl (by decide)).trans (Weak.to 3 (Eq.trans rfl (congrArg (fun r=>[Blk.row 0 1 r,.row 0 1 [[I root]],.row 0 1 []]) (metR_nil l.length))) (zw22 _) (zw18 rfl) ⟨rfl,rfl,rfl,rfl,trivial⟩ (hB:=visB_bel _ _ _ _ _))
 rintro ⟨⟨st,m⟩,jk,g⟩ ⟨hV,hs,hm,hsl⟩
 simp only at hV hs hm hsl ⊢
 cases st with
 | nil =>
  have hlt : ¬ (0 : Int) < ((0 : Nat) : Int):=by omega
  repeat' ((conv=>whnf); first|refine zw9 (zw20 hlt) ?_|simp only [Nat.beq_refl,Bool.and_self]|refine zw0 ?_|refine zw1 ?_|refine zw2 (fun h=>?_) (fun h=>?_)|refine zw3 ?_|refine zw4 (fun h=>?_) (fun h=>?_)|refine zw5 _ rfl ?_|refine zw6 rfl ?_|refine zw7 mixed rfl ?_)
  conv=>whnf
  cases hV
  exact FinP.data (L':=[]) (.d (.rowL (b:=2) (gen:=f.length) (lo:=0) (len:=f.length) (sz:=1) (els:=rdI (natI f)) (ds:=(natI f).map fun n=>[DI n]) (Nat.zero_le _) rfl (by have:=rdI_rows' (S:=(0 ≤ ·)) (L:=visB l.length [] f jk g) (natI f); rwa [natI_len] at this) (by rw [List.length_map,natI_len]) (rdI_e _))) rfl rfl ⟨rfl,rfl⟩
 | cons a st =>
  have ha:=hs a (by simp)
  have hst : ∀ b ∈ st,b < l.length:=fun b hb=>hs b (by simp [hb])
  have hml:=hm.len
  have hlt : (0 : Int) < ((st.length + 1 : Nat) : Int):=by omega
  have hw : IntKind.i64.wrap (((st.length + 1 : Nat) : Int) - 1) = (st.length : Int):=by
   simp only [List.length_cons] at hsl
   rw [wrap_in (by omega)]; omega
  have hgs : ∀ {k : List V → Prop},k [I a] → GetE (rdI (natI (a :: st).reverse ++ jk)) (0 + st.length) k:=fun h=>zw5 _ (stk_at a st jk) h
  have hgm : ∀ {k : List V → Prop},k [B (m.contains a)] → GetE (metR l.length m) (0 + a) k:=fun h=>zw5 _ (metR_at m ha) h
  by_cases hc1 : m.contains a = true
  ·have hV' : VisL l st m f:=by
    cases hV with
    | met _ h=>exact h
    | leaf h=>exact absurd (by simpa using hc1) h
    | node h=>exact absurd (by simpa using hc1) h
   repeat' ((conv=>whnf); first|refine zw8 (zw19 hlt) ?_|refine zw8 hc1 ?_|refine IdxN.intro st.length hw (Nat.lt_succ_self _) ?_|refine IdxN.intro a rfl ha ?_|refine hgs ?_|refine hgm ?_|refine SliceP.intro 0 st.length rfl hw (zw22 _) (Nat.le_succ _) ?_|simp only [Nat.beq_refl,Bool.and_self]|refine zw0 ?_|refine zw1 ?_|refine zw2 (fun h=>?_) (fun h=>?_)|refine zw3 ?_|refine zw4 (fun h=>?_) (fun h=>?_)|refine zw5 _ rfl ?_|refine zw6 rfl ?_|refine zw7 mixed rfl ?_)
   conv=>whnf
   exact ⟨((st,m),(a : Int) :: jk,g),⟨hV',hst,hm,by simp only [List.length_cons] at hsl ⊢; omega⟩,by simp only [List.length_cons]; omega,Weak.to 3 (Eq.trans rfl (congrArg (fun r=>[Blk.row 0 1 (metR l.length m),.row g 1 (rdI r),.row m.length 1 (rdI (natI m))]) (stk_pop a st jk))) (Nat.zero_le _) (Nat.le_of_ble_eq_true rfl) ⟨rfl,rfl,rfl,rfl,trivial⟩ (hB:=visB_bel _ _ _ _ _)⟩
  ·have hc1' : m.contains a = false:=eq_false_of_ne_true hc1
   have hma : a ∉ m:=fun h=>hc1 (by simpa using h)
   have hm':=hm.snoc hma ha
   have hml':=hm'.len
   rw [List.length_append,List.length_singleton] at hml'
   have hu:=unm_snoc hma ha
   have r1:=nds_at' (l:=l) ha
   have key : ∀ (jk' : List Int),[Blk.row 0 1 ((metR l.length m).set (0 + a) [B true]),.row g 1 (rdI (natI (a :: st).reverse ++ jk)),.row (m.length + 1) 1 ((rdI (natI m)).take m.length ++ [[I a]])] = visB l.length st (m ++ [a]) ((a : Int) :: jk) g:=fun _=>by
    rw [metR_set m ha,stk_pop,ord_push]; unfold visB; rw [List.length_append]; rfl
   have hap : ∀ {X : Prop},X → Need (m.length + 1 ≤ 4294967296) X:=fun h=>zw6 (by omega) h
   by_cases hv0 : (ndA l a).var = 0
   ·have hV' : VisL l st (m ++ [a]) f:=by
     cases hV with
     | met h=>exact absurd h hma
     | leaf _ _ h=>exact h
     | node _ h=>exact absurd hv0 h
    repeat' ((conv=>whnf); first|refine zw8 (zw19 hlt) ?_|refine zw9 hc1' ?_|refine zw3 ?_|refine zw8 (zw19 hv0) ?_|refine IdxN.intro st.length hw (Nat.lt_succ_self _) ?_|refine IdxN.intro a rfl ha ?_|refine zw10 a _ rfl r1 ?_|refine hgs ?_|refine hgm ?_|refine SliceP.intro 0 st.length rfl hw (zw22 _) (Nat.le_succ _) ?_|simp only [Nat.beq_refl,Bool.and_self]|refine hap ?_|refine zw0 ?_|refine zw1 ?_|refine zw2 (fun h=>?_) (fun h=>?_)|refine zw3 ?_|refine zw4 (fun h=>?_) (fun h=>?_)|refine zw5 _ rfl ?_|refine zw6 rfl ?_|refine zw7 mixed rfl ?_)
    conv=>whnf
    have hln : (m ++ [a]).length = m.length + 1:=by rw [List.length_append]; rfl
    exact ⟨((st,m ++ [a]),(a : Int) :: jk,g),⟨hV',hst,hm',by simp only [List.length_cons] at hsl ⊢; omega⟩,by simp only [List.length_cons]; omega,Weak.to 3 (Eq.trans rfl (key [])) (Nat.zero_le _) (Nat.le_of_ble_eq_true rfl) ⟨rfl,(by rw [hln]; rfl),rfl,rfl,trivial⟩ (hB:=visB_bel _ _ _ _ _)⟩
   ·have hV' : VisL l ((ndA l a).y :: (ndA l a).z :: st) (m ++ [a]) f:=by
     cases hV with
     | met h=>exact absurd h hma
     | leaf _ h=>exact absurd h hv0
     | node _ _ h=>exact h
    have hn0:=hneg _ (ndA_mem ha) hv0
    have ey : (ndA l a).yes = ((ndA l a).y : Int):=by unfold Nd.y; omega
    have ez : (ndA l a).no = ((ndA l a).z : Int):=by unfold Nd.z; omega
    have hap2 : ∀ {X : Prop},X → Need (st.length + 2 ≤ 4294967296) X:=fun h=>Need.intro (by simp only [List.length_cons] at hsl; omega) h
    repeat' ((conv=>whnf); first|refine zw8 (zw19 hlt) ?_|refine zw9 hc1' ?_|refine zw3 ?_|refine zw9 (zw20 hv0) ?_|refine IdxN.intro st.length hw (Nat.lt_succ_self _) ?_|refine IdxN.intro a rfl ha ?_|refine zw10 a _ rfl r1 ?_|refine hgs ?_|refine hgm ?_|refine SliceP.intro 0 st.length rfl hw (zw22 _) (Nat.le_succ _) ?_|simp only [Nat.beq_refl,Bool.and_self]|refine hap ?_|refine hap2 ?_|refine zw0 ?_|refine zw1 ?_|refine zw2 (fun h=>?_) (fun h=>?_)|refine zw3 ?_|refine zw4 (fun h=>?_) (fun h=>?_)|refine zw5 _ rfl ?_|refine zw6 rfl ?_|refine zw7 mixed rfl ?_)
    conv=>whnf
    have hln : (m ++ [a]).length = m.length + 1:=by rw [List.length_append]; rfl
    have key2 : [Blk.row 0 1 ((metR l.length m).set (0 + a) [B true]),.row (g + 1) 1 ((rdI (natI (a :: st).reverse ++ jk)).take st.length ++ [[I (ndA l a).no],[I (ndA l a).yes]]),.row (m.length + 1) 1 ((rdI (natI m)).take m.length ++ [[I a]])] = visB l.length ((ndA l a).y :: (ndA l a).z :: st) (m ++ [a]) [] (g + 1):=by
     rw [metR_set m ha,stk_pop,ord_push,ey,ez,stk_push]; unfold visB; rw [List.length_append]; rfl
    exact ⟨(((ndA l a).y :: (ndA l a).z :: st,m ++ [a]),[],g + 1),⟨hV',fun b hb=>by
     rcases List.mem_cons.1 hb with rfl | hb
     ·exact hc.y a ha hv0
     rcases List.mem_cons.1 hb with rfl | hb
     ·exact hc.z a ha hv0
     ·exact hst b hb,hm',by simp only [List.length_cons] at hsl ⊢; omega⟩,by simp only [List.length_cons]; omega,Weak.to 3 (Eq.trans rfl key2) (Nat.zero_le _) (Nat.le_of_ble_eq_true rfl) ⟨rfl,(by rw [hln]; rfl),rfl,rfl,trivial⟩ (hB:=visB_bel _ _ _ _ _)⟩
end Go.Proofs.YtclmjkhdmhlijaaGreatDoor
namespace Go.Proofs.YtclmjkhdmhlijaaGreatDoor
open Go.Tidy
variable {L : List Blk} {k : V → List Blk → Prop}
structure KyOk (x : Nd) : Prop where
 b : ∀ c ∈ x.by_,0 ≤ c ∧ c < 256
theorem byU_inj {a b : Int} (ha : 0 ≤ a ∧ a < 256) (hb : 0 ≤ b ∧ b < 256) (h : byU a = byU b) : a = b:=by
 have h1:=wrap_u8 a
 have h2:=wrap_u8 b
 rw [h] at h1
 have e1 : IntKind.u8.wrap a = a:=by show a % 256 = a; omega
 have e2 : IntKind.u8.wrap b = b:=by show b % 256 = b; omega
 omega
theorem byS_inj : ∀ {a b : List Int},(∀ c ∈ a,0 ≤ c ∧ c < 256) → (∀ c ∈ b,0 ≤ c ∧ c < 256) → a.map byU = b.map byU → a = b
 | [],[],_,_,_=>rfl
 | [],_ :: _,_,_,h=>by cases h
 | _ :: _,[],_,_,h=>by cases h
 | x :: a,y :: b,ha,hb,h=>by
  simp only [List.map_cons,List.cons.injEq] at h
  rw [byU_inj (ha x (by simp)) (hb y (by simp)) h.1,byS_inj (fun c hc=>ha c (by simp [hc])) (fun c hc=>hb c (by simp [hc])) h.2]
theorem keyV'_inj {x y : Nd} (hx : KyOk x) (hy : KyOk y) (h : keyV' x = keyV' y) : x = y:=by
 unfold keyV' byS at h
 simp only [V.agg.injEq,List.cons.injEq,V.d.injEq,D.int.injEq,D.str.injEq,ByteArray.mk.injEq,true_and,and_true] at h
 obtain ⟨h1,h2,h3,h4,h5⟩:=h
 have:=byS_inj hx.b hy.b (by simpa using congrArg Array.toList h5)
 cases x; cases y; simp_all
abbrev tkK : TK:=.keys [.int .i64,.int .i64,.int .i64,.int .i64,.str]
theorem MapF.kyG {es : List (V × V)} {ks : List Nd} (he : es.map (·.1) = ks.map keyV') {a : Nd} (ha : KyOk a) (hks : ∀ x ∈ ks,KyOk x) {q : Option (Nat × V) → Prop} (h1 : a ∈ ks → ∀ v,es[ks.idxOf a]? = some (keyV' a,v) → q (some (ks.idxOf a,v))) (h2 : a ∉ ks → q none) : MapF tkK es (keyV' a) q:=by
 have hlen : es.length = ks.length:=by simpa using congrArg List.length he
 have hat : ∀ (j : Nat) (hj : j < ks.length),∃ v,es[j]? = some (keyV' ks[j],v):=fun j hj=>by
  have h:=congrArg (fun l=>l[j]?) he
  simp only [List.getElem?_map,List.getElem?_eq_getElem hj,List.getElem?_eq_getElem (show j < es.length by omega),Option.map_some,Option.some.injEq] at h
  refine ⟨es[j].2,?_⟩
  rw [List.getElem?_eq_getElem (by omega),← h]
 have hall : ∀ kv ∈ es,keyV tkK kv.1 = true:=fun kv hkv=>by
  have : kv.1 ∈ ks.map keyV':=he ▸ List.mem_map_of_mem (f:=(·.1)) hkv
  obtain ⟨x,_,hx⟩:=List.mem_map.1 this
  rw [← hx]; rfl
 by_cases hm : a ∈ ks
 ·have hi:=List.idxOf_lt_length_of_mem hm
  have hia : ks[ks.idxOf a] = a:=List.getElem_idxOf hi
  obtain ⟨v,hv⟩:=hat _ hi
  rw [hia] at hv
  refine MapF.hit (ks.idxOf a) v hall hv (fun j kv hj hkv e=>?_) (h1 hm v hv)
  have hjl : j < ks.length:=by omega
  obtain ⟨u,hu⟩:=hat j hjl
  rw [hu] at hkv
  cases hkv
  have e2:=keyV'_inj (hks _ (List.getElem_mem hjl)) ha e
  have:=List.not_of_lt_findIdx (p:=(· == a)) (xs:=ks) hj
  simp at this
  exact this e2
 ·refine MapF.miss hall (fun kv hkv e=>?_) (h2 hm)
  have : kv.1 ∈ ks.map keyV':=he ▸ List.mem_map_of_mem (f:=(·.1)) hkv
  obtain ⟨x,hx,hxe⟩:=List.mem_map.1 this
  have:=keyV'_inj (hks x hx) ha (hxe.trans e)
  exact hm (this ▸ hx)
def esN (l : List Nd) : List (V × V):=l.map fun x=>(keyV' x,B true)
theorem esN_keys (l : List Nd) : (esN l).map (·.1) = l.map keyV':=by unfold esN; rw [List.map_map]; rfl
theorem esN_bel (n : Nat) : ∀ l : List Nd,belM n (esN l) = true
 | []=>rfl
 | x :: l=>by
  have:=esN_bel n l
  unfold esN at this ⊢
  simp only [List.map_cons,belM,keyV',V.bel,V.belL,Bool.and_true,Bool.true_and,Bool.and_self] at this ⊢
  exact this
theorem MapF.kyN {ks : List Nd} {a : Nd} (ha : KyOk a) (hks : ∀ x ∈ ks,KyOk x) {q : Option (Nat × V) → Prop} (h1 : a ∈ ks → ∀ i,q (some (i,B true))) (h2 : a ∉ ks → q none) : MapF tkK (esN ks) (keyV' a) q :=
 MapF.kyG (esN_keys ks) ha hks (fun hm v hv=>by
  have hi:=List.idxOf_lt_length_of_mem hm
  unfold esN at hv
  rw [List.getElem?_map,List.getElem?_eq_getElem hi] at hv
  simp only [Option.map_some,Option.some.injEq,Prod.mk.injEq] at hv
  rw [← hv.2]
  exact h1 hm _) h2
theorem isNaN_c (a : Int) (h : k (B false) L) : CallP C 89 [I a] L k:=by
 refine CallP.pure ?_ rfl (fun _=>rfl) h
 clear h
 refine callP_of C_ok Tryz.func89 rfl rfl (n:=_) rfl (zw18 rfl) (rs:=_) rfl ?_
 repeat' ((conv=>whnf); first|refine zw0 ?_|refine zw1 ?_|refine zw2 (fun h=>?_) (fun h=>?_)|refine zw3 ?_|refine zw4 (fun h=>?_) (fun h=>?_)|refine zw5 _ rfl ?_|refine zw6 rfl ?_|refine zw7 mixed rfl ?_)
 conv=>whnf
 exact FinP.drop (n:=0) rfl (Nat.le_refl 0) rfl rfl ⟨rfl,congrArg B (by simp)⟩
theorem less_c (a b : Int) (h : k (B (decide (a < b))) L) : CallP C 66 [I a,I b] L k:=by
 refine CallP.pure ?_ rfl (fun _=>rfl) h
 clear h
 refine callP_of C_ok Tryz.func66 rfl rfl (n:=_) rfl (zw18 rfl) (rs:=_) rfl ?_
 repeat' ((conv=>whnf); first|refine isNaN_c _ ?_|refine zw0 ?_|refine zw1 ?_|refine zw2 (fun h=>?_) (fun h=>?_)|refine zw3 ?_|refine zw4 (fun h=>?_) (fun h=>?_)|refine zw5 _ rfl ?_|refine zw6 rfl ?_|refine zw7 mixed rfl ?_)
 conv=>whnf
 exact FinP.drop (n:=0) rfl (zw21 0) rfl rfl ⟨rfl,rfl⟩
def Srt (l : List Int) : Prop:=∀ j,j < l.length - 1 → l.getD j 0 ≤ l.getD (j + 1) 0
instance (l : List Int) : Decidable (Srt l):=by unfold Srt; infer_instance
theorem isSorted_c (l : List Int) (hp : 0 < l.length) (hl : l.length ≤ 4611686018427387904) (h : k (B (decide (Srt l))) L) : CallP C 40 [.d (ins l)] L k:=by
 refine CallP.pure ?_ rfl (fun _=>rfl) h
 clear h
 refine callP_of C_ok Tryz.func40 rfl rfl (n:=_) rfl (zw18 rfl) (rs:=_) rfl ?_
 repeat' ((conv=>whnf); first|refine zw0 ?_|refine zw1 ?_|refine zw2 (fun h=>?_) (fun h=>?_)|refine zw3 ?_|refine zw4 (fun h=>?_) (fun h=>?_)|refine zw5 _ rfl ?_|refine zw6 rfl ?_|refine zw7 mixed rfl ?_)
 conv=>whnf
 refine LoopP.inv (fun i=>i < l.length ∧ ∀ j,i ≤ j → j < l.length - 1 → l.getD j 0 ≤ l.getD (j + 1) 0) (fun i=>⟨[(0,.d (ins l)),(3,I i)],Tryz.f40.ntmps,[],[],none⟩) (fun i=>i) (l.length - 1) ⟨by omega,fun j h1 h2=>by omega⟩ ?_ ?_
 ·exact Weak.to 0 rfl (Nat.zero_le _) (Nat.zero_le _) ⟨rfl,congrArg I (by rw [List.length_map,wrap_in (by omega)]; omega),trivial⟩
 rintro i ⟨hi,hs⟩
 by_cases h0 : 0 < i
 ·have hlt : (0 : Int) < (i : Int):=by omega
  have hw : IntKind.i64.wrap ((i : Int) - 1) = ((i - 1 : Nat) : Int):=by rw [wrap_in (by omega)]; omega
  have r1 : (l.map fun n=>[DI n])[i]? = some [DI (l.getD i 0)]:=by rw [List.getElem?_map,List.getElem?_eq_getElem hi,getD_at hi]; rfl
  have r2 : (l.map fun n=>[DI n])[i - 1]? = some [DI (l.getD (i - 1) 0)]:=by rw [List.getElem?_map,List.getElem?_eq_getElem (show i - 1 < l.length by omega),getD_at (show i - 1 < l.length by omega)]; rfl
  by_cases hc : l.getD i 0 < l.getD (i - 1) 0
  ·have hno : ¬ Srt l:=fun h=>by have:=h (i - 1) (by omega); rw [show i - 1 + 1 = i by omega] at this; omega
   repeat' ((conv=>whnf); first|refine zw8 (zw19 hlt) ?_|refine zw8 (zw19 hc) ?_|refine zw10 i _ rfl r1 ?_|refine zw10 (i - 1) _ hw r2 ?_|refine zw12 _ (less_c (l.getD i 0) (l.getD (i - 1) 0) ⟨rfl,rfl⟩) ?_|refine zw0 ?_|refine zw1 ?_|refine zw2 (fun h=>?_) (fun h=>?_)|refine zw3 ?_|refine zw4 (fun h=>?_) (fun h=>?_)|refine zw5 _ rfl ?_|refine zw6 rfl ?_|refine zw7 mixed rfl ?_)
   conv=>whnf
   exact FinP.drop (n:=0) rfl (zw21 0) rfl rfl ⟨rfl,congrArg B (zw20 hno).symm⟩
  ·repeat' (conv => whnf
            first|refine zw8 (zw19 hlt) ?_|refine zw9 (zw20 hc) ?_|refine zw10 i _ rfl r1 ?_|refine zw10 (i - 1) _ hw r2 ?_|refine zw12 _ (less_c (l.getD i 0) (l.getD (i - 1) 0) ⟨rfl,rfl⟩) ?_|refine zw0 ?_|refine zw1 ?_|refine zw2 (fun h=>?_) (fun h=>?_)|refine zw3 ?_|refine zw4 (fun h=>?_) (fun h=>?_)|refine zw5 _ rfl ?_|refine zw6 rfl ?_|refine zw7 mixed rfl ?_)
   conv=>whnf
   exact ⟨i - 1,⟨by omega,fun j h1 h2=>by
    by_cases e : j = i - 1
    ·subst e; rw [show i - 1 + 1 = i by omega]; omega
    ·exact hs j (by omega) h2⟩,by omega,Weak.by ⟨rfl,congrArg I hw,trivial⟩⟩
 ·have hlt : ¬ (0 : Int) < (i : Int):=by omega
  repeat' ((conv=>whnf); first|refine zw9 (zw20 hlt) ?_|refine zw0 ?_|refine zw1 ?_|refine zw2 (fun h=>?_) (fun h=>?_)|refine zw3 ?_|refine zw4 (fun h=>?_) (fun h=>?_)|refine zw5 _ rfl ?_|refine zw6 rfl ?_|refine zw7 mixed rfl ?_)
  conv=>whnf
  exact FinP.drop (n:=0) rfl (zw21 0) rfl rfl ⟨rfl,congrArg B (zw19 (show Srt l from fun j h=>hs j (by omega) h)).symm⟩
theorem srt_range {n : Nat} {f : List Nat} (hm : MetOk n f) : (f.length = n ∧ Srt (natI f)) ↔ f = List.range n:=by
 constructor
 ·rintro ⟨h1,h2⟩
  have hstep : ∀ j,(hj : j + 1 < f.length) → f[j] < f[j + 1]:=fun j hj=>by
   have:=h2 j (by rw [natI_len]; omega)
   rw [getD_at (by rw [natI_len]; omega),getD_at (by rw [natI_len]; omega)] at this
   unfold natI at this
   rw [List.getElem_map,List.getElem_map] at this
   have hne : f[j] ≠ f[j + 1]:=fun e=>by have:=nd_inj hm.nd _ _ e; omega
   omega
  have hge : ∀ j,(hj : j < f.length) → j ≤ f[j]:=by
   intro j
   induction j with
   | zero=>intro hj; exact Nat.zero_le _
   | succ j ih=>intro hj; have:=ih (by omega); have:=hstep j hj; omega
  have hle : ∀ d,∀ j,(hj : j < f.length) → f.length - 1 - j = d → f[j] ≤ j:=by
   intro d
   induction d with
   | zero =>
    intro j hj hd
    have:=hm.lt _ (List.getElem_mem hj)
    omega
   | succ d ih =>
    intro j hj hd
    have:=ih (j + 1) (by omega) (by omega)
    have:=hstep j (by omega)
    omega
  refine List.ext_getElem (by simp [h1]) fun j h3 h4=>?_
  rw [List.getElem_range]
  have:=hge j h3
  have:=hle _ j h3 rfl
  omega
 ·rintro rfl
  refine ⟨by simp,fun j hj=>?_⟩
  rw [natI_len,List.length_range] at hj
  rw [getD_at (by rw [natI_len,List.length_range]; omega),getD_at (by rw [natI_len,List.length_range]; omega)]
  unfold natI
  rw [List.getElem_map,List.getElem_map,List.getElem_range,List.getElem_range]
  omega
end Go.Proofs.YtclmjkhdmhlijaaGreatDoor
namespace Go.Proofs.YtclmjkhdmhlijaaGreatDoor
open Go.Tidy
variable {L : List Blk} {k : V → List Blk → Prop}
theorem ndB_ky {l : List Nd} {x : Nd} (h : ndB l x = true) : KyOk x:=by
 unfold ndB at h
 rw [Bool.or_eq_true] at h
 rcases h with h | h
 ·unfold leafB at h
  rw [Bool.and_eq_true] at h
  have:=byB_iff.1 h.1
  exact ⟨fun c hc=>by have:=this.rg c hc; omega⟩
 ·have:=innerB_iff.1 h
  exact ⟨fun c hc=>by rw [this.by_] at hc; cases hc⟩
theorem check_bad {l : List Nd} (hl : l.length ≤ 4096) (h : ¬ (l.all (ndB l) && decide l.Nodup) = true) : checkT l = 160:=by
 unfold checkT
 rw [if_neg (by omega),if_neg h]
 split <;> rfl
def chB (l : List Nd) (i : Nat) : List Blk:=[.cells [.d (nds l)],.map (esN (l.take i))]
theorem chB_bel (l : List Nd) (i : Nat) : belB 2 (chB l i) = true:=by
 show (true && (belM 2 (esN _) && true)) = true
 rw [esN_bel]; rfl
structure TrSm (l : List Nd) : Prop where
 len : l.length ≤ 4096
 by_ : ∀ x ∈ l,x.by_.length ≤ 1073741824
theorem check16_c (l : List Nd) (hsm : TrSm l) (h : k (I (checkT l)) L) : CallP C 14 [treV l] L k:=by
 have hl:=hsm.len
 have hcl : ¬ (4096 : Int) < ((l.map Nd.cells).length : Int):=by rw [List.length_map]; omega
 refine CallP.pure ?_ rfl (fun _=>rfl) h
 clear h
 refine callP_of C_ok Tryz.func14 rfl rfl (n:=_) rfl (zw18 rfl) (rs:=_) rfl ?_
 repeat' ((conv=>whnf); first|refine zw9 (zw20 hcl) ?_|refine zw0 ?_|refine zw1 ?_|refine zw2 (fun h=>?_) (fun h=>?_)|refine zw3 ?_|refine zw4 (fun h=>?_) (fun h=>?_)|refine zw5 _ rfl ?_|refine zw6 rfl ?_|refine zw7 mixed rfl ?_)
 conv=>whnf
 refine LoopP.inv (fun i=>i ≤ l.length ∧ (∀ (j : Nat) (hj : j < l.length),j < i → ndB l l[j] = true) ∧ (l.take i).Nodup) (fun i=>⟨[(1,.ptr 0 0),(3,.map 1),(13,.d (nds l)),(14,I l.length),(15,I i)],Tryz.f14.ntmps,chB l i,[],none⟩) (fun i=>l.length - i) 0 ⟨zw22 _,fun j _ h=>absurd h (Nat.not_lt_zero j),List.nodup_nil⟩ ?_ ?_
 ·exact Weak.by ⟨rfl,rfl,rfl,congrArg I (by simp),rfl,trivial⟩
 rintro i ⟨hi,hok,hnd⟩
 by_cases hi' : i < l.length
 ·have hlt : (i : Int) < (l.length : Int):=by omega
  have hw : IntKind.i64.wrap ((i : Int) + 1) = ((i + 1 : Nat) : Int):=by rw [wrap_in (by omega)]; omega
  have r1:=nds_at hi'
  have hxm : l[i] ∈ l:=List.getElem_mem hi'
  have hxb:=hsm.by_ _ hxm
  have hbad : ndB l l[i] = false → 160 = checkT l:=fun h=>(check_bad hl fun hc=>by
   rw [Bool.and_eq_true,List.all_eq_true] at hc
   have:=hc.1 _ hxm
   rw [h] at this; cases this).symm
  have hdup : l[i] ∈ l.take i → 160 = checkT l:=fun h=>(check_bad hl fun hc=>by
   rw [Bool.and_eq_true,decide_eq_true_eq] at hc
   obtain ⟨j,hj,e⟩:=List.getElem_of_mem h
   rw [List.length_take] at hj
   rw [List.getElem_take] at e
   have:=nd_inj hc.2 _ _ e
   omega).symm
  have hsnoc : l.take (i + 1) = l.take i ++ [l[i]]:=take_next hi'
  have htk : ∀ x ∈ l.take i,KyOk x:=fun x hx=>by
   obtain ⟨j,hj,rfl⟩:=List.getElem_of_mem hx
   rw [List.length_take] at hj
   rw [List.getElem_take]
   exact ndB_ky (hok j (by omega) (by omega))
  have hndb : ndB l l[i] = (leafB l[i] || innerB l l[i]):=rfl
  have hlf : ∀ {L : List Blk} {k : V → List Blk → Prop},k (B (leafB l[i])) L → CallP C 37 [.agg [I l[i].var,I l[i].n,I l[i].yes,I l[i].no,.d (ins l[i].by_)]] L k:=fun h=>isLeaf_c l[i] hxb h
  have hin : ∀ {L : List Blk} {k : V → List Blk → Prop},k (B (innerB l l[i])) L → CallP C 38 [.d (nds l),.agg [I l[i].var,I l[i].n,I l[i].yes,I l[i].no,.d (ins l[i].by_)]] L k:=fun h=>isInner_c l l[i] h
  have hky : ∀ {L : List Blk} {k : V → List Blk → Prop},k (keyV' l[i]) L → CallP C 39 [.agg [I l[i].var,I l[i].n,I l[i].yes,I l[i].no,.d (ins l[i].by_)]] L k:=fun h=>keyOf_c l[i] hxb h
  by_cases c0 : ndB l l[i] = true
  rotate_left
  ·have c0:=eq_false_of_ne_true c0
   have c1 : leafB l[i] = false:=by rw [c0] at hndb; exact (Bool.or_eq_false_iff.1 hndb.symm).1
   have c2 : innerB l l[i] = false:=by rw [c0] at hndb; exact (Bool.or_eq_false_iff.1 hndb.symm).2
   repeat' ((conv=>whnf); first|refine zw8 (zw19 hlt) ?_|refine zw9 c1 ?_|refine zw9 c2 ?_|refine zw10 i _ rfl r1 ?_|refine hlf ?_|refine hin ?_|refine hky ?_|refine zw0 ?_|refine zw1 ?_|refine zw2 (fun h=>?_) (fun h=>?_)|refine zw3 ?_|refine zw4 (fun h=>?_) (fun h=>?_)|refine zw5 _ rfl ?_|refine zw6 rfl ?_|refine zw7 mixed rfl ?_)
   conv=>whnf
   exact FinP.drop (n:=0) rfl (zw21 0) rfl rfl ⟨rfl,congrArg I (hbad c0)⟩
  ·have hkx:=ndB_ky c0
   by_cases hm : l[i] ∈ l.take i
   ·have hmap : ∀ {q : Option (Nat × V) → Prop},(∀ j,q (some (j,B true))) → MapF tkK (esN (l.take i)) (keyV' l[i]) q:=fun h=>MapF.kyN hkx htk (fun _ j=>h j) fun hn=>absurd hm hn
    by_cases c1 : leafB l[i] = true
    ·repeat' (conv => whnf
              first|refine zw8 (zw19 hlt) ?_|refine zw8 c1 ?_|refine zw10 i _ rfl r1 ?_|refine hlf ?_|refine hin ?_|refine hky ?_|refine hmap fun j=>?_|refine zw0 ?_|refine zw1 ?_|refine zw2 (fun h=>?_) (fun h=>?_)|refine zw3 ?_|refine zw4 (fun h=>?_) (fun h=>?_)|refine zw5 _ rfl ?_|refine zw6 rfl ?_|refine zw7 mixed rfl ?_)
     conv=>whnf
     exact FinP.drop (n:=0) rfl (zw21 0) rfl rfl ⟨rfl,congrArg I (hdup hm)⟩
    ·have c1:=eq_false_of_ne_true c1
     have c2 : innerB l l[i] = true:=by rw [c0,c1,Bool.false_or] at hndb; exact hndb.symm
     repeat' ((conv=>whnf); first|refine zw8 (zw19 hlt) ?_|refine zw9 c1 ?_|refine zw8 c2 ?_|refine zw10 i _ rfl r1 ?_|refine hlf ?_|refine hin ?_|refine hky ?_|refine hmap fun j=>?_|refine zw0 ?_|refine zw1 ?_|refine zw2 (fun h=>?_) (fun h=>?_)|refine zw3 ?_|refine zw4 (fun h=>?_) (fun h=>?_)|refine zw5 _ rfl ?_|refine zw6 rfl ?_|refine zw7 mixed rfl ?_)
     conv=>whnf
     exact FinP.drop (n:=0) rfl (zw21 0) rfl rfl ⟨rfl,congrArg I (hdup hm)⟩
   ·have hmap : ∀ {q : Option (Nat × V) → Prop},q none → MapF tkK (esN (l.take i)) (keyV' l[i]) q:=fun h=>MapF.kyN hkx htk (fun hn=>absurd hn hm) fun _=>h
    have hnx : i + 1 ≤ l.length ∧ (∀ (j : Nat) (hj : j < l.length),j < i + 1 → ndB l l[j] = true) ∧ (l.take (i + 1)).Nodup:=⟨hi',fun j hj hji=>by
     by_cases e : j = i
     ·subst e; exact c0
     ·exact hok j hj (by omega),by
     rw [hsnoc]
     exact List.nodup_append.2 ⟨hnd,by simp,fun a ha b hb e=>hm (by rw [List.mem_singleton.1 hb] at e; exact e ▸ ha)⟩⟩
    have hblk : [Blk.cells [.d (nds l)],.map (esN (l.take i) ++ [(keyV' l[i],B true)])] = chB l (i + 1):=by
     unfold chB esN; rw [hsnoc,List.map_append]; rfl
    by_cases c1 : leafB l[i] = true
    ·repeat' (conv => whnf
              first|refine zw8 (zw19 hlt) ?_|refine zw8 c1 ?_|refine zw10 i _ rfl r1 ?_|refine hlf ?_|refine hin ?_|refine hky ?_|refine hmap ?_|refine zw0 ?_|refine zw1 ?_|refine zw2 (fun h=>?_) (fun h=>?_)|refine zw3 ?_|refine zw4 (fun h=>?_) (fun h=>?_)|refine zw5 _ rfl ?_|refine zw6 rfl ?_|refine zw7 mixed rfl ?_)
     conv=>whnf
     exact ⟨i + 1,hnx,by omega,Weak.to 2 (Eq.trans rfl hblk) (zw22 _) (zw18 rfl) ⟨rfl,rfl,rfl,rfl,congrArg I hw,trivial⟩ (hB:=chB_bel _ _)⟩
    ·have c1:=eq_false_of_ne_true c1
     have c2 : innerB l l[i] = true:=by rw [c0,c1,Bool.false_or] at hndb; exact hndb.symm
     repeat' ((conv=>whnf); first|refine zw8 (zw19 hlt) ?_|refine zw9 c1 ?_|refine zw8 c2 ?_|refine zw10 i _ rfl r1 ?_|refine hlf ?_|refine hin ?_|refine hky ?_|refine hmap ?_|refine zw0 ?_|refine zw1 ?_|refine zw2 (fun h=>?_) (fun h=>?_)|refine zw3 ?_|refine zw4 (fun h=>?_) (fun h=>?_)|refine zw5 _ rfl ?_|refine zw6 rfl ?_|refine zw7 mixed rfl ?_)
     conv=>whnf
     exact ⟨i + 1,hnx,by omega,Weak.to 2 (Eq.trans rfl hblk) (zw22 _) (zw18 rfl) ⟨rfl,rfl,rfl,rfl,congrArg I hw,trivial⟩ (hB:=chB_bel _ _)⟩
 ·have hlt : ¬ (i : Int) < (l.length : Int):=by omega
  have hall : (l.all (ndB l) && decide l.Nodup) = true:=by
   rw [Bool.and_eq_true,List.all_eq_true,decide_eq_true_eq]
   refine ⟨fun x hx=>?_,by rwa [List.take_of_length_le (by omega)] at hnd⟩
   obtain ⟨j,hj,rfl⟩:=List.getElem_of_mem hx
   exact hok j hj (by omega)
  have hw:=Wf.of (Bool.and_eq_true_iff.1 hall).1
  by_cases h0 : ((l.map Nd.cells).length : Int) = 0
  ·have : checkT l = 160:=by unfold checkT; rw [if_neg (by omega),if_pos (by rw [List.length_map] at h0; omega)]
   repeat' ((conv=>whnf); first|refine zw9 (zw20 hlt) ?_|refine zw8 (zw19 h0) ?_|refine zw0 ?_|refine zw1 ?_|refine zw2 (fun h=>?_) (fun h=>?_)|refine zw3 ?_|refine zw4 (fun h=>?_) (fun h=>?_)|refine zw5 _ rfl ?_|refine zw6 rfl ?_|refine zw7 mixed rfl ?_)
   conv=>whnf
   exact FinP.drop (n:=0) rfl (zw21 0) rfl rfl ⟨rfl,congrArg I this.symm⟩
  ·have hp : 0 < l.length:=by rw [List.length_map] at h0; omega
   have hV:=visO_vis hw.closed hp
   have hm : MetOk l.length (visO l 0):=hV.metok hw.closed (fun a ha=>by rw [List.mem_singleton.1 ha]; exact hp) ⟨List.nodup_nil,fun a ha=>by cases ha⟩
   have hvis : ∀ {L : List Blk} {k : V → List Blk → Prop},k (.d (ins (natI (visO l 0)))) L → CallP C 27 [.d (nds l),I 0] L k:=fun h=>visit_c l 0 hw.closed hp (by omega) (fun x hx hv=>by
    obtain ⟨j,hj,rfl⟩:=List.getElem_of_mem hx
    have hi:=hw.inn hj (by rw [ndA_get hj]; exact hv)
    rw [ndA_get hj] at hi
    exact ⟨hi.y.1,hi.z.1⟩) h
   have hck : checkT l = if visO l 0 = List.range l.length then 0 else 160:=by unfold checkT; rw [if_neg (by omega),if_neg (by omega),if_pos hall]
   have hrng:=srt_range hm
   obtain ⟨r,hr⟩:=hV.first
   have hpo : 0 < (natI (visO l 0)).length:=by rw [natI_len,hr]; simp
   have hlo : (natI (visO l 0)).length ≤ 4611686018427387904:=by rw [natI_len]; have:=hm.len; omega
   have hlen0 : (((natI (visO l 0)).map fun n=>[DI n]).length : Int) = ((l.map Nd.cells).length : Int) ↔ (visO l 0).length = l.length:=by rw [List.length_map,List.length_map,natI_len]; omega
   rw [hck]
   generalize visO l 0 = o at *
   by_cases c1 : ((((natI o).map fun n=>[DI n]).length : Int) = ((l.map Nd.cells).length : Int))
   ·by_cases c2 : Srt (natI o)
    ·repeat' (conv => whnf
              first|refine zw9 (zw20 hlt) ?_|refine zw9 (zw20 h0) ?_|refine zw3 ?_|refine zw8 (zw19 c1) ?_|refine zw8 (zw19 c2) ?_|refine hvis ?_|refine isSorted_c (natI o) hpo hlo ?_|refine zw0 ?_|refine zw1 ?_|refine zw2 (fun h=>?_) (fun h=>?_)|refine zw3 ?_|refine zw4 (fun h=>?_) (fun h=>?_)|refine zw5 _ rfl ?_|refine zw6 rfl ?_|refine zw7 mixed rfl ?_)
     conv=>whnf
     exact FinP.drop (n:=0) rfl (zw21 0) rfl rfl ⟨rfl,congrArg I (if_pos (hrng.1 ⟨hlen0.1 c1,c2⟩)).symm⟩
    ·repeat' (conv => whnf
              first|refine zw9 (zw20 hlt) ?_|refine zw9 (zw20 h0) ?_|refine zw3 ?_|refine zw8 (zw19 c1) ?_|refine zw9 (zw20 c2) ?_|refine hvis ?_|refine isSorted_c (natI o) hpo hlo ?_|refine zw0 ?_|refine zw1 ?_|refine zw2 (fun h=>?_) (fun h=>?_)|refine zw3 ?_|refine zw4 (fun h=>?_) (fun h=>?_)|refine zw5 _ rfl ?_|refine zw6 rfl ?_|refine zw7 mixed rfl ?_)
     conv=>whnf
     exact FinP.drop (n:=0) rfl (zw21 0) rfl rfl ⟨rfl,congrArg I (if_neg fun e=>c2 (hrng.2 e).2).symm⟩
   ·repeat' (conv => whnf
             first|refine zw9 (zw20 hlt) ?_|refine zw9 (zw20 h0) ?_|refine zw3 ?_|refine zw9 (zw20 c1) ?_|refine hvis ?_|refine isSorted_c (natI o) hpo hlo ?_|refine zw0 ?_|refine zw1 ?_|refine zw2 (fun h=>?_) (fun h=>?_)|refine zw3 ?_|refine zw4 (fun h=>?_) (fun h=>?_)|refine zw5 _ rfl ?_|refine zw6 rfl ?_|refine zw7 mixed rfl ?_)
    conv=>whnf
    exact FinP.drop (n:=0) rfl (zw21 0) rfl rfl ⟨rfl,congrArg I (if_neg fun e=>c1 (hlen0.2 (hrng.2 e).1)).symm⟩
end Go.Proofs.YtclmjkhdmhlijaaGreatDoor
namespace Go.Proofs.YtclmjkhdmhlijaaGreatDoor
open Go.Tidy
variable {L : List Blk} {k : V → List Blk → Prop}
def evalB (l : List Nd) (x : En) : List Int:=if checkT l = 0 ∧ envE x = 0 then (un l 0).ev x else []
def evalE (l : List Nd) (x : En) : Int:=if checkT l ≠ 0 then checkT l else envE x
theorem nxI_nat {l : List Nd} (h : Wf l) {x : En} {a : Nat} (ha : a < l.length) (hv : (ndA l a).var ≠ 0) : nxI (ndA l a) x = (nx l x a : Int):=by
 have hi:=h.inn ha hv
 unfold nxI nx
 split
 ·unfold Nd.y; have:=hi.y; omega
 ·unfold Nd.z; have:=hi.z; omega
theorem eval_c (l : List Nd) (x : En) (hsm : TrSm l) (h : k (.tup [.d (ins (evalB l x)),I (evalE l x)]) L) : CallP C 12 [treV l,enV x] L k:=by
 have hck : ∀ {L : List Blk} {k : V → List Blk → Prop},k (I (checkT l)) L → CallP C 14 [treV l] L k:=fun h=>check16_c l hsm h
 by_cases c1 : checkT l = 0
 rotate_left
 ·have e : evalB l x = [] ∧ evalE l x = checkT l:=by unfold evalB evalE; rw [if_neg (fun hn=>c1 hn.1),if_pos c1]; exact ⟨rfl,rfl⟩
  rw [e.1,e.2] at h
  refine CallP.pure ?_ rfl (fun _=>rfl) h
  clear h
  refine callP_of C_ok Tryz.func12 rfl rfl (n:=_) rfl (zw18 rfl) (rs:=_) rfl ?_
  repeat' ((conv=>whnf); first|refine hck ?_|refine zw3 ?_|refine zw9 (zw20 c1) ?_|refine zw0 ?_|refine zw1 ?_|refine zw2 (fun h=>?_) (fun h=>?_)|refine zw3 ?_|refine zw4 (fun h=>?_) (fun h=>?_)|refine zw5 _ rfl ?_|refine zw6 rfl ?_|refine zw7 mixed rfl ?_)
  conv=>whnf
  exact FinP.data (L':=[]) (.pair (.d .nil) (.d (.d _))) rfl rfl ⟨rfl,rfl⟩
 by_cases c2 : envE x = 0
 rotate_left
 ·have e : evalB l x = [] ∧ evalE l x = envE x:=by unfold evalB evalE; rw [if_neg (fun hn=>c2 hn.2),if_neg (fun hn=>hn c1)]; exact ⟨rfl,rfl⟩
  rw [e.1,e.2] at h
  refine CallP.pure ?_ rfl (fun _=>rfl) h
  clear h
  refine callP_of C_ok Tryz.func12 rfl rfl (n:=_) rfl (zw18 rfl) (rs:=_) rfl ?_
  repeat' ((conv=>whnf); first|refine hck ?_|refine env_c x ?_|refine zw3 ?_|refine zw8 (zw19 c1) ?_|refine zw9 (zw20 c2) ?_|refine zw0 ?_|refine zw1 ?_|refine zw2 (fun h=>?_) (fun h=>?_)|refine zw3 ?_|refine zw4 (fun h=>?_) (fun h=>?_)|refine zw5 _ rfl ?_|refine zw6 rfl ?_|refine zw7 mixed rfl ?_)
  conv=>whnf
  exact FinP.data (L':=[]) (.pair (.d .nil) (.d (.d _))) rfl rfl ⟨rfl,rfl⟩
 have e : evalB l x = (un l 0).ev x ∧ evalE l x = 0:=by unfold evalB evalE; rw [if_pos ⟨c1,c2⟩,if_neg (fun hn=>hn c1)]; exact ⟨rfl,c2⟩
 rw [e.1,e.2] at h
 have hV:=checkT_iff.1 c1
 have hw:=hV.wf
 have r0:=nds_at' (l:=l) hV.pos
 refine CallP.pure ?_ rfl (fun _=>rfl) h
 clear h
 refine callP_of C_ok Tryz.func12 rfl rfl (n:=_) rfl (zw18 rfl) (rs:=_) rfl ?_
 repeat' ((conv=>whnf); first|refine hck ?_|refine env_c x ?_|refine zw3 ?_|refine zw8 (zw19 c1) ?_|refine zw8 (zw19 c2) ?_|refine zw10 0 _ rfl r0 ?_|refine zw0 ?_|refine zw1 ?_|refine zw2 (fun h=>?_) (fun h=>?_)|refine zw3 ?_|refine zw4 (fun h=>?_) (fun h=>?_)|refine zw5 _ rfl ?_|refine zw6 rfl ?_|refine zw7 mixed rfl ?_)
 conv=>whnf
 refine LoopP.inv (fun a=>a < l.length ∧ (un l a).ev x = (un l 0).ev x) (fun a=>⟨[(2,.ptr 0 0),(3,.ptr 1 0),(8,.ptr 2 0)],Tryz.f12.ntmps,[.cells [.d (nds l)],.cells (x.cells.map .d),.cells ((ndA l a).cells.map .d)],[],none⟩) (fun a=>rk (ndA l a)) 0 ⟨hV.pos,rfl⟩ ?_ ?_
 ·exact Weak.by ⟨rfl,rfl,rfl,trivial⟩
 rintro a ⟨ha,hev⟩
 by_cases hv : (ndA l a).var = 0
 ·have hres : (ndA l a).by_ = (un l 0).ev x:=by rw [← hev,un_leaf hv]; rfl
  repeat' ((conv=>whnf); first|refine zw3 ?_|refine zw8 (zw19 hv) ?_|refine zw0 ?_|refine zw1 ?_|refine zw2 (fun h=>?_) (fun h=>?_)|refine zw3 ?_|refine zw4 (fun h=>?_) (fun h=>?_)|refine zw5 _ rfl ?_|refine zw6 rfl ?_|refine zw7 mixed rfl ?_)
  conv=>whnf
  exact FinP.drop (n:=0) rfl (Nat.le_refl 0) rfl rfl ⟨rfl,Eq.trans (b:=V.tup [.d (ins (ndA l a).by_),I 0]) rfl (by rw [hres])⟩
 ·have hi:=hw.inn ha hv
  have hn:=hw.nx_lt (x:=x) ha hv
  have r1:=nds_at' (l:=l) hn
  have hnx : ∀ {L : List Blk} {k : V → List Blk → Prop},k (I (nxI (ndA l a) x)) L → CallP C 36 [ndV (ndA l a),enV x] L k:=fun h=>next_c (ndA l a) x ⟨hi.v1,hi.v4⟩ h
  repeat' ((conv=>whnf); first|refine zw3 ?_|refine zw9 (zw20 hv) ?_|refine zw12 _ (hnx ⟨rfl,rfl⟩) ?_|refine zw10 (nx l x a) _ (nxI_nat hw ha hv) r1 ?_|refine zw0 ?_|refine zw1 ?_|refine zw2 (fun h=>?_) (fun h=>?_)|refine zw3 ?_|refine zw4 (fun h=>?_) (fun h=>?_)|refine zw5 _ rfl ?_|refine zw6 rfl ?_|refine zw7 mixed rfl ?_)
  conv=>whnf
  exact ⟨nx l x a,⟨hn,by rw [← ev_node hw ha hv]; exact hev⟩,hw.rk_nx ha hv,Weak.to 3 rfl (Nat.zero_le _) (Nat.le_of_ble_eq_true rfl) ⟨rfl,rfl,rfl,trivial⟩⟩
end Go.Proofs.YtclmjkhdmhlijaaGreatDoor
namespace Go.Proofs.YtclmjkhdmhlijaaGreatDoor
open Go.Tidy
variable {L : List Blk} {k : V → List Blk → Prop}
def gb (l : List Bool) (i : Nat) : Bool:=l.getD i false
theorem gb_set {l : List Bool} {i j : Nat} {b : Bool} (h : i < l.length) : gb (l.set i b) j = if i = j then b else gb l j:=by
 unfold gb
 rw [List.getD_eq_getElem?_getD,List.getD_eq_getElem?_getD,List.getElem?_set]
 split
 ·first | rfl | (rw [if_pos h]; rfl)
 ·rfl
theorem gb_on {l : List Bool} {i j : Nat} (h : i < l.length) (hj : gb l j = true) : gb (l.set i true) j = true:=by
 rw [gb_set h]
 by_cases e : i = j
 ·rw [if_pos e]
 ·rw [if_neg e]; exact hj
abbrev Kw:=List Bool × List Bool
def ldF (l : List Nd) (node : Nat) : Nat → Nat → Kw → Kw
 | 0,_,s=>s
 | k + 1,i,s =>
  if gb s.1 i = true then s
  else if i = node then (s.1.set i true,s.2.set i true)
  else if (ndA l i).var = 0 then (s.1.set i true,s.2.set i false)
  else if gb (ldF l node k (ndA l i).y (s.1.set i true,s.2)).2 (ndA l i).y = true then ((ldF l node k (ndA l i).y (s.1.set i true,s.2)).1,(ldF l node k (ndA l i).y (s.1.set i true,s.2)).2.set i true)
  else ((ldF l node k (ndA l i).z (ldF l node k (ndA l i).y (s.1.set i true,s.2))).1,(ldF l node k (ndA l i).z (ldF l node k (ndA l i).y (s.1.set i true,s.2))).2.set i (gb (ldF l node k (ndA l i).z (ldF l node k (ndA l i).y (s.1.set i true,s.2))).2 (ndA l i).z))
structure KwOk (l : List Nd) (node : Nat) (s : Kw) : Prop where
 l1 : s.1.length = l.length
 l2 : s.2.length = l.length
 ok : ∀ j,j < l.length → gb s.1 j = true → gb s.2 j = rch l node j
structure KwOp (l : List Nd) (node : Nat) (op : Nat → Prop) (s : Kw) : Prop where
 l1 : s.1.length = l.length
 l2 : s.2.length = l.length
 ok : ∀ j,j < l.length → gb s.1 j = true → op j ∨ gb s.2 j = rch l node j
theorem ldF_ok {l : List Nd} (h : Wf l) (node : Nat) : ∀ (k i : Nat) (op : Nat → Prop) (s : Kw),rk (ndA l i) < k → i < l.length → (∀ j,op j → rk (ndA l i) < rk (ndA l j)) → KwOp l node op s → KwOp l node op (ldF l node k i s) ∧ gb (ldF l node k i s).2 i = rch l node i ∧ ∀ j,gb s.1 j = true → gb (ldF l node k i s).1 j = true
 | 0,i,op,s,hk,_,_,_=>absurd hk (Nat.not_lt_zero _)
 | k + 1,i,op,s,hk,hi,hop,hs=>by
  have hni : ¬ op i:=fun h=>Nat.lt_irrefl _ (hop i h)
  have hi1 : i < s.1.length:=by rw [hs.l1]; exact hi
  have hi2 : i < s.2.length:=by rw [hs.l2]; exact hi
  rw [ldF]
  by_cases c1 : gb s.1 i = true
  ·rw [if_pos c1]
   exact ⟨hs,(hs.ok i hi c1).resolve_left hni,fun _ h=>h⟩
  rw [if_neg c1]
  have leaf : ∀ b : Bool,b = rch l node i → KwOp l node op (s.1.set i true,s.2.set i b) ∧ gb (s.2.set i b) i = rch l node i ∧ ∀ j,gb s.1 j = true → gb (s.1.set i true) j = true:=fun b hb=>by
   refine ⟨⟨by simp [hs.l1],by simp [hs.l2],fun j hj hg=>?_⟩,by rw [gb_set hi2,if_pos rfl]; exact hb,fun j hj=>gb_on hi1 hj⟩
   simp only at hg ⊢
   rw [gb_set hi1] at hg
   rw [gb_set hi2]
   split at hg
   ·rename_i e; subst e; rw [if_pos rfl]; exact .inr hb
   ·rename_i e; rw [if_neg e]; exact hs.ok j hj hg
  by_cases c2 : i = node
  ·rw [if_pos c2]
   exact leaf true (by rw [c2,rch_self])
  rw [if_neg c2]
  by_cases c3 : (ndA l i).var = 0
  ·rw [if_pos c3]
   exact leaf false (by rw [rch_leaf c3,decide_eq_false c2])
  rw [if_neg c3]
  have ky:=h.rk_y hi c3
  have kz:=h.rk_z hi c3
  have ly:=h.yl hi c3
  have lz:=h.zl hi c3
  have h0 : KwOp l node (fun j=>op j ∨ j = i) (s.1.set i true,s.2):=⟨by simp [hs.l1],hs.l2,fun j hj hg=>by
   simp only at hg ⊢
   rw [gb_set hi1] at hg
   split at hg
   ·rename_i e; exact .inl (.inr e.symm)
   ·exact (hs.ok j hj hg).imp .inl id⟩
  have hlt : ∀ (a : Nat),rk (ndA l a) < rk (ndA l i) → ∀ j,(op j ∨ j = i) → rk (ndA l a) < rk (ndA l j):=fun a ha j hj=>by
   rcases hj with hj | rfl
   ·have:=hop j hj; omega
   ·exact ha
  obtain ⟨i1,i2,i3⟩:=ldF_ok h node k (ndA l i).y (fun j=>op j ∨ j = i) _ (by omega) ly (hlt _ ky) h0
  have hrn:=rch_node h (node:=node) hi c3
  rw [decide_eq_false c2,Bool.false_or] at hrn
  generalize ldF l node k (ndA l i).y (s.1.set i true,s.2) = s1 at *
  have close : ∀ (s2 : Kw) (b : Bool),KwOp l node (fun j=>op j ∨ j = i) s2 → (∀ j,gb s.1 j = true → gb s2.1 j = true) → b = rch l node i → KwOp l node op (s2.1,s2.2.set i b) ∧ gb (s2.2.set i b) i = rch l node i ∧ ∀ j,gb s.1 j = true → gb s2.1 j = true:=fun s2 b h2 hm hb=>by
   have hi2' : i < s2.2.length:=by rw [h2.l2]; exact hi
   refine ⟨⟨h2.l1,by simp [h2.l2],fun j hj hg=>?_⟩,by rw [gb_set hi2',if_pos rfl]; exact hb,hm⟩
   simp only at hg ⊢
   rw [gb_set hi2']
   split
   ·rename_i e; subst e; exact .inr hb
   ·rename_i e
    rcases h2.ok j hj hg with (h3 | h3) | h3
    ·exact .inl h3
    ·exact absurd h3.symm e
    ·exact .inr h3
  have hm1 : ∀ j,gb s.1 j = true → gb s1.1 j = true:=fun j hj=>i3 j (gb_on hi1 hj)
  by_cases c4 : gb s1.2 (ndA l i).y = true
  ·rw [if_pos c4]
   exact close s1 true i1 hm1 (by rw [hrn,← i2,c4,Bool.true_or])
  ·rw [if_neg c4]
   obtain ⟨j1,j2,j3⟩:=ldF_ok h node k (ndA l i).z (fun j=>op j ∨ j = i) s1 (by omega) lz (hlt _ kz) i1
   generalize ldF l node k (ndA l i).z s1 = s2 at *
   exact close s2 _ j1 (fun j hj=>j3 j (hm1 j hj)) (by rw [hrn,← i2,eq_false_of_ne_true c4,Bool.false_or,j2])
def bR (l : List Bool) : List (List V):=l.map fun b=>[B b]
theorem bR_bel (n : Nat) : ∀ l : List Bool,belR n (bR l) = true
 | []=>rfl
 | _ :: l=>by simp only [bR,List.map_cons,belR,V.belL,V.bel,Bool.true_and]; exact bR_bel n l
theorem bR_at {l : List Bool} {i : Nat} (h : i < l.length) : (bR l)[0 + i]? = some [B (gb l i)]:=by
 unfold bR gb; rw [Nat.zero_add,List.getElem?_map,List.getElem?_eq_getElem h,List.getD_eq_getElem?_getD,List.getElem?_eq_getElem h]; rfl
theorem bR_set {l : List Bool} {i : Nat} {b : Bool} : (bR l).set (0 + i) [B b] = bR (l.set i b):=by unfold bR; rw [Nat.zero_add,List.map_set]
theorem bR_rep (n : Nat) : List.replicate n [B false] = bR (List.replicate n false):=by unfold bR; simp
abbrev rCaps : List V:=[.ptr 7 0,.ptr 0 0,.ptr 1 0,.ptr 5 0,.ptr 4 0]
def rS (l : List Nd) (node : Nat) (x : En) (s : Kw) : List Blk:=[.cells [.d (nds l)],.cells [I node],.cells (x.cells.map .d),.row 0 1 (bR s.2),.cells [.own 3 0 0 l.length],.cells [.fn 33 rCaps],.row 0 1 (bR s.1),.cells [.own 6 0 0 l.length]]
theorem rS_bel (l : List Nd) (node : Nat) (x : En) (s : Kw) : belB 8 (rS l node x s) = true:=by
 show (true && (true && (true && (belR 8 (bR s.2) && (true && (true && (belR 8 (bR s.1) && (true && true)))))))) = true
 rw [bR_bel,bR_bel]; rfl
theorem rS_cell (l : List Nd) (node : Nat) (x : En) (s s' : Kw) (E : List Blk) : CellEq (rS l node x s ++ E) (rS l node x s' ++ E):=by
 intro b cs h
 match b with
 | 0 | 1 | 2 | 4 | 5 | 7=>exact h
 | 3=>cases h
 | 6=>cases h
 | b + 8=>exact h
def LdCall (l : List Nd) (node : Nat) (x : En) (k i : Nat) (s : Kw) : Prop:=CallP C 33 (I i :: rCaps) (rS l node x s) fun X L'=>L' = rS l node x (ldF l node k i s) ∧ X = B (gb (ldF l node k i s).2 i)
theorem LdCall.use {l : List Nd} {node : Nat} {x : En} {k0 i : Nat} {s : Kw} (h : LdCall l node x k0 i s) {E : List Blk} {k : V → List Blk → Prop} (hk : k (B (gb (ldF l node k0 i s).2 i)) (rS l node x (ldF l node k0 i s) ++ E)) : CallP C 33 (I i :: rCaps) (rS l node x s ++ E) k :=
 CallP.pre h (rS_bel l node x s) rfl rfl fun X L1 ⟨h1,h2⟩=>by subst h1 h2; exact ⟨rfl,rS_bel _ _ _ _,rfl,hk⟩
end Go.Proofs.YtclmjkhdmhlijaaGreatDoor
namespace Go.Proofs.YtclmjkhdmhlijaaGreatDoor
open Go.Tidy
variable {L : List Blk} {k : V → List Blk → Prop}
theorem ldF_len {l : List Nd} (node : Nat) : ∀ (k i : Nat) (s : Kw),(ldF l node k i s).1.length = s.1.length ∧ (ldF l node k i s).2.length = s.2.length
 | 0,_,_=>⟨rfl,rfl⟩
 | k + 1,i,s=>by
  rw [ldF]
  split
  ·exact ⟨rfl,rfl⟩
  split
  ·simp
  split
  ·simp
  have h1:=ldF_len (l:=l) node k (ndA l i).y (s.1.set i true,s.2)
  simp only [List.length_set] at h1
  split
  ·simp only [List.length_set]; exact h1
  ·have h2:=ldF_len (l:=l) node k (ndA l i).z (ldF l node k (ndA l i).y (s.1.set i true,s.2))
   simp only [List.length_set]; omega
theorem set_at {l : List Bool} {i : Nat} {b : Bool} (h : i < l.length) : ((bR l).set (0 + i) [B b])[0 + i]? = some [B b]:=by
 rw [Nat.zero_add,List.getElem?_set_self (by unfold bR; simpa using h)]
theorem ld_c {l : List Nd} (hw : Wf l) (node : Nat) (x : En) : ∀ (k i : Nat) (s : Kw),rk (ndA l i) < k → i < l.length → s.1.length = l.length → s.2.length = l.length → LdCall l node x k i s
 | 0,i,s,hk,_,_,_=>absurd hk (Nat.not_lt_zero _)
 | k + 1,i,s,hk,hi,l1,l2=>by
  have hi1 : i < s.1.length:=by rw [l1]; exact hi
  have hi2 : i < s.2.length:=by rw [l2]; exact hi
  have r1:=nds_at' (l:=l) hi
  have gk : ∀ {k : List V → Prop},k [B (gb s.1 i)] → GetE (bR s.1) (0 + i) k:=fun h=>zw5 _ (bR_at hi1) h
  have ga : ∀ {k : List V → Prop},k [B (gb s.2 i)] → GetE (bR s.2) (0 + i) k:=fun h=>zw5 _ (bR_at hi2) h
  have gs : ∀ {b : Bool} {k : List V → Prop},k [B b] → GetE ((bR s.2).set (0 + i) [B b]) (0 + i) k:=fun h=>zw5 _ (set_at hi2) h
  unfold LdCall
  by_cases c1 : gb s.1 i = true
  ·rw [show ldF l node (k + 1) i s = s by rw [ldF,if_pos c1]]
   refine callP_of C_ok Tryz.func33 rfl rfl (n:=_) rfl (zw18 rfl) (rs:=_) rfl ?_
   repeat' ((conv=>whnf); first|refine zw3 ?_|refine zw8 c1 ?_|refine IdxN.intro i rfl hi ?_|refine gk ?_|refine ga ?_|refine zw0 ?_|refine zw1 ?_|refine zw2 (fun h=>?_) (fun h=>?_)|refine zw3 ?_|refine zw4 (fun h=>?_) (fun h=>?_)|refine zw5 _ rfl ?_|refine zw6 rfl ?_|refine zw7 mixed rfl ?_)
   conv=>whnf
   exact FinP.drop (n:=8) rfl (zw21 8) rfl (rS_bel l node x s) ⟨rfl,rfl⟩
  have c1':=eq_false_of_ne_true c1
  have fin : ∀ (s2 : Kw) (b : Bool),[Blk.cells [.d (nds l)],.cells [I node],.cells (x.cells.map .d),.row 0 1 ((bR s2.2).set (0 + i) [B b]),.cells [.own 3 0 0 l.length],.cells [.fn 33 rCaps],.row 0 1 (bR s2.1),.cells [.own 6 0 0 l.length]] = rS l node x (s2.1,s2.2.set i b):=fun s2 b=>by unfold rS; rw [bR_set]
  have fin0 : ∀ (b : Bool),[Blk.cells [.d (nds l)],.cells [I node],.cells (x.cells.map .d),.row 0 1 ((bR s.2).set (0 + i) [B b]),.cells [.own 3 0 0 l.length],.cells [.fn 33 rCaps],.row 0 1 ((bR s.1).set (0 + i) [B true]),.cells [.own 6 0 0 l.length]] = rS l node x (s.1.set i true,s.2.set i b):=fun b=>by unfold rS; rw [bR_set,bR_set]
  by_cases c2 : i = node
  ·have c2' : (i : Int) = (node : Int):=by omega
   have e : ldF l node (k + 1) i s = (s.1.set i true,s.2.set i true):=by rw [ldF,if_neg c1,if_pos c2]
   rw [e]
   have hg : gb (s.2.set i true) i = true:=by rw [gb_set hi2,if_pos rfl]
   rw [show gb (s.1.set i true,s.2.set i true).2 i = true from hg]
   refine callP_of C_ok Tryz.func33 rfl rfl (n:=_) rfl (zw18 rfl) (rs:=_) rfl ?_
   repeat' ((conv=>whnf); first|refine zw3 ?_|refine zw9 c1' ?_|refine zw8 (zw19 c2') ?_|refine IdxN.intro i rfl hi ?_|refine zw10 i _ rfl r1 ?_|refine gk ?_|refine ga ?_|refine gs ?_|refine zw0 ?_|refine zw1 ?_|refine zw2 (fun h=>?_) (fun h=>?_)|refine zw3 ?_|refine zw4 (fun h=>?_) (fun h=>?_)|refine zw5 _ rfl ?_|refine zw6 rfl ?_)
   conv=>whnf
   refine DrawP.por mixed [1013,1018] [[(0,4),(1,0),(2,0),(3,0),(4,0),(5,0),(6,0),(7,0),(8,0),(9,0),(10,0),(11,0),(12,0),(13,5),(14,0),(15,0),(16,0),(17,0),(18,5),(19,0),(20,0),(21,0),(22,0),(23,0)]] (by kernel_rfl) ?_
   repeat' ((conv=>whnf); first|refine zw3 ?_|refine zw9 c1' ?_|refine zw8 (zw19 c2') ?_|refine IdxN.intro i rfl hi ?_|refine zw10 i _ rfl r1 ?_|refine gk ?_|refine ga ?_|refine gs ?_|refine zw0 ?_|refine zw1 ?_|refine zw2 (fun h=>?_) (fun h=>?_)|refine zw3 ?_|refine zw4 (fun h=>?_) (fun h=>?_)|refine zw5 _ rfl ?_|refine zw6 rfl ?_|refine zw7 mixed rfl ?_)
   conv=>whnf
   exact FinP.drop (n:=8) (Eq.trans rfl (fin0 true)) (zw21 8) rfl (rS_bel l node x _) ⟨rfl,rfl⟩
  have c2' : ¬ (i : Int) = (node : Int):=by omega
  by_cases c3 : (ndA l i).var = 0
  ·have e : ldF l node (k + 1) i s = (s.1.set i true,s.2.set i false):=by rw [ldF,if_neg c1,if_neg c2,if_pos c3]
   rw [e]
   have hg : gb (s.2.set i false) i = false:=by rw [gb_set hi2,if_pos rfl]
   rw [show gb (s.1.set i true,s.2.set i false).2 i = false from hg]
   refine callP_of C_ok Tryz.func33 rfl rfl (n:=_) rfl (zw18 rfl) (rs:=_) rfl ?_
   repeat' ((conv=>whnf); first|refine zw3 ?_|refine zw9 c1' ?_|refine IdxN.intro i rfl hi ?_|refine zw10 i _ rfl r1 ?_|refine gk ?_|refine ga ?_|refine gs ?_|refine zw0 ?_|refine zw1 ?_|refine zw2 (fun h=>?_) (fun h=>?_)|refine zw3 ?_|refine zw4 (fun h=>?_) (fun h=>?_)|refine zw5 _ rfl ?_|refine zw6 rfl ?_)
   conv=>whnf
   refine DrawP.por mixed [1013,1018] [[(0,4),(1,0),(2,0),(3,0),(4,0),(5,0),(6,0),(7,0),(8,0),(9,0),(10,0),(11,0),(12,0),(13,5),(14,0),(15,0),(16,0),(17,0),(18,5),(19,0),(20,0),(21,0),(22,0),(23,0)]] (by kernel_rfl) ?_
   repeat' ((conv=>whnf); first|refine zw3 ?_|refine zw9 (zw20 c2') ?_|refine zw8 (zw19 c3) ?_|refine IdxN.intro i rfl hi ?_|refine zw10 i _ rfl r1 ?_|refine gk ?_|refine ga ?_|refine gs ?_|refine zw0 ?_|refine zw1 ?_|refine zw2 (fun h=>?_) (fun h=>?_)|refine zw3 ?_|refine zw4 (fun h=>?_) (fun h=>?_)|refine zw5 _ rfl ?_|refine zw6 rfl ?_|refine zw7 mixed rfl ?_)
   conv=>whnf
   exact FinP.drop (n:=8) (Eq.trans rfl (fin0 false)) (zw21 8) rfl (rS_bel l node x _) ⟨rfl,rfl⟩
  have hin:=hw.inn hi c3
  have ey : (ndA l i).yes = ((ndA l i).y : Int):=by have:=hin.y; unfold Nd.y; omega
  have ez : (ndA l i).no = ((ndA l i).z : Int):=by have:=hin.z; unfold Nd.z; omega
  have ky:=hw.rk_y hi c3
  have kz:=hw.rk_z hi c3
  have ly:=hw.yl hi c3
  have lz:=hw.zl hi c3
  have ih1:=ld_c hw node x k (ndA l i).y (s.1.set i true,s.2) (by omega) ly (by simp [l1]) l2
  obtain ⟨m1,m2⟩:=ldF_len (l:=l) node k (ndA l i).y (s.1.set i true,s.2)
  have hdef : ldF l node (k + 1) i s = if gb (ldF l node k (ndA l i).y (s.1.set i true,s.2)).2 (ndA l i).y = true then ((ldF l node k (ndA l i).y (s.1.set i true,s.2)).1,(ldF l node k (ndA l i).y (s.1.set i true,s.2)).2.set i true) else ((ldF l node k (ndA l i).z (ldF l node k (ndA l i).y (s.1.set i true,s.2))).1,(ldF l node k (ndA l i).z (ldF l node k (ndA l i).y (s.1.set i true,s.2))).2.set i (gb (ldF l node k (ndA l i).z (ldF l node k (ndA l i).y (s.1.set i true,s.2))).2 (ndA l i).z)):=by rw [ldF,if_neg c1,if_neg c2,if_neg c3]
  have hL0 : [Blk.cells [.d (nds l)],.cells [I node],.cells (x.cells.map .d),.row 0 1 (bR s.2),.cells [.own 3 0 0 l.length],.cells [.fn 33 rCaps],.row 0 1 ((bR s.1).set (0 + i) [B true]),.cells [.own 6 0 0 l.length],.cells ((ndA l i).cells.map .d)] = rS l node x (s.1.set i true,s.2) ++ [.cells ((ndA l i).cells.map .d)]:=by unfold rS; rw [bR_set]; rfl
  have hc1 : CallP C 33 [I (ndA l i).yes,.ptr 7 0,.ptr 0 0,.ptr 1 0,.ptr 5 0,.ptr 4 0] [Blk.cells [.d (nds l)],.cells [I node],.cells (x.cells.map .d),.row 0 1 (bR s.2),.cells [.own 3 0 0 l.length],.cells [.fn 33 rCaps],.row 0 1 ((bR s.1).set (0 + i) [B true]),.cells [.own 6 0 0 l.length],.cells ((ndA l i).cells.map .d)] fun X M=>X = B (gb (ldF l node k (ndA l i).y (s.1.set i true,s.2)).2 (ndA l i).y) ∧ M = rS l node x (ldF l node k (ndA l i).y (s.1.set i true,s.2)) ++ [.cells ((ndA l i).cells.map .d)]:=by
   rw [hL0,ey]; exact ih1.use ⟨rfl,rfl⟩
  have hq1 : CellEq [Blk.cells [.d (nds l)],.cells [I node],.cells (x.cells.map .d),.row 0 1 (bR s.2),.cells [.own 3 0 0 l.length],.cells [.fn 33 rCaps],.row 0 1 ((bR s.1).set (0 + i) [B true]),.cells [.own 6 0 0 l.length],.cells ((ndA l i).cells.map .d)] (rS l node x (ldF l node k (ndA l i).y (s.1.set i true,s.2)) ++ [.cells ((ndA l i).cells.map .d)]):=by
   rw [hL0]; exact rS_cell _ _ _ _ _ _
  rw [hdef]
  generalize ldF l node k (ndA l i).y (s.1.set i true,s.2) = s1 at *
  simp only [List.length_set] at m1 m2
  have hi1' : i < s1.2.length:=by omega
  have gs1 : ∀ {b : Bool} {k : List V → Prop},k [B b] → GetE ((bR s1.2).set (0 + i) [B b]) (0 + i) k:=fun h=>zw5 _ (set_at hi1') h
  have ga1 : ∀ {k : List V → Prop},k [B (gb s1.2 i)] → GetE (bR s1.2) (0 + i) k:=fun h=>zw5 _ (bR_at hi1') h
  by_cases c4 : gb s1.2 (ndA l i).y = true
  ·rw [if_pos c4]
   have hg : gb (s1.2.set i true) i = true:=by rw [gb_set hi1',if_pos rfl]
   rw [show gb (s1.1,s1.2.set i true).2 i = true from hg]
   refine callP_of C_ok Tryz.func33 rfl rfl (n:=_) rfl (zw18 rfl) (rs:=_) rfl ?_
   repeat' ((conv=>whnf); first|refine zw3 ?_|refine zw9 c1' ?_|refine IdxN.intro i rfl hi ?_|refine zw10 i _ rfl r1 ?_|refine gk ?_|refine ga ?_|refine gs ?_|refine zw0 ?_|refine zw1 ?_|refine zw2 (fun h=>?_) (fun h=>?_)|refine zw3 ?_|refine zw4 (fun h=>?_) (fun h=>?_)|refine zw5 _ rfl ?_|refine zw6 rfl ?_)
   conv=>whnf
   refine DrawP.por mixed [1013,1018] [[(0,4),(1,0),(2,0),(3,0),(4,0),(5,0),(6,0),(7,0),(8,0),(9,0),(10,0),(11,0),(12,0),(13,5),(14,0),(15,0),(16,0),(17,0),(18,5),(19,0),(20,0),(21,0),(22,0),(23,0)]] (by kernel_rfl) ?_
   repeat' ((conv=>whnf); first|refine zw3 ?_|refine zw9 (zw20 c2') ?_|refine zw9 (zw20 c3) ?_|refine zw8 c4 ?_|refine IdxN.intro i rfl hi ?_|refine QCallK.intro _ _ hc1 hq1 ?_|refine ga1 ?_|refine gs1 ?_|refine zw0 ?_|refine zw1 ?_|refine zw2 (fun h=>?_) (fun h=>?_)|refine zw3 ?_|refine zw4 (fun h=>?_) (fun h=>?_)|refine zw5 _ rfl ?_|refine zw6 rfl ?_|refine zw7 mixed rfl ?_)
   conv=>whnf
   exact FinP.drop (n:=8) (Eq.trans rfl (fin s1 true)) (zw21 8) rfl (rS_bel l node x _) ⟨rfl,rfl⟩
  ·have c4':=eq_false_of_ne_true c4
   rw [if_neg c4]
   have ih2:=ld_c hw node x k (ndA l i).z s1 (by omega) lz (by omega) (by omega)
   obtain ⟨n1,n2⟩:=ldF_len (l:=l) node k (ndA l i).z s1
   have hc2 : CallP C 33 [I (ndA l i).no,.ptr 7 0,.ptr 0 0,.ptr 1 0,.ptr 5 0,.ptr 4 0] (rS l node x s1 ++ [.cells ((ndA l i).cells.map .d)]) fun X M=>X = B (gb (ldF l node k (ndA l i).z s1).2 (ndA l i).z) ∧ M = rS l node x (ldF l node k (ndA l i).z s1) ++ [.cells ((ndA l i).cells.map .d)]:=by
    rw [ez]; exact ih2.use ⟨rfl,rfl⟩
   have hq2 : CellEq (rS l node x s1 ++ [.cells ((ndA l i).cells.map .d)]) (rS l node x (ldF l node k (ndA l i).z s1) ++ [.cells ((ndA l i).cells.map .d)]):=rS_cell _ _ _ _ _ _
   generalize ldF l node k (ndA l i).z s1 = s2 at *
   have hi2' : i < s2.2.length:=by omega
   have hg : gb (s2.2.set i (gb s2.2 (ndA l i).z)) i = gb s2.2 (ndA l i).z:=by rw [gb_set hi2',if_pos rfl]
   rw [show gb (s2.1,s2.2.set i (gb s2.2 (ndA l i).z)).2 i = gb s2.2 (ndA l i).z from hg]
   generalize gb s2.2 (ndA l i).z = b at *
   have gs2 : ∀ {b : Bool} {k : List V → Prop},k [B b] → GetE ((bR s2.2).set (0 + i) [B b]) (0 + i) k:=fun h=>zw5 _ (set_at hi2') h
   have ga2 : ∀ {k : List V → Prop},k [B (gb s2.2 i)] → GetE (bR s2.2) (0 + i) k:=fun h=>zw5 _ (bR_at hi2') h
   refine callP_of C_ok Tryz.func33 rfl rfl (n:=_) rfl (zw18 rfl) (rs:=_) rfl ?_
   repeat' ((conv=>whnf); first|refine zw3 ?_|refine zw9 c1' ?_|refine IdxN.intro i rfl hi ?_|refine zw10 i _ rfl r1 ?_|refine gk ?_|refine ga ?_|refine gs ?_|refine zw0 ?_|refine zw1 ?_|refine zw2 (fun h=>?_) (fun h=>?_)|refine zw3 ?_|refine zw4 (fun h=>?_) (fun h=>?_)|refine zw5 _ rfl ?_|refine zw6 rfl ?_)
   conv=>whnf
   refine DrawP.por mixed [1013,1018] [[(0,4),(1,0),(2,0),(3,0),(4,0),(5,0),(6,0),(7,0),(8,0),(9,0),(10,0),(11,0),(12,0),(13,5),(14,0),(15,0),(16,0),(17,0),(18,5),(19,0),(20,0),(21,0),(22,0),(23,0)]] (by kernel_rfl) ?_
   repeat' ((conv=>whnf); first|refine zw3 ?_|refine zw9 (zw20 c2') ?_|refine zw9 (zw20 c3) ?_|refine zw9 c4' ?_|refine IdxN.intro i rfl hi ?_|refine QCallK.intro _ _ hc1 hq1 ?_|refine QCallK.intro _ _ hc2 hq2 ?_|refine ga2 ?_|refine gs2 ?_|refine zw0 ?_|refine zw1 ?_|refine zw2 (fun h=>?_) (fun h=>?_)|refine zw3 ?_|refine zw4 (fun h=>?_) (fun h=>?_)|refine zw5 _ rfl ?_|refine zw6 rfl ?_|refine zw7 mixed rfl ?_)
   conv=>whnf
   exact FinP.drop (n:=8) (Eq.trans rfl (fin s2 b)) (zw21 8) rfl (rS_bel l node x _) ⟨rfl,rfl⟩
end Go.Proofs.YtclmjkhdmhlijaaGreatDoor
namespace Go.Proofs.YtclmjkhdmhlijaaGreatDoor
open Go.Tidy
variable {L : List Blk} {k : V → List Blk → Prop}
theorem least2_c (v : Int) (h : k (I (lo v)) L) : CallP C 34 [I v] L k:=by
 refine CallP.pure ?_ rfl (fun _=>rfl) h
 clear h
 refine callP_of C_ok Tryz.func34 rfl rfl (n:=_) rfl (zw18 rfl) (rs:=_) rfl ?_
 repeat' ((conv=>whnf); first|refine bounds_c v ?_|refine zw0 ?_|refine zw1 ?_|refine zw2 (fun h=>?_) (fun h=>?_)|refine zw3 ?_|refine zw4 (fun h=>?_) (fun h=>?_)|refine zw5 _ rfl ?_|refine zw6 rfl ?_|refine zw7 mixed rfl ?_)
 conv=>whnf
 exact FinP.drop (n:=0) rfl (zw21 0) rfl rfl ⟨rfl,rfl⟩
def reachX (l : List Nd) (node : Int) : En:=if checkT l = 0 ∧ 0 ≤ node ∧ node < l.length then gre l node.toNat 0 lows else ⟨0,0,0,0⟩
def reachO (l : List Nd) (node : Int) : Bool:=decide (checkT l = 0 ∧ 0 ≤ node ∧ node < l.length)
def reachE (l : List Nd) (node : Int) : Int:=if checkT l ≠ 0 then checkT l else if 0 ≤ node ∧ node < l.length then 0 else 1
def fldB : Blk:=.cells [.d .nilptr,.ptr 2 0,.ptr 2 1,.ptr 2 2,.ptr 2 3]
theorem reach_c (l : List Nd) (node : Int) (hsm : TrSm l) (h : k (.tup [enV (reachX l node),B (reachO l node),I (reachE l node)]) L) : CallP C 11 [treV l,I node] L k:=by
 have hck : ∀ {L : List Blk} {k : V → List Blk → Prop},k (I (checkT l)) L → CallP C 14 [treV l] L k:=fun h=>check16_c l hsm h
 by_cases c1 : checkT l = 0
 rotate_left
 ·have e : reachX l node = ⟨0,0,0,0⟩ ∧ reachO l node = false ∧ reachE l node = checkT l:=by unfold reachX reachO reachE; rw [if_neg (fun hn=>c1 hn.1),decide_eq_false (fun hn=>c1 hn.1),if_pos c1]; exact ⟨rfl,rfl,rfl⟩
  rw [e.1,e.2.1,e.2.2] at h
  refine CallP.pure ?_ rfl (fun _=>rfl) h
  clear h
  refine callP_of C_ok Tryz.func11 rfl rfl (n:=_) rfl (zw18 rfl) (rs:=_) rfl ?_
  repeat' ((conv=>whnf); first|refine hck ?_|refine zw3 ?_|refine zw9 (zw20 c1) ?_|refine zw0 ?_|refine zw1 ?_|refine zw2 (fun h=>?_) (fun h=>?_)|refine zw3 ?_|refine zw4 (fun h=>?_) (fun h=>?_)|refine zw5 _ rfl ?_|refine zw6 rfl ?_|refine zw7 mixed rfl ?_)
  conv=>whnf
  exact FinP.drop (n:=0) rfl (zw21 0) rfl rfl ⟨rfl,rfl⟩
 by_cases c2 : node < 0
 ·have e : reachX l node = ⟨0,0,0,0⟩ ∧ reachO l node = false ∧ reachE l node = 1:=by unfold reachX reachO reachE; rw [if_neg (fun hn=>by omega),decide_eq_false (fun hn=>by omega),if_neg (fun hn=>hn c1),if_neg (fun hn=>by omega)]; exact ⟨rfl,rfl,rfl⟩
  rw [e.1,e.2.1,e.2.2] at h
  refine CallP.pure ?_ rfl (fun _=>rfl) h
  clear h
  refine callP_of C_ok Tryz.func11 rfl rfl (n:=_) rfl (zw18 rfl) (rs:=_) rfl ?_
  repeat' ((conv=>whnf); first|refine hck ?_|refine zw3 ?_|refine zw8 (zw19 c1) ?_|refine zw8 (zw19 c2) ?_|refine zw0 ?_|refine zw1 ?_|refine zw2 (fun h=>?_) (fun h=>?_)|refine zw3 ?_|refine zw4 (fun h=>?_) (fun h=>?_)|refine zw5 _ rfl ?_|refine zw6 rfl ?_|refine zw7 mixed rfl ?_)
  conv=>whnf
  exact FinP.drop (n:=0) rfl (zw21 0) rfl rfl ⟨rfl,rfl⟩
 by_cases c3 : ((l.map Nd.cells).length : Int) ≤ node
 ·have c3' : ¬ node < l.length:=by rw [List.length_map] at c3; omega
  have e : reachX l node = ⟨0,0,0,0⟩ ∧ reachO l node = false ∧ reachE l node = 1:=by unfold reachX reachO reachE; rw [if_neg (fun hn=>c3' hn.2.2),decide_eq_false (fun hn=>c3' hn.2.2),if_neg (fun hn=>hn c1),if_neg (fun hn=>c3' hn.2)]; exact ⟨rfl,rfl,rfl⟩
  rw [e.1,e.2.1,e.2.2] at h
  refine CallP.pure ?_ rfl (fun _=>rfl) h
  clear h
  refine callP_of C_ok Tryz.func11 rfl rfl (n:=_) rfl (zw18 rfl) (rs:=_) rfl ?_
  repeat' ((conv=>whnf); first|refine hck ?_|refine zw3 ?_|refine zw8 (zw19 c1) ?_|refine zw9 (zw20 c2) ?_|refine zw8 (zw19 c3) ?_|refine zw0 ?_|refine zw1 ?_|refine zw2 (fun h=>?_) (fun h=>?_)|refine zw3 ?_|refine zw4 (fun h=>?_) (fun h=>?_)|refine zw5 _ rfl ?_|refine zw6 rfl ?_|refine zw7 mixed rfl ?_)
  conv=>whnf
  exact FinP.drop (n:=0) rfl (zw21 0) rfl rfl ⟨rfl,rfl⟩
 obtain ⟨m,rfl⟩ : ∃ m : Nat,node = (m : Int):=⟨node.toNat,by omega⟩
 have hm : m < l.length:=by rw [List.length_map] at c3; omega
 have hV:=checkT_iff.1 c1
 have hw:=hV.wf
 have e : reachX l m = gre l m 0 lows ∧ reachO l m = true ∧ reachE l m = 0:=by unfold reachX reachO reachE; rw [if_pos ⟨c1,by omega,by omega⟩,decide_eq_true ⟨c1,by omega,by omega⟩,if_neg (fun hn=>hn c1),if_pos ⟨by omega,by omega⟩]; exact ⟨rfl,rfl,rfl⟩
 rw [e.1,e.2.1,e.2.2] at h
 have hrk0:=hw.rk_le hV.pos
 have hr0:=hV.rch hm
 generalize hs0 : ((List.replicate l.length false,List.replicate l.length false) : Kw) = s0
 have k0 : KwOp l m (fun _=>False) s0:=by
  rw [← hs0]
  exact ⟨by simp,by simp,fun j hj hg=>by unfold gb at hg; rw [List.getD_eq_getElem?_getD,List.getElem?_replicate] at hg; split at hg <;> cases hg⟩
 have hld0:=ld_c hw m ⟨0,0,0,0⟩ 201 0 s0 (by omega) hV.pos k0.l1 k0.l2
 obtain ⟨k1,_,_⟩:=ldF_ok hw m 201 0 (fun _=>False) s0 (by omega) hV.pos (fun j h=>h.elim) k0
 have hL0 : [Blk.cells [.d (nds l)],.cells [I m],.cells [I 0,I 0,I 0,I 0],.row 0 1 (List.replicate l.length [B false]),.cells [.own 3 0 0 l.length],.cells [.fn 33 rCaps],.row 0 1 (List.replicate l.length [B false]),.cells [.own 6 0 0 l.length]] = rS l m ⟨0,0,0,0⟩ s0 ++ []:=by
  rw [← hs0]; unfold rS; rw [bR_rep]; rfl
 have hc0 : ∀ {k : V → List Blk → Prop},k (B (gb (ldF l m 201 0 s0).2 0)) (rS l m ⟨0,0,0,0⟩ (ldF l m 201 0 s0)) → CallP C 33 [I 0,.ptr 7 0,.ptr 0 0,.ptr 1 0,.ptr 5 0,.ptr 4 0] [Blk.cells [.d (nds l)],.cells [I m],.cells [I 0,I 0,I 0,I 0],.row 0 1 (List.replicate l.length [B false]),.cells [.own 3 0 0 l.length],.cells [.fn 33 rCaps],.row 0 1 (List.replicate l.length [B false]),.cells [.own 6 0 0 l.length]] k:=fun h=>by
  rw [hL0]; exact hld0.use (by rw [List.append_nil]; exact h)
 generalize ldF l m 201 0 s0 = s1 at *
 have hlen : ∀ {k : Nat → Prop},k l.length → MakeP ((l.map Nd.cells).length : Int) ((l.map Nd.cells).length : Int) k:=fun h=>MakeP.intro l.length l.length (congrArg Nat.cast (List.length_map _)) (congrArg Nat.cast (List.length_map _)) (zw21 _) (by have:=hsm.len; omega) h
 refine CallP.pure ?_ rfl (fun _=>rfl) h
 clear h
 refine callP_of C_ok Tryz.func11 rfl rfl (n:=_) rfl (zw18 rfl) (rs:=_) rfl ?_
 repeat' ((conv=>whnf); first|refine hck ?_|refine zw3 ?_|refine zw8 (zw19 c1) ?_|refine zw9 (zw20 c2) ?_|refine zw9 (zw20 c3) ?_|refine hlen ?_|refine hc0 ?_|refine least2_c _ ?_|refine zw0 ?_|refine zw1 ?_|refine zw2 (fun h=>?_) (fun h=>?_)|refine zw3 ?_|refine zw4 (fun h=>?_) (fun h=>?_)|refine zw5 _ rfl ?_|refine zw6 rfl ?_|refine zw7 mixed rfl ?_)
 conv=>whnf
 refine LoopP.inv (α:=Nat × En × Kw) (fun s=>s.1 < l.length ∧ rch l m s.1 = true ∧ gre l m s.1 s.2.1 = gre l m 0 lows ∧ KwOp l m (fun _=>False) s.2.2) (fun s=>⟨[(2,.ptr 0 0),(3,.ptr 1 0),(4,.ptr 2 0),(9,.ptr 5 0),(12,.ptr 8 0),(13,I s.1)],Tryz.f11.ntmps,rS l m s.2.1 s.2.2 ++ [fldB],[],none⟩) (fun s=>rk (ndA l s.1)) (0,lows,s1) ⟨hV.pos,hr0,rfl,k1⟩ ?_ ?_
 ·exact Weak.to 9 rfl (Nat.zero_le _) (Nat.le_of_ble_eq_true rfl) ⟨rfl,rfl,rfl,rfl,rfl,rfl,trivial⟩ (hB:=by show (true && (true && (true && (belR 9 (bR s1.2) && (true && (true && (belR 9 (bR s1.1) && (true && true)))))))) = true; rw [bR_bel,bR_bel]; rfl)
 rintro ⟨a,x,s⟩ ⟨ha,hra,hg,hk⟩
 simp only at ha hra hg hk ⊢
 have rS9 : ∀ (x : En) (s : Kw),belB 9 (rS l m x s ++ [fldB]) = true:=fun x s=>by show (true && (true && (true && (belR 9 (bR s.2) && (true && (true && (belR 9 (bR s.1) && (true && true)))))))) = true; rw [bR_bel,bR_bel]; rfl
 by_cases cm : a = m
 ·subst cm
  have hx : x = gre l a 0 lows:=by rw [← hg,gre_self]
  have hc : (a : Int) = (a : Int):=rfl
  repeat' ((conv=>whnf); first|refine zw3 ?_|refine zw8 (zw19 hc) ?_|refine zw0 ?_|refine zw1 ?_|refine zw2 (fun h=>?_) (fun h=>?_)|refine zw3 ?_|refine zw4 (fun h=>?_) (fun h=>?_)|refine zw5 _ rfl ?_|refine zw6 rfl ?_|refine zw7 mixed rfl ?_)
  conv=>whnf
  exact FinP.drop (n:=0) rfl (Nat.le_refl 0) rfl rfl ⟨rfl,Eq.trans (b:=V.tup [enV x,B true,I 0]) rfl (by rw [hx])⟩
 have hc : ¬ (a : Int) = (m : Int):=by omega
 obtain ⟨hv,hst⟩:=gre_step (x:=x) hw hra ha cm
 have hin:=hw.inn ha hv
 have ey : (ndA l a).yes = ((ndA l a).y : Int):=by have:=hin.y; unfold Nd.y; omega
 have ez : (ndA l a).no = ((ndA l a).z : Int):=by have:=hin.z; unfold Nd.z; omega
 have ky:=hw.rk_y ha hv
 have kz:=hw.rk_z ha hv
 have ly:=hw.yl ha hv
 have lz:=hw.zl ha hv
 have hrk:=hw.rk_le lz
 have r1:=nds_at' (l:=l) ha
 have hld:=ld_c hw m x 201 (ndA l a).z s (by omega) lz hk.l1 hk.l2
 obtain ⟨k2,g2,_⟩:=ldF_ok hw m 201 (ndA l a).z (fun _=>False) s (by omega) lz (fun j h=>h.elim) hk
 have hcl : ∀ {E : List Blk} {k : V → List Blk → Prop},k (B (gb (ldF l m 201 (ndA l a).z s).2 (ndA l a).z)) (rS l m x (ldF l m 201 (ndA l a).z s) ++ E) → CallP C 33 [I (ndA l a).no,.ptr 7 0,.ptr 0 0,.ptr 1 0,.ptr 5 0,.ptr 4 0] (rS l m x s ++ E) k:=fun h=>by
  rw [ez]; exact hld.use h
 generalize ldF l m 201 (ndA l a).z s = s2 at *
 rcases hst with ⟨hz,e1⟩ | ⟨hz,hy,e1⟩
 ·have hgz : gb s2.2 (ndA l a).z = true:=by rw [g2]; exact hz
  repeat' ((conv=>whnf); first|refine zw3 ?_|refine zw9 (zw20 hc) ?_|refine zw10 a _ rfl r1 ?_|refine hcl ?_|refine zw8 hgz ?_|refine zw0 ?_|refine zw1 ?_|refine zw2 (fun h=>?_) (fun h=>?_)|refine zw3 ?_|refine zw4 (fun h=>?_) (fun h=>?_)|refine zw5 _ rfl ?_|refine zw6 rfl ?_|refine zw7 mixed rfl ?_)
  conv=>whnf
  exact ⟨((ndA l a).z,x,s2),⟨lz,hz,by rw [← e1]; exact hg,k2⟩,kz,Weak.to 9 rfl (Nat.zero_le _) (Nat.le_of_ble_eq_true rfl) ⟨rfl,rfl,rfl,rfl,rfl,congrArg I ez,trivial⟩ (hB:=rS9 _ _)⟩
 ·have hgz : gb s2.2 (ndA l a).z = false:=by rw [g2]; exact hz
  have hnx : (ndA l a).y < l.length ∧ rch l m (ndA l a).y = true ∧ gre l m (ndA l a).y (setE x (ndA l a).var (ndA l a).n) = gre l m 0 lows ∧ KwOp l m (fun _=>False) s2:=⟨ly,hy,by rw [← e1]; exact hg,k2⟩
  have h4 : (ndA l a).var = 1 ∨ (ndA l a).var = 2 ∨ (ndA l a).var = 3 ∨ (ndA l a).var = 4:=by have:=hin.v1; have:=hin.v4; omega
  have hset : ∀ (v : Int) (cs : List D),(ndA l a).var = v → (setE x v (ndA l a).n).cells = cs → [Blk.cells [.d (nds l)],.cells [I m],.cells (cs.map .d),.row 0 1 (bR s2.2),.cells [.own 3 0 0 l.length],.cells [.fn 33 rCaps],.row 0 1 (bR s2.1),.cells [.own 6 0 0 l.length],fldB] = rS l m (setE x (ndA l a).var (ndA l a).n) s2 ++ [fldB]:=fun v cs h1 h2=>by rw [h1,← h2]; rfl
  rcases h4 with hv4 | hv4 | hv4 | hv4
  ·repeat' (conv => whnf
            first|refine zw3 ?_|refine zw9 (zw20 hc) ?_|refine zw10 a _ rfl r1 ?_|refine hcl ?_|refine zw9 hgz ?_|refine IdxN.intro 1 hv4 (by decide) ?_|refine zw0 ?_|refine zw1 ?_|refine zw2 (fun h=>?_) (fun h=>?_)|refine zw3 ?_|refine zw4 (fun h=>?_) (fun h=>?_)|refine zw5 _ rfl ?_|refine zw6 rfl ?_|refine zw7 mixed rfl ?_)
   conv=>whnf
   exact ⟨((ndA l a).y,setE x (ndA l a).var (ndA l a).n,s2),hnx,ky,Weak.to 9 (Eq.trans rfl (hset 1 _ hv4 rfl)) (zw22 _) (zw18 rfl) ⟨rfl,rfl,rfl,rfl,rfl,congrArg I ey,trivial⟩ (hB:=rS9 _ _)⟩
  ·repeat' (conv => whnf
            first|refine zw3 ?_|refine zw9 (zw20 hc) ?_|refine zw10 a _ rfl r1 ?_|refine hcl ?_|refine zw9 hgz ?_|refine IdxN.intro 2 hv4 (by decide) ?_|refine zw0 ?_|refine zw1 ?_|refine zw2 (fun h=>?_) (fun h=>?_)|refine zw3 ?_|refine zw4 (fun h=>?_) (fun h=>?_)|refine zw5 _ rfl ?_|refine zw6 rfl ?_|refine zw7 mixed rfl ?_)
   conv=>whnf
   exact ⟨((ndA l a).y,setE x (ndA l a).var (ndA l a).n,s2),hnx,ky,Weak.to 9 (Eq.trans rfl (hset 2 _ hv4 rfl)) (zw22 _) (zw18 rfl) ⟨rfl,rfl,rfl,rfl,rfl,congrArg I ey,trivial⟩ (hB:=rS9 _ _)⟩
  ·repeat' (conv => whnf
            first|refine zw3 ?_|refine zw9 (zw20 hc) ?_|refine zw10 a _ rfl r1 ?_|refine hcl ?_|refine zw9 hgz ?_|refine IdxN.intro 3 hv4 (by decide) ?_|refine zw0 ?_|refine zw1 ?_|refine zw2 (fun h=>?_) (fun h=>?_)|refine zw3 ?_|refine zw4 (fun h=>?_) (fun h=>?_)|refine zw5 _ rfl ?_|refine zw6 rfl ?_|refine zw7 mixed rfl ?_)
   conv=>whnf
   exact ⟨((ndA l a).y,setE x (ndA l a).var (ndA l a).n,s2),hnx,ky,Weak.to 9 (Eq.trans rfl (hset 3 _ hv4 rfl)) (zw22 _) (zw18 rfl) ⟨rfl,rfl,rfl,rfl,rfl,congrArg I ey,trivial⟩ (hB:=rS9 _ _)⟩
  ·repeat' (conv => whnf
            first|refine zw3 ?_|refine zw9 (zw20 hc) ?_|refine zw10 a _ rfl r1 ?_|refine hcl ?_|refine zw9 hgz ?_|refine IdxN.intro 4 hv4 (by decide) ?_|refine zw0 ?_|refine zw1 ?_|refine zw2 (fun h=>?_) (fun h=>?_)|refine zw3 ?_|refine zw4 (fun h=>?_) (fun h=>?_)|refine zw5 _ rfl ?_|refine zw6 rfl ?_|refine zw7 mixed rfl ?_)
   conv=>whnf
   exact ⟨((ndA l a).y,setE x (ndA l a).var (ndA l a).n,s2),hnx,ky,Weak.to 9 (Eq.trans rfl (hset 4 _ hv4 rfl)) (zw22 _) (zw18 rfl) ⟨rfl,rfl,rfl,rfl,rfl,congrArg I ey,trivial⟩ (hB:=rS9 _ _)⟩
end Go.Proofs.YtclmjkhdmhlijaaGreatDoor
namespace Go.Tidy
section
variable {C : Ctx} [Quiet C] {L : List Blk}
end
end Go.Tidy
namespace Go.Proofs.YtclmjkhdmhlijaaGreatDoor
open Go.Tidy
variable {L : List Blk} {k : V → List Blk → Prop}
end Go.Proofs.YtclmjkhdmhlijaaGreatDoor
namespace Go.Proofs.YtclmjkhdmhlijaaGreatDoor
open Go.Tidy
variable {L : List Blk} {k : V → List Blk → Prop}
theorem len1 {l : List (List D)} (h : l.all (fun e=>decide (e.length = 1)) = true) : ∀ e ∈ l,e.length = 1:=fun e he=>by simpa using List.all_eq_true.1 h e he
end Go.Proofs.YtclmjkhdmhlijaaGreatDoor
namespace Go.Proofs.YtclmjkhdmhlijaaGreatDoor
open Go.Tidy Go.ChangeShapes Go.WideShapes Go.ChangeAt Go.RowKit
theorem own : ownKnob Tryz.prog.godebug = none:=by kernel_rfl
theorem kids : Kids Tryz.prog (· < Tryz.prog.types.size):=kids_rows (by kernel_rfl) (by kernel_rfl)
theorem full : ∀ t e,t < Tryz.prog.types.size → Tryz.prog.underlying t = some (.slice e) → 0 < Tryz.prog.cellsOf e:=slices_full_of Tryz.prog (by kernel_rfl)
def plainTys : List TypeId:=[3,4,9,5,39,25,27,37,41,35,33,79,22]
theorem plainOk : plainB Tryz.prog plainTys = true:=by kernel_rfl
theorem bytesOk : bytesB Tryz.prog plainTys = true:=by kernel_rfl
theorem plainLt : ∀ t ∈ plainTys,t < Tryz.prog.types.size:=by
 have : plainTys.all (fun t=>decide (t < Tryz.prog.types.size)) = true:=by kernel_rfl
 intro t ht
 simpa using List.all_eq_true.1 this t ht
theorem cells_int : C.P.cellsOf 3 = 1:=by kernel_rfl
theorem at_one {xs : List D} {i : Nat} {y : D} (h : (xs.drop i).take 1 = [y]) : xs[i]? = some y:=by
 have:=congrArg (fun l=>l[0]?) h
 simpa using this
theorem at_int {xs : List D} {i : Nat} (h : TyI C.P 3 ((xs.drop i).take (C.P.cellsOf 3))) : ∃ n : Int,xs[i]? = some (DI n):=by
 obtain ⟨n,hn,_⟩:=h.intI Tryz.underlying3
 rw [cells_int] at hn
 exact ⟨n,at_one hn⟩
theorem gSpans : Tryz.prog.globalNamed "assize/typing.spans" = some 0 := by kernel_rfl
theorem gType : (Tryz.prog.globals[0]?).map (·.type) = some 110:=by kernel_rfl
theorem cells_span : Tryz.prog.cellsOf 109 = 2:=by kernel_rfl
theorem cells_int' : Tryz.prog.cellsOf 3 = 1:=by kernel_rfl
theorem cells_spans : Tryz.prog.cellsOf 110 = 10:=by kernel_rfl
theorem span_cells {H : Type} {enc : TypeId × Value → H} {w : World} {base : Nat} {sp : Nat → Bool} {held : Bool} {fuel : Nat} {cs : List Value} {a b : Int} {p : List MemPlace}
  (h : DataW.trod enc Tryz.prog w base sp held fuel 109 cs = some (.agg [.lit (.int .i64 a),.lit (.int .i64 b)],p)) : cs = [.int .i64 a,.int .i64 b]:=by
 obtain ⟨y0,y1,n,e,hl,h0,h1⟩:=trod_struct2 Tryz.underlying109 h
 rw [cells_span] at hl
 obtain ⟨z0,c0,e0,_⟩:=DataW.trod_int Tryz.underlying3 h0
 obtain ⟨z1,c1,e1,_⟩:=DataW.trod_int Tryz.underlying3 h1
 subst e0 e1
 simp only [Prod.mk.injEq,DataW.agg.injEq,List.cons.injEq,DataW.lit.injEq,Lit.int.injEq,true_and,and_true] at e
 obtain ⟨⟨ea,eb⟩,_⟩:=e
 subst ea eb
 rw [cells_int'] at c0 c1
 match cs,hl with
 | [v0,v1],_ =>
  simp at c0 c1
  rw [c0,c1]
def spanL : List Int:=[0,0,2,24,0,46,0,1,2,24]
theorem spans_cells {W : World} (h : laidMetH Tryz.prog Rows.treesCompileSpecRow.laid W) : ∀ i,i < 10 → W.cell? ⟨0,i,none⟩ = some (.int .i64 (spanL.getD i 0)):=by
 have h' : laidMet Tryz.prog [("assize/typing.spans", Rows.laid_assize_typing_spans)] W := h
 obtain ⟨ps,⟨g,t,cs,fuel,p,q,hg,ht,hvar,hd,_,_⟩,_⟩:=h'
 obtain rfl:=Option.some.inj (gSpans.symm.trans hg)
 obtain rfl:=Option.some.inj (gType.symm.trans ht)
 obtain ⟨xs,m,rfl,hx,hlen,hxl,hf⟩:=DataW.trod_array Tryz.underlying110 hd
 rw [cells_spans] at hlen
 rw [cells_span] at hf
 match xs,hxl with
 | [x0,x1,x2,x3,x4],_ =>
  have hx':=congrArg Prod.fst hx
  simp only [Rows.laid_assize_typing_spans,List.map_cons,List.map_nil,DataW.agg.injEq,List.cons.injEq,and_true] at hx'
  obtain ⟨e0,e1,e2,e3,e4⟩:=hx'
  have f0:=span_cells ((hf 0 (by decide)).trans (congrArg some (Prod.ext e0.symm rfl)))
  have f1:=span_cells ((hf 1 (by decide)).trans (congrArg some (Prod.ext e1.symm rfl)))
  have f2:=span_cells ((hf 2 (by decide)).trans (congrArg some (Prod.ext e2.symm rfl)))
  have f3:=span_cells ((hf 3 (by decide)).trans (congrArg some (Prod.ext e3.symm rfl)))
  have f4:=span_cells ((hf 4 (by decide)).trans (congrArg some (Prod.ext e4.symm rfl)))
  have ce : ∀ i,W.cell? ⟨0,i,none⟩ = cs[i]?:=World.var?_cell gSpans hvar
  have tl : ∀ i : Nat,cs[i]? = cs.toList[i]?:=fun i=>(Array.getElem?_toList).symm
  have two : ∀ {l : List Value} {d : Nat} {a b : Value},(l.drop d).take 2 = [a,b] → l[d]? = some a ∧ l[d + 1]? = some b:=fun {l d a b} h=>by
   have h0:=congrArg (fun l=>l[0]?) h
   have h1:=congrArg (fun l=>l[1]?) h
   simp at h0 h1
   exact ⟨h0,h1⟩
  intro i hi
  rw [ce,tl]
  match i,hi with
  | 0,_=>exact (two f0).1
  | 1,_=>exact (two f0).2
  | 2,_=>exact (two f1).1
  | 3,_=>exact (two f1).2
  | 4,_=>exact (two f2).1
  | 5,_=>exact (two f2).2
  | 6,_=>exact (two f3).1
  | 7,_=>exact (two f3).2
  | 8,_=>exact (two f4).1
  | 9,_=>exact (two f4).2
  | i + 10,h=>omega
theorem glob_ok {W : World} (h : laidMetH Tryz.prog Rows.treesCompileSpecRow.laid W) : GlobOK (fun r=>r < W.heap.size) W:=by
 have hc:=spans_cells h
 intro p hp
 rw [show gtab = [(0,spanL.map fun n=>DI n)] from rfl] at hp
 rw [List.mem_singleton.1 hp]
 refine .rptr _ _ (fun j=>.int .i64 (spanL.getD j 0)) (fun j hj=>?_) ?_ (fun j x hx=>?_)
 ·have hj' : j < 10:=hj
  have:=hc j hj'
  rw [show (⟨0,0,none⟩ : Addr).add j = ⟨0,j,none⟩ by by_cases h : j = 0 <;> simp [Addr.add,h]]; exact this
 ·have:=hc 0 (by decide)
  show 0 < W.heap.size
  rcases Nat.eq_zero_or_pos W.heap.size with h0 | h0
  ·have hn : W.heap[0]? = none:=Array.getElem?_eq_none (by omega)
   unfold World.cell? at this
   rw [hn] at this; simp at this
  ·exact h0
 ·rw [List.getElem?_map] at hx
  cases e : spanL[j]? with
  | none=>rw [e] at hx; cases hx
  | some n =>
   rw [e] at hx; cases hx
   rw [List.getD_eq_getElem?_getD,e]; exact .int _ _
noncomputable def laidWorld (os : Os) : World :=
 { World.holding Tryz.prog os ⟨#[],#[],[]⟩ with heap:=(World.holding Tryz.prog os ⟨#[],#[],[]⟩).heap.modify 0 fun
   | .cells _ t frozen=>.cells #[.int .i64 0,.int .i64 0,.int .i64 2,.int .i64 24,.int .i64 0,.int .i64 46,.int .i64 0,.int .i64 1,.int .i64 2,.int .i64 24] t frozen
   | o=>o }
end Go.Proofs.YtclmjkhdmhlijaaGreatDoor
namespace Go.Proofs.YtclmjkhdmhlijaaGreatDoor
open Go.Tidy
variable {L : List Blk} {k : V → List Blk → Prop}
mutual
def cnF (d : Nat) : Co → Nat
 | .mk _ _ _ ps=>if 16 < d then 1000 else cnL (d + 1) ps 1
def cnL (d : Nat) : List Co → Nat → Nat
 | [],n=>n
 | c :: cs,n=>if n ≤ 256 then cnL d cs (n + cnF d c) else n
end
theorem cnL_big (d : Nat) : ∀ {l : List Co} {n : Nat},256 < n → cnL d l n = n
 | [],n,_=>by rw [cnL]
 | c :: cs,n,h=>by rw [cnL,if_neg (by omega)]
theorem cnF_eq (d : Nat) (c : Co) : cnF d c = if 16 < d then 1000 else cnL (d + 1) c.parts 1:=by cases c; rw [cnF]; rfl
theorem cnL_le (d B : Nat) (hF : ∀ c,cnF d c ≤ B) : ∀ (l : List Co) (n : Nat),n ≤ 256 + B → cnL d l n ≤ 256 + B
 | [],n,h=>by rw [cnL]; exact h
 | c :: cs,n,h=>by
  rw [cnL]
  split
  ·exact cnL_le d B hF cs _ (by have:=hF c; omega)
  ·exact h
theorem cnF_le : ∀ (m d : Nat),17 ≤ d + m → ∀ c,cnF d c ≤ 1000 + 256 * m
 | 0,d,h,c=>by rw [cnF_eq,if_pos (by omega)]; decide
 | m + 1,d,h,c=>by
  rw [cnF_eq]
  split
  ·omega
  ·exact Nat.le_trans (cnL_le (d + 1) _ (cnF_le m (d + 1) (by omega)) c.parts 1 (by omega)) (by omega)
theorem cnF_top (d : Nat) (c : Co) : cnF d c ≤ 6000:=zw23 (cnF_le 17 d (by omega) c) (by decide)
theorem conditions_s : ∀ (m : Nat) (c : Co),SizeOf.sizeOf c ≤ m → LCo c → ∀ (d : Nat),d ≤ 17 → ∀ (L : List Blk) (k : V → List Blk → Prop),k (I (cnF d c)) L → CallP C 68 [.agg (c.cells.map .d),I d] L k
 | 0,c,h,_=>absurd h (by cases c; simp)
 | m + 1,c,hsz,hc=>by
  intro d hd L k h
  have ih:=conditions_s m
  have hlen:=hc.len
  rw [Co.cells_eq]
  refine CallP.pure ?_ rfl (fun _=>rfl) h
  clear h
  refine callP_of C_ok Tryz.func68 rfl rfl (n:=_) rfl (zw18 rfl) (rs:=_) rfl ?_
  by_cases h1 : (16 : Int) < (d : Int)
  ·repeat' (conv => whnf
            first|refine zw8 (zw19 h1) ?_|refine zw0 ?_|refine zw1 ?_|refine zw2 (fun h=>?_) (fun h=>?_)|refine zw3 ?_|refine zw4 (fun h=>?_) (fun h=>?_)|refine zw5 _ rfl ?_|refine zw6 rfl ?_|refine zw7 mixed rfl ?_)
   conv=>whnf
   exact FinP.drop (n:=0) rfl (Nat.le_refl 0) rfl rfl ⟨rfl,Eq.trans (b:=I 1000) rfl (by rw [cnF_eq,if_pos (by omega)]; rfl)⟩
  have htot : cnF d c = cnL (d + 1) c.parts 1:=by rw [cnF_eq,if_neg (by omega)]
  repeat' ((conv=>whnf); first|refine zw9 (zw20 h1) ?_|refine zw0 ?_|refine zw1 ?_|refine zw2 (fun h=>?_) (fun h=>?_)|refine zw3 ?_|refine zw4 (fun h=>?_) (fun h=>?_)|refine zw5 _ rfl ?_|refine zw6 rfl ?_|refine zw7 mixed rfl ?_)
  conv=>whnf
  refine LoopP.inv (α:=Nat × Nat) (fun s=>s.1 ≤ c.parts.length ∧ s.2 ≤ 12000 ∧ cnL (d + 1) (c.parts.drop s.1) s.2 = cnF d c) (fun s=>⟨[(1,I d),(2,.ptr 0 0),(5,I s.2),(6,I s.1)],Tryz.f68.ntmps,[.cells [I c.kind,I c.var,I c.n,.d (cos c.parts)]],[],none⟩) (fun s=>c.parts.length - s.1) (0,1) ⟨zw22 _,by decide,by rw [List.drop_zero,htot]⟩ ?_ ?_
  ·exact Weak.to 1 rfl (zw22 _) (zw18 rfl) ⟨rfl,rfl,rfl,rfl,trivial⟩
  rintro ⟨i,n⟩ ⟨hi,hn,ht⟩
  simp only at hi hn ht
  by_cases h2 : (i : Int) < ((c.parts.map Co.cells).length : Int)
  rotate_left
  ·have h2' : c.parts.length ≤ i:=by rw [List.length_map] at h2; omega
   rw [List.drop_eq_nil_of_le h2',cnL] at ht
   repeat' ((conv=>whnf); first|refine zw9 (zw20 h2) ?_|refine zw0 ?_|refine zw1 ?_|refine zw2 (fun h=>?_) (fun h=>?_)|refine zw3 ?_|refine zw4 (fun h=>?_) (fun h=>?_)|refine zw5 _ rfl ?_|refine zw6 rfl ?_|refine zw7 mixed rfl ?_)
   conv=>whnf
   exact FinP.drop (n:=0) rfl (Nat.le_refl 0) rfl rfl ⟨rfl,Eq.trans (b:=I (n : Int)) rfl (by rw [ht])⟩
  have hi' : i < c.parts.length:=by rw [List.length_map] at h2; omega
  by_cases h3 : (n : Int) ≤ 256
  rotate_left
  ·rw [cnL_big _ (by omega)] at ht
   repeat' ((conv=>whnf); first|refine zw8 (zw19 h2) ?_|refine zw9 (zw20 h3) ?_|refine zw0 ?_|refine zw1 ?_|refine zw2 (fun h=>?_) (fun h=>?_)|refine zw3 ?_|refine zw4 (fun h=>?_) (fun h=>?_)|refine zw5 _ rfl ?_|refine zw6 rfl ?_|refine zw7 mixed rfl ?_)
   conv=>whnf
   exact FinP.drop (n:=0) rfl (Nat.le_refl 0) rfl rfl ⟨rfl,Eq.trans (b:=I (n : Int)) rfl (by rw [ht])⟩
  rw [List.drop_eq_getElem_cons hi',cnL,if_pos (by omega)] at ht
  have hpm : c.parts[i] ∈ c.parts:=List.getElem_mem hi'
  have hps:=part_sizeC hpm
  obtain ⟨p,hp⟩ : ∃ p,p = c.parts[i]:=⟨_,rfl⟩
  have r1 : (c.parts.map Co.cells)[i]? = some [DI p.kind,DI p.var,DI p.n,cos p.parts]:=by rw [List.getElem?_map,List.getElem?_eq_getElem hi',← hp,← Co.cells_eq]; rfl
  have hcall:=ih p (by rw [hp]; omega) (by rw [hp]; exact hc.sub _ hpm) (d + 1) (by omega)
  rw [← hp] at ht
  have hw1 : IntKind.i64.wrap ((d : Int) + 1) = ((d + 1 : Nat) : Int):=by rw [wrap_in (by omega)]; omega
  have hw2 : IntKind.i64.wrap ((i : Int) + 1) = ((i + 1 : Nat) : Int):=by rw [wrap_in (by omega)]; omega
  have hle:=cnF_top (d + 1) p
  have hw3 : IntKind.i64.wrap ((n : Int) + (cnF (d + 1) p : Int)) = ((n + cnF (d + 1) p : Nat) : Int):=by rw [wrap_in (by omega)]; omega
  rw [Co.cells_eq,← hw1] at hcall
  repeat' ((conv=>whnf); first|refine zw8 (zw19 h2) ?_|refine zw8 (zw19 h3) ?_|refine zw0 ?_|refine zw1 ?_|refine zw2 (fun h=>?_) (fun h=>?_)|refine zw3 ?_|refine zw4 (fun h=>?_) (fun h=>?_)|refine zw5 _ rfl ?_|refine zw6 rfl ?_|refine zw7 mixed rfl ?_|refine zw10 i _ rfl r1 ?_|refine hcall _ _ ?_)
  conv=>whnf
  exact ⟨(i + 1,n + cnF (d + 1) p),⟨hi',by omega,ht⟩,by show c.parts.length - (i + 1) < c.parts.length - i; omega,Weak.to 1 rfl (zw22 _) (zw18 rfl) ⟨rfl,rfl,congrArg I hw3,congrArg I hw2,trivial⟩⟩
theorem conditions_c (c : Co) (hc : LCo c) (h : k (I (cnF 0 c)) L) : CallP C 68 [.agg (c.cells.map .d),I 0] L k:=conditions_s _ c (zw21 _) hc 0 (by decide) L k h
theorem parts_s : ∀ (m : Nat) (c : Co),SizeOf.sizeOf c ≤ m → LCo c → ∀ (L : List Blk) (k : V → List Blk → Prop),k (B (vCo c)) L → CallP C 100 [.agg (c.cells.map .d)] L k
 | 0,c,h,_=>absurd h (by cases c; simp)
 | m + 1,c,hsz,hc=>by
  intro L k h
  have ih:=parts_s m
  have hlen:=hc.len
  have hml : ((c.parts.map Co.cells).length : Int) = (c.parts.length : Int):=by rw [List.length_map]
  have hv : vCo c = if c.kind = 1 then decide (1 ≤ c.var) && decide (c.var ≤ 4) && decide (0 ≤ c.n) && decide (c.n ≤ 64) && decide ((c.parts.length : Int) = 0)
   else if c.kind = 4 then decide (c.var = 0) && decide (c.n = 0) && decide ((c.parts.length : Int) = 1) && vCos c.parts
   else if c.kind = 2 ∨ c.kind = 3 then decide (c.var = 0) && decide (c.n = 0) && decide (0 < (c.parts.length : Int)) && decide ((c.parts.length : Int) ≤ 16) && vCos c.parts
   else false:=by cases c; rw [vCo]; rfl
  rw [hv] at h
  rw [Co.cells_eq]
  by_cases k1 : c.kind = 1
  ·rw [if_pos k1,← hml] at h
   refine CallP.pure ?_ rfl (fun _=>rfl) h
   clear h
   refine callP_of C_ok Tryz.func100 rfl rfl (n:=_) rfl (zw18 rfl) (rs:=_) rfl ?_
   repeat' ((conv=>whnf); first|refine zw8 (zw19 k1) ?_|refine zw0 ?_|refine zw1 ?_|refine zw2 (fun h=>?_) (fun h=>?_)|refine zw3 ?_|refine zw4 (fun h=>?_) (fun h=>?_)|refine zw5 _ rfl ?_|refine zw6 rfl ?_|refine zw7 mixed rfl ?_)
   all_goals conv=>whnf
   all_goals refine zw15 (n:=0) rfl (zw21 0) rfl rfl ⟨rfl,?_⟩
   all_goals first
    | (refine Eq.trans (b:=B false) rfl (congrArg B ?_); symm; simp only [Bool.and_eq_false_iff,decide_eq_false_iff_not]; omega)
    | (refine Eq.trans (b:=B (decide (((c.parts.map Co.cells).length : Int) = 0))) rfl (congrArg B ?_); simp only [*,decide_true,Bool.true_and])
  by_cases k4 : c.kind = 4
  ·have k2 : ¬ c.kind = 2:=by omega
   have k3 : ¬ c.kind = 3:=by omega
   rw [if_neg k1,if_pos k4,← hml] at h
   by_cases l1 : ((c.parts.map Co.cells).length : Int) = 1
   rotate_left
   ·rw [decide_eq_false l1,Bool.and_false,Bool.false_and] at h
    refine CallP.pure ?_ rfl (fun _=>rfl) h
    clear h
    refine callP_of C_ok Tryz.func100 rfl rfl (n:=_) rfl (zw18 rfl) (rs:=_) rfl ?_
    repeat' ((conv=>whnf); first|refine zw9 (zw20 k1) ?_|refine zw9 (zw20 k2) ?_|refine zw9 (zw20 k3) ?_|refine zw8 (zw19 k4) ?_|refine zw9 (zw20 l1) ?_|refine zw0 ?_|refine zw1 ?_|refine zw2 (fun h=>?_) (fun h=>?_)|refine zw3 ?_|refine zw4 (fun h=>?_) (fun h=>?_)|refine zw5 _ rfl ?_|refine zw6 rfl ?_|refine zw7 mixed rfl ?_)
    conv=>whnf
    exact FinP.drop (n:=0) rfl (zw21 0) rfl rfl ⟨rfl,rfl⟩
   rw [decide_eq_true l1,Bool.and_true] at h
   by_cases v0 : c.var = 0
   rotate_left
   ·rw [decide_eq_false v0,Bool.false_and,Bool.false_and] at h
    refine CallP.pure ?_ rfl (fun _=>rfl) h
    clear h
    refine callP_of C_ok Tryz.func100 rfl rfl (n:=_) rfl (zw18 rfl) (rs:=_) rfl ?_
    repeat' ((conv=>whnf); first|refine zw9 (zw20 k1) ?_|refine zw9 (zw20 k2) ?_|refine zw9 (zw20 k3) ?_|refine zw8 (zw19 k4) ?_|refine zw8 (zw19 l1) ?_|refine zw9 (zw20 v0) ?_|refine zw0 ?_|refine zw1 ?_|refine zw2 (fun h=>?_) (fun h=>?_)|refine zw3 ?_|refine zw4 (fun h=>?_) (fun h=>?_)|refine zw5 _ rfl ?_|refine zw6 rfl ?_|refine zw7 mixed rfl ?_)
    conv=>whnf
    exact FinP.drop (n:=0) rfl (zw21 0) rfl rfl ⟨rfl,rfl⟩
   by_cases n0 : c.n = 0
   rotate_left
   ·rw [decide_eq_false n0,Bool.and_false,Bool.false_and] at h
    refine CallP.pure ?_ rfl (fun _=>rfl) h
    clear h
    refine callP_of C_ok Tryz.func100 rfl rfl (n:=_) rfl (zw18 rfl) (rs:=_) rfl ?_
    repeat' ((conv=>whnf); first|refine zw9 (zw20 k1) ?_|refine zw9 (zw20 k2) ?_|refine zw9 (zw20 k3) ?_|refine zw8 (zw19 k4) ?_|refine zw8 (zw19 l1) ?_|refine zw8 (zw19 v0) ?_|refine zw9 (zw20 n0) ?_|refine zw0 ?_|refine zw1 ?_|refine zw2 (fun h=>?_) (fun h=>?_)|refine zw3 ?_|refine zw4 (fun h=>?_) (fun h=>?_)|refine zw5 _ rfl ?_|refine zw6 rfl ?_|refine zw7 mixed rfl ?_)
    conv=>whnf
    exact FinP.drop (n:=0) rfl (zw21 0) rfl rfl ⟨rfl,rfl⟩
   rw [decide_eq_true v0,decide_eq_true n0,Bool.true_and,Bool.true_and] at h
   obtain ⟨r,hr⟩ : ∃ r,r = vCos c.parts:=⟨_,rfl⟩
   have hT : vCos c.parts = true → r = true:=fun h=>hr.trans h
   have hF : vCos c.parts = false → r = false:=fun h=>hr.trans h
   rw [← hr] at h
   refine CallP.pure ?_ rfl (fun _=>rfl) h
   clear h
   refine callP_of C_ok Tryz.func100 rfl rfl (n:=_) rfl (zw18 rfl) (rs:=_) rfl ?_
   repeat' ((conv=>whnf); first|refine zw9 (zw20 k1) ?_|refine zw9 (zw20 k2) ?_|refine zw9 (zw20 k3) ?_|refine zw8 (zw19 k4) ?_|refine zw8 (zw19 l1) ?_|refine zw8 (zw19 v0) ?_|refine zw8 (zw19 n0) ?_|refine zw0 ?_|refine zw1 ?_|refine zw2 (fun h=>?_) (fun h=>?_)|refine zw3 ?_|refine zw4 (fun h=>?_) (fun h=>?_)|refine zw5 _ rfl ?_|refine zw6 rfl ?_|refine zw7 mixed rfl ?_)
   conv=>whnf
   refine LoopP.inv (fun i : Nat=>i ≤ c.parts.length ∧ ∀ (j : Nat) (hj : j < c.parts.length),j < i → vCo c.parts[j] = true) (fun i=>⟨[(1,.ptr 0 0),(3,I i)],Tryz.f100.ntmps,[.cells [I c.kind,I c.var,I c.n,.d (cos c.parts)]],[],none⟩) (fun i=>c.parts.length - i) 0 ⟨zw22 _,fun j _ h=>absurd h (Nat.not_lt_zero j)⟩ ?_ ?_
   ·exact Weak.to 1 rfl (zw22 _) (zw18 rfl) ⟨rfl,rfl,trivial⟩
   rintro i ⟨hi,hok⟩
   by_cases h2 : (i : Int) < ((c.parts.map Co.cells).length : Int)
   rotate_left
   ·have hall : vCos c.parts = true:=by
     rw [vCos_all]
     refine List.all_eq_true.2 fun p hp=>?_
     obtain ⟨j,hj,rfl⟩:=List.getElem_of_mem hp
     exact hok j hj (by omega)
    repeat' ((conv=>whnf); first|refine zw9 (zw20 h2) ?_|refine zw0 ?_|refine zw1 ?_|refine zw2 (fun h=>?_) (fun h=>?_)|refine zw3 ?_|refine zw4 (fun h=>?_) (fun h=>?_)|refine zw5 _ rfl ?_|refine zw6 rfl ?_|refine zw7 mixed rfl ?_)
    conv=>whnf
    exact FinP.drop (n:=0) rfl (zw21 0) rfl rfl ⟨rfl,congrArg B (hT hall).symm⟩
   have hi' : i < c.parts.length:=by omega
   have hpm : c.parts[i] ∈ c.parts:=List.getElem_mem hi'
   have hps:=part_sizeC hpm
   have hno : vCo c.parts[i] = false → vCos c.parts = false:=fun hf=>by
    rw [vCos_all]
    exact Bool.eq_false_iff.2 fun ht=>by rw [List.all_eq_true.1 ht _ hpm] at hf; cases hf
   have hnx : vCo c.parts[i] = true → i + 1 ≤ c.parts.length ∧ ∀ (j : Nat) (hj : j < c.parts.length),j < i + 1 → vCo c.parts[j] = true:=fun ht=>⟨hi',fun j hj hji=>by
    by_cases e : j = i
    ·subst e; exact ht
    ·exact hok j hj (by omega)⟩
   have hw2 : IntKind.i64.wrap ((i : Int) + 1) = ((i + 1 : Nat) : Int):=by rw [wrap_in (by omega)]; omega
   have hcall:=ih c.parts[i] (by omega) (hc.sub _ hpm)
   obtain ⟨p,hp⟩ : ∃ p,p = c.parts[i]:=⟨_,rfl⟩
   have r1 : (c.parts.map Co.cells)[i]? = some [DI p.kind,DI p.var,DI p.n,cos p.parts]:=by rw [List.getElem?_map,List.getElem?_eq_getElem hi',← hp,← Co.cells_eq]; rfl
   rw [← hp] at hno hnx hcall
   rw [Co.cells_eq] at hcall
   cases hq : vCo p with
   | false =>
    rw [hq] at hcall
    repeat' ((conv=>whnf); first|refine zw8 (zw19 h2) ?_|refine zw0 ?_|refine zw1 ?_|refine zw2 (fun h=>?_) (fun h=>?_)|refine zw3 ?_|refine zw4 (fun h=>?_) (fun h=>?_)|refine zw5 _ rfl ?_|refine zw6 rfl ?_|refine zw7 mixed rfl ?_|refine zw10 i _ rfl r1 ?_|refine hcall _ _ ?_)
    conv=>whnf
    exact FinP.drop (n:=0) rfl (zw21 0) rfl rfl ⟨rfl,congrArg B (hF (hno hq)).symm⟩
   | true =>
    rw [hq] at hcall
    repeat' ((conv=>whnf); first|refine zw8 (zw19 h2) ?_|refine zw0 ?_|refine zw1 ?_|refine zw2 (fun h=>?_) (fun h=>?_)|refine zw3 ?_|refine zw4 (fun h=>?_) (fun h=>?_)|refine zw5 _ rfl ?_|refine zw6 rfl ?_|refine zw7 mixed rfl ?_|refine zw10 i _ rfl r1 ?_|refine hcall _ _ ?_)
    conv=>whnf
    exact ⟨i + 1,hnx hq,by omega,Weak.to 1 rfl (zw22 _) (zw18 rfl) ⟨rfl,congrArg I hw2,trivial⟩⟩
  by_cases k2 : c.kind = 2
  ·rw [if_neg k1,if_neg k4,if_pos (.inl k2),← hml] at h
   by_cases l1 : ((c.parts.map Co.cells).length : Int) < 1
   ·rw [decide_eq_false (show ¬ (0 : Int) < ((c.parts.map Co.cells).length : Int) by omega),Bool.and_false,Bool.false_and,Bool.false_and] at h
    refine CallP.pure ?_ rfl (fun _=>rfl) h
    clear h
    refine callP_of C_ok Tryz.func100 rfl rfl (n:=_) rfl (zw18 rfl) (rs:=_) rfl ?_
    repeat' ((conv=>whnf); first|refine zw9 (zw20 k1) ?_|refine zw8 (zw19 k2) ?_|refine zw9 (zw20 k4) ?_|refine zw8 (zw19 l1) ?_|refine zw0 ?_|refine zw1 ?_|refine zw2 (fun h=>?_) (fun h=>?_)|refine zw3 ?_|refine zw4 (fun h=>?_) (fun h=>?_)|refine zw5 _ rfl ?_|refine zw6 rfl ?_|refine zw7 mixed rfl ?_)
    conv=>whnf
    exact FinP.drop (n:=0) rfl (zw21 0) rfl rfl ⟨rfl,rfl⟩
   by_cases l2 : (16 : Int) < ((c.parts.map Co.cells).length : Int)
   ·rw [decide_eq_false (show ¬ ((c.parts.map Co.cells).length : Int) ≤ 16 by omega),Bool.and_false,Bool.false_and] at h
    refine CallP.pure ?_ rfl (fun _=>rfl) h
    clear h
    refine callP_of C_ok Tryz.func100 rfl rfl (n:=_) rfl (zw18 rfl) (rs:=_) rfl ?_
    repeat' ((conv=>whnf); first|refine zw9 (zw20 k1) ?_|refine zw8 (zw19 k2) ?_|refine zw9 (zw20 k4) ?_|refine zw9 (zw20 l1) ?_|refine zw8 (zw19 l2) ?_|refine zw0 ?_|refine zw1 ?_|refine zw2 (fun h=>?_) (fun h=>?_)|refine zw3 ?_|refine zw4 (fun h=>?_) (fun h=>?_)|refine zw5 _ rfl ?_|refine zw6 rfl ?_|refine zw7 mixed rfl ?_)
    conv=>whnf
    exact FinP.drop (n:=0) rfl (zw21 0) rfl rfl ⟨rfl,rfl⟩
   rw [decide_eq_true (show (0 : Int) < ((c.parts.map Co.cells).length : Int) by omega),decide_eq_true (show ((c.parts.map Co.cells).length : Int) ≤ 16 by omega),Bool.and_true,Bool.and_true] at h
   by_cases v0 : c.var = 0
   rotate_left
   ·rw [decide_eq_false v0,Bool.false_and,Bool.false_and] at h
    refine CallP.pure ?_ rfl (fun _=>rfl) h
    clear h
    refine callP_of C_ok Tryz.func100 rfl rfl (n:=_) rfl (zw18 rfl) (rs:=_) rfl ?_
    repeat' ((conv=>whnf); first|refine zw9 (zw20 k1) ?_|refine zw8 (zw19 k2) ?_|refine zw9 (zw20 k4) ?_|refine zw9 (zw20 l1) ?_|refine zw9 (zw20 l2) ?_|refine zw9 (zw20 v0) ?_|refine zw0 ?_|refine zw1 ?_|refine zw2 (fun h=>?_) (fun h=>?_)|refine zw3 ?_|refine zw4 (fun h=>?_) (fun h=>?_)|refine zw5 _ rfl ?_|refine zw6 rfl ?_|refine zw7 mixed rfl ?_)
    conv=>whnf
    exact FinP.drop (n:=0) rfl (zw21 0) rfl rfl ⟨rfl,rfl⟩
   by_cases n0 : c.n = 0
   rotate_left
   ·rw [decide_eq_false n0,Bool.and_false,Bool.false_and] at h
    refine CallP.pure ?_ rfl (fun _=>rfl) h
    clear h
    refine callP_of C_ok Tryz.func100 rfl rfl (n:=_) rfl (zw18 rfl) (rs:=_) rfl ?_
    repeat' ((conv=>whnf); first|refine zw9 (zw20 k1) ?_|refine zw8 (zw19 k2) ?_|refine zw9 (zw20 k4) ?_|refine zw9 (zw20 l1) ?_|refine zw9 (zw20 l2) ?_|refine zw8 (zw19 v0) ?_|refine zw9 (zw20 n0) ?_|refine zw0 ?_|refine zw1 ?_|refine zw2 (fun h=>?_) (fun h=>?_)|refine zw3 ?_|refine zw4 (fun h=>?_) (fun h=>?_)|refine zw5 _ rfl ?_|refine zw6 rfl ?_|refine zw7 mixed rfl ?_)
    conv=>whnf
    exact FinP.drop (n:=0) rfl (zw21 0) rfl rfl ⟨rfl,rfl⟩
   rw [decide_eq_true v0,decide_eq_true n0,Bool.true_and,Bool.true_and] at h
   obtain ⟨r,hr⟩ : ∃ r,r = vCos c.parts:=⟨_,rfl⟩
   have hT : vCos c.parts = true → r = true:=fun h=>hr.trans h
   have hF : vCos c.parts = false → r = false:=fun h=>hr.trans h
   rw [← hr] at h
   refine CallP.pure ?_ rfl (fun _=>rfl) h
   clear h
   refine callP_of C_ok Tryz.func100 rfl rfl (n:=_) rfl (zw18 rfl) (rs:=_) rfl ?_
   repeat' ((conv=>whnf); first|refine zw9 (zw20 k1) ?_|refine zw8 (zw19 k2) ?_|refine zw9 (zw20 k4) ?_|refine zw9 (zw20 l1) ?_|refine zw9 (zw20 l2) ?_|refine zw8 (zw19 v0) ?_|refine zw8 (zw19 n0) ?_|refine zw0 ?_|refine zw1 ?_|refine zw2 (fun h=>?_) (fun h=>?_)|refine zw3 ?_|refine zw4 (fun h=>?_) (fun h=>?_)|refine zw5 _ rfl ?_|refine zw6 rfl ?_|refine zw7 mixed rfl ?_)
   conv=>whnf
   refine LoopP.inv (fun i : Nat=>i ≤ c.parts.length ∧ ∀ (j : Nat) (hj : j < c.parts.length),j < i → vCo c.parts[j] = true) (fun i=>⟨[(1,.ptr 0 0),(3,I i)],Tryz.f100.ntmps,[.cells [I c.kind,I c.var,I c.n,.d (cos c.parts)]],[],none⟩) (fun i=>c.parts.length - i) 0 ⟨zw22 _,fun j _ h=>absurd h (Nat.not_lt_zero j)⟩ ?_ ?_
   ·exact Weak.to 1 rfl (zw22 _) (zw18 rfl) ⟨rfl,rfl,trivial⟩
   rintro i ⟨hi,hok⟩
   by_cases h2 : (i : Int) < ((c.parts.map Co.cells).length : Int)
   rotate_left
   ·have hall : vCos c.parts = true:=by
     rw [vCos_all]
     refine List.all_eq_true.2 fun p hp=>?_
     obtain ⟨j,hj,rfl⟩:=List.getElem_of_mem hp
     exact hok j hj (by omega)
    repeat' ((conv=>whnf); first|refine zw9 (zw20 h2) ?_|refine zw0 ?_|refine zw1 ?_|refine zw2 (fun h=>?_) (fun h=>?_)|refine zw3 ?_|refine zw4 (fun h=>?_) (fun h=>?_)|refine zw5 _ rfl ?_|refine zw6 rfl ?_|refine zw7 mixed rfl ?_)
    conv=>whnf
    exact FinP.drop (n:=0) rfl (zw21 0) rfl rfl ⟨rfl,congrArg B (hT hall).symm⟩
   have hi' : i < c.parts.length:=by omega
   have hpm : c.parts[i] ∈ c.parts:=List.getElem_mem hi'
   have hps:=part_sizeC hpm
   have hno : vCo c.parts[i] = false → vCos c.parts = false:=fun hf=>by
    rw [vCos_all]
    exact Bool.eq_false_iff.2 fun ht=>by rw [List.all_eq_true.1 ht _ hpm] at hf; cases hf
   have hnx : vCo c.parts[i] = true → i + 1 ≤ c.parts.length ∧ ∀ (j : Nat) (hj : j < c.parts.length),j < i + 1 → vCo c.parts[j] = true:=fun ht=>⟨hi',fun j hj hji=>by
    by_cases e : j = i
    ·subst e; exact ht
    ·exact hok j hj (by omega)⟩
   have hw2 : IntKind.i64.wrap ((i : Int) + 1) = ((i + 1 : Nat) : Int):=by rw [wrap_in (by omega)]; omega
   have hcall:=ih c.parts[i] (by omega) (hc.sub _ hpm)
   obtain ⟨p,hp⟩ : ∃ p,p = c.parts[i]:=⟨_,rfl⟩
   have r1 : (c.parts.map Co.cells)[i]? = some [DI p.kind,DI p.var,DI p.n,cos p.parts]:=by rw [List.getElem?_map,List.getElem?_eq_getElem hi',← hp,← Co.cells_eq]; rfl
   rw [← hp] at hno hnx hcall
   rw [Co.cells_eq] at hcall
   cases hq : vCo p with
   | false =>
    rw [hq] at hcall
    repeat' ((conv=>whnf); first|refine zw8 (zw19 h2) ?_|refine zw0 ?_|refine zw1 ?_|refine zw2 (fun h=>?_) (fun h=>?_)|refine zw3 ?_|refine zw4 (fun h=>?_) (fun h=>?_)|refine zw5 _ rfl ?_|refine zw6 rfl ?_|refine zw7 mixed rfl ?_|refine zw10 i _ rfl r1 ?_|refine hcall _ _ ?_)
    conv=>whnf
    exact FinP.drop (n:=0) rfl (zw21 0) rfl rfl ⟨rfl,congrArg B (hF (hno hq)).symm⟩
   | true =>
    rw [hq] at hcall
    repeat' ((conv=>whnf); first|refine zw8 (zw19 h2) ?_|refine zw0 ?_|refine zw1 ?_|refine zw2 (fun h=>?_) (fun h=>?_)|refine zw3 ?_|refine zw4 (fun h=>?_) (fun h=>?_)|refine zw5 _ rfl ?_|refine zw6 rfl ?_|refine zw7 mixed rfl ?_|refine zw10 i _ rfl r1 ?_|refine hcall _ _ ?_)
    conv=>whnf
    exact ⟨i + 1,hnx hq,by omega,Weak.to 1 rfl (zw22 _) (zw18 rfl) ⟨rfl,congrArg I hw2,trivial⟩⟩
  by_cases k3 : c.kind = 3
  ·rw [if_neg k1,if_neg k4,if_pos (.inr k3),← hml] at h
   by_cases l1 : ((c.parts.map Co.cells).length : Int) < 1
   ·rw [decide_eq_false (show ¬ (0 : Int) < ((c.parts.map Co.cells).length : Int) by omega),Bool.and_false,Bool.false_and,Bool.false_and] at h
    refine CallP.pure ?_ rfl (fun _=>rfl) h
    clear h
    refine callP_of C_ok Tryz.func100 rfl rfl (n:=_) rfl (zw18 rfl) (rs:=_) rfl ?_
    repeat' ((conv=>whnf); first|refine zw9 (zw20 k1) ?_|refine zw9 (zw20 k2) ?_|refine zw8 (zw19 k3) ?_|refine zw9 (zw20 k4) ?_|refine zw8 (zw19 l1) ?_|refine zw0 ?_|refine zw1 ?_|refine zw2 (fun h=>?_) (fun h=>?_)|refine zw3 ?_|refine zw4 (fun h=>?_) (fun h=>?_)|refine zw5 _ rfl ?_|refine zw6 rfl ?_|refine zw7 mixed rfl ?_)
    conv=>whnf
    exact FinP.drop (n:=0) rfl (zw21 0) rfl rfl ⟨rfl,rfl⟩
   by_cases l2 : (16 : Int) < ((c.parts.map Co.cells).length : Int)
   ·rw [decide_eq_false (show ¬ ((c.parts.map Co.cells).length : Int) ≤ 16 by omega),Bool.and_false,Bool.false_and] at h
    refine CallP.pure ?_ rfl (fun _=>rfl) h
    clear h
    refine callP_of C_ok Tryz.func100 rfl rfl (n:=_) rfl (zw18 rfl) (rs:=_) rfl ?_
    repeat' ((conv=>whnf); first|refine zw9 (zw20 k1) ?_|refine zw9 (zw20 k2) ?_|refine zw8 (zw19 k3) ?_|refine zw9 (zw20 k4) ?_|refine zw9 (zw20 l1) ?_|refine zw8 (zw19 l2) ?_|refine zw0 ?_|refine zw1 ?_|refine zw2 (fun h=>?_) (fun h=>?_)|refine zw3 ?_|refine zw4 (fun h=>?_) (fun h=>?_)|refine zw5 _ rfl ?_|refine zw6 rfl ?_|refine zw7 mixed rfl ?_)
    conv=>whnf
    exact FinP.drop (n:=0) rfl (zw21 0) rfl rfl ⟨rfl,rfl⟩
   rw [decide_eq_true (show (0 : Int) < ((c.parts.map Co.cells).length : Int) by omega),decide_eq_true (show ((c.parts.map Co.cells).length : Int) ≤ 16 by omega),Bool.and_true,Bool.and_true] at h
   by_cases v0 : c.var = 0
   rotate_left
   ·rw [decide_eq_false v0,Bool.false_and,Bool.false_and] at h
    refine CallP.pure ?_ rfl (fun _=>rfl) h
    clear h
    refine callP_of C_ok Tryz.func100 rfl rfl (n:=_) rfl (zw18 rfl) (rs:=_) rfl ?_
    repeat' ((conv=>whnf); first|refine zw9 (zw20 k1) ?_|refine zw9 (zw20 k2) ?_|refine zw8 (zw19 k3) ?_|refine zw9 (zw20 k4) ?_|refine zw9 (zw20 l1) ?_|refine zw9 (zw20 l2) ?_|refine zw9 (zw20 v0) ?_|refine zw0 ?_|refine zw1 ?_|refine zw2 (fun h=>?_) (fun h=>?_)|refine zw3 ?_|refine zw4 (fun h=>?_) (fun h=>?_)|refine zw5 _ rfl ?_|refine zw6 rfl ?_|refine zw7 mixed rfl ?_)
    conv=>whnf
    exact FinP.drop (n:=0) rfl (zw21 0) rfl rfl ⟨rfl,rfl⟩
   by_cases n0 : c.n = 0
   rotate_left
   ·rw [decide_eq_false n0,Bool.and_false,Bool.false_and] at h
    refine CallP.pure ?_ rfl (fun _=>rfl) h
    clear h
    refine callP_of C_ok Tryz.func100 rfl rfl (n:=_) rfl (zw18 rfl) (rs:=_) rfl ?_
    repeat' ((conv=>whnf); first|refine zw9 (zw20 k1) ?_|refine zw9 (zw20 k2) ?_|refine zw8 (zw19 k3) ?_|refine zw9 (zw20 k4) ?_|refine zw9 (zw20 l1) ?_|refine zw9 (zw20 l2) ?_|refine zw8 (zw19 v0) ?_|refine zw9 (zw20 n0) ?_|refine zw0 ?_|refine zw1 ?_|refine zw2 (fun h=>?_) (fun h=>?_)|refine zw3 ?_|refine zw4 (fun h=>?_) (fun h=>?_)|refine zw5 _ rfl ?_|refine zw6 rfl ?_|refine zw7 mixed rfl ?_)
    conv=>whnf
    exact FinP.drop (n:=0) rfl (zw21 0) rfl rfl ⟨rfl,rfl⟩
   rw [decide_eq_true v0,decide_eq_true n0,Bool.true_and,Bool.true_and] at h
   obtain ⟨r,hr⟩ : ∃ r,r = vCos c.parts:=⟨_,rfl⟩
   have hT : vCos c.parts = true → r = true:=fun h=>hr.trans h
   have hF : vCos c.parts = false → r = false:=fun h=>hr.trans h
   rw [← hr] at h
   refine CallP.pure ?_ rfl (fun _=>rfl) h
   clear h
   refine callP_of C_ok Tryz.func100 rfl rfl (n:=_) rfl (zw18 rfl) (rs:=_) rfl ?_
   repeat' ((conv=>whnf); first|refine zw9 (zw20 k1) ?_|refine zw9 (zw20 k2) ?_|refine zw8 (zw19 k3) ?_|refine zw9 (zw20 k4) ?_|refine zw9 (zw20 l1) ?_|refine zw9 (zw20 l2) ?_|refine zw8 (zw19 v0) ?_|refine zw8 (zw19 n0) ?_|refine zw0 ?_|refine zw1 ?_|refine zw2 (fun h=>?_) (fun h=>?_)|refine zw3 ?_|refine zw4 (fun h=>?_) (fun h=>?_)|refine zw5 _ rfl ?_|refine zw6 rfl ?_|refine zw7 mixed rfl ?_)
   conv=>whnf
   refine LoopP.inv (fun i : Nat=>i ≤ c.parts.length ∧ ∀ (j : Nat) (hj : j < c.parts.length),j < i → vCo c.parts[j] = true) (fun i=>⟨[(1,.ptr 0 0),(3,I i)],Tryz.f100.ntmps,[.cells [I c.kind,I c.var,I c.n,.d (cos c.parts)]],[],none⟩) (fun i=>c.parts.length - i) 0 ⟨zw22 _,fun j _ h=>absurd h (Nat.not_lt_zero j)⟩ ?_ ?_
   ·exact Weak.to 1 rfl (zw22 _) (zw18 rfl) ⟨rfl,rfl,trivial⟩
   rintro i ⟨hi,hok⟩
   by_cases h2 : (i : Int) < ((c.parts.map Co.cells).length : Int)
   rotate_left
   ·have hall : vCos c.parts = true:=by
     rw [vCos_all]
     refine List.all_eq_true.2 fun p hp=>?_
     obtain ⟨j,hj,rfl⟩:=List.getElem_of_mem hp
     exact hok j hj (by omega)
    repeat' ((conv=>whnf); first|refine zw9 (zw20 h2) ?_|refine zw0 ?_|refine zw1 ?_|refine zw2 (fun h=>?_) (fun h=>?_)|refine zw3 ?_|refine zw4 (fun h=>?_) (fun h=>?_)|refine zw5 _ rfl ?_|refine zw6 rfl ?_|refine zw7 mixed rfl ?_)
    conv=>whnf
    exact FinP.drop (n:=0) rfl (zw21 0) rfl rfl ⟨rfl,congrArg B (hT hall).symm⟩
   have hi' : i < c.parts.length:=by omega
   have hpm : c.parts[i] ∈ c.parts:=List.getElem_mem hi'
   have hps:=part_sizeC hpm
   have hno : vCo c.parts[i] = false → vCos c.parts = false:=fun hf=>by
    rw [vCos_all]
    exact Bool.eq_false_iff.2 fun ht=>by rw [List.all_eq_true.1 ht _ hpm] at hf; cases hf
   have hnx : vCo c.parts[i] = true → i + 1 ≤ c.parts.length ∧ ∀ (j : Nat) (hj : j < c.parts.length),j < i + 1 → vCo c.parts[j] = true:=fun ht=>⟨hi',fun j hj hji=>by
    by_cases e : j = i
    ·subst e; exact ht
    ·exact hok j hj (by omega)⟩
   have hw2 : IntKind.i64.wrap ((i : Int) + 1) = ((i + 1 : Nat) : Int):=by rw [wrap_in (by omega)]; omega
   have hcall:=ih c.parts[i] (by omega) (hc.sub _ hpm)
   obtain ⟨p,hp⟩ : ∃ p,p = c.parts[i]:=⟨_,rfl⟩
   have r1 : (c.parts.map Co.cells)[i]? = some [DI p.kind,DI p.var,DI p.n,cos p.parts]:=by rw [List.getElem?_map,List.getElem?_eq_getElem hi',← hp,← Co.cells_eq]; rfl
   rw [← hp] at hno hnx hcall
   rw [Co.cells_eq] at hcall
   cases hq : vCo p with
   | false =>
    rw [hq] at hcall
    repeat' ((conv=>whnf); first|refine zw8 (zw19 h2) ?_|refine zw0 ?_|refine zw1 ?_|refine zw2 (fun h=>?_) (fun h=>?_)|refine zw3 ?_|refine zw4 (fun h=>?_) (fun h=>?_)|refine zw5 _ rfl ?_|refine zw6 rfl ?_|refine zw7 mixed rfl ?_|refine zw10 i _ rfl r1 ?_|refine hcall _ _ ?_)
    conv=>whnf
    exact FinP.drop (n:=0) rfl (zw21 0) rfl rfl ⟨rfl,congrArg B (hF (hno hq)).symm⟩
   | true =>
    rw [hq] at hcall
    repeat' ((conv=>whnf); first|refine zw8 (zw19 h2) ?_|refine zw0 ?_|refine zw1 ?_|refine zw2 (fun h=>?_) (fun h=>?_)|refine zw3 ?_|refine zw4 (fun h=>?_) (fun h=>?_)|refine zw5 _ rfl ?_|refine zw6 rfl ?_|refine zw7 mixed rfl ?_|refine zw10 i _ rfl r1 ?_|refine hcall _ _ ?_)
    conv=>whnf
    exact ⟨i + 1,hnx hq,by omega,Weak.to 1 rfl (zw22 _) (zw18 rfl) ⟨rfl,congrArg I hw2,trivial⟩⟩
  rw [if_neg k1,if_neg k4,if_neg (by omega)] at h
  refine CallP.pure ?_ rfl (fun _=>rfl) h
  clear h
  refine callP_of C_ok Tryz.func100 rfl rfl (n:=_) rfl (zw18 rfl) (rs:=_) rfl ?_
  repeat' ((conv=>whnf); first|refine zw9 (zw20 k1) ?_|refine zw9 (zw20 k2) ?_|refine zw9 (zw20 k3) ?_|refine zw9 (zw20 k4) ?_|refine zw0 ?_|refine zw1 ?_|refine zw2 (fun h=>?_) (fun h=>?_)|refine zw3 ?_|refine zw4 (fun h=>?_) (fun h=>?_)|refine zw5 _ rfl ?_|refine zw6 rfl ?_|refine zw7 mixed rfl ?_)
  conv=>whnf
  exact FinP.drop (n:=0) rfl (zw21 0) rfl rfl ⟨rfl,rfl⟩
theorem parts_c (c : Co) (hc : LCo c) (h : k (B (vCo c)) L) : CallP C 100 [.agg (c.cells.map .d)] L k:=parts_s _ c (zw21 _) hc L k h
def rcondF (c : Co) : Int:=if (256 : Int) < (cnF 0 c : Int) then 2 else if vCo c = true then 0 else 140
theorem rcond_c (c : Co) (hc : LCo c) (h : k (I (rcondF c)) L) : CallP C 87 [.agg (c.cells.map .d)] L k:=by
 have h1 : ∀ {L : List Blk} {k : V → List Blk → Prop},k (I (cnF 0 c)) L → CallP C 68 [.agg (c.cells.map .d),I 0] L k:=fun h=>conditions_c c hc h
 have h2 : ∀ {L : List Blk} {k : V → List Blk → Prop},k (B (vCo c)) L → CallP C 100 [.agg (c.cells.map .d)] L k:=fun h=>parts_c c hc h
 unfold rcondF at h
 generalize cnF 0 c = n at *
 generalize vCo c = v at *
 rw [Co.cells_eq] at h1 h2 ⊢
 by_cases c1 : (256 : Int) < (n : Int)
 ·rw [if_pos c1] at h
  refine CallP.pure ?_ rfl (fun _=>rfl) h
  clear h
  refine callP_of C_ok Tryz.func87 rfl rfl (n:=_) rfl (zw18 rfl) (rs:=_) rfl ?_
  repeat' ((conv=>whnf); first|refine zw8 (zw19 c1) ?_|refine zw0 ?_|refine zw1 ?_|refine zw2 (fun h=>?_) (fun h=>?_)|refine zw3 ?_|refine zw4 (fun h=>?_) (fun h=>?_)|refine zw5 _ rfl ?_|refine zw6 rfl ?_|refine zw7 mixed rfl ?_|refine h1 ?_)
  conv=>whnf
  exact FinP.drop (n:=0) rfl (zw21 0) rfl rfl ⟨rfl,rfl⟩
 rw [if_neg c1] at h
 cases v with
 | false =>
  rw [if_neg (by decide)] at h
  refine CallP.pure ?_ rfl (fun _=>rfl) h
  clear h
  refine callP_of C_ok Tryz.func87 rfl rfl (n:=_) rfl (zw18 rfl) (rs:=_) rfl ?_
  repeat' ((conv=>whnf); first|refine zw9 (zw20 c1) ?_|refine zw0 ?_|refine zw1 ?_|refine zw2 (fun h=>?_) (fun h=>?_)|refine zw3 ?_|refine zw4 (fun h=>?_) (fun h=>?_)|refine zw5 _ rfl ?_|refine zw6 rfl ?_|refine zw7 mixed rfl ?_|refine h1 ?_|refine h2 ?_)
  conv=>whnf
  exact FinP.drop (n:=0) rfl (zw21 0) rfl rfl ⟨rfl,rfl⟩
 | true =>
  rw [if_pos rfl] at h
  refine CallP.pure ?_ rfl (fun _=>rfl) h
  clear h
  refine callP_of C_ok Tryz.func87 rfl rfl (n:=_) rfl (zw18 rfl) (rs:=_) rfl ?_
  repeat' ((conv=>whnf); first|refine zw9 (zw20 c1) ?_|refine zw0 ?_|refine zw1 ?_|refine zw2 (fun h=>?_) (fun h=>?_)|refine zw3 ?_|refine zw4 (fun h=>?_) (fun h=>?_)|refine zw5 _ rfl ?_|refine zw6 rfl ?_|refine zw7 mixed rfl ?_|refine h1 ?_|refine h2 ?_)
  conv=>whnf
  exact FinP.drop (n:=0) rfl (zw21 0) rfl rfl ⟨rfl,rfl⟩
end Go.Proofs.YtclmjkhdmhlijaaGreatDoor
namespace Go.Proofs.YtclmjkhdmhlijaaGreatDoor
open Go.Tidy
variable {L : List Blk} {k : V → List Blk → Prop}
instance decBadN (n : Int) : Decidable (badN n):=inferInstanceAs (Decidable (n = 0 ∨ 24 < n ∨ n < -24))
theorem zero_c (c : Co) (h : k (B (isZ c)) L) : CallP C 67 [.agg (c.cells.map .d)] L k:=by
 rw [Co.cells_eq]
 refine CallP.pure ?_ rfl (fun _=>rfl) h
 clear h
 refine callP_of C_ok Tryz.func67 rfl rfl (n:=_) rfl (zw18 rfl) (rs:=_) rfl ?_
 repeat' ((conv=>whnf); first|refine zw0 ?_|refine zw1 ?_|refine zw2 (fun h=>?_) (fun h=>?_)|refine zw3 ?_|refine zw4 (fun h=>?_) (fun h=>?_)|refine zw5 _ rfl ?_|refine zw6 rfl ?_|refine zw7 mixed rfl ?_)
 all_goals conv=>whnf
 all_goals refine zw15 (n:=0) rfl (zw21 0) rfl rfl ⟨rfl,congrArg B ?_⟩
 all_goals simp_all [isZ]
theorem in_c (l : List Int) (hl : l.length ≤ 4611686018427387904) (m : Int) (h : k (B (l.any fun v=>decide (v = m))) L) : CallP C 60 [.d (ins l),I m] L k:=by
 refine CallP.pure ?_ rfl (fun _=>rfl) h
 clear h
 refine callP_of C_ok Tryz.func60 rfl rfl (n:=_) rfl (zw18 rfl) (rs:=_) rfl ?_
 conv=>whnf
 refine LoopP.inv (fun i : Nat=>i ≤ l.length ∧ ∀ (j : Nat) (hj : j < l.length),j < i → decide (l[j] = m) = false) (fun i=>⟨[(0,.d (ins l)),(1,I m),(5,I i)],Tryz.f60.ntmps,[],[],none⟩) (fun i=>l.length - i) 0 ⟨zw22 _,fun j _ h=>absurd h (Nat.not_lt_zero j)⟩ ?_ ?_
 ·exact Weak.to 0 rfl (zw22 _) (zw22 _) ⟨rfl,rfl,rfl,trivial⟩
 rintro i ⟨hi,hno⟩
 by_cases hlt : (i : Int) < ((l.map fun n=>[DI n]).length : Int)
 ·have hi' : i < l.length:=by rw [List.length_map] at hlt; omega
  have hw : IntKind.i64.wrap ((i : Int) + 1) = ((i + 1 : Nat) : Int):=by rw [wrap_in (by omega)]; omega
  have r1 : (l.map fun n=>[DI n])[i]? = some [DI l[i]]:=by rw [List.getElem?_map,List.getElem?_eq_getElem hi']; rfl
  by_cases hq : decide (l[i] = m) = true
  ·repeat' (conv => whnf
            first|refine zw8 (zw19 hlt) ?_|refine zw8 hq ?_|refine zw0 ?_|refine zw1 ?_|refine zw2 (fun h=>?_) (fun h=>?_)|refine zw3 ?_|refine zw4 (fun h=>?_) (fun h=>?_)|refine zw5 _ rfl ?_|refine zw6 rfl ?_|refine zw7 mixed rfl ?_|refine zw10 i _ rfl r1 ?_)
   conv=>whnf
   exact FinP.drop (n:=0) rfl (zw21 0) rfl rfl ⟨rfl,congrArg B (List.any_eq_true.2 ⟨_,List.getElem_mem hi',hq⟩).symm⟩
  ·have hq' : decide (l[i] = m) = false:=eq_false_of_ne_true hq
   repeat' ((conv=>whnf); first|refine zw8 (zw19 hlt) ?_|refine zw9 hq' ?_|refine zw0 ?_|refine zw1 ?_|refine zw2 (fun h=>?_) (fun h=>?_)|refine zw3 ?_|refine zw4 (fun h=>?_) (fun h=>?_)|refine zw5 _ rfl ?_|refine zw6 rfl ?_|refine zw7 mixed rfl ?_|refine zw10 i _ rfl r1 ?_)
   conv=>whnf
   exact ⟨i + 1,⟨hi',fun j hj hji=>by
    by_cases e : j = i
    ·subst e; exact hq'
    ·exact hno j hj (by omega)⟩,by omega,Weak.to 0 rfl (zw22 _) (zw22 _) ⟨rfl,rfl,congrArg I hw,trivial⟩⟩
 ·have hl' : l.length ≤ i:=by rw [List.length_map] at hlt; omega
  have hf : (l.any fun v=>decide (v = m)) = false:=by
   refine Bool.eq_false_iff.2 fun ht=>?_
   obtain ⟨v,hv,hvm⟩:=List.any_eq_true.1 ht
   obtain ⟨j,hj,rfl⟩:=List.getElem_of_mem hv
   exact absurd hvm (by rw [hno j hj (by omega)]; decide)
  repeat' ((conv=>whnf); first|refine zw9 (zw20 hlt) ?_|refine zw0 ?_|refine zw1 ?_|refine zw2 (fun h=>?_) (fun h=>?_)|refine zw3 ?_|refine zw4 (fun h=>?_) (fun h=>?_)|refine zw5 _ rfl ?_|refine zw6 rfl ?_|refine zw7 mixed rfl ?_)
  conv=>whnf
  exact FinP.drop (n:=0) rfl (zw21 0) rfl rfl ⟨rfl,congrArg B hf.symm⟩
end Go.Proofs.YtclmjkhdmhlijaaGreatDoor
namespace Go.Proofs.YtclmjkhdmhlijaaGreatDoor
open Go.Tidy
variable {L : List Blk} {k : V → List Blk → Prop}
theorem vCo_kind {c : Co} (h : vCo c = true) : (c.kind = 1 ∨ c.kind = 2 ∨ c.kind = 3 ∨ c.kind = 4) ∧ (c.kind = 4 → 0 < c.parts.length) ∧ ∀ p ∈ c.parts,vCo p = true:=by
 cases c with | mk kd v m ps =>
 simp only [Co.kind,Co.parts]
 rw [vCo] at h
 split at h
 ·rename_i k1
  simp only [Bool.and_eq_true,decide_eq_true_eq] at h
  have h0 : ps.length = 0:=by omega
  exact ⟨.inl k1,fun h=>by omega,fun p hp=>by rw [List.length_eq_zero_iff.1 h0] at hp; cases hp⟩
 ·split at h
  ·rename_i k4
   simp only [Bool.and_eq_true,decide_eq_true_eq] at h
   exact ⟨.inr (.inr (.inr k4)),fun _=>by omega,vCos_mem h.2⟩
  ·split at h
   ·rename_i k23
    simp only [Bool.and_eq_true,decide_eq_true_eq] at h
    exact ⟨k23.elim (fun h=>.inr (.inl h)) (fun h=>.inr (.inr (.inl h))),fun _=>by omega,vCos_mem h.2⟩
   ·cases h
theorem rholds_s (x : En) : ∀ (m : Nat) (c : Co),SizeOf.sizeOf c ≤ m → vCo c = true → LCo c → ∀ (L : List Blk) (k : V → List Blk → Prop),k (B (hoF x c)) L → CallP C 101 [.agg (c.cells.map .d),enV x] L k
 | 0,c,h,_,_=>absurd h (by cases c; simp)
 | m + 1,c,hsz,hvc,hc=>by
  intro L k h
  have ih:=rholds_s x m
  have hlen:=hc.len
  obtain ⟨hk,h4,hsub⟩:=vCo_kind hvc
  have hv : hoF x c = (if c.kind = 1 then decide (c.n ≤ valF c.var x) else if c.kind = 4 then !hoHead x c.parts else if c.kind = 3 then hoAny x c.parts else hoAll x c.parts):=by cases c; rw [hoF]; rfl
  rw [hv] at h
  rw [Co.cells_eq]
  by_cases k1 : c.kind = 1
  ·rw [if_pos k1] at h
   refine CallP.pure ?_ rfl (fun _=>rfl) h
   clear h
   refine callP_of C_ok Tryz.func101 rfl rfl (n:=_) rfl (zw18 rfl) (rs:=_) rfl ?_
   repeat' ((conv=>whnf); first|refine zw8 (zw19 k1) ?_|refine zw0 ?_|refine zw1 ?_|refine zw2 (fun h=>?_) (fun h=>?_)|refine zw3 ?_|refine zw4 (fun h=>?_) (fun h=>?_)|refine zw5 _ rfl ?_|refine zw6 rfl ?_|refine zw7 mixed rfl ?_|refine zw12 _ (rvalue_c c.var x ⟨rfl,rfl⟩) ?_|refine rvalue_c c.var x ?_)
   conv=>whnf
   exact FinP.drop (n:=0) rfl (zw21 0) rfl rfl ⟨rfl,rfl⟩
  by_cases k4 : c.kind = 4
  ·rw [if_neg k1,if_pos k4] at h
   have hpos:=h4 k4
   obtain ⟨p,hp⟩ : ∃ p,p = c.parts[0]:=⟨_,rfl⟩
   have hpm : p ∈ c.parts:=hp ▸ List.getElem_mem hpos
   have hhd : hoHead x c.parts = hoF x p:=by rw [hp]; exact hoHead_at x hpos
   have r1 : (c.parts.map Co.cells)[0]? = some [DI p.kind,DI p.var,DI p.n,cos p.parts]:=by rw [List.getElem?_map,List.getElem?_eq_getElem hpos,← Co.cells_eq,hp]; rfl
   have hcl:=ih p (by have:=part_sizeC hpm; omega) (hsub p hpm) (hc.sub p hpm)
   rw [Co.cells_eq] at hcl
   rw [hhd] at h
   refine CallP.pure ?_ rfl (fun _=>rfl) h
   clear h
   refine callP_of C_ok Tryz.func101 rfl rfl (n:=_) rfl (zw18 rfl) (rs:=_) rfl ?_
   repeat' ((conv=>whnf); first|refine zw9 (zw20 k1) ?_|refine zw8 (zw19 k4) ?_|refine zw0 ?_|refine zw1 ?_|refine zw2 (fun h=>?_) (fun h=>?_)|refine zw3 ?_|refine zw4 (fun h=>?_) (fun h=>?_)|refine zw5 _ rfl ?_|refine zw6 rfl ?_|refine zw7 mixed rfl ?_|refine zw10 0 _ rfl r1 ?_|refine zw12 _ (hcl _ _ ⟨rfl,rfl⟩) ?_|refine hcl _ _ ?_)
   conv=>whnf
   exact FinP.drop (n:=0) rfl (zw21 0) rfl rfl ⟨rfl,rfl⟩
  by_cases k3 : c.kind = 3
  ·rw [if_neg k1,if_neg k4,if_pos k3] at h
   obtain ⟨r,hT⟩ : ∃ r,hoAny x c.parts = r:=⟨_,rfl⟩
   have hEnd : (∀ (j : Nat) (hj : j < c.parts.length),hoF x c.parts[j] = false) → false = r:=fun hh=>by
    rw [← hT,hoAny_any]; symm
    refine Bool.eq_false_iff.2 fun ht=>?_
    obtain ⟨v,hv,hvm⟩:=List.any_eq_true.1 ht
    obtain ⟨j,hj,rfl⟩:=List.getElem_of_mem hv
    rw [hh j hj] at hvm; cases hvm
   have hEnd : (∀ (j : Nat) (hj : j < c.parts.length),hoF x c.parts[j] = false) → r = false:=fun hh=>(hEnd hh).symm
   have hStop : ∀ (i : Nat) (hi : i < c.parts.length),hoF x c.parts[i] = true → r = true:=fun i hi hh=>by
    rw [← hT,hoAny_any]; exact List.any_eq_true.2 ⟨_,List.getElem_mem hi,hh⟩
   rw [hT] at h
   rw [k3]
   refine CallP.pure ?_ rfl (fun _=>rfl) h
   clear h
   refine callP_of C_ok Tryz.func101 rfl rfl (n:=_) rfl (zw18 rfl) (rs:=_) rfl ?_
   repeat' ((conv=>whnf); first|refine zw0 ?_|refine zw1 ?_|refine zw2 (fun h=>?_) (fun h=>?_)|refine zw3 ?_|refine zw4 (fun h=>?_) (fun h=>?_)|refine zw5 _ rfl ?_|refine zw6 rfl ?_|refine zw7 mixed rfl ?_)
   conv=>whnf
   refine LoopP.inv (fun i : Nat=>i ≤ c.parts.length ∧ ∀ (j : Nat) (hj : j < c.parts.length),j < i → hoF x c.parts[j] = false) (fun i=>⟨[(2,.ptr 0 0),(3,.ptr 1 0),(5,I i)],Tryz.f101.ntmps,[.cells [I 3,I c.var,I c.n,.d (cos c.parts)],.cells (x.cells.map .d)],[],none⟩) (fun i=>c.parts.length - i) 0 ⟨zw22 _,fun j _ h=>absurd h (Nat.not_lt_zero j)⟩ ?_ ?_
   ·exact Weak.to 2 rfl (zw22 _) (zw18 rfl) ⟨rfl,rfl,rfl,trivial⟩
   rintro i ⟨hi,hok⟩
   by_cases h2 : (i : Int) < ((c.parts.map Co.cells).length : Int)
   rotate_left
   ·have hl' : c.parts.length ≤ i:=by rw [List.length_map] at h2; omega
    have hend:=hEnd fun j hj=>hok j hj (by omega)
    repeat' ((conv=>whnf); first|refine zw9 (zw20 h2) ?_|refine zw0 ?_|refine zw1 ?_|refine zw2 (fun h=>?_) (fun h=>?_)|refine zw3 ?_|refine zw4 (fun h=>?_) (fun h=>?_)|refine zw5 _ rfl ?_|refine zw6 rfl ?_|refine zw7 mixed rfl ?_)
    conv=>whnf
    exact FinP.drop (n:=0) rfl (zw21 0) rfl rfl ⟨rfl,congrArg B hend.symm⟩
   have hi' : i < c.parts.length:=by rw [List.length_map] at h2; omega
   have hpm : c.parts[i] ∈ c.parts:=List.getElem_mem hi'
   have hw2 : IntKind.i64.wrap ((i : Int) + 1) = ((i + 1 : Nat) : Int):=by rw [wrap_in (by omega)]; omega
   have hcall:=ih c.parts[i] (by have:=part_sizeC hpm; omega) (hsub _ hpm) (hc.sub _ hpm)
   have hstop:=hStop i hi'
   have hnx : hoF x c.parts[i] = false → i + 1 ≤ c.parts.length ∧ ∀ (j : Nat) (hj : j < c.parts.length),j < i + 1 → hoF x c.parts[j] = false:=fun ht=>⟨hi',fun j hj hji=>by
    by_cases e : j = i
    ·subst e; exact ht
    ·exact hok j hj (by omega)⟩
   obtain ⟨p,hp⟩ : ∃ p,p = c.parts[i]:=⟨_,rfl⟩
   have r1 : (c.parts.map Co.cells)[i]? = some [DI p.kind,DI p.var,DI p.n,cos p.parts]:=by rw [List.getElem?_map,List.getElem?_eq_getElem hi',← hp,← Co.cells_eq]; rfl
   rw [← hp] at hstop hnx hcall
   rw [Co.cells_eq] at hcall
   cases hq : hoF x p with
   | true =>
    rw [hq] at hcall
    repeat' ((conv=>whnf); first|refine zw8 (zw19 h2) ?_|refine zw0 ?_|refine zw1 ?_|refine zw2 (fun h=>?_) (fun h=>?_)|refine zw3 ?_|refine zw4 (fun h=>?_) (fun h=>?_)|refine zw5 _ rfl ?_|refine zw6 rfl ?_|refine zw7 mixed rfl ?_|refine zw10 i _ rfl r1 ?_|refine zw12 _ (hcall _ _ ⟨rfl,rfl⟩) ?_|refine hcall _ _ ?_)
    conv=>whnf
    exact FinP.drop (n:=0) rfl (zw21 0) rfl rfl ⟨rfl,congrArg B (hstop hq).symm⟩
   | false =>
    rw [hq] at hcall
    repeat' ((conv=>whnf); first|refine zw8 (zw19 h2) ?_|refine zw0 ?_|refine zw1 ?_|refine zw2 (fun h=>?_) (fun h=>?_)|refine zw3 ?_|refine zw4 (fun h=>?_) (fun h=>?_)|refine zw5 _ rfl ?_|refine zw6 rfl ?_|refine zw7 mixed rfl ?_|refine zw10 i _ rfl r1 ?_|refine zw12 _ (hcall _ _ ⟨rfl,rfl⟩) ?_|refine hcall _ _ ?_)
    conv=>whnf
    exact ⟨i + 1,hnx hq,by omega,Weak.to 2 rfl (zw22 _) (zw18 rfl) ⟨rfl,rfl,congrArg I hw2,trivial⟩⟩
  have kk : c.kind = 2:=by omega
  ·rw [if_neg k1,if_neg k4,if_neg k3] at h
   obtain ⟨r,hT⟩ : ∃ r,hoAll x c.parts = r:=⟨_,rfl⟩
   have hEnd : (∀ (j : Nat) (hj : j < c.parts.length),hoF x c.parts[j] = true) → r = true:=fun hh=>by
    rw [← hT,hoAll_all]
    refine List.all_eq_true.2 fun v hv=>?_
    obtain ⟨j,hj,rfl⟩:=List.getElem_of_mem hv
    exact hh j hj
   have hStop : ∀ (i : Nat) (hi : i < c.parts.length),hoF x c.parts[i] = false → r = false:=fun i hi hh=>by
    rw [← hT,hoAll_all]
    exact Bool.eq_false_iff.2 fun ht=>by rw [List.all_eq_true.1 ht _ (List.getElem_mem hi)] at hh; cases hh
   rw [hT] at h
   rw [kk]
   refine CallP.pure ?_ rfl (fun _=>rfl) h
   clear h
   refine callP_of C_ok Tryz.func101 rfl rfl (n:=_) rfl (zw18 rfl) (rs:=_) rfl ?_
   repeat' ((conv=>whnf); first|refine zw0 ?_|refine zw1 ?_|refine zw2 (fun h=>?_) (fun h=>?_)|refine zw3 ?_|refine zw4 (fun h=>?_) (fun h=>?_)|refine zw5 _ rfl ?_|refine zw6 rfl ?_|refine zw7 mixed rfl ?_)
   conv=>whnf
   refine LoopP.inv (fun i : Nat=>i ≤ c.parts.length ∧ ∀ (j : Nat) (hj : j < c.parts.length),j < i → hoF x c.parts[j] = true) (fun i=>⟨[(2,.ptr 0 0),(3,.ptr 1 0),(5,I i)],Tryz.f101.ntmps,[.cells [I 2,I c.var,I c.n,.d (cos c.parts)],.cells (x.cells.map .d)],[],none⟩) (fun i=>c.parts.length - i) 0 ⟨zw22 _,fun j _ h=>absurd h (Nat.not_lt_zero j)⟩ ?_ ?_
   ·exact Weak.to 2 rfl (zw22 _) (zw18 rfl) ⟨rfl,rfl,rfl,trivial⟩
   rintro i ⟨hi,hok⟩
   by_cases h2 : (i : Int) < ((c.parts.map Co.cells).length : Int)
   rotate_left
   ·have hl' : c.parts.length ≤ i:=by rw [List.length_map] at h2; omega
    have hend:=hEnd fun j hj=>hok j hj (by omega)
    repeat' ((conv=>whnf); first|refine zw9 (zw20 h2) ?_|refine zw0 ?_|refine zw1 ?_|refine zw2 (fun h=>?_) (fun h=>?_)|refine zw3 ?_|refine zw4 (fun h=>?_) (fun h=>?_)|refine zw5 _ rfl ?_|refine zw6 rfl ?_|refine zw7 mixed rfl ?_)
    conv=>whnf
    exact FinP.drop (n:=0) rfl (zw21 0) rfl rfl ⟨rfl,congrArg B hend.symm⟩
   have hi' : i < c.parts.length:=by rw [List.length_map] at h2; omega
   have hpm : c.parts[i] ∈ c.parts:=List.getElem_mem hi'
   have hw2 : IntKind.i64.wrap ((i : Int) + 1) = ((i + 1 : Nat) : Int):=by rw [wrap_in (by omega)]; omega
   have hcall:=ih c.parts[i] (by have:=part_sizeC hpm; omega) (hsub _ hpm) (hc.sub _ hpm)
   have hstop:=hStop i hi'
   have hnx : hoF x c.parts[i] = true → i + 1 ≤ c.parts.length ∧ ∀ (j : Nat) (hj : j < c.parts.length),j < i + 1 → hoF x c.parts[j] = true:=fun ht=>⟨hi',fun j hj hji=>by
    by_cases e : j = i
    ·subst e; exact ht
    ·exact hok j hj (by omega)⟩
   obtain ⟨p,hp⟩ : ∃ p,p = c.parts[i]:=⟨_,rfl⟩
   have r1 : (c.parts.map Co.cells)[i]? = some [DI p.kind,DI p.var,DI p.n,cos p.parts]:=by rw [List.getElem?_map,List.getElem?_eq_getElem hi',← hp,← Co.cells_eq]; rfl
   rw [← hp] at hstop hnx hcall
   rw [Co.cells_eq] at hcall
   cases hq : hoF x p with
   | false =>
    rw [hq] at hcall
    repeat' ((conv=>whnf); first|refine zw8 (zw19 h2) ?_|refine zw0 ?_|refine zw1 ?_|refine zw2 (fun h=>?_) (fun h=>?_)|refine zw3 ?_|refine zw4 (fun h=>?_) (fun h=>?_)|refine zw5 _ rfl ?_|refine zw6 rfl ?_|refine zw7 mixed rfl ?_|refine zw10 i _ rfl r1 ?_|refine zw12 _ (hcall _ _ ⟨rfl,rfl⟩) ?_|refine hcall _ _ ?_)
    conv=>whnf
    exact FinP.drop (n:=0) rfl (zw21 0) rfl rfl ⟨rfl,congrArg B (hstop hq).symm⟩
   | true =>
    rw [hq] at hcall
    repeat' ((conv=>whnf); first|refine zw8 (zw19 h2) ?_|refine zw0 ?_|refine zw1 ?_|refine zw2 (fun h=>?_) (fun h=>?_)|refine zw3 ?_|refine zw4 (fun h=>?_) (fun h=>?_)|refine zw5 _ rfl ?_|refine zw6 rfl ?_|refine zw7 mixed rfl ?_|refine zw10 i _ rfl r1 ?_|refine zw12 _ (hcall _ _ ⟨rfl,rfl⟩) ?_|refine hcall _ _ ?_)
    conv=>whnf
    exact ⟨i + 1,hnx hq,by omega,Weak.to 2 rfl (zw22 _) (zw18 rfl) ⟨rfl,rfl,congrArg I hw2,trivial⟩⟩
theorem rholds_c (x : En) (c : Co) (hv : vCo c = true) (hc : LCo c) (h : k (B (hoF x c)) L) : CallP C 101 [.agg (c.cells.map .d),enV x] L k:=rholds_s x _ c (zw21 _) hv hc L k h
end Go.Proofs.YtclmjkhdmhlijaaGreatDoor
namespace Go.Proofs.YtclmjkhdmhlijaaGreatDoor
open Go.Tidy
variable {L : List Blk} {k : V → List Blk → Prop}
end Go.Proofs.YtclmjkhdmhlijaaGreatDoor
