import Derived.Test.YtihibgcojdfndaaGreatDoorRows
import Derived.WalkKit
import Derived.MapKept
import Derived.RangeFuncNested
set_option maxRecDepth 100000
set_option maxHeartbeats 0
set_option linter.unusedSimpArgs false
set_option linter.unusedVariables false
namespace Go.Tidy
inductive D where
 | bool (b : Bool)
 | int (k : IntKind) (n : Int)
 | str (s : ByteArray)
 | sl (els : List (List D))
 | nilptr | nilfn | niliface | nilmap
 | rptr (cells : List D)
 | fn (f : FuncId) (caps : List D)
 | iface (t : TypeId) (agg : Bool) (cells : List D)
 deriving Inhabited
inductive V where
 | poison
 | tt | ff
 | d (x : D)
 | nil
 | own (b g lo len : Nat)
 | ptr (b off : Nat)
 | eptr (b g i off : Nat)
 | map (b : Nat)
 | fn (f : FuncId) (caps : List V)
 | iface (t : TypeId) (x : V)
 | agg (cs : List V)
 | tup (vs : List V)
 | yld (l : Nat)
 | glob (g : Nat)
 | clp (els : List (List D))
 deriving Inhabited
structure LoopR where
 st : LoopState
 pend : Option Code
 fr : List (Nat × V)
 n : Nat
 ps : List Tmp
 assign : Code
 body : Code
 df : Nat
inductive Blk where
 | cells (cs : List V)
 | row (g sz : Nat) (els : List (List V))
 | map (es : List (V × V))
 | loop (r : LoopR)
 | defr
 | dead
inductive KK where
 | int (k : IntKind) | str
inductive TK where
 | int (k : IntKind) | bool | str | sl (e : TypeId) | map (k e : TypeId) | struct (fs : List (Nat × TypeId)) | arr (n : Nat) (e : TypeId) | ptr (e : TypeId)
 | func | iface (empty : Bool) | tuple | keys (ks : List KK) | other
structure TI where
 sz : Nat
 bytes : Nat
 zv : Value
 k : TK
 eqok : Bool
structure Ctx where
 P : Program
 tt : Nat → Option TI
 pn : Nat:=0
 pan : V → List Blk → Prop:=fun _ _=>False
structure TS where
 fr : List (Nat × V)
 n : Nat
 L : List Blk
 df : List Nat
 ro : Option Nat
def look : List (Nat × V) → Nat → V
 | [],_=>.poison
 | (j,v) :: r,i=>bif Nat.beq j i then v else look r i
structure Gh where
 I : Nat → Prop
 m : Nat → Option Nat
 cap : Nat → Nat
inductive RD (I : Nat → Prop) (w : World) : D → Value → Prop
 | bool (b : Bool) : RD I w (.bool b) (.bool b)
 | int (k : IntKind) (n : Int) : RD I w (.int k n) (.int k n)
 | str (s : ByteArray) : RD I w (.str s) (.string s)
 | slNil (a : Option Addr) (c : Nat) : RD I w (.sl []) (.slice a 0 c)
 | sl (els : List (List D)) (ad : Addr) (c sz : Nat) (cs : Nat → Nat → Value) (hsz : ∀ e ∈ els,e.length = sz)
   (hcell : ∀ i j,i < els.length → j < sz → w.cell? (ad.add (i * sz + j)) = some (cs i j)) (hI : I ad.block) (hlc : els.length ≤ c)
   (hrec : ∀ (i j : Nat) (x : D),(els[i]?).bind (fun e=>e[j]?) = some x → RD I w x (cs i j)) : RD I w (.sl els) (.slice (some ad) els.length c)
 | nilptr : RD I w .nilptr (.pointer none)
 | nilfn : RD I w .nilfn .nilFunc
 | niliface : RD I w .niliface .nilIface
 | nilmap : RD I w .nilmap (.map none)
 | rptr (cells : List D) (ad : Addr) (cs : Nat → Value) (hcell : ∀ j,j < cells.length → w.cell? (ad.add j) = some (cs j)) (hI : I ad.block)
   (hrec : ∀ (j : Nat) (x : D),cells[j]? = some x → RD I w x (cs j)) : RD I w (.rptr cells) (.pointer (some ad))
 | fn (f : FuncId) (caps : List D) (vs : Array Value) (hlen : caps.length = vs.size)
   (hrec : ∀ (j : Nat) (x : D) (v : Value),caps[j]? = some x → vs[j]? = some v → RD I w x v) : RD I w (.fn f caps) (.func (.func f) #[] vs)
 | ifaceA (t : TypeId) (cells : List D) (vs : Array Value) (hlen : cells.length = vs.size)
   (hrec : ∀ (j : Nat) (x : D) (v : Value),cells[j]? = some x → vs[j]? = some v → RD I w x v) : RD I w (.iface t true cells) (.iface t (.agg vs))
 | ifaceL (t : TypeId) (x : D) (v : Value) (h : RD I w x v) : RD I w (.iface t false [x]) (.iface t v)
theorem RD.mono {I I' : Nat → Prop} {w w' : World} (hI : ∀ r,I r → I' r) (hc : ∀ (a : Addr) (v : Value),I a.block → w.cell? a = some v → w'.cell? a = some v)
  {x : D} {v : Value} (h : RD I w x v) : RD I' w' x v:=by
 induction h with
 | bool b=>exact .bool b
 | int k n=>exact .int k n
 | str s=>exact .str s
 | slNil a c=>exact .slNil a c
 | sl els ad c sz cs hsz hcell hi hlc _ ih =>
  refine .sl els ad c sz cs hsz (fun i j hi' hj=>hc _ _ ?_ (hcell i j hi' hj)) (hI _ hi) hlc ih
  unfold Addr.add; split <;> exact hi
 | nilptr=>exact .nilptr
 | nilfn=>exact .nilfn
 | niliface=>exact .niliface
 | nilmap=>exact .nilmap
 | rptr cells ad cs hcell hi _ ih =>
  refine .rptr cells ad cs (fun j hj=>hc _ _ ?_ (hcell j hj)) (hI _ hi) ih
  unfold Addr.add; split <;> exact hi
 | fn f caps vs hlen _ ih=>exact .fn f caps vs hlen ih
 | ifaceA t cells vs hlen _ ih=>exact .ifaceA t cells vs hlen ih
 | ifaceL t x v _ ih=>exact .ifaceL t x v ih
theorem RD.one {I : Nat → Prop} {w : World} {x : D} {v : Value} (h : RD I w x v) : v.oneCell' = true:=by cases h <;> rfl
inductive RV (g : Gh) (w : World) (L : List Blk) : V → Value → Prop
 | poison (v : Value) : RV g w L .poison v
 | tt : RV g w L .tt (.bool true)
 | ff : RV g w L .ff (.bool false)
 | d (x : D) (v : Value) (h : RD g.I w x v) : RV g w L (.d x) v
 | nil : RV g w L .nil (.slice none 0 0)
 | ptr (b off r : Nat) (cs : List V) (hL : L[b]? = some (.cells cs)) (hm : g.m b = some r) : RV g w L (.ptr b off) (.pointer (some ⟨r,off,none⟩))
 | ptrX (b off : Nat) (a : Addr) (hL : L[b]? = some .dead) : RV g w L (.ptr b off) (.pointer (some a))
 | own (b gen lo len sz r o c : Nat) (els : List (List V)) (hL : L[b]? = some (.row gen sz els)) (hm : g.m b = some r) (ho : c = 0 ∨ o = lo * sz) (hc : (lo + c) * sz ≤ g.cap b) (hlc : len ≤ c ∧ c ≤ 9223372036854775807) (hle : lo + len ≤ els.length) :
   RV g w L (.own b gen lo len) (.slice (some ⟨r,o,none⟩) len c)
 | ownN (b gen sz : Nat) (els : List (List V)) {a : Option Addr} (hL : L[b]? = some (.row gen sz els)) (hm : g.m b = none) : RV g w L (.own b gen 0 0) (.slice a 0 0)
 | ownO (b gen gen' sz lo len : Nat) (els : List (List V)) (a : Option Addr) (c : Nat) (hL : L[b]? = some (.row gen' sz els)) (hg : gen < gen') : RV g w L (.own b gen lo len) (.slice a len c)
 | ownX (b gen lo len : Nat) (a : Option Addr) (c : Nat) (hL : L[b]? = some .dead) : RV g w L (.own b gen lo len) (.slice a len c)
 | eptr (b gen i off sz r : Nat) (els : List (List V)) (hL : L[b]? = some (.row gen sz els)) (hm : g.m b = some r) : RV g w L (.eptr b gen i off) (.pointer (some ⟨r,i * sz + off,none⟩))
 | eptrO (b gen gen' sz i off : Nat) (els : List (List V)) (a : Addr) (hL : L[b]? = some (.row gen' sz els)) (hg : gen < gen') : RV g w L (.eptr b gen i off) (.pointer (some a))
 | eptrX (b gen i off : Nat) (a : Addr) (hL : L[b]? = some .dead) : RV g w L (.eptr b gen i off) (.pointer (some a))
 | map (b r : Nat) (es : List (V × V)) (hL : L[b]? = some (.map es)) (hm : g.m b = some r) : RV g w L (.map b) (.map (some r))
 | mapX (b : Nat) (a : Option Nat) (hL : L[b]? = some .dead) : RV g w L (.map b) (.map a)
 | yld (b r : Nat) (l : LoopR) (hL : L[b]? = some (.loop l)) (hm : g.m b = some r) : RV g w L (.yld b) (.func (.yield r) #[] #[])
 | yldX (b r : Nat) (hL : L[b]? = some .dead) : RV g w L (.yld b) (.func (.yield r) #[] #[])
 | fn (f : FuncId) (caps : List V) (vs : Array Value) (hlen : caps.length = vs.size)
   (hrec : ∀ (j : Nat) (x : V) (v : Value),caps[j]? = some x → vs[j]? = some v → RV g w L x v) : RV g w L (.fn f caps) (.func (.func f) #[] vs)
 | iface (t : TypeId) (x : V) (v : Value) (h : RV g w L x v) : RV g w L (.iface t x) (.iface t v)
 | agg (cs : List V) (vs : Array Value) (hlen : cs.length = vs.size) (hone : ∀ (j : Nat) (v : Value),vs[j]? = some v → v.oneCell' = true)
   (hrec : ∀ (j : Nat) (x : V) (v : Value),cs[j]? = some x → vs[j]? = some v → RV g w L x v) : RV g w L (.agg cs) (.agg vs)
 | tup (cs : List V) (vs : Array Value) (hlen : cs.length = vs.size)
   (hrec : ∀ (j : Nat) (x : V) (v : Value),cs[j]? = some x → vs[j]? = some v → RV g w L x v) : RV g w L (.tup cs) (.tuple vs)
 | clp (els : List (List D)) (a : Option Addr) (h : RD g.I w (.sl els) (.slice a els.length els.length)) : RV g w L (.clp els) (.slice a els.length els.length)
 | glob (k : Nat) : RV g w L (.glob k) (.pointer (some ⟨k,0,none⟩))
structure Keep (g : Gh) (L : List Blk) (g' : Gh) (L' : List Blk) (b : Nat) : Prop where
 cells : ∀ cs,L[b]? = some (.cells cs) → L'[b]? = some .dead ∨ ∃ cs',L'[b]? = some (.cells cs') ∧ g'.m b = g.m b
 row : ∀ gen sz els,L[b]? = some (.row gen sz els) → L'[b]? = some .dead ∨ ∃ gen' sz' els',L'[b]? = some (.row gen' sz' els') ∧
  (gen < gen' ∨ gen = gen' ∧ sz = sz' ∧ g'.m b = g.m b ∧ g'.cap b = g.cap b ∧ els'.length = els.length)
 map : ∀ es,L[b]? = some (.map es) → L'[b]? = some .dead ∨ ∃ es',L'[b]? = some (.map es') ∧ g'.m b = g.m b
 loop : ∀ l,L[b]? = some (.loop l) → L'[b]? = some .dead ∨ ∃ l',L'[b]? = some (.loop l') ∧ g'.m b = g.m b
 dead : L[b]? = some .dead → L'[b]? = some .dead
theorem Keep.refl (g : Gh) (L : List Blk) (b : Nat) : Keep g L g L b :=
 ⟨fun cs h=>.inr ⟨cs,h,rfl⟩,fun gen sz els h=>.inr ⟨gen,sz,els,h,.inr ⟨rfl,rfl,rfl,rfl,rfl⟩⟩,fun es h=>.inr ⟨es,h,rfl⟩,fun l h=>.inr ⟨l,h,rfl⟩,fun h=>h⟩
theorem Keep.same {g g' : Gh} {L L' : List Blk} {b : Nat} (hL : L'[b]? = L[b]?) (hm : g'.m b = g.m b) (hc : g'.cap b = g.cap b) : Keep g L g' L' b :=
 ⟨fun cs h=>.inr ⟨cs,hL.trans h,hm⟩,fun gen sz els h=>.inr ⟨gen,sz,els,hL.trans h,.inr ⟨rfl,rfl,hm,hc,rfl⟩⟩,fun es h=>.inr ⟨es,hL.trans h,hm⟩,
  fun l h=>.inr ⟨l,hL.trans h,hm⟩,fun h=>hL.trans h⟩
mutual
def V.bel (k : Nat) : V → Bool
 | .own b _ _ _=>decide (b < k)
 | .ptr b _=>decide (b < k)
 | .eptr b _ _ _=>decide (b < k)
 | .map b=>decide (b < k)
 | .yld b=>decide (b < k)
 | .fn _ caps=>V.belL k caps
 | .iface _ x=>V.bel k x
 | .agg cs=>V.belL k cs
 | .tup cs=>V.belL k cs
 | .poison | .tt | .ff | .d _ | .nil | .glob _ | .clp _=>true
def V.belL (k : Nat) : List V → Bool
 | []=>true
 | x :: r=>V.bel k x && V.belL k r
end
theorem V.belL_get {k : Nat} : ∀ {cs : List V} {j : Nat} {x : V},V.belL k cs = true → cs[j]? = some x → x.bel k = true
 | [],j,x,_,h=>by simp at h
 | c :: r,0,x,hb,h=>by simp only [V.belL,Bool.and_eq_true] at hb; simp at h; exact h ▸ hb.1
 | c :: r,j + 1,x,hb,h=>by simp only [V.belL,Bool.and_eq_true] at hb; exact V.belL_get hb.2 (by simpa using h)
theorem V.belL_of {k : Nat} : ∀ {cs : List V},(∀ (j : Nat) (x : V),cs[j]? = some x → x.bel k = true) → V.belL k cs = true
 | [],_=>rfl
 | c :: r,h=>by
  simp only [V.belL,Bool.and_eq_true]
  exact ⟨h 0 c rfl,V.belL_of fun j x hx=>h (j + 1) x (by simpa using hx)⟩
theorem RV.mono {g g' : Gh} {w w' : World} {L L' : List Blk} {k : Nat} (hI : ∀ r,g.I r → g'.I r) (hc : ∀ (a : Addr) (v : Value),g.I a.block → w.cell? a = some v → w'.cell? a = some v)
  (hK : ∀ b,b < k → Keep g L g' L' b) {x : V} {v : Value} (hx : x.bel k = true) (h : RV g w L x v) : RV g' w' L' x v:=by
 induction h with
 | poison v=>exact .poison v
 | tt=>exact .tt
 | ff=>exact .ff
 | d x v h=>exact .d x v (h.mono hI hc)
 | nil=>exact .nil
 | ptr b off r cs hL hm =>
  rcases (hK b (by simpa [V.bel] using hx)).cells cs hL with h | ⟨cs',h,hm'⟩
  ·exact .ptrX b off _ h
  ·exact .ptr b off r cs' h (hm'.trans hm)
 | ptrX b off a hL=>exact .ptrX b off a ((hK b (by simpa [V.bel] using hx)).dead hL)
 | own b gen lo len sz r o c els hL hm ho hcap hlc hle =>
  rcases (hK b (by simpa [V.bel] using hx)).row gen sz els hL with h | ⟨gen',sz',els',h,hg | ⟨rfl,rfl,hm',hc',hl'⟩⟩
  ·exact .ownX b gen lo len _ _ h
  ·exact .ownO b gen gen' sz' lo len els' _ _ h hg
  ·exact .own b gen lo len sz r o c els' h (hm'.trans hm) ho (by rw [hc']; exact hcap) hlc (by rw [hl']; exact hle)
 | ownN b gen sz els hL hm =>
  rcases (hK b (by simpa [V.bel] using hx)).row gen sz els hL with h | ⟨gen',sz',els',h,hg | ⟨rfl,rfl,hm',hc',hl'⟩⟩
  ·exact .ownX b gen 0 0 _ _ h
  ·exact .ownO b gen gen' sz' 0 0 els' _ _ h hg
  ·exact .ownN b gen sz els' h (hm'.trans hm)
 | ownO b gen gen1 sz lo len els a c hL hg0 =>
  rcases (hK b (by simpa [V.bel] using hx)).row gen1 sz els hL with h | ⟨gen',sz',els',h,hg | ⟨rfl,rfl,hm',hc',hl'⟩⟩
  ·exact .ownX b gen lo len _ _ h
  ·exact .ownO b gen gen' sz' lo len els' _ _ h (by omega)
  ·exact .ownO b gen gen1 sz lo len els' _ _ h hg0
 | ownX b gen lo len a c hL=>exact .ownX b gen lo len a c ((hK b (by simpa [V.bel] using hx)).dead hL)
 | eptr b gen i off sz r els hL hm =>
  rcases (hK b (by simpa [V.bel] using hx)).row gen sz els hL with h | ⟨gen',sz',els',h,hg | ⟨rfl,rfl,hm',hc',hl'⟩⟩
  ·exact .eptrX b gen i off _ h
  ·exact .eptrO b gen gen' sz' i off els' _ h hg
  ·exact .eptr b gen i off sz r els' h (hm'.trans hm)
 | eptrO b gen gen1 sz i off els a hL hg0 =>
  rcases (hK b (by simpa [V.bel] using hx)).row gen1 sz els hL with h | ⟨gen',sz',els',h,hg | ⟨rfl,rfl,hm',hc',hl'⟩⟩
  ·exact .eptrX b gen i off _ h
  ·exact .eptrO b gen gen' sz' i off els' _ h (by omega)
  ·exact .eptrO b gen gen1 sz i off els' _ h hg0
 | eptrX b gen i off a hL=>exact .eptrX b gen i off a ((hK b (by simpa [V.bel] using hx)).dead hL)
 | map b r es hL hm =>
  rcases (hK b (by simpa [V.bel] using hx)).map es hL with h | ⟨es',h,hm'⟩
  ·exact .mapX b _ h
  ·exact .map b r es' h (hm'.trans hm)
 | mapX b a hL=>exact .mapX b a ((hK b (by simpa [V.bel] using hx)).dead hL)
 | yld b r l hL hm =>
  rcases (hK b (by simpa [V.bel] using hx)).loop l hL with h | ⟨l',h,hm'⟩
  ·exact .yldX b _ h
  ·exact .yld b r l' h (hm'.trans hm)
 | yldX b r hL=>exact .yldX b r ((hK b (by simpa [V.bel] using hx)).dead hL)
 | fn f caps vs hlen _ ih=>exact .fn f caps vs hlen fun j x v h1 h2=>ih j x v h1 h2 (V.belL_get (by simpa [V.bel] using hx) h1)
 | iface t x v _ ih=>exact .iface t x v (ih (by simpa [V.bel] using hx))
 | agg cs vs hlen hone _ ih=>exact .agg cs vs hlen hone fun j x v h1 h2=>ih j x v h1 h2 (V.belL_get (by simpa [V.bel] using hx) h1)
 | tup cs vs hlen _ ih=>exact .tup cs vs hlen fun j x v h1 h2=>ih j x v h1 h2 (V.belL_get (by simpa [V.bel] using hx) h1)
 | clp els a h=>exact .clp els a (h.mono hI hc)
 | glob k=>exact .glob k
theorem lt_of_get {α : Type} {L : List α} {b : Nat} {k : α} (h : L[b]? = some k) : b < L.length:=by
 rcases Nat.lt_or_ge b L.length with hl | hl
 ·exact hl
 ·rw [List.getElem?_eq_none hl] at h; cases h
theorem RV.bel {g : Gh} {w : World} {L : List Blk} {x : V} {v : Value} (h : RV g w L x v) : x.bel L.length = true:=by
 induction h with
 | fn f caps vs hlen _ ih=>exact V.belL_of fun j x hx=>ih j x (vs[j]'(by have:=lt_of_get hx; omega)) hx (Array.getElem?_eq_getElem _)
 | agg cs vs hlen _ _ ih=>exact V.belL_of fun j x hx=>ih j x (vs[j]'(by have:=lt_of_get hx; omega)) hx (Array.getElem?_eq_getElem _)
 | tup cs vs hlen _ ih=>exact V.belL_of fun j x hx=>ih j x (vs[j]'(by have:=lt_of_get hx; omega)) hx (Array.getElem?_eq_getElem _)
 | iface t x v _ ih=>simpa [V.bel] using ih
 | poison | tt | ff | d | nil | glob | clp=>rfl
 | ptr b off r cs hL | ptrX b off a hL | own b _ _ _ _ _ _ _ _ hL | ownN b _ _ _ hL | ownO b _ _ _ _ _ _ _ _ hL | ownX b _ _ _ _ _ hL | eptr b _ _ _ _ _ _ hL
  | eptrO b _ _ _ _ _ _ _ hL | eptrX b _ _ _ _ hL | map b _ _ hL | mapX b _ hL | yld b _ _ hL | yldX b _ hL=>simp only [V.bel]; exact decide_eq_true (lt_of_get hL)
def live (L : List Blk) (b : Nat) : Prop:=∃ k,L[b]? = some k ∧ k ≠ .dead
def owned (g : Gh) (L : List Blk) (r : Nat) : Prop:=∃ b,live L b ∧ g.m b = some r
def validF (f : Nat) : Prop:=∃ fn,Go.Proofs.Tryz.prog.funcs[f]? = some fn
def DenseM (ents : Array MapEntry) (clock : Nat) : Prop:=MapKept.Stamped ents clock ∧ clock = ents.size ∧ ∀ (i : Nat) (e : MapEntry),ents[i]? = some e → e.born = i
def RB (g : Gh) (w : World) (L : List Blk) (b : Nat) : Blk → Prop
 | .cells cs=>∃ r cur T,g.m b = some r ∧ w.heap[r]? = some (.cells cur T (0,0)) ∧ cur.size = cs.length ∧ (∀ (i : Nat) (v : Value),cur[i]? = some v → v.oneCell' = true) ∧
   ∀ (i : Nat) (x : V) (v : Value),cs[i]? = some x → cur[i]? = some v → RV g w L x v
 | .row _ sz els=>0 < sz ∧ (∀ e ∈ els,e.length = sz) ∧ ((g.m b = none ∧ els = []) ∨
   ∃ r cur T,g.m b = some r ∧ w.heap[r]? = some (.cells cur T (0,0)) ∧ cur.size = g.cap b ∧ els.length * sz ≤ cur.size ∧ (∀ (i : Nat) (v : Value),cur[i]? = some v → v.oneCell' = true) ∧
    ∀ (i j : Nat) (x : V) (v : Value),(els[i]?).bind (fun e=>e[j]?) = some x → cur[i * sz + j]? = some v → RV g w L x v)
 | .map es=>∃ r ents clock,g.m b = some r ∧ w.heap[r]? = some (.map ents clock) ∧ ents.size = es.length ∧ DenseM ents clock ∧
   ∀ (i : Nat) (x : V × V) (e : MapEntry),es[i]? = some x → ents[i]? = some e → RV g w L x.1 e.key ∧ RV g w L x.2 e.val
 | .loop l=>∃ r rec,g.m b = some r ∧ w.heap[r]? = some (.loop rec) ∧ rec.state = l.st ∧ rec.pending = l.pend ∧ rec.params = l.ps.toArray ∧ rec.assign = l.assign ∧ rec.body = l.body ∧
   rec.tmps.size = l.n ∧ (∀ i,RV g w L (look l.fr i) (rec.tmps.getD i undef)) ∧ g.m l.df = some rec.defers ∧ L[l.df]? = some .defr ∧ validF rec.fn
 | .defr=>∃ r,g.m b = some r ∧ w.heap[r]? = some (.deferred (some []))
 | .dead=>True
def gtab : List (Nat × List D):=[(0,[.int .i64 0,.int .i64 0,.int .i64 2,.int .i64 24,.int .i64 0,.int .i64 46,.int .i64 0,.int .i64 1,.int .i64 2,.int .i64 24])]
def GlobOK (I : Nat → Prop) (w : World) : Prop:=∀ p ∈ gtab,RD I w (.rptr p.2) (.pointer (some ⟨p.1,0,none⟩))
theorem GlobOK.mono {I I' : Nat → Prop} {w w' : World} (hI : ∀ r,I r → I' r) (hc : ∀ (a : Addr) (v : Value),I a.block → w.cell? a = some v → w'.cell? a = some v) (h : GlobOK I w) : GlobOK I' w' :=
 fun p hp=>(h p hp).mono hI hc
structure Good (g : Gh) (w : World) (L : List Blk) : Prop where
 inj : ∀ b b' r,live L b → live L b' → g.m b = some r → g.m b' = some r → b = b'
 dis : ∀ r,owned g L r → ¬ g.I r
 lt : ∀ r,g.I r → r < w.heap.size
 blk : ∀ b k,L[b]? = some k → RB g w L b k
 gl : GlobOK g.I w
theorem Good.owned_lt {g : Gh} {w : World} {L : List Blk} (h : Good g w L) {r : Nat} (ho : owned g L r) : r < w.heap.size:=by
 obtain ⟨b,⟨k,hk,hd⟩,hm⟩:=ho
 have hb:=h.blk b k hk
 have fin : ∀ {o : Obj},w.heap[r]? = some o → r < w.heap.size:=fun h=>(Array.getElem?_eq_some_iff.1 h).1
 cases k with
 | cells cs=>obtain ⟨r',cur,T,h1,h2,_⟩:=hb; rw [hm] at h1; cases h1; exact fin h2
 | row gen sz els =>
  obtain ⟨_,_,⟨h1,_⟩ | ⟨r',cur,T,h1,h2,_⟩⟩:=hb
  ·rw [hm] at h1; cases h1
  ·rw [hm] at h1; cases h1; exact fin h2
 | map es=>obtain ⟨r',ents,clock,h1,h2,_⟩:=hb; rw [hm] at h1; cases h1; exact fin h2
 | loop l=>obtain ⟨r',rec,h1,h2,_⟩:=hb; rw [hm] at h1; cases h1; exact fin h2
 | defr=>obtain ⟨r',h1,h2⟩:=hb; rw [hm] at h1; cases h1; exact fin h2
 | dead=>exact absurd rfl hd
structure Prog (k : Nat) (g : Gh) (w : World) (L : List Blk) (g' : Gh) (w' : World) (L' : List Blk) : Prop where
 env : w'.tape = w.tape ∧ w'.os = w.os ∧ w'.output = w.output
 size : w.heap.size ≤ w'.heap.size
 kept : ∀ r o,w.heap[r]? = some o → ¬ owned g L r → w'.heap[r]? = some o
 own : ∀ r,owned g' L' r → r < w.heap.size → owned g L r
 imm : ∀ r,g'.I r → g.I r ∨ w.heap.size ≤ r ∨ owned g L r
 immk : ∀ r,g.I r → g'.I r
 mono : ∀ (x : V) (v : Value),x.bel k = true → RV g w L x v → RV g' w' L' x v
 defr : ∀ b r,b < k → L[b]? = some .defr → g.m b = some r → L'[b]? = some .defr ∧ g'.m b = some r
 len : k ≤ L.length → k ≤ L'.length
theorem Prog.refl (k : Nat) (g : Gh) (w : World) (L : List Blk) : Prog k g w L g w L :=
 ⟨⟨rfl,rfl,rfl⟩,Nat.le_refl _,fun _ _ h _=>h,fun _ h _=>h,fun _ h=>.inl h,fun _ h=>h,fun _ _ _ h=>h,fun _ _ _ h h'=>⟨h,h'⟩,fun h=>h⟩
theorem Prog.trans {k : Nat} {g0 g1 g2 : Gh} {w0 w1 w2 : World} {L0 L1 L2 : List Blk} (h : Prog k g0 w0 L0 g1 w1 L1) (h' : Prog k g1 w1 L1 g2 w2 L2) : Prog k g0 w0 L0 g2 w2 L2 where
 env:=⟨h'.env.1.trans h.env.1,h'.env.2.1.trans h.env.2.1,h'.env.2.2.trans h.env.2.2⟩
 size:=Nat.le_trans h.size h'.size
 kept r o hr hn:=h'.kept r o (h.kept r o hr hn) fun ho=>hn (h.own r ho (Array.getElem?_eq_some_iff.1 hr).1)
 own r ho hl:=h.own r (h'.own r ho (Nat.lt_of_lt_of_le hl h.size)) hl
 imm r hr:=by
  rcases h'.imm r hr with h1 | h1 | h1
  ·exact h.imm r h1
  ·exact .inr (.inl (Nat.le_trans h.size h1))
  ·rcases Nat.lt_or_ge r w0.heap.size with hl | hl
   ·exact .inr (.inr (h.own r h1 hl))
   ·exact .inr (.inl hl)
 immk r hr:=h'.immk r (h.immk r hr)
 mono x v hx hv:=h'.mono x v hx (h.mono x v hx hv)
 defr b r hb hL hm:=h'.defr b r hb (h.defr b r hb hL hm).1 (h.defr b r hb hL hm).2
 len hk:=h'.len (h.len hk)
mutual
theorem V.bel_le {k k' : Nat} (hk : k ≤ k') : ∀ x : V,x.bel k = true → x.bel k' = true
 | .own b _ _ _,h | .ptr b _,h | .eptr b _ _ _,h | .map b,h | .yld b,h=>by simp only [V.bel,decide_eq_true_eq] at h ⊢; omega
 | .fn _ caps,h=>by simp only [V.bel] at h ⊢; exact V.belL_le hk caps h
 | .iface _ x,h=>by simp only [V.bel] at h ⊢; exact V.bel_le hk x h
 | .agg cs,h=>by simp only [V.bel] at h ⊢; exact V.belL_le hk cs h
 | .tup cs,h=>by simp only [V.bel] at h ⊢; exact V.belL_le hk cs h
 | .poison,_ | .tt,_ | .ff,_ | .d _,_ | .nil,_ | .glob _,_ | .clp _,_=>by simp [V.bel]
theorem V.belL_le {k k' : Nat} (hk : k ≤ k') : ∀ cs : List V,V.belL k cs = true → V.belL k' cs = true
 | [],_=>rfl
 | x :: r,h=>by
  simp only [V.belL,Bool.and_eq_true] at h ⊢
  exact ⟨V.bel_le hk x h.1,V.belL_le hk r h.2⟩
end
theorem Prog.le {k k' : Nat} {g g' : Gh} {w w' : World} {L L' : List Blk} (hk : k ≤ k') (hl : k' ≤ L.length) (h : Prog k' g w L g' w' L') : Prog k g w L g' w' L' :=
 ⟨h.env,h.size,h.kept,h.own,h.imm,h.immk,fun x v hx hv=>h.mono x v (V.bel_le hk x hx) hv,fun b r hb=>h.defr b r (Nat.lt_of_lt_of_le hb hk),fun _=>Nat.le_trans hk (h.len hl)⟩
structure St (k : Nat) (r : Option Nat) (g : Gh) (σ : TS) (a : Act) (w : World) : Prop where
 n : a.tmps.size = σ.n
 fr : ∀ i,RV g w σ.L (look σ.fr i) (a.tmps.getD i undef)
 good : Good g w σ.L
 k : k ≤ σ.L.length
 df : a.defers.length = σ.df.length
 dfs : ∀ (i : Nat) (b : Nat) (d : Deferred),σ.df[i]? = some b → a.defers[i]? = some d → ∃ q,g.m b = some q ∧ d = { target:=.collected q,args:=#[] } ∧ σ.L[b]? = some .defr
 ro : ∀ lb,σ.ro = some lb → ∃ l,r = some l ∧ RV g w σ.L (.yld lb) (.func (.yield l) #[] #[])
 ro' : σ.ro = none → r = none
end Go.Tidy
/-
 The base layer: what one operation does to a tidy state,and that the machine's operation does so.
-/
namespace Go.Tidy
def TK.isAgg : TK → Bool
 | .struct _ | .arr _ _=>true
 | _=>false
def kindOK : TK → TypeDesc → Prop
 | .int k,.int k'=>k = k'
 | .bool,.bool=>True
 | .str,.string=>True
 | .sl e,.slice e'=>e = e'
 | .map k e,.map k' e'=>k = k' ∧ e = e'
 | .struct fs, .struct fields => fields.toList.map (fun f => (f.offset, f.type)) = fs ∧ fields.toList.all (fun f => f.name != "_") = true
 | .arr n e,.array n' e'=>n = n' ∧ e = e'
 | .ptr e,.pointer e'=>e = e'
 | .func,.func _ _ _=>True
 | .iface b,.interface ms=>b = ms.isEmpty
 | .tuple,.tuple _=>True
 | .other,.struct _=>False
 | .other,.array _ _=>False
 | .other,_=>True
 | _,_=>False
structure TIok (P : Program) (t : TypeId) (ti : TI) : Prop where
 info : (P.info? t).map (fun i=>(i.size,i.bytes,i.zero)) = some (ti.sz,ti.bytes,some ti.zv)
 und : ∃ u,P.underlying t = some u ∧ kindOK ti.k u
 one : ti.k.isAgg = false → ti.sz = 1
 eqok : ti.eqok = true → P.eqGuardType P.depth t = false ∧ P.stoodInHeld t = false
structure Ctx.OK (C : Ctx) : Prop where
 ty : ∀ t ti,C.tt t = some ti → TIok C.P t ti
 fs : ∀ f fn,C.P.funcs[f]? = some fn → validF f
 ex : ∀ f,validF f → ∃ fn,C.P.funcs[f]? = some fn
instance {C : Ctx} : CoeFun (C.OK) (fun _=>∀ t ti,C.tt t = some ti → TIok C.P t ti):=⟨Ctx.OK.ty⟩
@[irreducible] def Br (t : Bool) (k : Bool → Prop) : Prop:=(t = true → k true) ∧ (t = false → k false)
theorem Br.intro {t : Bool} {k : Bool → Prop} (h1 : t = true → k true) (h2 : t = false → k false) : Br t k:=by unfold Br; exact ⟨h1,h2⟩
theorem Br.lit {t : Bool} {k : Bool → Prop} (b : Bool) (h : t = b) (hk : k b) : Br t k:=by subst h; unfold Br; exact ⟨fun h=>h ▸ hk,fun h=>h ▸ hk⟩
theorem Br.out {t : Bool} {k : Bool → Prop} (h : Br t k) : k t:=by unfold Br at h; cases t; exact h.2 rfl; exact h.1 rfl
@[irreducible] def Idx {α : Type} (els : List α) (i : Int) (k : Nat → α → Prop) : Prop:=∃ n : Nat,i = n ∧ ∃ e,els[n]? = some e ∧ k n e
theorem Idx.intro {α : Type} {els : List α} {i : Int} {k : Nat → α → Prop} (n : Nat) (e : α) (hi : i = n) (he : els[n]? = some e) (hk : k n e) : Idx els i k:=by
 unfold Idx; exact ⟨n,hi,e,he,hk⟩
@[irreducible] def IdxN (len : Nat) (i : Int) (k : Nat → Prop) : Prop:=∃ n : Nat,i = n ∧ n < len ∧ k n
theorem IdxN.intro {len : Nat} {i : Int} {k : Nat → Prop} (n : Nat) (hi : i = n) (hn : n < len) (hk : k n) : IdxN len i k:=by unfold IdxN; exact ⟨n,hi,hn,hk⟩
@[irreducible] def GetE {α : Type} (els : List α) (n : Nat) (k : α → Prop) : Prop:=∃ e,els[n]? = some e ∧ k e
theorem GetE.intro {α : Type} {els : List α} {n : Nat} {k : α → Prop} (e : α) (he : els[n]? = some e) (hk : k e) : GetE els n k:=by unfold GetE; exact ⟨e,he,hk⟩
@[irreducible] def Need (p : Prop) (k : Prop) : Prop:=p ∧ k
theorem Need.intro {p k : Prop} (h : p) (hk : k) : Need p k:=by unfold Need; exact ⟨h,hk⟩
theorem Need.out {p k : Prop} (h : Need p k) : p ∧ k:=by unfold Need at h; exact h
def V.head (x : V) (K : V → Prop) : Prop :=
 match x with
 | .poison=>K .poison
 | .tt=>K .tt
 | .ff=>K .ff
 | .d y=>K (.d y)
 | .nil=>K .nil
 | .own b g lo len=>K (.own b g lo len)
 | .ptr b off=>K (.ptr b off)
 | .eptr b g i off=>K (.eptr b g i off)
 | .map b=>K (.map b)
 | .fn f caps=>K (.fn f caps)
 | .iface t y=>K (.iface t y)
 | .agg cs=>K (.agg cs)
 | .tup cs=>K (.tup cs)
 | .yld l=>K (.yld l)
 | .glob g=>K (.glob g)
 | .clp els=>K (.clp els)
theorem V.head_eq (x : V) (K : V → Prop) : V.head x K = K x:=by cases x <;> rfl
def forceL : List V → (List V → Prop) → Prop
 | [],K=>K []
 | x :: r,K=>V.head x fun x=>forceL r fun r=>K (x :: r)
theorem forceL_eq : ∀ (l : List V) (K : List V → Prop),forceL l K = K l
 | [],K=>rfl
 | x :: r,K=>by simp only [forceL,V.head_eq,forceL_eq r]
def V.force (x : V) (K : V → Prop) : Prop :=
 match x with
 | .agg cs=>forceL cs fun cs=>K (.agg cs)
 | .tup cs=>forceL cs fun cs=>K (.tup cs)
 | .fn f cs=>forceL cs fun cs=>K (.fn f cs)
 | x=>V.head x K
theorem V.force_eq (x : V) (K : V → Prop) : V.force x K = K x:=by cases x <;> simp [V.force,V.head,forceL_eq]
def setB : List Blk → Nat → Blk → (List Blk → Prop) → Prop
 | [],_,_,K=>K []
 | _ :: r,0,x,K=>K (x :: r)
 | y :: r,n + 1,x,K=>setB r n x fun r=>K (y :: r)
theorem setB_eq : ∀ (L : List Blk) (b : Nat) (x : Blk) (K : List Blk → Prop),setB L b x K = K (L.set b x)
 | [],_,_,_=>rfl
 | _ :: _,0,_,_=>rfl
 | y :: r,n + 1,x,K=>by simp only [setB,setB_eq r n x,List.set]
def ofLeaf : Value → V
 | .bool b=>.d (.bool b)
 | .int k n=>.d (.int k n)
 | .string s=>.d (.str s)
 | .pointer none=>.d .nilptr
 | .slice none 0 0=>.nil
 | .map none=>.d .nilmap
 | .nilFunc=>.d .nilfn
 | .nilIface=>.d .niliface
 | _=>.poison
def ofConst : Value → V
 | .agg cs=>bif cs.toList.all (·.oneCell') then .agg (cs.toList.map ofLeaf) else .poison
 | v=>ofLeaf v
theorem ofLeaf_ok (g : Gh) (w : World) (L : List Blk) (v : Value) : RV g w L (ofLeaf v) v:=by
 unfold ofLeaf
 split
 ·exact .d _ _ (.bool _)
 ·exact .d _ _ (.int _ _)
 ·exact .d _ _ (.str _)
 ·exact .d _ _ .nilptr
 ·exact .nil
 ·exact .d _ _ .nilmap
 ·exact .d _ _ .nilfn
 ·exact .d _ _ .niliface
 ·exact .poison _
theorem ofConst_ok (g : Gh) (w : World) (L : List Blk) (v : Value) : RV g w L (ofConst v) v:=by
 unfold ofConst
 split
 ·rename_i cs
  cases h : cs.toList.all (·.oneCell') with
  | true =>
   refine .agg _ _ (by simp) (fun j v hv=>?_) (fun j x v hx hv=>?_)
   ·exact List.all_eq_true.1 h v (List.mem_of_getElem? (i:=j) (by simpa using hv))
   ·rw [List.getElem?_map] at hx
    have : cs.toList[j]? = some v:=by simpa using hv
    rw [this] at hx
    cases hx
    exact ofLeaf_ok g w L v
  | false=>exact .poison _
 ·exact ofLeaf_ok g w L _
def norm : V → V
 | .tt=>.d (.bool true)
 | .ff=>.d (.bool false)
 | v=>v
theorem norm_ok {g : Gh} {w : World} {L : List Blk} {x : V} {v : Value} (h : RV g w L x v) : RV g w L (norm x) v:=by
 unfold norm
 split
 ·cases h; exact .d _ _ (.bool _)
 ·cases h; exact .d _ _ (.bool _)
 ·exact h
def globV : List (Nat × List D) → Nat → V
 | [],g=>.glob g
 | (k,cs) :: r,g=>bif Nat.beq k g then .d (.rptr cs) else globV r g
theorem globV_ok {g : Gh} {w : World} {L : List Blk} (k : Nat) : ∀ t : List (Nat × List D),(∀ p ∈ t,RD g.I w (.rptr p.2) (.pointer (some ⟨p.1,0,none⟩))) → RV g w L (globV t k) (.pointer (some ⟨k,0,none⟩))
 | [],_=>.glob k
 | (j,cs) :: r,h=>by
  unfold globV
  cases e : Nat.beq j k with
  | true =>
   have hj:=h (j,cs) (by simp)
   have:=Nat.eq_of_beq_eq_true e
   subst this
   exact .d _ _ hj
  | false=>exact globV_ok k r fun p hp=>h p (by simp [hp])
def ev (fr : List (Nat × V)) : Operand → V
 | .tmp t=>norm (look fr t)
 | .const v=>ofConst v
 | .global g=>globV gtab g
 | .func f=>.fn f []
theorem ev_ok {g : Gh} {w : World} {L : List Blk} {fr : List (Nat × V)} {a : Act} (hgl : GlobOK g.I w) (h : ∀ i,RV g w L (look fr i) (a.tmps.getD i undef)) (x : Operand) : RV g w L (ev fr x) (a.eval x):=by
 cases x with
 | tmp t=>exact norm_ok (h t)
 | const v=>exact ofConst_ok g w L v
 | global k=>exact globV_ok k gtab hgl
 | func f=>exact .fn f [] #[] rfl (fun j x v h _=>by simp at h)
def evB (fr : List (Nat × V)) : Operand → V
 | .tmp t=>look fr t
 | .const (.bool true)=>.tt
 | .const (.bool false)=>.ff
 | x=>ev fr x
theorem evB_ok {g : Gh} {w : World} {L : List Blk} {fr : List (Nat × V)} {a : Act} (hgl : GlobOK g.I w) (h : ∀ i,RV g w L (look fr i) (a.tmps.getD i undef)) (x : Operand) : RV g w L (evB fr x) (a.eval x):=by
 cases x with
 | tmp t=>exact h t
 | const v =>
  unfold evB
  split
  ·rename_i e; cases e
  ·rename_i e; cases e; exact .tt
  ·rename_i e; cases e; exact .ff
  ·exact ev_ok hgl h (.const v)
 | global k=>exact ev_ok hgl h (.global k)
 | func f=>exact ev_ok hgl h (.func f)
theorem RV.bool_of {g : Gh} {w : World} {L : List Blk} {t : Bool} {v : Value} (h : RV g w L (.d (.bool t)) v) : v = .bool t:=by cases h with | d _ _ hd=>cases hd; rfl
def mk (agg : Bool) (cs : List V) : V:=bif agg then .agg cs else match cs with | [v]=>v | _=>.poison
def cellsOf : V → List V
 | .agg cs=>cs
 | v=>[v]
def V.stor : V → Bool
 | .poison | .tup _=>false
 | _=>true
theorem RV.cells {g : Gh} {w : World} {L : List Blk} {x : V} {v : Value} (h : RV g w L x v) (hs : x.stor = true) :
  (cellsOf x).length = v.cells.size ∧ (∀ (j : Nat) (u : Value),v.cells[j]? = some u → u.oneCell' = true) ∧
  ∀ (j : Nat) (y : V) (u : Value),(cellsOf x)[j]? = some y → v.cells[j]? = some u → RV g w L y u:=by
 have leaf : ∀ {x : V} {v : Value},RV g w L x v → cellsOf x = [x] → v.cells = #[v] → v.oneCell' = true → (cellsOf x).length = v.cells.size ∧ (∀ (j : Nat) (u : Value),v.cells[j]? = some u → u.oneCell' = true) ∧
   ∀ (j : Nat) (y : V) (u : Value),(cellsOf x)[j]? = some y → v.cells[j]? = some u → RV g w L y u:=by
  intro x v h h1 h2 h3
  rw [h1,h2]
  refine ⟨rfl,fun j u hu=>?_,fun j y u hy hu=>?_⟩
  ·cases j with
   | zero=>simp at hu; exact hu ▸ h3
   | succ j=>simp at hu
  ·cases j with
   | zero=>simp at hy hu; exact hy ▸ hu ▸ h
   | succ j=>simp at hu
 cases h with
 | poison v=>simp [V.stor] at hs
 | tt=>exact leaf .tt rfl rfl rfl
 | ff=>exact leaf .ff rfl rfl rfl
 | tup=>simp [V.stor] at hs
 | d x v h=>exact leaf (.d x v h) rfl (by cases h <;> rfl) h.one
 | agg cs vs hlen hone hrec=>exact ⟨hlen,hone,hrec⟩
 | nil=>exact leaf .nil rfl rfl rfl
 | ptr b off r cs hL hm=>exact leaf (.ptr b off r cs hL hm) rfl rfl rfl
 | ptrX b off a hL=>exact leaf (.ptrX b off a hL) rfl rfl rfl
 | own b gen lo len sz r o c els hL hm ho hc hlc hle=>exact leaf (.own b gen lo len sz r o c els hL hm ho hc hlc hle) rfl rfl rfl
 | ownN b gen sz els hL hm=>exact leaf (.ownN b gen sz els hL hm) rfl rfl rfl
 | ownO b gen gen' sz lo len els a c hL hg=>exact leaf (.ownO b gen gen' sz lo len els a c hL hg) rfl rfl rfl
 | ownX b gen lo len a c hL=>exact leaf (.ownX b gen lo len a c hL) rfl rfl rfl
 | eptr b gen i off sz r els hL hm=>exact leaf (.eptr b gen i off sz r els hL hm) rfl rfl rfl
 | eptrO b gen gen' sz i off els a hL hg=>exact leaf (.eptrO b gen gen' sz i off els a hL hg) rfl rfl rfl
 | eptrX b gen i off a hL=>exact leaf (.eptrX b gen i off a hL) rfl rfl rfl
 | map b r es hL hm=>exact leaf (.map b r es hL hm) rfl rfl rfl
 | mapX b a hL=>exact leaf (.mapX b a hL) rfl rfl rfl
 | yld b r l hL hm=>exact leaf (.yld b r l hL hm) rfl rfl rfl
 | yldX b r hL=>exact leaf (.yldX b r hL) rfl rfl rfl
 | fn f caps vs hlen hrec=>exact leaf (.fn f caps vs hlen hrec) rfl rfl rfl
 | iface t x v h=>exact leaf (.iface t x v h) rfl rfl rfl
 | glob k=>exact leaf (.glob k) rfl rfl rfl
 | clp els a h=>exact leaf (.clp els a h) rfl rfl rfl
def vLoad (C : Ctx) (t : TypeId) (x : V) (L : List Blk) (k : V → Prop) : Prop :=
 match C.tt t with
 | none=>False
 | some ti =>
  match x with
  | .ptr b off=>match L[b]? with
   | some (.cells cs)=>bif Nat.ble (off + ti.sz) cs.length then k (mk ti.k.isAgg ((cs.drop off).take ti.sz)) else False
   | _=>False
  | .eptr b gen i off=>match L[b]? with
   | some (.row gen' sz els)=>bif Nat.beq gen gen' && Nat.ble (off + ti.sz) sz then GetE els i fun e=>k (mk ti.k.isAgg ((e.drop off).take ti.sz)) else False
   | _=>False
  | .d (.rptr cs)=>bif Nat.ble ti.sz cs.length then k (mk ti.k.isAgg ((cs.take ti.sz).map .d)) else False
  | _=>False
section
variable {C : Ctx} {g : Gh} {w : World} {L : List Blk}
def uAgg : TypeDesc → Bool
 | .struct _ | .array _ _=>true
 | _=>false
theorem kindOK.agg {k : TK} {u : TypeDesc} (h : kindOK k u) : uAgg u = k.isAgg:=by
 cases k <;> cases u <;> first | rfl | exact h.elim
theorem TIok.run_isAgg {P : Program} {t : TypeId} {ti : TI} (h : TIok P t ti) (w : World) : (isAgg t).run P w = .ok ti.k.isAgg w:=by
 obtain ⟨u,hu,hk⟩:=h.und
 rw [← hk.agg]
 cases u <;> simp [isAgg,run_underlying hu,uAgg]
theorem TIok.run_sizeOf {P : Program} {t : TypeId} {ti : TI} (h : TIok P t ti) (w : World) : (sizeOf t).run P w = .ok ti.sz w:=by
 have hi:=h.info
 cases e : P.info? t with
 | none=>rw [e] at hi; cases hi
 | some i =>
  rw [e] at hi
  simp only [Option.map_some,Option.some.injEq,Prod.mk.injEq] at hi
  simp [sizeOf,typeInfo,e,hi.1]
theorem TIok.run_zero {P : Program} {t : TypeId} {ti : TI} (h : TIok P t ti) (w : World) : (zeroValue t).run P w = .ok ti.zv w:=by
 have hi:=h.info
 cases e : P.info? t with
 | none=>rw [e] at hi; cases hi
 | some i =>
  rw [e] at hi
  simp only [Option.map_some,Option.some.injEq,Prod.mk.injEq] at hi
  simp [zeroValue,typeInfo,e,hi.2.2]
theorem loadVar_list {P : Program} {t : TypeId} {ti : TI} (hT : TIok P t ti) {a : Addr} {cs : List Value} (hn : cs.length = ti.sz)
  (h : ∀ (j : Nat) (v : Value),cs[j]? = some v → w.cell? (a.add j) = some v) :
  ∃ v,(loadVar t a).run P w = .ok v w ∧ ((ti.k.isAgg = true ∧ v = .agg cs.toArray) ∨ (ti.k.isAgg = false ∧ cs = [v])):=by
 cases hA : ti.k.isAgg with
 | true =>
  refine ⟨.agg cs.toArray,?_,.inl ⟨rfl,rfl⟩⟩
  have h1 : (loadCells a cs.length).run P w = .ok cs.toArray w:=run_loadCells_list w a cs h
  rw [hn] at h1
  simp [loadVar,hT.run_isAgg,hA,hT.run_sizeOf,h1]
 | false =>
  rw [hT.one hA] at hn
  match cs,hn with
  | [v],_ =>
   refine ⟨v,?_,.inr ⟨rfl,rfl⟩⟩
   have:=h 0 v rfl
   rw [show a.add 0 = a by simp [Addr.add]] at this
   simp [loadVar,hT.run_isAgg,hA,this]
theorem mk_ok {ti : TI} {xs : List V} {cs : List Value} {v : Value} (hlen : xs.length = cs.length) (hone : ∀ (j : Nat) (u : Value),cs[j]? = some u → u.oneCell' = true)
  (hrec : ∀ (j : Nat) (y : V) (u : Value),xs[j]? = some y → cs[j]? = some u → RV g w L y u)
  (h : (ti.k.isAgg = true ∧ v = .agg cs.toArray) ∨ (ti.k.isAgg = false ∧ cs = [v])) : RV g w L (mk ti.k.isAgg xs) v:=by
 rcases h with ⟨hA,rfl⟩ | ⟨hA,rfl⟩
 ·rw [hA]
  exact .agg xs cs.toArray (by simpa using hlen) (fun j u hu=>hone j u (by simpa using hu)) (fun j y u hy hu=>hrec j y u hy (by simpa using hu))
 ·rw [hA]
  match xs,hlen with
  | [x],_=>exact hrec 0 x v rfl rfl
theorem cell_row {r i : Nat} {cur : Array Value} {T : TypeId} {fr : Nat × Nat} (h : w.heap[r]? = some (.cells cur T fr)) : w.cell? ⟨r,i,none⟩ = cur[i]?:=cell_of_row w r i cur T fr h
theorem vLoad_ok (hC : C.OK) (hg : Good g w L) {t : TypeId} {x : V} {v : Value} (hx : RV g w L x v) {k : V → Prop} (h : vLoad C t x L k) :
  ∃ r V,(Instr.loadAt t v).run C.P w = .ok r w ∧ k V ∧ RV g w L V r:=by
 unfold vLoad at h
 cases ht : C.tt t with
 | none=>simp only [ht] at h
 | some ti =>
  simp only [ht] at h
  have hT:=hC t ti ht
  split at h
  ·rename_i b off
   split at h
   ·rename_i cs hL
    cases hle : Nat.ble (off + ti.sz) cs.length with
    | false=>simp only [hle,cond_false] at h
    | true =>
     simp only [hle,cond_true] at h
     have hle':=Nat.le_of_ble_eq_true hle
     obtain ⟨r,cur,T,hm,hh,hsz,hone,hrec⟩:=hg.blk b _ hL
     cases hx with
     | ptrX _ _ a hL'=>rw [hL] at hL'; cases hL'
     | ptr _ _ r' cs' hL' hm' =>
      rw [hm] at hm'; cases hm'
      obtain ⟨v,hrun,hv⟩:=loadVar_list (P:=C.P) (w:=w) hT (a:=⟨r,off,none⟩) (cs:=(cur.toList.drop off).take ti.sz) (by simp; omega) (fun j u hu=>by
       rw [Addr.add_lit,cell_row hh]
       rw [List.getElem?_take] at hu
       split at hu
       ·simpa using hu
       ·cases hu)
      refine ⟨v,_,by simp [Instr.loadAt,Instr.sureAddr,hrun],h,mk_ok (by simp; omega) (fun j u hu=>?_) (fun j y u hy hu=>?_) hv⟩
      ·rw [List.getElem?_take] at hu
       split at hu
       ·exact hone (off + j) u (by simpa using hu)
       ·cases hu
      ·rw [List.getElem?_take] at hu hy
       split at hu
       ·rename_i hj
        rw [if_pos hj] at hy
        exact hrec (off + j) y u (by simpa using hy) (by simpa using hu)
       ·cases hu
   ·exact h.elim
  ·rename_i b gen i off
   split at h
   ·rename_i gen' sz els hL
    cases hle : (Nat.beq gen gen' && Nat.ble (off + ti.sz) sz) with
    | false=>simp only [hle,cond_false] at h
    | true =>
     simp only [hle,cond_true] at h
     rw [Bool.and_eq_true] at hle
     have hgen:=Nat.eq_of_beq_eq_true hle.1
     subst hgen
     have hle':=Nat.le_of_ble_eq_true hle.2
     unfold GetE at h
     obtain ⟨e,he,h⟩:=h
     obtain ⟨hsz0,hels,hrow⟩:=hg.blk b _ hL
     have hel : e.length = sz:=hels e (List.mem_of_getElem? he)
     rcases hrow with ⟨hm,rfl⟩ | ⟨r,cur,T,hm,hh,hcap,hbig,hone,hrec⟩
     ·simp at he
     ·cases hx with
      | eptrX _ _ _ _ a hL'=>rw [hL] at hL'; cases hL'
      | eptrO _ _ gen' _ _ _ _ a hL' hg'=>rw [hL] at hL'; cases hL'; omega
      | eptr _ _ _ _ sz' r' els' hL' hm' =>
       rw [hL] at hL'; cases hL'
       rw [hm] at hm'; cases hm'
       have hi : i < els.length:=lt_of_get he
       have hbound : (i + 1) * sz ≤ cur.size:=Nat.le_trans (Nat.mul_le_mul_right sz hi) hbig
       have hb2 : i * sz + sz ≤ cur.size:=by rw [← Nat.succ_mul]; exact hbound
       obtain ⟨v,hrun,hv⟩:=loadVar_list (P:=C.P) (w:=w) hT (a:=⟨r,i * sz + off,none⟩) (cs:=(cur.toList.drop (i * sz + off)).take ti.sz) (by simp; omega) (fun j u hu=>by
        rw [Addr.add_lit,cell_row hh]
        rw [List.getElem?_take] at hu
        split at hu
        ·simpa using hu
        ·cases hu)
       refine ⟨v,_,by simp [Instr.loadAt,Instr.sureAddr,hrun],h,mk_ok (by simp; omega) (fun j u hu=>?_) (fun j y u hy hu=>?_) hv⟩
       ·rw [List.getElem?_take] at hu
        split at hu
        ·exact hone (i * sz + off + j) u (by simpa using hu)
        ·cases hu
       ·rw [List.getElem?_take] at hu hy
        split at hu
        ·rename_i hj
         rw [if_pos hj] at hy
         refine hrec i (off + j) y u (by rw [he]; simpa using hy) (by simpa [Nat.add_assoc] using hu)
        ·cases hu
   ·exact h.elim
  ·rename_i cs
   cases hle : Nat.ble ti.sz cs.length with
   | false=>simp only [hle,cond_false] at h
   | true =>
    simp only [hle,cond_true] at h
    have hle':=Nat.le_of_ble_eq_true hle
    cases hx with
    | d _ _ hd =>
     cases hd with
     | rptr _ ad vs hcell hI hrec =>
      obtain ⟨v,hrun,hv⟩:=loadVar_list (P:=C.P) (w:=w) hT (a:=ad) (cs:=(List.range ti.sz).map vs) (by simp) (fun j u hu=>by
       rw [List.getElem?_map] at hu
       rcases Nat.lt_or_ge j ti.sz with hj | hj
       ·rw [List.getElem?_range hj] at hu
        simp at hu
        rw [hcell j (by omega),hu]
       ·rw [List.getElem?_eq_none (by simpa using hj)] at hu; cases hu)
      have hr : ∀ (j : Nat) (y : D) ,j < ti.sz → cs[j]? = some y → RD g.I w y (vs j):=fun j y _ hy=>hrec j y hy
      refine ⟨v,_,by simp [Instr.loadAt,Instr.sureAddr,hrun],h,mk_ok (by simp; omega) (fun j u hu=>?_) (fun j y u hy hu=>?_) hv⟩
      ·rw [List.getElem?_map] at hu
       rcases Nat.lt_or_ge j ti.sz with hj | hj
       ·rw [List.getElem?_range hj] at hu
        simp at hu
        exact hu ▸ (hr j _ hj (List.getElem?_eq_getElem (by omega))).one
       ·rw [List.getElem?_eq_none (by simpa using hj)] at hu; cases hu
      ·rw [List.getElem?_map] at hu hy
       rcases Nat.lt_or_ge j ti.sz with hj | hj
       ·rw [List.getElem?_range hj] at hu
        simp at hu
        rw [List.getElem?_take,if_pos hj,List.getElem?_eq_getElem (by omega)] at hy
        simp at hy
        subst hy hu
        exact .d _ _ (hr j _ hj (List.getElem?_eq_getElem (by omega)))
       ·rw [List.getElem?_eq_none (by simpa using hj)] at hu; cases hu
  ·exact h.elim
end
end Go.Tidy
/-
 The base layer: changes of one block,new blocks; storing,allocating.
-/
namespace Go.Tidy
section
variable {g g' : Gh} {w w' : World} {L : List Blk} {b : Nat} {k' : Blk}
structure Step (g : Gh) (w : World) (L : List Blk) (b : Nat) (k' : Blk) (g' : Gh) (w' : World) : Prop where
 good : Good g w L
 lv : live L b
 nd : L[b]? ≠ some .defr
 env : w'.tape = w.tape ∧ w'.os = w.os ∧ w'.output = w.output
 size : w.heap.size ≤ w'.heap.size
 I : g'.I = g.I
 m : ∀ b',b' ≠ b → g'.m b' = g.m b'
 cap : ∀ b',b' ≠ b → g'.cap b' = g.cap b'
 heap : ∀ q o,w.heap[q]? = some o → g.m b ≠ some q → w'.heap[q]? = some o
 new : ∀ r,g'.m b = some r → g.m b = some r ∨ w.heap.size ≤ r
 keep : Keep g L g' (L.set b k') b
theorem Step.lt (h : Step g w L b k' g' w') : b < L.length:=by obtain ⟨k,hk,_⟩:=h.lv; exact lt_of_get hk
theorem Step.cells (h : Step g w L b k' g' w') : ∀ (a : Addr) (v : Value),g.I a.block → w.cell? a = some v → w'.cell? a = some v:=by
 intro a v hI hc
 have hlt:=h.good.lt _ hI
 have hne : g.m b ≠ some a.block:=fun e=>h.good.dis a.block ⟨b,h.lv,e⟩ hI
 have hh:=h.heap a.block (w.heap[a.block]) (Array.getElem?_eq_getElem hlt) hne
 rw [World.cell?_of_block (w:=w) (w':=w') (by rw [hh,Array.getElem?_eq_getElem hlt])]
 exact hc
theorem Step.keeps (h : Step g w L b k' g' w') (b' : Nat) : Keep g L g' (L.set b k') b':=by
 by_cases e : b' = b
 ·subst e; exact h.keep
 ·exact Keep.same (by rw [List.getElem?_set_ne (Ne.symm e)]) (h.m b' e) (h.cap b' e)
theorem Step.mono (h : Step g w L b k' g' w') {x : V} {v : Value} (hx : RV g w L x v) : RV g' w' (L.set b k') x v :=
 hx.mono (fun r hr=>by rw [h.I]; exact hr) h.cells (fun b' _=>h.keeps b') hx.bel
theorem RB.mono' {g g' : Gh} {w w' : World} {L L' : List Blk} {b : Nat} {k : Blk} (hmono : ∀ (x : V) (v : Value),RV g w L x v → RV g' w' L' x v)
  (hm : g'.m b = g.m b) (hcap : g'.cap b = g.cap b) (hheap : ∀ r o,g.m b = some r → w.heap[r]? = some o → w'.heap[r]? = some o)
  (hdf : ∀ l,k = .loop l → g'.m l.df = g.m l.df ∧ (L[l.df]? = some .defr → L'[l.df]? = some .defr)) (h : RB g w L b k) : RB g' w' L' b k:=by
 cases k with
 | cells cs =>
  obtain ⟨r,cur,T,h1,h2,h3,h4,h5⟩:=h
  exact ⟨r,cur,T,hm.trans h1,hheap r _ h1 h2,h3,h4,fun i x v hx hv=>hmono x v (h5 i x v hx hv)⟩
 | row gen sz els =>
  obtain ⟨h0,h1,⟨h2,h3⟩ | ⟨r,cur,T,h2,h3,h4,h5,h6,h7⟩⟩:=h
  ·exact ⟨h0,h1,.inl ⟨hm.trans h2,h3⟩⟩
  ·exact ⟨h0,h1,.inr ⟨r,cur,T,hm.trans h2,hheap r _ h2 h3,by rw [hcap]; exact h4,h5,h6,fun i j x v hx hv=>hmono x v (h7 i j x v hx hv)⟩⟩
 | map es =>
  obtain ⟨r,ents,clock,h1,h2,h3,hst,h4⟩:=h
  exact ⟨r,ents,clock,hm.trans h1,hheap r _ h1 h2,h3,hst,fun i x e hx he=>⟨hmono _ _ (h4 i x e hx he).1,hmono _ _ (h4 i x e hx he).2⟩⟩
 | loop l =>
  obtain ⟨r,rec,h1,h2,h3,h4,h5,h6,h7,h8,h9,h10,h11⟩:=h
  exact ⟨r,rec,hm.trans h1,hheap r _ h1 h2,h3,h4,h5,h6,h7,h8,fun i=>hmono _ _ (h9 i),(hdf l rfl).1.trans h10,(hdf l rfl).2 h11.1,h11.2⟩
 | defr =>
  obtain ⟨r,h1,h2⟩:=h
  exact ⟨r,hm.trans h1,hheap r _ h1 h2⟩
 | dead=>trivial
theorem Step.good' (h : Step g w L b k' g' w') (hrb : RB g' w' (L.set b k') b k') : Good g' w' (L.set b k'):=by
 have hlive : ∀ b',b' ≠ b → live (L.set b k') b' → live L b':=fun b' e ⟨k,hk,hd⟩=>⟨k,by rw [List.getElem?_set_ne (Ne.symm e)] at hk; exact hk,hd⟩
 refine ⟨?_,?_,?_,?_,h.good.gl.mono (fun r hr=>by rw [h.I]; exact hr) h.cells⟩
 ·intro b1 b2 r h1 h2 hm1 hm2
  by_cases e1 : b1 = b <;> by_cases e2 : b2 = b
  ·rw [e1,e2]
  ·subst e1
   rw [h.m b2 e2] at hm2
   have h2':=hlive b2 e2 h2
   rcases h.new r hm1 with hn | hn
   ·exact h.good.inj _ _ r h.lv h2' hn hm2
   ·have:=h.good.owned_lt ⟨b2,h2',hm2⟩; omega
  ·subst e2
   rw [h.m b1 e1] at hm1
   have h1':=hlive b1 e1 h1
   rcases h.new r hm2 with hn | hn
   ·exact h.good.inj _ _ r h1' h.lv hm1 hn
   ·have:=h.good.owned_lt ⟨b1,h1',hm1⟩; omega
  ·rw [h.m b1 e1] at hm1; rw [h.m b2 e2] at hm2
   exact h.good.inj _ _ r (hlive b1 e1 h1) (hlive b2 e2 h2) hm1 hm2
 ·rintro r ⟨b1,h1,hm1⟩ hI
  rw [h.I] at hI
  by_cases e1 : b1 = b
  ·subst e1
   rcases h.new r hm1 with hn | hn
   ·exact h.good.dis r ⟨_,h.lv,hn⟩ hI
   ·have:=h.good.lt r hI; omega
  ·rw [h.m b1 e1] at hm1
   exact h.good.dis r ⟨b1,hlive b1 e1 h1,hm1⟩ hI
 ·intro r hI
  rw [h.I] at hI
  exact Nat.lt_of_lt_of_le (h.good.lt r hI) h.size
 ·intro b1 k hk
  by_cases e1 : b1 = b
  ·subst e1
   rw [List.getElem?_set_self h.lt] at hk
   cases hk
   exact hrb
  ·rw [List.getElem?_set_ne (Ne.symm e1)] at hk
   by_cases hd : k = .dead
   ·subst hd; trivial
   ·have hl : Tidy.live L b1:=⟨k,hk,hd⟩
    refine RB.mono' (fun x v hx=>h.mono hx) (h.m b1 e1) (h.cap b1 e1) (fun r o hr ho=>h.heap r o ho (fun e=>e1 (h.good.inj _ _ r hl h.lv hr e))) (fun l hl'=>?_) (h.good.blk b1 k hk)
    subst hl'
    obtain ⟨_,_,_,_,_,_,_,_,_,_,_,_,hdf,_⟩:=h.good.blk b1 _ hk
    have hne : l.df ≠ b:=fun e=>h.nd (by rw [← e]; exact hdf)
    exact ⟨h.m _ hne,fun hh=>by rw [List.getElem?_set_ne (Ne.symm hne)]; exact hh⟩
theorem Step.prog (h : Step g w L b k' g' w') : Prog L.length g w L g' w' (L.set b k'):=by
 refine ⟨h.env,h.size,fun r o hr hn=>h.heap r o hr (fun e=>hn ⟨b,h.lv,e⟩),?_,fun r hr=>.inl (by rw [h.I] at hr; exact hr),fun r hr=>by rw [h.I]; exact hr,fun x v _ hx=>h.mono hx,
  fun b1 r _ hL hm=>?_,fun _=>by simp⟩
 ·rintro r ⟨b1,⟨k,hk,hd⟩,hm1⟩ hlt
  by_cases e1 : b1 = b
  ·subst e1
   rcases h.new r hm1 with hn | hn
   ·exact ⟨_,h.lv,hn⟩
   ·omega
  ·rw [h.m b1 e1] at hm1
   rw [List.getElem?_set_ne (Ne.symm e1)] at hk
   exact ⟨b1,⟨k,hk,hd⟩,hm1⟩
 ·have e1 : b1 ≠ b:=fun e=>h.nd (by rw [← e]; exact hL)
  exact ⟨by rw [List.getElem?_set_ne (Ne.symm e1)]; exact hL,by rw [h.m b1 e1]; exact hm⟩
def Gh.add (g : Gh) (b : Nat) (r : Option Nat) (c : Nat) : Gh :=
 { I:=g.I,m:=fun x=>if x = b then r else g.m x,cap:=fun x=>if x = b then c else g.cap x }
theorem alloc_keep (g : Gh) (L : List Blk) (k' : Blk) (r : Option Nat) (c b' : Nat) (hb : b' < L.length) : Keep g L (g.add L.length r c) (L ++ [k']) b' :=
 Keep.same (by rw [List.getElem?_append_left hb]) (by simp [Gh.add]; omega) (by simp [Gh.add]; omega)
theorem heap_old {w : World} {o o' : Obj} {q : Nat} (h : w.heap[q]? = some o) : (w.alloc o').heap[q]? = some o:=by
 rw [heap_alloc_old w o' (Array.getElem?_eq_some_iff.1 h).1]; exact h
structure Ext (w w' : World) : Prop where
 env : w'.tape = w.tape ∧ w'.os = w.os ∧ w'.output = w.output
 size : w.heap.size ≤ w'.heap.size
 old : ∀ (q : Nat) (o : Obj),w.heap[q]? = some o → w'.heap[q]? = some o
theorem Ext.refl (w : World) : Ext w w:=⟨⟨rfl,rfl,rfl⟩,Nat.le_refl _,fun _ _ h=>h⟩
theorem Ext.alloc (w : World) (o : Obj) : Ext w (w.alloc o):=⟨⟨rfl,rfl,rfl⟩,by simp,fun _ _ h=>heap_old h⟩
theorem Ext.drewAlloc (w : World) (o : Obj) : Ext w (w.drew.alloc o):=⟨⟨rfl,rfl,rfl⟩,by simp,fun _ _ h=>heap_old (w:=w.drew) h⟩
theorem Ext.cell {w w' : World} (h : Ext w w') {a : Addr} (hlt : a.block < w.heap.size) : w'.cell? a = w.cell? a :=
 World.cell?_of_block (by rw [h.old a.block _ (Array.getElem?_eq_getElem hlt),Array.getElem?_eq_getElem hlt])
theorem add_mono (hg : Good g w L) (hE : Ext w w') (k' : Blk) (r : Option Nat) (c : Nat) {x : V} {v : Value} (hx : RV g w L x v) : RV (g.add L.length r c) w' (L ++ [k']) x v :=
 RV.mono (g:=g) (g':=g.add L.length r c) (fun r hr=>hr) (fun a v hI hc=>by rw [hE.cell (hg.lt _ hI)]; exact hc)
  (fun b' hb=>alloc_keep g L k' r c b' hb) hx.bel hx
theorem add_good (hg : Good g w L) (hE : Ext w w') (r : Option Nat) (hr : ∀ q,r = some q → w.heap.size ≤ q) (c : Nat) (hrb : RB (g.add L.length r c) w' (L ++ [k']) L.length k') :
  Good (g.add L.length r c) w' (L ++ [k']):=by
 have hold : ∀ b',b' ≠ L.length → live (L ++ [k']) b' → live L b':=by
  rintro b' e ⟨k,hk,hd⟩
  have hlt:=lt_of_get hk
  simp at hlt
  rw [List.getElem?_append_left (by omega)] at hk
  exact ⟨k,hk,hd⟩
 have hm : ∀ b',b' ≠ L.length → (g.add L.length r c).m b' = g.m b':=fun b' e=>by simp [Gh.add,e]
 have hmL : (g.add L.length r c).m L.length = r:=by simp [Gh.add]
 refine ⟨?_,?_,?_,?_,hg.gl.mono (fun r hr=>hr) (fun a v hI hc=>by rw [hE.cell (hg.lt _ hI)]; exact hc)⟩
 ·intro b1 b2 q h1 h2 hm1 hm2
  by_cases e1 : b1 = L.length <;> by_cases e2 : b2 = L.length
  ·rw [e1,e2]
  ·subst e1
   rw [hmL] at hm1; rw [hm b2 e2] at hm2
   have:=hg.owned_lt ⟨b2,hold b2 e2 h2,hm2⟩; have:=hr q hm1; omega
  ·subst e2
   rw [hmL] at hm2; rw [hm b1 e1] at hm1
   have:=hg.owned_lt ⟨b1,hold b1 e1 h1,hm1⟩; have:=hr q hm2; omega
  ·rw [hm b1 e1] at hm1; rw [hm b2 e2] at hm2
   exact hg.inj _ _ q (hold b1 e1 h1) (hold b2 e2 h2) hm1 hm2
 ·rintro q ⟨b1,h1,hm1⟩ hI
  have hI' : g.I q:=hI
  by_cases e1 : b1 = L.length
  ·subst e1
   rw [hmL] at hm1
   have:=hr q hm1; have:=hg.lt q hI'; omega
  ·rw [hm b1 e1] at hm1
   exact hg.dis q ⟨b1,hold b1 e1 h1,hm1⟩ hI'
 ·intro q hI
  exact Nat.lt_of_lt_of_le (hg.lt q hI) hE.size
 ·intro b1 k hk
  by_cases e1 : b1 = L.length
  ·subst e1
   simp at hk
   subst hk
   exact hrb
  ·have hlt:=lt_of_get hk
   simp at hlt
   rw [List.getElem?_append_left (by omega)] at hk
   refine RB.mono' (fun x v hx=>add_mono hg hE k' r c hx) (hm b1 e1) (by simp [Gh.add,e1]) (fun q o' _ ho=>hE.old q o' ho) (fun l hl=>?_) (hg.blk b1 k hk)
   subst hl
   obtain ⟨_,_,_,_,_,_,_,_,_,_,_,_,hdf,_⟩:=hg.blk b1 _ hk
   have hlt2:=lt_of_get hdf
   exact ⟨hm _ (by omega),fun hh=>by rw [List.getElem?_append_left hlt2]; exact hh⟩
theorem add_prog (hg : Good g w L) (hE : Ext w w') (k' : Blk) (r : Option Nat) (hr : ∀ q,r = some q → w.heap.size ≤ q) (c : Nat) : Prog L.length g w L (g.add L.length r c) w' (L ++ [k']):=by
 refine ⟨hE.env,hE.size,fun q o' ho _=>hE.old q o' ho,?_,fun q hq=>.inl hq,fun q hq=>hq,fun x v _ hx=>add_mono hg hE k' r c hx,
  fun b1 q hb hL hm=>⟨by rw [List.getElem?_append_left hb]; exact hL,by simp [Gh.add]; rw [if_neg (by omega)]; exact hm⟩,fun _=>by simp⟩
 rintro q ⟨b1,⟨k,hk,hd⟩,hm1⟩ hlt
 by_cases e1 : b1 = L.length
 ·subst e1
  simp [Gh.add] at hm1
  have:=hr q hm1; omega
 ·have hl:=lt_of_get hk
  simp at hl
  rw [List.getElem?_append_left (by omega)] at hk
  simp [Gh.add,e1] at hm1
  exact ⟨b1,⟨k,hk,hd⟩,hm1⟩
theorem alloc_mono (hg : Good g w L) (k' : Blk) (o : Obj) (r : Option Nat) (c : Nat) {x : V} {v : Value} (hx : RV g w L x v) : RV (g.add L.length r c) (w.alloc o) (L ++ [k']) x v :=
 add_mono hg (Ext.alloc w o) k' r c hx
theorem alloc_good (hg : Good g w L) (o : Obj) (r : Option Nat) (hr : ∀ q,r = some q → q = w.heap.size) (c : Nat) (hrb : RB (g.add L.length r c) (w.alloc o) (L ++ [k']) L.length k') :
  Good (g.add L.length r c) (w.alloc o) (L ++ [k']):=add_good hg (Ext.alloc w o) r (fun q h=>Nat.le_of_eq (hr q h).symm) c hrb
theorem alloc_prog (hg : Good g w L) (k' : Blk) (o : Obj) (r : Option Nat) (hr : ∀ q,r = some q → q = w.heap.size) (c : Nat) : Prog L.length g w L (g.add L.length r c) (w.alloc o) (L ++ [k']) :=
 add_prog hg (Ext.alloc w o) k' r (fun q h=>Nat.le_of_eq (hr q h).symm) c
end
def setCells : List V → Nat → List V → List V
 | [],_,vs=>vs
 | c :: cs,0,[]=>c :: cs
 | _ :: cs,0,v :: vs=>v :: setCells cs 0 vs
 | c :: cs,off + 1,vs=>c :: setCells cs off vs
theorem setCells_eq : ∀ (cs : List V) (off : Nat) (vs : List V),setCells cs off vs = cs.take off ++ vs ++ cs.drop (off + vs.length)
 | [],_,vs=>by simp [setCells]
 | c :: cs,0,[]=>by simp [setCells]
 | _ :: cs,0,v :: vs=>by simp [setCells,setCells_eq cs 0 vs]
 | c :: cs,off + 1,vs=>by
  rw [setCells,setCells_eq cs off vs,show off + 1 + vs.length = (off + vs.length) + 1 by omega]
  rfl
theorem setCells_length {cs vs : List V} {off : Nat} (h : off + vs.length ≤ cs.length) : (setCells cs off vs).length = cs.length:=by
 simp [setCells_eq]; omega
theorem splice_get {α : Type} {cs vs : List α} {off j : Nat} (h : off + vs.length ≤ cs.length) :
  (cs.take off ++ vs ++ cs.drop (off + vs.length))[j]? = if j < off then cs[j]? else if j < off + vs.length then vs[j - off]? else cs[j]?:=by
 rw [List.append_assoc]
 by_cases h1 : j < off
 ·rw [List.getElem?_append_left (by simp; omega),if_pos h1,List.getElem?_take,if_pos h1]
 ·rw [List.getElem?_append_right (by simp; omega),if_neg h1]
  have e : (cs.take off).length = off:=by simp; omega
  rw [e]
  by_cases h2 : j < off + vs.length
  ·rw [if_pos h2,List.getElem?_append_left (by omega)]
  ·rw [if_neg h2,List.getElem?_append_right (by omega),List.getElem?_drop]
   congr 1; omega
theorem Value.cells_list (v : Value) (j : Nat) : v.cells.toList[j]? = v.cells[j]?:=by simp
section
variable {C : Ctx} {g : Gh} {w : World} {L : List Blk}
theorem setRow_env (w : World) (r : Nat) (cs : Array Value) : (w.setRow r cs).tape = w.tape ∧ (w.setRow r cs).os = w.os ∧ (w.setRow r cs).output = w.output:=⟨rfl,rfl,rfl⟩
theorem setRow_size (w : World) (r : Nat) (cs : Array Value) : (w.setRow r cs).heap.size = w.heap.size:=by simp [World.setRow]
theorem setRow_other {w : World} {r q : Nat} {cs : Array Value} (h : r ≠ q) : (w.setRow r cs).heap[q]? = w.heap[q]?:=by
 simp [World.setRow,Array.getElem?_modify,h]
theorem setRow_same {w : World} {r : Nat} {cs cur : Array Value} {T : TypeId} {fr : Nat × Nat} (h : w.heap[r]? = some (.cells cur T fr)) : (w.setRow r cs).heap[r]? = some (.cells cs T fr):=by
 simp [World.setRow,Array.getElem?_modify,h]
theorem run_storeVar {P : Program} {t : TypeId} {ti : TI} (hT : TIok P t ti) {v : Value} (hsz : v.cells.size = ti.sz) (hone : ∀ (j : Nat) (u : Value),v.cells[j]? = some u → u.oneCell' = true)
  {r off : Nat} {cur : Array Value} {T : TypeId} (hh : w.heap[r]? = some (.cells cur T (0,0))) (hb : off + v.cells.size ≤ cur.size) :
  (storeVar t ⟨r,off,none⟩ v).run P w = .ok () (w.setRow r (cur.toList.take off ++ v.cells.toList ++ cur.toList.drop (off + v.cells.toList.length)).toArray):=by
 have:=run_storeCells_at P r off T v.cells.toList 0 cur w hh (by simpa using hb) (fun u hu=>by
  obtain ⟨j,hj,rfl⟩:=List.getElem_of_mem hu
  exact hone j _ (by rw [← Value.cells_list]; exact List.getElem?_eq_getElem hj))
 simp only [Nat.add_zero] at this
 simp [storeVar,hT.run_sizeOf,hsz,this]
def vStore (C : Ctx) (t : TypeId) (x y : V) (L : List Blk) (k : List Blk → Prop) : Prop :=
 match C.tt t with
 | none=>False
 | some ti =>
  bif y.stor && Nat.beq (cellsOf y).length ti.sz then
   match x with
   | .ptr b off=>match L[b]? with
    | some (.cells cs)=>bif Nat.ble (off + ti.sz) cs.length then k (L.set b (.cells (setCells cs off (cellsOf y)))) else False
    | _=>False
   | .eptr b gen i off=>match L[b]? with
    | some (.row gen' sz els)=>bif Nat.beq gen gen' && Nat.ble (off + ti.sz) sz then GetE els i fun e=>k (L.set b (.row gen' sz (els.set i (setCells e off (cellsOf y))))) else False
    | _=>False
   | _=>False
  else False
theorem vStore_ok (hC : C.OK) (hg : Good g w L) {t : TypeId} {x y : V} {v u : Value} (hx : RV g w L x v) (hy : RV g w L y u) {k : List Blk → Prop} (h : vStore C t x y L k) :
  ∃ w' L',(Instr.storeAt t v u).run C.P w = .ok () w' ∧ k L' ∧ L'.length = L.length ∧ Good g w' L' ∧ Prog L.length g w L g w' L':=by
 unfold vStore at h
 cases ht : C.tt t with
 | none=>simp only [ht] at h
 | some ti =>
  simp only [ht] at h
  have hT:=hC t ti ht
  cases hst : (y.stor && Nat.beq (cellsOf y).length ti.sz) with
  | false=>simp only [hst,cond_false] at h
  | true =>
  simp only [hst,cond_true] at h
  rw [Bool.and_eq_true] at hst
  have hlen:=Nat.eq_of_beq_eq_true hst.2
  obtain ⟨hl,hone,hrec⟩:=hy.cells hst.1
  have husz : u.cells.size = ti.sz:=by omega
  split at h
  ·rename_i b off
   split at h
   ·rename_i cs hL
    cases hle : Nat.ble (off + ti.sz) cs.length with
    | false=>simp only [hle,cond_false] at h
    | true =>
    simp only [hle,cond_true] at h
    have hle':=Nat.le_of_ble_eq_true hle
    have hb:=hg.blk b _ hL
    obtain ⟨r,cur,T,hm,hh,hsz,honec,hrecc⟩:=hb
    cases hx with
    | ptrX _ _ a hL'=>rw [hL] at hL'; cases hL'
    | ptr _ _ r' cs' hL' hm' =>
     rw [hm] at hm'; cases hm'
     have hrun:=run_storeVar (w:=w) hT husz hone (off:=off) hh (by omega)
     have hbl:=lt_of_get hL
     have S : Step g w L b (.cells (setCells cs off (cellsOf y))) g (w.setRow r (cur.toList.take off ++ u.cells.toList ++ cur.toList.drop (off + u.cells.toList.length)).toArray):=by
      refine ⟨hg,⟨_,hL,by simp⟩,by rw [hL]; simp,setRow_env _ _ _,by rw [setRow_size]; exact Nat.le_refl _,rfl,fun _ _=>rfl,fun _ _=>rfl,fun q o ho hne=>?_,fun r hr=>.inl hr,?_⟩
      ·rw [setRow_other (fun e=>hne (by rw [← e]; exact hm))]; exact ho
      ·exact ⟨fun cs' _=>.inr ⟨_,List.getElem?_set_self hbl,rfl⟩,fun gen sz els e=>(by rw [hL] at e; cases e),fun es e=>(by rw [hL] at e; cases e),fun l e=>(by rw [hL] at e; cases e),fun e=>(by rw [hL] at e; cases e)⟩
     refine ⟨_,_,by simp [Instr.storeAt,Instr.sureAddr,hrun],h,by simp,S.good' ⟨r,_,T,hm,setRow_same hh,?_,?_,?_⟩,S.prog⟩
     ·rw [setCells_length (by omega)]
      simp; omega
     ·intro i v' hv'
      simp only [List.getElem?_toArray] at hv'
      rw [splice_get (by simp; omega)] at hv'
      split at hv'
      ·exact honec i v' (by simpa using hv')
      ·split at hv'
       ·exact hone _ v' (by rw [← Value.cells_list]; exact hv')
       ·exact honec i v' (by simpa using hv')
     ·intro i x' v' hx' hv'
      simp only [List.getElem?_toArray] at hv'
      rw [splice_get (by simp; omega)] at hv'
      rw [setCells_eq] at hx'
      rw [splice_get (by omega)] at hx'
      have e : u.cells.toList.length = (cellsOf y).length:=by simp; omega
      rw [e] at hv'
      split at hv'
      ·rename_i h1
       rw [if_pos h1] at hx'
       exact S.mono (hrecc i x' v' hx' (by simpa using hv'))
      ·rename_i h1
       rw [if_neg h1] at hx'
       split at hv'
       ·rename_i h2
        rw [if_pos h2] at hx'
        exact S.mono (hrec _ x' v' hx' (by rw [← Value.cells_list]; exact hv'))
       ·rename_i h2
        rw [if_neg h2] at hx'
        exact S.mono (hrecc i x' v' hx' (by simpa using hv'))
   ·exact h.elim
  ·rename_i b gen i off
   split at h
   ·rename_i gen' sz els hL
    cases hle : (Nat.beq gen gen' && Nat.ble (off + ti.sz) sz) with
    | false=>simp only [hle,cond_false] at h
    | true =>
    simp only [hle,cond_true] at h
    rw [Bool.and_eq_true] at hle
    have hgen:=Nat.eq_of_beq_eq_true hle.1
    subst hgen
    have hle':=Nat.le_of_ble_eq_true hle.2
    unfold GetE at h
    obtain ⟨e,he,h⟩:=h
    obtain ⟨hsz0,hels,hrow⟩:=hg.blk b _ hL
    have hel : e.length = sz:=hels e (List.mem_of_getElem? he)
    rcases hrow with ⟨hm,rfl⟩ | ⟨r,cur,T,hm,hh,hcap,hbig,honec,hrecc⟩
    ·simp at he
    ·cases hx with
     | eptrX _ _ _ _ a hL'=>rw [hL] at hL'; cases hL'
     | eptrO _ _ gen' _ _ _ _ a hL' hg'=>rw [hL] at hL'; cases hL'; omega
     | eptr _ _ _ _ sz' r' els' hL' hm' =>
      rw [hL] at hL'; cases hL'
      rw [hm] at hm'; cases hm'
      have hi : i < els.length:=lt_of_get he
      have hbound : (i + 1) * sz ≤ cur.size:=Nat.le_trans (Nat.mul_le_mul_right sz hi) hbig
      have hb2 : i * sz + sz ≤ cur.size:=by rw [← Nat.succ_mul]; exact hbound
      have hrun:=run_storeVar (w:=w) hT husz hone (off:=i * sz + off) hh (by omega)
      have hbl:=lt_of_get hL
      have S : Step g w L b (.row gen sz (els.set i (setCells e off (cellsOf y)))) g (w.setRow r (cur.toList.take (i * sz + off) ++ u.cells.toList ++ cur.toList.drop (i * sz + off + u.cells.toList.length)).toArray):=by
       refine ⟨hg,⟨_,hL,by simp⟩,by rw [hL]; simp,setRow_env _ _ _,by rw [setRow_size]; exact Nat.le_refl _,rfl,fun _ _=>rfl,fun _ _=>rfl,fun q o ho hne=>?_,fun r hr=>.inl hr,?_⟩
       ·rw [setRow_other (fun e=>hne (by rw [← e]; exact hm))]; exact ho
       ·exact ⟨fun cs' e=>(by rw [hL] at e; cases e),fun gen' sz' els' e=>(by rw [hL] at e; cases e; exact .inr ⟨_,_,_,List.getElem?_set_self hbl,.inr ⟨rfl,rfl,rfl,rfl,by simp⟩⟩),fun es e=>(by rw [hL] at e; cases e),fun l e=>(by rw [hL] at e; cases e),fun e=>(by rw [hL] at e; cases e)⟩
      refine ⟨_,_,by simp [Instr.storeAt,Instr.sureAddr,hrun],h,by simp,S.good' ⟨hsz0,?_,.inr ⟨r,_,T,hm,setRow_same hh,?_,?_,?_,?_⟩⟩,S.prog⟩
      ·intro e' he'
       rcases List.mem_or_eq_of_mem_set he' with h' | h'
       ·exact hels e' h'
       ·rw [h',setCells_length (by omega)]; exact hel
      ·simp; omega
      ·simp only [List.length_set]; simp; omega
      ·intro j v' hv'
       simp only [List.getElem?_toArray] at hv'
       rw [splice_get (by simp; omega)] at hv'
       split at hv'
       ·exact honec j v' (by simpa using hv')
       ·split at hv'
        ·exact hone _ v' (by rw [← Value.cells_list]; exact hv')
        ·exact honec j v' (by simpa using hv')
      ·intro i' j x' v' hx' hv'
       simp only [List.getElem?_toArray] at hv'
       rw [splice_get (by simp; omega)] at hv'
       have elen : u.cells.toList.length = (cellsOf y).length:=by simp; omega
       rw [elen] at hv'
       have hjs : j < sz:=by
        cases hq : (els.set i (setCells e off (cellsOf y)))[i']? with
        | none=>rw [hq] at hx'; cases hx'
        | some e' =>
         rw [hq] at hx'
         have:=lt_of_get (L:=e') (by simpa using hx')
         have hmem:=List.mem_of_getElem? hq
         rcases List.mem_or_eq_of_mem_set hmem with h' | h'
         ·have:=hels e' h'; omega
         ·rw [h',setCells_length (by omega)] at this; omega
       by_cases hii : i' = i
       ·subst hii
        rw [List.getElem?_set_self hi] at hx'
        simp only [Option.bind_some] at hx'
        rw [setCells_eq] at hx'
        rw [splice_get (by omega)] at hx'
        by_cases h1 : j < off
        ·rw [if_pos h1] at hx'; rw [if_pos (by omega)] at hv'
         exact S.mono (hrecc i' j x' v' (by rw [he]; simpa using hx') (by simpa using hv'))
        ·rw [if_neg h1] at hx'; rw [if_neg (by omega)] at hv'
         by_cases h2 : j < off + (cellsOf y).length
         ·rw [if_pos h2] at hx'; rw [if_pos (by omega)] at hv'
          exact S.mono (hrec _ x' v' hx' (by rw [← Value.cells_list]; rw [← hv']; congr 1; omega))
         ·rw [if_neg h2] at hx'; rw [if_neg (by omega)] at hv'
          exact S.mono (hrecc i' j x' v' (by rw [he]; simpa using hx') (by simpa using hv'))
       ·rw [List.getElem?_set_ne (Ne.symm hii)] at hx'
        have hout : ¬ (i * sz ≤ i' * sz + j ∧ i' * sz + j < i * sz + sz):=by
         rintro ⟨h1,h2⟩
         rcases Nat.lt_or_ge i' i with hlt | hge
         ·have:=Nat.mul_le_mul_right sz (show i' + 1 ≤ i from hlt)
          rw [Nat.succ_mul] at this; omega
         ·have:=Nat.mul_le_mul_right sz (show i + 1 ≤ i' by omega)
          rw [Nat.succ_mul] at this; omega
        have hv2 : cur.toList[i' * sz + j]? = some v':=by
         split at hv'
         ·exact hv'
         ·split at hv'
          ·omega
          ·exact hv'
        exact S.mono (hrecc i' j x' v' hx' (by simpa using hv2))
   ·exact h.elim
  ·exact h.elim
def vBox (x : V) (L : List Blk) (k : V → List Blk → Prop) : Prop:=bif x.stor then k (.ptr L.length 0) (L ++ [.cells (cellsOf x)]) else False
theorem newCells_ok (hg : Good g w L) (T : TypeId) {cs : List V} {vs : Array Value} (hl : cs.length = vs.size) (hone : ∀ (j : Nat) (u : Value),vs[j]? = some u → u.oneCell' = true)
  (hrec : ∀ (j : Nat) (y : V) (u : Value),cs[j]? = some y → vs[j]? = some u → RV g w L y u) :
  ∃ g',RV g' (w.alloc (.cells vs T)) (L ++ [.cells cs]) (.ptr L.length 0) (.pointer (some ⟨w.heap.size,0,none⟩)) ∧ Good g' (w.alloc (.cells vs T)) (L ++ [.cells cs]) ∧
   Prog L.length g w L g' (w.alloc (.cells vs T)) (L ++ [.cells cs]):=by
 refine ⟨g.add L.length (some w.heap.size) 0,.ptr _ _ _ cs (by simp) (by simp [Gh.add]),alloc_good hg _ _ (fun q h=>by cases h; rfl) _ ⟨_,vs,T,by simp [Gh.add],heap_alloc_new w _,by omega,hone,?_⟩,
  alloc_prog hg _ _ _ (fun q h=>by cases h; rfl) _⟩
 exact fun i x v hx hv=>alloc_mono hg _ _ _ _ (hrec i x v hx hv)
theorem vBox_ok (hg : Good g w L) (t : TypeId) {x : V} {v : Value} (hx : RV g w L x v) {k : V → List Blk → Prop} (h : vBox x L k) :
  ∃ r w' X L' g',(Instr.box t v).run C.P w = .ok r w' ∧ k X L' ∧ RV g' w' L' X r ∧ Good g' w' L' ∧ Prog L.length g w L g' w' L':=by
 unfold vBox at h
 cases hst : x.stor with
 | false=>simp only [hst,cond_false] at h
 | true =>
  simp only [hst,cond_true] at h
  obtain ⟨hl,hone,hrec⟩:=hx.cells hst
  obtain ⟨g',h1,h2,h3⟩:=newCells_ok hg t hl hone hrec
  exact ⟨_,_,_,_,g',by simp [Instr.box,newVar,newRow],h,h1,h2,h3⟩
def zokB (ti : TI) : Bool:=ti.zv.cells.toList.all (·.oneCell')
theorem zokB_all {ti : TI} (h : zokB ti = true) : ti.zv.cells.all (·.oneCell') = true:=by rw [← Array.all_toList]; exact h
def zeroCells (ti : TI) : List V:=ti.zv.cells.toList.map ofLeaf
def vAlloc (C : Ctx) (t : TypeId) (L : List Blk) (k : V → List Blk → Prop) : Prop :=
 match C.tt t with
 | none=>False
 | some ti=>bif zokB ti then k (.ptr L.length 0) (L ++ [.cells (zeroCells ti)]) else False
theorem zeroCells_ok (g : Gh) (w : World) (L : List Blk) {ti : TI} (h : zokB ti = true) : (zeroCells ti).length = ti.zv.cells.size ∧ (∀ (j : Nat) (u : Value),ti.zv.cells[j]? = some u → u.oneCell' = true) ∧
  ∀ (j : Nat) (y : V) (u : Value),(zeroCells ti)[j]? = some y → ti.zv.cells[j]? = some u → RV g w L y u:=by
 refine ⟨by simp [zeroCells],fun j u hu=>?_,fun j y u hy hu=>?_⟩
 ·have h:=zokB_all h
  rw [Array.all_eq_true] at h
  obtain ⟨hj,rfl⟩:=Array.getElem?_eq_some_iff.1 hu
  exact h j hj
 ·unfold zeroCells at hy
  rw [List.getElem?_map,Value.cells_list,hu] at hy
  cases hy
  exact ofLeaf_ok g w L u
theorem vAlloc_ok (hC : C.OK) (hg : Good g w L) {t : TypeId} {k : V → List Blk → Prop} (h : vAlloc C t L k) :
  ∃ r w' X L' g',(Instr.alloc t true (.tuple #[])).run C.P w = .ok r w' ∧ k X L' ∧ RV g' w' L' X r ∧ Good g' w' L' ∧ Prog L.length g w L g' w' L':=by
 unfold vAlloc at h
 cases ht : C.tt t with
 | none=>simp only [ht] at h
 | some ti =>
  simp only [ht] at h
  have hT:=hC t ti ht
  cases hst : zokB ti with
  | false=>simp only [hst,cond_false] at h
  | true =>
   simp only [hst,cond_true] at h
   obtain ⟨hl,hone,hrec⟩:=zeroCells_ok g w L hst
   obtain ⟨g',h1,h2,h3⟩:=newCells_ok hg t hl hone hrec
   exact ⟨_,_,_,_,g',by simp [Instr.alloc,hT.run_zero,newVar,newRow],h,h1,h2,h3⟩
end
end Go.Tidy
/-
 The base layer: addresses,numbers,comparisons,composite values.
-/
namespace Go.Tidy
section
variable {C : Ctx} {g : Gh} {w : World} {L : List Blk}
theorem add_add (a : Addr) (i j : Nat) : (a.add i).add j = a.add (i + j):=by
 unfold Addr.add
 by_cases hi : i = 0 <;> by_cases hj : j = 0 <;> simp [hi,hj,Nat.add_assoc]
theorem add_block (a : Addr) (n : Nat) : (a.add n).block = a.block:=by unfold Addr.add; split <;> rfl
theorem RD.drop {I : Nat → Prop} {cs : List D} {ad : Addr} (h : RD I w (.rptr cs) (.pointer (some ad))) (n : Nat) (hn : n ≤ cs.length) : RD I w (.rptr (cs.drop n)) (.pointer (some (ad.add n))):=by
 cases h with
 | rptr _ _ vs hcell hI hrec =>
  refine .rptr _ _ (fun j=>vs (n + j)) (fun j hj=>?_) (by rw [add_block]; exact hI) (fun j x hx=>hrec (n + j) x (by simpa using hx))
  rw [add_add]
  exact hcell (n + j) (by simp at hj; omega)
def vFieldAddr (C : Ctx) (s : TypeId) (x : V) (f : Nat) (k : V → Prop) : Prop :=
 match C.tt s with
 | some si=>match si.k with
  | .struct fs=>match fs[f]? with
   | some (off,ft)=>match C.tt ft with
    | some fi=>bif Nat.blt 0 fi.sz then
      match x with
      | .ptr b o=>k (.ptr b (o + off))
      | .eptr b gen i o=>k (.eptr b gen i (o + off))
      | .d (.rptr cs)=>bif Nat.ble off cs.length then k (.d (.rptr (cs.drop off))) else False
      | _=>False
     else False
    | none=>False
   | none=>False
  | _=>False
 | none=>False
theorem TIok.struct {P : Program} {t : TypeId} {ti : TI} (h : TIok P t ti) {fs : List (Nat × TypeId)} (hk : ti.k = .struct fs) :
  ∃ fields, P.underlying t = some (.struct fields) ∧ fields.toList.map (fun f => (f.offset, f.type)) = fs ∧ fields.toList.all (fun f => f.name != "_") = true := by
 obtain ⟨u,hu,hko⟩:=h.und
 rw [hk] at hko
 cases u <;> first | exact hko.elim | exact ⟨_,hu,hko.1,hko.2⟩
theorem field_get {fields : Array Field} {fs : List (Nat × TypeId)} (h : fields.toList.map (fun f=>(f.offset,f.type)) = fs) {i off : Nat} {ft : TypeId} (hf : fs[i]? = some (off,ft)) :
  ∃ fld,fields[i]? = some fld ∧ fld.offset = off ∧ fld.type = ft:=by
 subst h
 rw [List.getElem?_map] at hf
 cases e : fields.toList[i]? with
 | none=>rw [e] at hf; cases hf
 | some fld =>
  rw [e] at hf
  simp at hf
  exact ⟨fld,by simpa using e,hf.1,hf.2⟩
theorem run_fieldAt {P : Program} {s ft : TypeId} {si fi : TI} {fs : List (Nat × TypeId)} {f off : Nat} (hS : TIok P s si) (hk : si.k = .struct fs) (hf : fs[f]? = some (off,ft)) (hF : TIok P ft fi) (hpos : 0 < fi.sz) (a : Addr) (w : World) :
  (Instr.fieldAt s (.pointer (some a)) f).run P w = .ok (.pointer (some (a.add off))) w:=by
 obtain ⟨fields,hu,hfs,_⟩:=hS.struct hk
 obtain ⟨fld,h1,h2,h3⟩:=field_get hfs hf
 subst h2 h3
 have h0 : fi.sz ≠ 0:=by omega
 simp [Instr.fieldAt,run_underlying hu,h1,Instr.sureAddr,fieldPlace,hF.run_sizeOf,h0]
theorem vFieldAddr_ok (hC : C.OK) {s : TypeId} {x : V} {v : Value} {f : Nat} (hx : RV g w L x v) {k : V → Prop} (h : vFieldAddr C s x f k) :
  ∃ r X,(Instr.fieldAt s v f).run C.P w = .ok r w ∧ k X ∧ RV g w L X r:=by
 unfold vFieldAddr at h
 cases hs : C.tt s with
 | none=>simp only [hs] at h
 | some si =>
 simp only [hs] at h
 split at h
 ·rename_i fs hk
  split at h
  ·rename_i off ft hf
   cases hft : C.tt ft with
   | none=>simp only [hft] at h
   | some fi =>
   simp only [hft] at h
   cases hpos : Nat.blt 0 fi.sz with
   | false=>simp only [hpos,cond_false] at h
   | true =>
   simp only [hpos,cond_true] at h
   have hp : 0 < fi.sz:=by simpa [Nat.blt_eq] using hpos
   have hrun:=fun a=>run_fieldAt (hC s si hs) hk hf (hC ft fi hft) hp a w
   split at h
   ·rename_i b o
    cases hx with
    | ptr _ _ r cs hL hm=>exact ⟨_,_,hrun _,h,by rw [Addr.add_lit]; exact .ptr b _ r cs hL hm⟩
    | ptrX _ _ a hL=>exact ⟨_,_,hrun _,h,.ptrX _ _ _ hL⟩
   ·rename_i b gen i o
    cases hx with
    | eptr _ _ _ _ sz r els hL hm=>exact ⟨_,_,hrun _,h,by rw [Addr.add_lit,Nat.add_assoc]; exact .eptr b gen i _ sz r els hL hm⟩
    | eptrO _ _ gen' sz _ _ els a hL hg=>exact ⟨_,_,hrun _,h,.eptrO _ _ _ _ _ _ _ _ hL hg⟩
    | eptrX _ _ _ _ a hL=>exact ⟨_,_,hrun _,h,.eptrX _ _ _ _ _ hL⟩
   ·rename_i cs
    cases hle : Nat.ble off cs.length with
    | false=>simp only [hle,cond_false] at h
    | true =>
    simp only [hle,cond_true] at h
    cases hx with
    | d _ _ hd =>
     have hd':=hd
     cases hd with
     | rptr _ ad vs hcell hI hrec=>exact ⟨_,_,hrun _,h,.d _ _ (hd'.drop off (Nat.le_of_ble_eq_true hle))⟩
   ·exact h.elim
  ·exact h.elim
 ·exact h.elim
theorem TIok.slice {P : Program} {t e : TypeId} {ti : TI} (h : TIok P t ti) (hk : ti.k = .sl e) : P.underlying t = some (.slice e):=by
 obtain ⟨u,hu,hko⟩:=h.und
 rw [hk] at hko
 cases u <;> first | exact hko.elim | (rename_i e'; have : e = e':=hko; subst this; exact hu)
theorem TIok.array {P : Program} {t e : TypeId} {n : Nat} {ti : TI} (h : TIok P t ti) (hk : ti.k = .arr n e) : P.underlying t = some (.array n e):=by
 obtain ⟨u,hu,hko⟩:=h.und
 rw [hk] at hko
 cases u <;> first | exact hko.elim | (rename_i n' e'; obtain ⟨h1,h2⟩ : n = n' ∧ e = e':=hko; subst h1 h2; exact hu)
theorem TIok.intK {P : Program} {t : TypeId} {k : IntKind} {ti : TI} (h : TIok P t ti) (hk : ti.k = .int k) : P.underlying t = some (.int k):=by
 obtain ⟨u,hu,hko⟩:=h.und
 rw [hk] at hko
 cases u <;> first | exact hko.elim | (rename_i k'; have : k = k':=hko; subst this; exact hu)
theorem TIok.boolK {P : Program} {t : TypeId} {ti : TI} (h : TIok P t ti) (hk : ti.k = .bool) : P.underlying t = some .bool:=by
 obtain ⟨u,hu,hko⟩:=h.und
 rw [hk] at hko
 cases u <;> first | exact hko.elim | exact hu
theorem TIok.strK {P : Program} {t : TypeId} {ti : TI} (h : TIok P t ti) (hk : ti.k = .str) : P.underlying t = some .string:=by
 obtain ⟨u,hu,hko⟩:=h.und
 rw [hk] at hko
 cases u <;> first | exact hko.elim | exact hu
def vIndexAddr (C : Ctx) (t : TypeId) (x i : V) (k : V → Prop) (L : List Blk) : Prop :=
 match C.tt t with
 | some ti=>match i with
  | .d (.int _ n)=>match ti.k with
   | .sl e=>match C.tt e with
    | some ei=>match x with
     | .d (.sl els)=>Idx els n fun _ e=>Need (e.length = ei.sz) (k (.d (.rptr e)))
     | .own b gen lo len=>match L[b]? with
      | some (.row gen' sz _)=>bif Nat.beq gen gen' && Nat.beq sz ei.sz then IdxN len n fun j=>k (.eptr b gen (lo + j) 0) else False
      | _=>False
     | _=>False
    | none=>False
   | .arr len e=>match C.tt e with
    | some ei=>match x with
     | .ptr b o=>IdxN len n fun j=>k (.ptr b (o + j * ei.sz))
     | .eptr b gen i o=>IdxN len n fun j=>k (.eptr b gen i (o + j * ei.sz))
     | .d (.rptr cs)=>bif Nat.beq cs.length (len * ei.sz) then IdxN len n fun j=>k (.d (.rptr (cs.drop (j * ei.sz)))) else False
     | _=>False
    | none=>False
   | _=>False
  | _=>False
 | none=>False
theorem run_indexAt_sl {P : Program} {t e : TypeId} {ei : TI} (ht : P.underlying t = some (.slice e)) (hE : TIok P e ei) (a : Addr) (len c : Nat) (kk : IntKind) {n : Nat} (hn : n < len) (w : World) :
  (Instr.indexAt t (.slice (some a) len c) (.int kk n)).run P w = .ok (.pointer (some (a.add (n * ei.sz)))) w:=by
 simp [Instr.indexAt,asIntOf,run_underlying ht,hE.run_sizeOf]
 intro hh; omega
theorem run_indexAt_ar {P : Program} {t e : TypeId} {ei : TI} {len : Nat} (ht : P.underlying t = some (.array len e)) (hE : TIok P e ei) (a : Addr) (kk : IntKind) {n : Nat} (hn : n < len) (w : World) :
  (Instr.indexAt t (.pointer (some a)) (.int kk n)).run P w = .ok (.pointer (some (a.add (n * ei.sz)))) w:=by
 simp [Instr.indexAt,asIntOf,run_underlying ht,hE.run_sizeOf,Instr.sureAddr]
 intro hh; omega
theorem vIndexAddr_ok (hC : C.OK) (_hg : Good g w L) {t : TypeId} {x i : V} {v u : Value} (hx : RV g w L x v) (hi : RV g w L i u) {k : V → Prop} (h : vIndexAddr C t x i k L) :
  ∃ r X,(Instr.indexAt t v u).run C.P w = .ok r w ∧ k X ∧ RV g w L X r:=by
 unfold vIndexAddr at h
 cases ht : C.tt t with
 | none=>simp only [ht] at h
 | some ti =>
 simp only [ht] at h
 have hT:=hC t ti ht
 split at h
 ·rename_i kk n
  have hu : u = .int kk n:=by cases hi with | d _ _ hd=>cases hd; rfl
  subst hu
  split at h
  ·rename_i e hk
   cases he : C.tt e with
   | none=>simp only [he] at h
   | some ei =>
   simp only [he] at h
   have hE:=hC e ei he
   have hsl:=hT.slice hk
   split at h
   ·rename_i els
    unfold Idx at h
    obtain ⟨m,hm,el,hel,h⟩:=h
    obtain ⟨hlen,h⟩:=h.out
    subst hm
    cases hx with
    | d _ _ hd =>
     cases hd with
     | slNil a c=>simp at hel
     | sl _ ad c sz cs hsz hcell hI hlc hrec =>
      have hlt:=lt_of_get hel
      have hszz : sz = ei.sz:=by rw [← hlen]; exact (hsz el (List.mem_of_getElem? hel)).symm
      refine ⟨_,_,run_indexAt_sl hsl hE ad _ c kk hlt w,h,.d _ _ (.rptr _ _ (fun j=>cs m j) (fun j hj=>?_) (by rw [add_block]; exact hI) (fun j x hx=>hrec m j x (by rw [hel]; exact hx)))⟩
      rw [add_add,← hszz]
      exact hcell m j hlt (by rw [hszz,← hlen]; exact hj)
   ·rename_i b gen lo len
    split at h
    ·rename_i gen' sz els hL
     cases hle : (Nat.beq gen gen' && Nat.beq sz ei.sz) with
     | false=>simp only [hle,cond_false] at h
     | true =>
     simp only [hle,cond_true] at h
     rw [Bool.and_eq_true] at hle
     have e1:=Nat.eq_of_beq_eq_true hle.1
     have e2:=Nat.eq_of_beq_eq_true hle.2
     subst e1 e2
     unfold IdxN at h
     obtain ⟨m,hm,hlt,h⟩:=h
     subst hm
     cases hx with
     | ownX _ _ _ _ a c hL'=>rw [hL] at hL'; cases hL'
     | ownO _ _ gen2 _ _ _ _ a c hL' hg'=>rw [hL] at hL'; cases hL'; omega
     | ownN _ _ _ _ hL' hm'=>omega
     | own _ _ _ _ sz' r o c els' hL' hm' ho hc hlc hle =>
      rw [hL] at hL'; cases hL'
      have ho' : o = lo * ei.sz:=by rcases ho with h0 | h0 <;> omega
      subst ho'
      refine ⟨_,_,run_indexAt_sl hsl hE _ len c kk hlt w,h,?_⟩
      rw [Addr.add_lit,← Nat.add_mul]
      exact .eptr b gen (lo + m) 0 ei.sz r els hL hm'
    ·exact h.elim
   ·exact h.elim
  ·rename_i len e hk
   cases he : C.tt e with
   | none=>simp only [he] at h
   | some ei =>
   simp only [he] at h
   have hE:=hC e ei he
   have har:=hT.array hk
   split at h
   ·rename_i b o
    unfold IdxN at h
    obtain ⟨m,hm,hlt,h⟩:=h
    subst hm
    cases hx with
    | ptr _ _ r cs hL hm=>exact ⟨_,_,run_indexAt_ar har hE _ kk hlt w,h,by rw [Addr.add_lit]; exact .ptr b _ r cs hL hm⟩
    | ptrX _ _ a hL=>exact ⟨_,_,run_indexAt_ar har hE _ kk hlt w,h,.ptrX _ _ _ hL⟩
   ·rename_i b gen i o
    unfold IdxN at h
    obtain ⟨m,hm,hlt,h⟩:=h
    subst hm
    cases hx with
    | eptr _ _ _ _ sz r els hL hm=>exact ⟨_,_,run_indexAt_ar har hE _ kk hlt w,h,by rw [Addr.add_lit,Nat.add_assoc]; exact .eptr b gen i _ sz r els hL hm⟩
    | eptrO _ _ gen' sz _ _ els a hL hg=>exact ⟨_,_,run_indexAt_ar har hE _ kk hlt w,h,.eptrO _ _ _ _ _ _ _ _ hL hg⟩
    | eptrX _ _ _ _ a hL=>exact ⟨_,_,run_indexAt_ar har hE _ kk hlt w,h,.eptrX _ _ _ _ _ hL⟩
   ·rename_i cs
    cases hle : Nat.beq cs.length (len * ei.sz) with
    | false=>simp only [hle,cond_false] at h
    | true =>
    simp only [hle,cond_true] at h
    have hlen:=Nat.eq_of_beq_eq_true hle
    unfold IdxN at h
    obtain ⟨m,hm,hlt,h⟩:=h
    subst hm
    cases hx with
    | d _ _ hd =>
     have hd':=hd
     cases hd with
     | rptr _ ad vs hcell hI hrec=>exact ⟨_,_,run_indexAt_ar har hE _ kk hlt w,h,.d _ _ (hd'.drop _ (by rw [hlen]; exact Nat.mul_le_mul_right _ (Nat.le_of_lt hlt)))⟩
   ·exact h.elim
  ·exact h.elim
 ·exact h.elim
def cut (ti : TI) (cs : List V) (off : Nat) : Option V:=bif Nat.ble (off + ti.sz) cs.length then some (mk ti.k.isAgg ((cs.drop off).take ti.sz)) else none
theorem part_ok {t : TypeId} {ti : TI} (hT : TIok C.P t ti) {cs : List V} {vs : Array Value} (hx : RV g w L (.agg cs) (.agg vs)) {off : Nat} {X : V} (h : cut ti cs off = some X) :
  ∃ r,(part t vs off).run C.P w = .ok r w ∧ RV g w L X r:=by
 unfold cut at h
 cases hle : Nat.ble (off + ti.sz) cs.length with
 | false=>rw [hle] at h; cases h
 | true =>
 rw [hle] at h
 simp only [cond_true,Option.some.injEq] at h
 subst h
 have hle':=Nat.le_of_ble_eq_true hle
 cases hx with
 | agg _ _ hlen hone hrec =>
  have hget : ∀ (j : Nat) (u : Value),((vs.toList.drop off).take ti.sz)[j]? = some u → vs[off + j]? = some u ∧ j < ti.sz:=by
   intro j u hu
   rw [List.getElem?_take] at hu
   split at hu
   ·exact ⟨by simpa using hu,by assumption⟩
   ·cases hu
  have hmk : ∀ v,((ti.k.isAgg = true ∧ v = .agg ((vs.toList.drop off).take ti.sz).toArray) ∨ (ti.k.isAgg = false ∧ (vs.toList.drop off).take ti.sz = [v])) → RV g w L (mk ti.k.isAgg ((cs.drop off).take ti.sz)) v :=
   fun v hv=>mk_ok (by simp; omega) (fun j u hu=>hone _ u (hget j u hu).1) (fun j y u hy hu=>by
    rw [List.getElem?_take,if_pos (hget j u hu).2] at hy
    exact hrec (off + j) y u (by simpa using hy) (hget j u hu).1) hv
  cases hA : ti.k.isAgg with
  | true =>
   refine ⟨.agg (vs.extract off (off + ti.sz)),by simp [part,hT.run_isAgg,hA,hT.run_sizeOf],?_⟩
   have:=hmk (.agg (vs.extract off (off + ti.sz))) (.inl ⟨hA,by congr 1; apply Array.ext'; simp [List.extract_eq_take_drop]⟩)
   rwa [hA] at this
  | false =>
   have h1:=hT.one hA
   have hv : vs[off]? = some vs[off]:=Array.getElem?_eq_getElem (by omega)
   refine ⟨vs[off],by simp [part,hT.run_isAgg,hA,hv],?_⟩
   have:=hmk vs[off] (.inr ⟨hA,by
    rw [h1]
    rw [List.drop_eq_getElem_cons (by simp; omega)]
    simp⟩)
   rwa [hA] at this
end
end Go.Tidy
namespace Go.Tidy
section
variable {C : Ctx} {g : Gh} {w : World} {L : List Blk}
def vEq (C : Ctx) : Nat → TypeId → V → V → Option Bool
 | 0,_,_,_=>none
 | f + 1,t,x,y =>
  match C.tt t with
  | none=>none
  | some ti =>
   match ti.k,x,y with
   | .int _,.d (.int k a),.d (.int k' b)=>bif decide (k = k') then some (decide (a = b)) else none
   | .bool,.d (.bool a),.d (.bool b)=>some (a == b)
   | .str,.d (.str a),.d (.str b)=>some (a.toList == b.toList)
   | .struct fs,.agg xs,.agg ys=>bif ti.eqok then fs.foldr (fun p acc =>
     match C.tt p.2 with
     | none=>none
     | some fi=>match cut fi xs p.1,cut fi ys p.1 with
      | some x',some y'=>match vEq C f p.2 x' y',acc with
       | some b,some c=>some (b && c)
       | _,_=>none
      | _,_=>none) (some true) else none
   | _,_,_=>none
theorem fieldsOf_eq {P : Program} {t : TypeId} {fields : Array Field} (h : P.underlying t = some (.struct fields)) : P.fieldsOf t = fields:=by simp [Program.fieldsOf,h]
theorem vEq_ok (hC : C.OK) : ∀ (f d : Nat) (t : TypeId) (x y : V) (v u : Value) (b : Bool),f ≤ d → RV g w L x v → RV g w L y u → vEq C f t x y = some b → (Op.equalIn d t v u).run C.P w = .ok b w
 | 0,d,t,x,y,v,u,b,_,_,_,h=>by simp [vEq] at h
 | f + 1,0,t,x,y,v,u,b,hd,_,_,h=>by omega
 | f + 1,d + 1,t,x,y,v,u,b,hd,hx,hy,h=>by
  unfold vEq at h
  cases ht : C.tt t with
  | none=>simp [ht] at h
  | some ti =>
  simp only [ht] at h
  have hT:=hC t ti ht
  split at h
  ·rename_i k0 k a k' b' hk
   cases hd' : decide (k = k') with
   | false=>simp [hd'] at h
   | true =>
   simp only [hd',cond_true,Option.some.injEq] at h
   have hkk:=of_decide_eq_true hd'
   subst hkk h
   cases hx with | d _ _ hx=>cases hx; cases hy with | d _ _ hy =>
   cases hy
   rw [run_equalIn_int w d t k k0 a b' (hT.intK hk)]
   congr 1
  ·rename_i a b' hk
   simp only [Option.some.injEq] at h
   subst h
   cases hx with | d _ _ hx=>cases hx; cases hy with | d _ _ hy =>
   cases hy
   exact run_equalIn_bool' w d t a b' (hT.boolK hk)
  ·rename_i a b' hk
   simp only [Option.some.injEq] at h
   subst h
   cases hx with | d _ _ hx=>cases hx; cases hy with | d _ _ hy =>
   cases hy
   exact run_equalIn_string w d t a b' (hT.strK hk)
  ·rename_i fs xs ys hk
   cases he : ti.eqok with
   | false=>simp [he] at h
   | true =>
   simp only [he,cond_true] at h
   obtain ⟨fields,hu,hfs,hnames⟩:=hT.struct hk
   cases hx with | agg _ vs hl ho hr=>cases hy with | agg _ us hl' ho' hr' =>
   rw [run_equalIn_struct w d t vs us (by rw [fieldsOf_eq hu]; exact hu) (hT.eqok he).2,fieldsOf_eq hu]
   subst hfs
   clear hu hk
   have hx : RV g w L (.agg xs) (.agg vs):=.agg xs vs hl ho hr
   have hy : RV g w L (.agg ys) (.agg us):=.agg ys us hl' ho' hr'
   generalize fields.toList = fl at h hnames
   induction fl generalizing b with
   | nil=>simp at h; subst h; simp [Op.eqFields]
   | cons fld rest ih =>
    simp only [List.map_cons,List.foldr_cons] at h
    simp only [List.all_cons,Bool.and_eq_true] at hnames
    cases hf : C.tt fld.type with
    | none=>simp [hf] at h
    | some fi =>
    simp only [hf] at h
    have hF:=hC _ fi hf
    cases hcx : cut fi xs fld.offset with
    | none=>simp [hcx] at h
    | some x' =>
    cases hcy : cut fi ys fld.offset with
    | none=>simp [hcx,hcy] at h
    | some y' =>
    simp only [hcx,hcy] at h
    cases hv : vEq C f fld.type x' y' with
    | none=>simp [hv] at h
    | some b1 =>
    simp only [hv] at h
    split at h
    ·rename_i b2 c e1 e2
     simp only [Option.some.injEq] at e1 h
     subst e1 h
     obtain ⟨r1,hr1,hR1⟩:=part_ok hF hx hcx
     obtain ⟨r2,hr2,hR2⟩:=part_ok hF hy hcy
     have h3:=vEq_ok hC f d fld.type x' y' r1 r2 b1 (by omega) hR1 hR2 hv
     have hn : fld.name ≠ "_" := by simpa using hnames.1
     simp only [Op.eqFields,Sem.run_bind,hr1,hr2,h3,Result.andThen_ok,hn,ne_eq,not_false_eq_true,if_true,Sem.run_ite]
     cases b1 with
     | false=>simp
     | true =>
      simp only [Bool.not_true,Bool.false_eq_true,if_false,Bool.true_and]
      exact ih c e2 hnames.2
    ·simp at h
  ·simp at h
@[irreducible] def andI (k : IntKind) (x y : Int) : Int:=k.wrap (((BitVec.ofInt k.bits x &&& BitVec.ofInt k.bits y).toNat : Nat) : Int)
def intBin (op : BinOp) (k : IntKind) (x y : Int) (c : V → Prop) : Prop :=
 match op with
 | .add=>c (.d (.int k (k.wrap (x + y))))
 | .sub=>c (.d (.int k (k.wrap (x - y))))
 | .mul=>c (.d (.int k (k.wrap (x * y))))
 | .eql=>c (.d (.bool (decide (x = y))))
 | .neq=>c (.d (.bool (!decide (x = y))))
 | .lss=>c (.d (.bool (decide (x < y))))
 | .leq=>c (.d (.bool (decide (x ≤ y))))
 | .gtr=>c (.d (.bool (decide (y < x))))
 | .geq=>c (.d (.bool (decide (y ≤ x))))
 | .quo=>Need (y ≠ 0) (c (.d (.int k (k.wrap (x.tdiv y)))))
 | .rem=>Need (y ≠ 0) (c (.d (.int k (x.tmod y))))
 | .and=>c (.d (.int k (andI k x y)))
 | _=>False
def strBin (op : BinOp) (x y : ByteArray) (c : V → Prop) : Prop :=
 match op with
 | .eql=>c (.d (.bool (x.toList == y.toList)))
 | .neq=>c (.d (.bool (!(x.toList == y.toList))))
 | .lss=>c (.d (.bool (Op.bytesLess x.toList y.toList)))
 | .leq=>c (.d (.bool (Op.bytesLess x.toList y.toList || x.toList == y.toList)))
 | .gtr=>c (.d (.bool (!(Op.bytesLess x.toList y.toList || x.toList == y.toList))))
 | .geq=>c (.d (.bool (!Op.bytesLess x.toList y.toList)))
 | _=>False
def vNilI (C : Ctx) (op : BinOp) (t : TypeId) (b : Bool) (c : V → Prop) : Prop :=
 match C.tt t with
 | some ti=>match ti.k with
  | .iface true=>match op with
   | .eql=>c (.d (.bool b))
   | .neq=>c (.d (.bool (!b)))
   | _=>False
  | _=>False
 | none=>False
theorem vNilI_ok (hC : C.OK) {op : BinOp} {t : TypeId} {v : Value} {b : Bool} (hv : (v = .nilIface ∧ b = true) ∨ ∃ t' u,v = .iface t' u ∧ b = false) (ox oy : Operand) {c : V → Prop} (h : vNilI C op t b c) :
  ∃ r X,(do eqGuard op t ox oy v .nilIface; binOp op t v .nilIface : Sem Value).run C.P w = .ok r w ∧ c X ∧ RV g w L X r:=by
 unfold vNilI at h
 cases ht : C.tt t with
 | none=>simp [ht] at h
 | some ti =>
 simp only [ht] at h
 have hT:=hC t ti ht
 split at h
 ·rename_i hk
  obtain ⟨u,hu,hku⟩:=hT.und
  rw [hk] at hku
  have hms : ∃ ms,u = .interface ms ∧ ms.isEmpty = true:=by
   cases u <;> simp [kindOK] at hku
   exact ⟨_,rfl,by simpa using hku⟩
  obtain ⟨ms,rfl,hms⟩:=hms
  have key0 : ∀ d : Nat,(Op.equalIn (d + 1) t v .nilIface).run C.P w = .ok b w:=by
   intro d
   rw [Op.equalIn]
   rcases hv with ⟨rfl,rfl⟩ | ⟨t',q,rfl,rfl⟩ <;> simp [run_underlying hu]
  have key : (Op.equal t v .nilIface).run C.P w = .ok b w:=key0 9999
  have gd0 : ∀ d : Nat,(Op.eqGuardIn (d + 1) t .nilIface .nilIface).run C.P w = .ok false w:=by
   intro d
   rw [Op.eqGuardIn]
   simp [run_underlying hu,hms]
  have gd : (Op.eqGuardIn Op.maxDepth t .nilIface .nilIface).run C.P w = .ok false w:=gd0 9999
  have hG : ∀ op,(eqGuard op t ox oy v .nilIface).run C.P w = .ok () w:=fun op=>by
   rcases hv with ⟨rfl,rfl⟩ | ⟨t',q,rfl,rfl⟩
   ·unfold eqGuard
    cases op <;> simp [gd]
    all_goals (split <;> simp [gd])
   ·unfold eqGuard
    cases op <;> simp
  have hB : (binOp .eql t v .nilIface).run C.P w = .ok (.bool b) w ∧ (binOp .neq t v .nilIface).run C.P w = .ok (.bool (!b)) w:=by
   rcases hv with ⟨rfl,rfl⟩ | ⟨t',q,rfl,rfl⟩ <;> exact ⟨by simp [binOp,key],by simp [binOp,key]⟩
  split at h
  ·exact ⟨_,_,by simp only [Sem.run_bind,hG,Result.andThen_ok]; exact hB.1,h,.d _ _ (.bool _)⟩
  ·exact ⟨_,_,by simp only [Sem.run_bind,hG,Result.andThen_ok]; exact hB.2,h,.d _ _ (.bool _)⟩
  ·exact h.elim
 ·exact h.elim
def vBin (C : Ctx) (op : BinOp) (t : TypeId) (x y : V) (c : V → Prop) : Prop :=
 match x,y with
 | .d (.int k a),.d (.int k' b)=>bif decide (k = k') then intBin op k a b c else False
 | .d (.str a),.d (.str b)=>strBin op a b c
 | .d (.bool _),.d (.bool _)=>match op with
  | .eql=>match vEq C 8 t x y with | some b=>c (.d (.bool b)) | none=>False
  | .neq=>match vEq C 8 t x y with | some b=>c (.d (.bool (!b))) | none=>False
  | _=>False
 | .agg _,.agg _=>match C.tt t with
  | some ti=>bif ti.eqok then match op with
   | .eql=>match vEq C 8 t x y with | some b=>c (.d (.bool b)) | none=>False
   | .neq=>match vEq C 8 t x y with | some b=>c (.d (.bool (!b))) | none=>False
   | _=>False
   else False
  | none=>False
 | .d .niliface,.d .niliface=>vNilI C op t true c
 | .d (.iface _ _ _),.d .niliface=>vNilI C op t false c
 | .iface _ _,.d .niliface=>vNilI C op t false c
 | _,_=>False
theorem vBin_ok (hC : C.OK) {op : BinOp} {t : TypeId} {x y : V} {v u : Value} (hx : RV g w L x v) (hy : RV g w L y u) (ox oy : Operand) {c : V → Prop} (h : vBin C op t x y c) :
  ∃ r X,(do eqGuard op t ox oy v u; binOp op t v u : Sem Value).run C.P w = .ok r w ∧ c X ∧ RV g w L X r:=by
 have hd : ∀ {x : D} {v : Value},RD g.I w x v → RV g w L (.d x) v:=fun h=>.d _ _ h
 unfold vBin at h
 split at h
 ·rename_i k a k' b
  cases hk : decide (k = k') with
  | false=>simp [hk] at h
  | true =>
  simp only [hk,cond_true] at h
  have hkk:=of_decide_eq_true hk
  subst hkk
  cases hx with | d _ _ hx=>cases hx; cases hy with | d _ _ hy =>
  cases hy
  simp only [eqGuard_at_int,Sem.run_bind,Sem.run_pure,Result.andThen_ok]
  unfold intBin at h
  cases op
  case and =>
   have hb : Sem.run C.P (Op.intBits .and k a b) w = .ok (.int k (andI k a b)) w:=by unfold Op.intBits andI; rfl
   exact ⟨_,_,by simp [binOp,hb],h,hd (.int _ _)⟩
  all_goals simp only at h
  all_goals first
   | exact h.elim
   | exact ⟨_,_,by simp [binOp,Op.intArith],h,hd (.int _ _)⟩
   | exact ⟨_,_,by simp [binOp,Op.intCmp,bne] <;> rfl,h,hd (.bool _)⟩
   | (obtain ⟨h0, h⟩ := h.out
      exact ⟨_,_,by simp [binOp,Op.intDiv,h0],h,hd (.int _ _)⟩)
 ·rename_i a b
  cases hx with | d _ _ hx=>cases hx; cases hy with | d _ _ hy =>
  cases hy
  simp only [eqGuard_at_string,Sem.run_bind,Sem.run_pure,Result.andThen_ok]
  unfold strBin at h
  cases op <;> simp only at h <;> first
   | exact h.elim
   | exact ⟨_,_,by simp [binOp,Op.stringOp],h,hd (.bool _)⟩
 ·rename_i a b
  have hx':=hx; have hy':=hy
  cases hx with | d _ _ hx=>cases hx; cases hy with | d _ _ hy =>
  cases hy
  simp only [eqGuard_at_bool,Sem.run_bind,Sem.run_pure,Result.andThen_ok]
  split at h
  ·split at h
   ·rename_i b' hb
    have:=vEq_ok (L:=L) hC 8 Op.maxDepth t _ _ _ _ b' (by decide) hx' hy' hb
    exact ⟨_,_,by simp [binOp,Op.equal,this],h,hd (.bool _)⟩
   ·exact h.elim
  ·split at h
   ·rename_i b' hb
    have:=vEq_ok (L:=L) hC 8 Op.maxDepth t _ _ _ _ b' (by decide) hx' hy' hb
    exact ⟨_,_,by simp [binOp,Op.equal,this],h,hd (.bool _)⟩
   ·exact h.elim
  ·exact h.elim
 ·rename_i xs ys
  cases ht : C.tt t with
  | none=>simp [ht] at h
  | some ti =>
  simp only [ht] at h
  cases he : ti.eqok with
  | false=>simp [he] at h
  | true =>
  simp only [he,cond_true] at h
  have hx':=hx; have hy':=hy
  cases hx with | agg _ vs hl ho hr=>cases hy with | agg _ us hl' ho' hr' =>
  have hG : ∀ op,(eqGuard op t ox oy (.agg vs) (.agg us)).run C.P w = .ok () w:=fun op=>by
   cases op <;> simp [eqGuard,((hC t ti ht).eqok he).1]
  simp only [Sem.run_bind,hG,Result.andThen_ok]
  split at h
  ·split at h
   ·rename_i b' hb
    have:=vEq_ok (L:=L) hC 8 Op.maxDepth t _ _ _ _ b' (by decide) hx' hy' hb
    exact ⟨_,_,by simp [binOp,Op.equal,this],h,hd (.bool _)⟩
   ·exact h.elim
  ·split at h
   ·rename_i b' hb
    have:=vEq_ok (L:=L) hC 8 Op.maxDepth t _ _ _ _ b' (by decide) hx' hy' hb
    exact ⟨_,_,by simp [binOp,Op.equal,this],h,hd (.bool _)⟩
   ·exact h.elim
  ·exact h.elim
 ·cases hx with | d _ _ hx=>cases hx; cases hy with | d _ _ hy =>
  cases hy
  exact vNilI_ok hC (.inl ⟨rfl,rfl⟩) ox oy h
 ·cases hy with | d _ _ hy =>
  cases hy
  cases hx with | d _ _ hx =>
  cases hx with
  | ifaceA=>exact vNilI_ok hC (.inr ⟨_,_,rfl,rfl⟩) ox oy h
  | ifaceL=>exact vNilI_ok hC (.inr ⟨_,_,rfl,rfl⟩) ox oy h
 ·cases hy with | d _ _ hy =>
  cases hy
  cases hx with | iface=>exact vNilI_ok hC (.inr ⟨_,_,rfl,rfl⟩) ox oy h
 ·exact h.elim
def vUn (op : UnOp) (x : V) (c : V → Prop) : Prop :=
 match op,x with
 | .neg,.d (.int k n)=>c (.d (.int k (k.wrap (0 - n))))
 | .not,.d (.bool b)=>c (.d (.bool (!b)))
 | .not,.tt=>c .ff
 | .not,.ff=>c .tt
 | _,_=>False
theorem vUn_ok {op : UnOp} {x : V} {v : Value} (hx : RV g w L x v) {c : V → Prop} (h : vUn op x c) : ∃ r X,(Op.unary op v).run C.P w = .ok r w ∧ c X ∧ RV g w L X r:=by
 unfold vUn at h
 split at h
 ·cases hx with | d _ _ hx=>cases hx; exact ⟨_,_,by simp [Op.unary,Op.intArith],h,.d _ _ (.int _ _)⟩
 ·cases hx with | d _ _ hx=>cases hx; exact ⟨_,_,by simp [Op.unary],h,.d _ _ (.bool _)⟩
 ·cases hx; exact ⟨.bool false,_,by simp [Op.unary],h,.ff⟩
 ·cases hx; exact ⟨.bool true,_,by simp [Op.unary],h,.tt⟩
 ·exact h.elim
def vConv (C : Ctx) (s t : TypeId) (x : V) (c : V → Prop) : Prop :=
 match x with
 | .d (.int _ n)=>match C.tt s with
  | some _=>match C.tt t with
   | some ti=>match ti.k with
    | .int k=>c (.d (.int k (k.wrap n)))
    | _=>False
   | none=>False
  | none=>False
 | _=>False
theorem vConv_ok (hC : C.OK) {s t : TypeId} {x : V} {v : Value} (hx : RV g w L x v) {c : V → Prop} (h : vConv C s t x c) : ∃ r X,(convert s t v).run C.P w = .ok r w ∧ c X ∧ RV g w L X r:=by
 unfold vConv at h
 split at h
 ·split at h
  ·rename_i si hs
   split at h
   ·rename_i ti ht
    split at h
    ·rename_i k hk
     obtain ⟨u,hu,_⟩:=(hC s si hs).und
     have ht':=(hC t ti ht).intK hk
     cases hx with | d _ _ hx =>
     cases hx
     exact ⟨_,_,by simp [convert,run_underlying hu,run_underlying ht',Conv.intToInt],h,.d _ _ (.int _ _)⟩
    ·exact h.elim
   ·exact h.elim
  ·exact h.elim
 ·exact h.elim
theorem foldl_set_list (vs : List Value) : ∀ (off i : Nat) (cells : Array Value),off + i + vs.length ≤ cells.size →
  ((vs.zipIdx i).foldl (fun cs (c,j)=>cs.setIfInBounds (off + j) c) cells).toList = cells.toList.take (off + i) ++ vs ++ cells.toList.drop (off + i + vs.length):=by
 induction vs with
 | nil=>intro off i cells _; simp
 | cons v rest ih =>
  intro off i cells h
  simp only [List.length_cons] at h
  rw [List.zipIdx_cons,List.foldl_cons,ih off (i + 1) _ (by simp; omega)]
  simp only [Array.toList_setIfInBounds]
  have e1 : off + (i + 1) = off + i + 1:=by omega
  rw [e1]
  have h2 : off + i < cells.toList.length:=by simp; omega
  rw [List.take_add_one,List.getElem?_set_self h2,List.take_set_of_le (Nat.le_refl _),List.drop_set_of_lt (by omega)]
  simp only [Option.toList_some,List.append_assoc,List.cons_append,List.nil_append,List.length_cons]
  congr 4; omega
theorem fill_step {cells : Array Value} {v : Value} {off : Nat} (h : off + v.cells.size ≤ cells.size) :
  (v.cells.zipIdx.foldl (fun cs (c,j)=>cs.setIfInBounds (off + j) c) cells).toList = cells.toList.take off ++ v.cells.toList ++ cells.toList.drop (off + v.cells.toList.length):=by
 have:=foldl_set_list v.cells.toList off 0 cells (by simpa using h)
 simp only [Nat.add_zero] at this
 rw [← this]
 rw [← Array.foldl_toList]
 simp
def RL (g : Gh) (w : World) (L : List Blk) (cs : List V) (vs : List Value) : Prop :=
 cs.length = vs.length ∧ (∀ (j : Nat) (u : Value),vs[j]? = some u → u.oneCell' = true) ∧ ∀ (j : Nat) (y : V) (u : Value),cs[j]? = some y → vs[j]? = some u → RV g w L y u
theorem RL.splice {cs xs : List V} {vs us : List Value} {off : Nat} (h : RL g w L cs vs) (hx : RL g w L xs us) (hle : off + xs.length ≤ cs.length) :
  RL g w L (setCells cs off xs) (vs.take off ++ us ++ vs.drop (off + us.length)):=by
 have h1:=h.1; have h2:=hx.1
 refine ⟨by rw [setCells_length hle]; simp; omega,fun j u hu=>?_,fun j y u hy hu=>?_⟩
 ·rw [splice_get (by omega)] at hu
  split at hu
  ·exact h.2.1 j u hu
  ·split at hu
   ·exact hx.2.1 _ u hu
   ·exact h.2.1 j u hu
 ·rw [setCells_eq] at hy
  rw [splice_get hle] at hy
  rw [splice_get (by omega)] at hu
  split at hu
  ·rename_i c1; rw [if_pos c1] at hy; exact h.2.2 j y u hy hu
  ·rename_i c1; rw [if_neg c1] at hy
   split at hu
   ·rename_i c2; rw [if_pos (by omega)] at hy; exact hx.2.2 _ y u hy hu
   ·rename_i c2; rw [if_neg (by omega)] at hy; exact h.2.2 j y u hy hu
theorem RV.rl {x : V} {v : Value} (h : RV g w L x v) (hs : x.stor = true) : RL g w L (cellsOf x) v.cells.toList:=by
 obtain ⟨h1,h2,h3⟩:=h.cells hs
 exact ⟨by simpa using h1,fun j u hu=>h2 j u (by simpa using hu),fun j y u hy hu=>h3 j y u hy (by simpa using hu)⟩
def vFill (place : Nat → Option (Nat × Nat)) : List (Nat × V) → List V → Option (List V)
 | [],cs=>some cs
 | (i,x) :: r,cs=>match place i with
  | none=>none
  | some (off,sz)=>bif x.stor && Nat.beq (cellsOf x).length sz && Nat.ble (off + sz) cs.length then vFill place r (setCells cs off (cellsOf x)) else none
theorem vFill_ok {place : Nat → Option (Nat × Nat)} : ∀ (ps : List (Nat × V)) (qs : List (Nat × Value)) (cs : List V) (vs : Array Value) (cs' : List V),
  (ps.map (·.1) = qs.map (·.1)) → (∀ (j : Nat) (p : Nat × V) (q : Nat × Value),ps[j]? = some p → qs[j]? = some q → RV g w L p.2 q.2) → RL g w L cs vs.toList → vFill place ps cs = some cs' →
  ∃ vs',Instr.fill place vs qs = some vs' ∧ RL g w L cs' vs'.toList
 | [],[],cs,vs,cs',_,_,h,hf=>by simp [vFill] at hf; subst hf; exact ⟨vs,rfl,h⟩
 | [],q :: qs,_,_,_,h,_,_,_=>by simp at h
 | p :: ps,[],_,_,_,h,_,_,_=>by simp at h
 | (i,x) :: ps,(i',v) :: qs,cs,vs,cs',hi,hr,h,hf=>by
  simp only [List.map_cons,List.cons.injEq] at hi
  obtain ⟨rfl,hi⟩:=hi
  unfold vFill at hf
  cases hp : place i with
  | none=>simp [hp] at hf
  | some q =>
  obtain ⟨off,sz⟩:=q
  simp only [hp] at hf
  cases hc : (x.stor && Nat.beq (cellsOf x).length sz && Nat.ble (off + sz) cs.length) with
  | false=>simp [hc] at hf
  | true =>
  simp only [hc,cond_true] at hf
  rw [Bool.and_eq_true,Bool.and_eq_true] at hc
  obtain ⟨⟨c1,c2⟩,c3⟩:=hc
  have c2:=Nat.eq_of_beq_eq_true c2
  have c3:=Nat.le_of_ble_eq_true c3
  have hxv:=hr 0 (i,x) (i,v) rfl rfl
  have hrl:=hxv.rl c1
  have hlen:=hrl.1
  have hl:=h.1
  simp at hlen hl
  have hsz : v.cells.size = sz:=by omega
  have hstep:=fill_step (cells:=vs) (v:=v) (off:=off) (by omega)
  obtain ⟨vs',h1,h2⟩:=vFill_ok ps qs (setCells cs off (cellsOf x)) (v.cells.zipIdx.foldl (fun cs (c,j)=>cs.setIfInBounds (off + j) c) vs) cs' hi
   (fun j p q hp hq=>hr (j + 1) p q (by simpa using hp) (by simpa using hq)) (by rw [hstep]; exact h.splice hrl (by omega)) hf
  refine ⟨vs',?_,h2⟩
  simp only [Instr.fill,hp,hsz]
  rw [if_neg (by simp; omega)]
  exact h1
theorem zero_RL {ti : TI} (h : zokB ti = true) : RL g w L (zeroCells ti) ti.zv.cells.toList:=by
 obtain ⟨h1,h2,h3⟩:=zeroCells_ok g w L h
 exact ⟨by simpa using h1,fun j u hu=>h2 j u (by simpa using hu),fun j y u hy hu=>h3 j y u hy (by simpa using hu)⟩
theorem RL.agg {cs : List V} {vs : Array Value} (h : RL g w L cs vs.toList) : RV g w L (.agg cs) (.agg vs) :=
 .agg cs vs (by simpa using h.1) (fun j u hu=>h.2.1 j u (by simpa using hu)) (fun j y u hy hu=>h.2.2 j y u hy (by simpa using hu))
def placeOf (C : Ctx) (fs : List (Nat × TypeId)) (i : Nat) : Option (Nat × Nat) :=
 match fs[i]? with
 | some (off,ft)=>match C.tt ft with | some fi=>some (off,fi.sz) | none=>none
 | none=>none
def vBuild (C : Ctx) (t : TypeId) (ps : List (Nat × V)) (c : V → Prop) : Prop :=
 match C.tt t with
 | some ti=>bif zokB ti then match ti.k with
  | .struct fs=>bif fs.all (fun p=>(C.tt p.2).isSome) then match vFill (placeOf C fs) ps (zeroCells ti) with | some cs=>c (.agg cs) | none=>False else False
  | .arr _ e=>match C.tt e with
   | some ei=>match vFill (fun i=>some (i * ei.sz,ei.sz)) ps (zeroCells ti) with | some cs=>c (.agg cs) | none=>False
   | none=>False
  | _=>False
  else False
 | none=>False
theorem run_places (hC : C.OK) (fl : List Field) (hsome : (fl.map (fun f=>(f.offset,f.type))).all (fun p=>(C.tt p.2).isSome) = true) :
  ∃ places : List (Nat × Nat),(fl.mapM (fun f=>Functor.map (Prod.mk f.offset) (sizeOf f.type) : Field → Sem (Nat × Nat))).run C.P w = .ok places w ∧ ∀ i,places[i]? = placeOf C (fl.map (fun f=>(f.offset,f.type))) i:=by
 induction fl with
 | nil=>exact ⟨[],by simp,fun i=>by simp [placeOf]⟩
 | cons f rest ih =>
  simp only [List.map_cons,List.all_cons,Bool.and_eq_true] at hsome
  obtain ⟨places,h1,h2⟩:=ih hsome.2
  cases hf : C.tt f.type with
  | none=>rw [hf] at hsome; simp at hsome
  | some fi =>
  refine ⟨(f.offset,fi.sz) :: places,by simp [List.mapM_cons,(hC _ fi hf).run_sizeOf,h1],fun i=>?_⟩
  cases i with
  | zero=>simp [placeOf,hf]
  | succ i =>
   have:=h2 i
   simp only [List.getElem?_cons_succ,this]
   simp [placeOf]
theorem vBuild_ok (hC : C.OK) {t : TypeId} {ps : List (Nat × V)} {qs : Array (Nat × Value)} (hi : ps.map (·.1) = qs.toList.map (·.1))
  (hr : ∀ (j : Nat) (p : Nat × V) (q : Nat × Value),ps[j]? = some p → qs.toList[j]? = some q → RV g w L p.2 q.2) {c : V → Prop} (h : vBuild C t ps c) :
  ∃ r X,(Instr.build t qs).run C.P w = .ok r w ∧ c X ∧ RV g w L X r:=by
 unfold vBuild at h
 cases ht : C.tt t with
 | none=>simp [ht] at h
 | some ti =>
 simp only [ht] at h
 have hT:=hC t ti ht
 cases hz : zokB ti with
 | false=>simp [hz] at h
 | true =>
 simp only [hz,cond_true] at h
 split at h
 ·rename_i fs hk
  cases hs : fs.all (fun p=>(C.tt p.2).isSome) with
  | false=>simp [hs] at h
  | true =>
  simp only [hs,cond_true] at h
  split at h
  ·rename_i cs hf
   obtain ⟨fields,hu,hfs,_⟩:=hT.struct hk
   obtain ⟨vs',h1,h2⟩:=vFill_ok ps qs.toList (zeroCells ti) ti.zv.cells cs hi hr (zero_RL hz) hf
   obtain ⟨places,hp1,hp2⟩:=run_places (w:=w) hC fields.toList (by rw [hfs]; exact hs)
   rw [hfs] at hp2
   have hp : (fun i=>places.toArray[i]?) = placeOf C fs:=funext fun i=>by simpa using hp2 i
   have hm : (Array.mapM (fun f=>Functor.map (Prod.mk f.offset) (sizeOf f.type) : Field → Sem (Nat × Nat)) fields).run C.P w = .ok places.toArray w:=by
    rw [Array.mapM_eq_mapM_toList]
    simp [hp1]
   refine ⟨_,_,?_,h,h2.agg⟩
   have hp' : (fun i=>places[i]?) = placeOf C fs:=by rw [← hp]; funext i; simp
   simp [Instr.build,hT.run_zero,run_underlying hu,hm,hp',h1]
  ·exact h.elim
 ·rename_i n e hk
  cases he : C.tt e with
  | none=>simp [he] at h
  | some ei =>
  simp only [he] at h
  split at h
  ·rename_i cs hf
   obtain ⟨vs',h1,h2⟩:=vFill_ok ps qs.toList (zeroCells ti) ti.zv.cells cs hi hr (zero_RL hz) hf
   refine ⟨_,_,?_,h,h2.agg⟩
   simp [Instr.build,hT.run_zero,run_underlying (hT.array hk),(hC e ei he).run_sizeOf,h1]
  ·exact h.elim
 ·exact h.elim
end
end Go.Tidy
/-
 The base layer: slices of the activation's own.
-/
namespace Go.Tidy
section
variable {C : Ctx} {g : Gh} {w : World} {L : List Blk}
theorem flatten_get {α : Type} {sz : Nat} : ∀ {els : List (List α)},(∀ e ∈ els,e.length = sz) → ∀ {i j : Nat},j < sz → els.flatten[i * sz + j]? = (els[i]?).bind (fun e=>e[j]?)
 | [],_,i,j,_=>by simp
 | e :: r,h,i,j,hj=>by
  have he:=h e (by simp)
  rw [List.flatten_cons]
  cases i with
  | zero=>simp; rw [List.getElem?_append_left (by omega)]
  | succ i =>
   rw [List.getElem?_append_right (by rw [Nat.succ_mul]; omega)]
   have e1 : (i + 1) * sz + j - e.length = i * sz + j:=by rw [Nat.succ_mul]; omega
   rw [e1,flatten_get (fun x hx=>h x (by simp [hx])) hj]
   simp
theorem flatten_len {α : Type} {sz : Nat} : ∀ {els : List (List α)},(∀ e ∈ els,e.length = sz) → els.flatten.length = els.length * sz
 | [],_=>by simp
 | e :: r,h=>by
  rw [List.flatten_cons,List.length_append,flatten_len (fun x hx=>h x (by simp [hx])),h e (by simp),List.length_cons,Nat.succ_mul]; omega
theorem RL.append {cs xs : List V} {vs us : List Value} (h : RL g w L cs vs) (hx : RL g w L xs us) : RL g w L (cs ++ xs) (vs ++ us):=by
 have h1:=h.1
 refine ⟨by rw [List.length_append,List.length_append,h.1,hx.1],fun j u hu=>?_,fun j y u hy hu=>?_⟩
 ·rcases Nat.lt_or_ge j vs.length with hj | hj
  ·rw [List.getElem?_append_left hj] at hu; exact h.2.1 j u hu
  ·rw [List.getElem?_append_right hj] at hu; exact hx.2.1 _ u hu
 ·rcases Nat.lt_or_ge j vs.length with hj | hj
  ·rw [List.getElem?_append_left hj] at hu; rw [List.getElem?_append_left (by omega)] at hy; exact h.2.2 j y u hy hu
  ·rw [List.getElem?_append_right hj] at hu; rw [List.getElem?_append_right (by omega),h1] at hy; exact hx.2.2 _ y u hy hu
theorem RL.nil : RL g w L [] []:=⟨rfl,fun j u h=>by simp at h,fun j y u h _=>by simp at h⟩
theorem RL.mono {g' : Gh} {w' : World} {L' : List Blk} {cs : List V} {vs : List Value} (hm : ∀ (x : V) (v : Value),RV g w L x v → RV g' w' L' x v) (h : RL g w L cs vs) : RL g' w' L' cs vs :=
 ⟨h.1,h.2.1,fun j y u hy hu=>hm _ _ (h.2.2 j y u hy hu)⟩
theorem newRow_ext (hg : Good g w L) {w' : World} (hE : Ext w w') (T : TypeId) {sz : Nat} (hsz : 0 < sz) {els : List (List V)} (hels : ∀ e ∈ els,e.length = sz) {vs spare : List Value} (h : RL g w L els.flatten vs)
  (hsp : ∀ (j : Nat) (u : Value),spare[j]? = some u → u.oneCell' = true) (c : Nat) (hc : vs.length + spare.length = c * sz) (hcl : els.length ≤ c ∧ c ≤ 9223372036854775807) (hnew : w'.heap[w.heap.size]? = some (.cells (vs ++ spare).toArray T (0,0))) :
  ∃ g',RV g' w' (L ++ [.row 0 sz els]) (.own L.length 0 0 els.length) (.slice (some ⟨w.heap.size,0,none⟩) els.length c) ∧ Good g' w' (L ++ [.row 0 sz els]) ∧
   Prog L.length g w L g' w' (L ++ [.row 0 sz els]):=by
 have hfl:=flatten_len hels
 have hvl : vs.length = els.length * sz:=by rw [← h.1,hfl]
 refine ⟨g.add L.length (some w.heap.size) (c * sz),.own _ _ _ _ sz _ 0 c els (by simp) (by simp [Gh.add]) (.inr (by simp)) (by simp [Gh.add]) hcl (by simp),
  add_good hg hE _ (fun q h=>by cases h; exact Nat.le_refl _) _ ⟨hsz,hels,.inr ⟨_,_,T,by simp [Gh.add],hnew,by simp [Gh.add]; omega,by simp; omega,?_,?_⟩⟩,add_prog hg hE _ _ (fun q h=>by cases h; exact Nat.le_refl _) _⟩
 ·intro i v hv
  simp only [List.getElem?_toArray] at hv
  rcases Nat.lt_or_ge i vs.length with hi | hi
  ·rw [List.getElem?_append_left hi] at hv; exact h.2.1 i v hv
  ·rw [List.getElem?_append_right hi] at hv; exact hsp _ v hv
 ·intro i j x v hx hv
  simp only [List.getElem?_toArray] at hv
  have hj : j < sz:=by
   cases he : els[i]? with
   | none=>rw [he] at hx; cases hx
   | some e=>rw [he] at hx; have:=lt_of_get (L:=e) (by simpa using hx); have:=hels e (List.mem_of_getElem? he); omega
  have hi : i < els.length:=by
   rcases Nat.lt_or_ge i els.length with h' | h'
   ·exact h'
   ·rw [List.getElem?_eq_none h'] at hx; cases hx
  have hlt : i * sz + j < vs.length:=by
   rw [hvl]
   have:=Nat.mul_le_mul_right sz (show i + 1 ≤ els.length from hi)
   rw [Nat.succ_mul] at this; omega
  rw [List.getElem?_append_left hlt] at hv
  exact add_mono hg hE _ _ _ (h.2.2 (i * sz + j) x v (by rw [flatten_get hels hj]; exact hx) hv)
theorem newRow_ok (hg : Good g w L) (T : TypeId) {sz : Nat} (hsz : 0 < sz) {els : List (List V)} (hels : ∀ e ∈ els,e.length = sz) {vs spare : List Value} (h : RL g w L els.flatten vs)
  (hsp : ∀ (j : Nat) (u : Value),spare[j]? = some u → u.oneCell' = true) (c : Nat) (hc : vs.length + spare.length = c * sz) (hcl : els.length ≤ c ∧ c ≤ 9223372036854775807) :
  ∃ g',RV g' (w.alloc (.cells (vs ++ spare).toArray T)) (L ++ [.row 0 sz els]) (.own L.length 0 0 els.length) (.slice (some ⟨w.heap.size,0,none⟩) els.length c) ∧ Good g' (w.alloc (.cells (vs ++ spare).toArray T)) (L ++ [.row 0 sz els]) ∧
   Prog L.length g w L g' (w.alloc (.cells (vs ++ spare).toArray T)) (L ++ [.row 0 sz els]) :=
 newRow_ext hg (Ext.alloc w _) T hsz hels h hsp c hc hcl (heap_alloc_new w _)
def seqParts (sz : Nat) : Nat → List (Nat × V) → Option (List (List V))
 | _,[]=>some []
 | i,(j,x) :: r=>bif Nat.beq j i && x.stor && Nat.beq (cellsOf x).length sz then match seqParts sz (i + 1) r with | some els=>some (cellsOf x :: els) | none=>none else none
theorem seqParts_ok {sz : Nat} : ∀ (i : Nat) (ps : List (Nat × V)) (qs : List (Nat × Value)) (els : List (List V)) (cells : Array Value),seqParts sz i ps = some els → ps.map (·.1) = qs.map (·.1) →
  (∀ (j : Nat) (p : Nat × V) (q : Nat × Value),ps[j]? = some p → qs[j]? = some q → RV g w L p.2 q.2) → (i + ps.length) * sz ≤ cells.size →
  ∃ (vs' : Array Value) (news : List Value),Instr.fill (fun i=>some (i * sz,sz)) cells qs = some vs' ∧ RL g w L els.flatten news ∧ els.length = ps.length ∧ (∀ e ∈ els,e.length = sz) ∧
   vs'.toList = cells.toList.take (i * sz) ++ news ++ cells.toList.drop ((i + ps.length) * sz)
 | i,[],[],els,cells,h,_,_,_=>by
  simp [seqParts] at h; subst h
  exact ⟨cells,[],rfl,RL.nil,rfl,by simp,by simp⟩
 | i,[],q :: qs,_,_,_,h,_,_=>by simp at h
 | i,p :: ps,[],_,_,_,h,_,_=>by simp at h
 | i,(j,x) :: ps,(j',v) :: qs,els,cells,h,hi,hr,hsz=>by
  simp only [List.map_cons,List.cons.injEq] at hi
  obtain ⟨rfl,hi⟩:=hi
  unfold seqParts at h
  cases hc : (Nat.beq j i && x.stor && Nat.beq (cellsOf x).length sz) with
  | false=>simp [hc] at h
  | true =>
  simp only [hc,cond_true] at h
  rw [Bool.and_eq_true,Bool.and_eq_true] at hc
  obtain ⟨⟨c1,c2⟩,c3⟩:=hc
  have c1:=Nat.eq_of_beq_eq_true c1
  have c3:=Nat.eq_of_beq_eq_true c3
  subst c1
  cases hs : seqParts sz (j + 1) ps with
  | none=>simp [hs] at h
  | some els' =>
  simp only [hs,Option.some.injEq] at h
  subst h
  have hrl:=(hr 0 (j,x) (j,v) rfl rfl).rl c2
  have hlen:=hrl.1
  simp at hlen
  have hv : v.cells.size = sz:=by omega
  simp only [List.length_cons] at hsz
  have hb : j * sz + sz ≤ cells.size:=by
   have:=Nat.mul_le_mul_right sz (show j + 1 ≤ j + (ps.length + 1) by omega)
   rw [Nat.succ_mul] at this; omega
  have hstep:=fill_step (cells:=cells) (v:=v) (off:=j * sz) (by omega)
  have hsize : (v.cells.zipIdx.foldl (fun cs (c,k)=>cs.setIfInBounds (j * sz + k) c) cells).size = cells.size:=by
   rw [← Array.length_toList,hstep]; simp; omega
  obtain ⟨vs',news,h1,h2,h3,h4,h5⟩:=seqParts_ok (j + 1) ps qs els' (v.cells.zipIdx.foldl (fun cs (c,k)=>cs.setIfInBounds (j * sz + k) c) cells) hs hi
   (fun k p q hp hq=>hr (k + 1) p q (by simpa using hp) (by simpa using hq)) (by rw [hsize,show j + 1 + ps.length = j + (ps.length + 1) by omega]; exact hsz)
  refine ⟨vs',v.cells.toList ++ news,?_,?_,by simp [h3],?_,?_⟩
  ·simp only [Instr.fill,hv]
   rw [if_neg (by simp; omega)]
   exact h1
  ·rw [List.flatten_cons]; exact hrl.append h2
  ·intro e he
   rcases List.mem_cons.1 he with rfl | he
   ·exact c3
   ·exact h4 e he
  ·rw [h5,hstep]
   have e1 : v.cells.toList.length = sz:=by simpa using hv
   have e2 : (cells.toList.take (j * sz)).length = j * sz:=by simp; omega
   rw [List.append_assoc (cells.toList.take (j * sz)) v.cells.toList (cells.toList.drop (j * sz + v.cells.toList.length))]
   have t1 : (cells.toList.take (j * sz) ++ (v.cells.toList ++ cells.toList.drop (j * sz + v.cells.toList.length))).take ((j + 1) * sz) = cells.toList.take (j * sz) ++ v.cells.toList:=by
    rw [← List.append_assoc,List.take_append_of_le_length (by simp; rw [Nat.succ_mul]; omega),List.take_of_length_le (by simp; rw [Nat.succ_mul]; omega)]
   have t2 : (cells.toList.take (j * sz) ++ (v.cells.toList ++ cells.toList.drop (j * sz + v.cells.toList.length))).drop ((j + 1 + ps.length) * sz) = cells.toList.drop ((j + (ps.length + 1)) * sz):=by
    rw [← List.append_assoc,List.drop_append,List.drop_of_length_le (by simp; have:=Nat.mul_le_mul_right sz (show j + 1 ≤ j + 1 + ps.length by omega); rw [Nat.succ_mul] at this; omega)]
    simp only [List.nil_append,List.drop_drop,List.length_append,e2,e1]
    congr 1
    have:=Nat.mul_le_mul_right sz (show j + 1 ≤ j + 1 + ps.length by omega)
    rw [Nat.succ_mul] at this
    rw [show j + (ps.length + 1) = j + 1 + ps.length by omega]
    omega
   rw [t1,t2,List.append_assoc,List.append_assoc,List.append_assoc]
   simp []
def vBuildSlice (C : Ctx) (t : TypeId) (len : Nat) (ps : List (Nat × V)) (L : List Blk) (k : V → List Blk → Prop) : Prop :=
 match C.tt t with
 | some ti=>match ti.k with
  | .sl e=>match C.tt e with
   | some ei=>bif Nat.blt 0 ei.sz && Nat.beq ps.length len && Nat.ble (len * ei.sz) 16777216 then
     match seqParts ei.sz 0 ps with
     | some els=>k (.own L.length 0 0 len) (L ++ [.row 0 ei.sz els])
     | none=>False
    else False
   | none=>False
  | _=>False
 | none=>False
theorem vBuildSlice_ok (hC : C.OK) (hg : Good g w L) {t : TypeId} {len : Nat} {ps : List (Nat × V)} {qs : Array (Nat × Value)} (hi : ps.map (·.1) = qs.toList.map (·.1))
  (hr : ∀ (j : Nat) (p : Nat × V) (q : Nat × Value),ps[j]? = some p → qs.toList[j]? = some q → RV g w L p.2 q.2) {k : V → List Blk → Prop} (h : vBuildSlice C t len ps L k) :
  ∃ r w' X L' g',(Instr.buildSlice t len qs).run C.P w = .ok r w' ∧ k X L' ∧ RV g' w' L' X r ∧ Good g' w' L' ∧ Prog L.length g w L g' w' L':=by
 unfold vBuildSlice at h
 cases ht : C.tt t with
 | none=>simp [ht] at h
 | some ti =>
 simp only [ht] at h
 split at h
 ·rename_i e hk
  cases he : C.tt e with
  | none=>simp [he] at h
  | some ei =>
  simp only [he] at h
  have hE:=hC e ei he
  cases hc : (Nat.blt 0 ei.sz && Nat.beq ps.length len && Nat.ble (len * ei.sz) 16777216) with
  | false=>simp [hc] at h
  | true =>
  simp only [hc,cond_true] at h
  rw [Bool.and_eq_true,Bool.and_eq_true] at hc
  obtain ⟨⟨c1,c2⟩,c3⟩:=hc
  have c1 : 0 < ei.sz:=by simpa [Nat.blt_eq] using c1
  have c2:=Nat.eq_of_beq_eq_true c2
  have c3:=Nat.le_of_ble_eq_true c3
  split at h
  ·rename_i els hs
   have hz : ∃ z : Array Value,∀ f : Array Value → World → Result Value,(if len * ei.sz = 0 then (Sem.run C.P (pure #[] : Sem (Array Value)) w).andThen f else (Sem.run C.P (zeroValue e) w).andThen fun a w'=>(Sem.run C.P (pure a.cells : Sem (Array Value)) w').andThen f) = f z w:=by
    by_cases h0 : len * ei.sz = 0
    ·exact ⟨#[],fun f=>by rw [if_pos h0]; rfl⟩
    ·exact ⟨ei.zv.cells,fun f=>by rw [if_neg h0,hE.run_zero]; rfl⟩
   obtain ⟨z,hz⟩:=hz
   obtain ⟨vs',news,h1,h2,h3,h4,h5⟩:=seqParts_ok 0 ps qs.toList els ((Array.range (len * ei.sz)).map (z[· % z.size]!)) hs hi hr (by simp; rw [c2]; exact Nat.le_refl _)
   have hv : vs' = (news ++ []).toArray:=by
    apply Array.ext'
    rw [h5]
    simp [c2]
   have hlen : els.length = len:=by omega
   have hnl : news.length = len * ei.sz:=by rw [← h2.1,flatten_len h4,hlen]
   obtain ⟨g',r1,r2,r3⟩:=newRow_ok hg e c1 h4 h2 (spare:=[]) (fun j u hu=>by simp at hu) len (by simp; exact hnl) ⟨by omega,by have:=Nat.le_mul_of_pos_right len c1; omega⟩
   rw [hlen] at r1
   refine ⟨_,_,_,_,g',?_,h,r1,r2,r3⟩
   rw [hv] at h1
   have hle : ¬ (len * ei.sz > 2 ^ 24):=by omega
   simp only [Instr.buildSlice,Sem.run_bind,run_underlying ((hC t ti ht).slice hk),Result.andThen_ok,hE.run_sizeOf,Sem.run_ite,hle,if_false]
   refine (hz _).trans ?_
   rw [h1]
   simp [newRow]
  ·exact h.elim
 ·exact h.elim
end
end Go.Tidy
/-
 The base layer: append,slicing,length.
-/
namespace Go.Tidy
section
variable {C : Ctx} {g : Gh} {w : World} {L : List Blk}
theorem seg_len {α : Type} {els : List (List α)} {sz lo len : Nat} (hels : ∀ e ∈ els,e.length = sz) (h : lo + len ≤ els.length) : ((els.drop lo).take len).flatten.length = len * sz:=by
 rw [flatten_len (fun e he=>hels e (List.mem_of_mem_drop (List.mem_of_mem_take he)))]
 congr 1
 simp; omega
theorem seg_get {α : Type} {els : List (List α)} {sz lo len p : Nat} (hels : ∀ e ∈ els,e.length = sz) (hsz : 0 < sz) (hp : p < len * sz) :
  ((els.drop lo).take len).flatten[p]? = (els[lo + p / sz]?).bind (fun e=>e[p % sz]?):=by
 have h1:=Nat.div_add_mod p sz
 have h2:=Nat.mod_lt p hsz
 conv=>lhs; rw [← h1,Nat.mul_comm]
 rw [flatten_get (fun e he=>hels e (List.mem_of_mem_drop (List.mem_of_mem_take he))) h2]
 have h3 : p / sz < len:=Nat.div_lt_of_lt_mul (by rw [Nat.mul_comm]; exact hp)
 rw [List.getElem?_take,if_pos h3,List.getElem?_drop]
theorem row_RL {sz lo len : Nat} {els : List (List V)} {cur : Array Value} (hsz : 0 < sz) (hels : ∀ e ∈ els,e.length = sz) (hbig : els.length * sz ≤ cur.size) (hone : ∀ (i : Nat) (v : Value),cur[i]? = some v → v.oneCell' = true)
  (hrec : ∀ (i j : Nat) (x : V) (v : Value),(els[i]?).bind (fun e=>e[j]?) = some x → cur[i * sz + j]? = some v → RV g w L x v) (hle : lo + len ≤ els.length) :
  RL g w L ((els.drop lo).take len).flatten ((cur.toList.drop (lo * sz)).take (len * sz)):=by
 have hb : lo * sz + len * sz ≤ cur.size:=by rw [← Nat.add_mul]; exact Nat.le_trans (Nat.mul_le_mul_right sz hle) hbig
 refine ⟨by rw [seg_len hels hle]; simp; omega,fun j u hu=>?_,fun j y u hy hu=>?_⟩
 ·rw [List.getElem?_take] at hu
  split at hu
  ·exact hone _ u (by simpa using hu)
  ·cases hu
 ·rw [List.getElem?_take] at hu
  split at hu
  ·rename_i hj
   rw [seg_get hels hsz hj] at hy
   refine hrec (lo + j / sz) (j % sz) y u hy ?_
   have h1:=Nat.div_add_mod j sz
   rw [Nat.add_mul,Nat.add_assoc,Nat.mul_comm (j / sz),h1]
   simpa using hu
  ·cases hu
theorem row_of_RL {sz : Nat} {els : List (List V)} {cur : List Value} (_hsz : 0 < sz) (hels : ∀ e ∈ els,e.length = sz) (h : RL g w L els.flatten (cur.take (els.length * sz))) :
  ∀ (i j : Nat) (x : V) (v : Value),(els[i]?).bind (fun e=>e[j]?) = some x → cur[i * sz + j]? = some v → RV g w L x v:=by
 intro i j x v hx hv
 have hj : j < sz:=by
  cases he : els[i]? with
  | none=>rw [he] at hx; cases hx
  | some e=>rw [he] at hx; have:=lt_of_get (L:=e) (by simpa using hx); have:=hels e (List.mem_of_getElem? he); omega
 have hi : i < els.length:=by
  rcases Nat.lt_or_ge i els.length with h' | h'
  ·exact h'
  ·rw [List.getElem?_eq_none h'] at hx; cases hx
 have hlt : i * sz + j < els.length * sz:=by
  have:=Nat.mul_le_mul_right sz (show i + 1 ≤ els.length from hi)
  rw [Nat.succ_mul] at this; omega
 exact h.2.2 (i * sz + j) x v (by rw [flatten_get hels hj]; exact hx) (by rw [List.getElem?_take,if_pos hlt]; exact hv)
def vSrc (L : List Blk) (sz : Nat) (x : V) (k : List (List V) → Prop) : Prop :=
 match x with
 | .nil=>k []
 | .d (.sl ys)=>Need (∀ e ∈ ys,e.length = sz) (k (ys.map (·.map .d)))
 | .own b gen lo len=>match L[b]? with
  | some (.row gen' sz' els)=>bif Nat.beq gen gen' && Nat.beq sz sz' then k ((els.drop lo).take len) else False
  | _=>False
 | _=>False
structure Src (g : Gh) (w : World) (L : List Blk) (sz : Nat) (v : Value) (els : List (List V)) : Prop where
 len : ∀ e ∈ els,e.length = sz
 form : ∃ (a : Option Addr) (c : Nat) (vs : List Value),v = .slice a els.length c ∧ els.length ≤ c ∧ RL g w L els.flatten vs ∧ vs.length = els.length * sz ∧
  (0 < els.length → ∃ ad,a = some ad ∧ (g.I ad.block ∨ owned g L ad.block) ∧ ∀ (j : Nat) (u : Value),vs[j]? = some u → w.cell? (ad.add j) = some u)
theorem vSrc_ok (hg : Good g w L) {sz : Nat} (hsz : 0 < sz) {x : V} {v : Value} (hx : RV g w L x v) {k : List (List V) → Prop} (h : vSrc L sz x k) : ∃ els,Src g w L sz v els ∧ k els:=by
 unfold vSrc at h
 split at h
 ·cases hx with
  | nil=>exact ⟨[],⟨by simp,none,0,[],rfl,Nat.le_refl _,RL.nil,by simp,by simp⟩,h⟩
 ·rename_i ys
  obtain ⟨hlen,hk⟩:=h.out
  cases hx with | d _ _ hd =>
  cases hd with
  | slNil a c=>exact ⟨_,⟨by simp,a,c,[],by simp,by simp,RL.nil,by simp,by simp⟩,hk⟩
  | sl _ ad c sz' cs hsz' hcell hI hlc hrec =>
   rcases Nat.eq_zero_or_pos ys.length with h0 | hpos
   ·have : ys = []:=List.eq_nil_of_length_eq_zero h0
    subst this
    exact ⟨_,⟨by simp,some ad,c,[],by simp,by simp,RL.nil,by simp,by simp⟩,hk⟩
   ·obtain ⟨y,hy⟩ : ∃ y,y ∈ ys:=List.exists_mem_of_length_pos hpos
    have e1 : sz' = sz:=(hsz' y hy).symm.trans (hlen y hy)
    subst e1
    have hels : ∀ e ∈ ys.map (·.map V.d),e.length = sz':=by
     intro e he
     obtain ⟨e',he',rfl⟩:=List.mem_map.1 he
     simpa using hlen e' he'
    have hfl:=flatten_len hels
    have hget : ∀ (p : Nat),p < ys.length * sz' → ∃ x,(ys[p / sz']?).bind (fun e=>e[p % sz']?) = some x ∧ (ys.map (·.map V.d)).flatten[p]? = some (.d x) ∧ RD g.I w x (cs (p / sz') (p % sz')):=by
     intro p hp
     have h3 : p / sz' < ys.length:=Nat.div_lt_of_lt_mul (by rw [Nat.mul_comm]; exact hp)
     have h2:=Nat.mod_lt p hsz
     have hel:=hlen (ys[p / sz']) (List.getElem_mem h3)
     have hx : (ys[p / sz']?).bind (fun e=>e[p % sz']?) = some ((ys[p / sz'])[p % sz']'(by omega)):=by
      rw [List.getElem?_eq_getElem h3]; simp
     refine ⟨_,hx,?_,hrec _ _ _ hx⟩
     have h1:=Nat.div_add_mod p sz'
     conv=>lhs; rw [← h1,Nat.mul_comm]
     rw [flatten_get hels h2,List.getElem?_map,List.getElem?_eq_getElem h3]
     simp
    refine ⟨_,⟨hels,some ad,c,(List.range (ys.length * sz')).map (fun p=>cs (p / sz') (p % sz')),by simp,by simpa using hlc,⟨by rw [hfl]; simp,fun j u hu=>?_,fun j y' u hy' hu=>?_⟩,by simp,fun _=>⟨ad,rfl,.inl hI,fun j u hu=>?_⟩⟩,hk⟩
    all_goals
     rw [List.getElem?_map] at hu
     rcases Nat.lt_or_ge j (ys.length * sz') with hj | hj
     ·rw [List.getElem?_range hj] at hu
      simp at hu
      obtain ⟨x,hx1,hx2,hx3⟩:=hget j hj
      first
       | exact hu ▸ hx3.one
       | (rw [hx2] at hy'; cases hy'; exact hu ▸ .d _ _ hx3)
       | (have h1 := Nat.div_add_mod j sz'
          have h3 : j / sz' < ys.length:=Nat.div_lt_of_lt_mul (by rw [Nat.mul_comm]; exact hj)
          have:=hcell (j / sz') (j % sz') h3 (Nat.mod_lt j hsz)
          rw [Nat.mul_comm,h1] at this
          rw [this,hu])
     ·rw [List.getElem?_eq_none (by simpa using hj)] at hu; cases hu
 ·rename_i b gen lo len
  split at h
  ·rename_i gen' sz' els hL
   cases hle : (Nat.beq gen gen' && Nat.beq sz sz') with
   | false=>simp only [hle,cond_false] at h
   | true =>
   simp only [hle,cond_true] at h
   rw [Bool.and_eq_true] at hle
   have e1:=Nat.eq_of_beq_eq_true hle.1
   have e2:=Nat.eq_of_beq_eq_true hle.2
   subst e1 e2
   obtain ⟨hsz0,hels,hrow⟩:=hg.blk b _ hL
   have hsub : ∀ e ∈ (els.drop lo).take len,e.length = sz:=fun e he=>hels e (List.mem_of_mem_drop (List.mem_of_mem_take he))
   cases hx with
   | ownX _ _ _ _ a c hL'=>rw [hL] at hL'; cases hL'
   | ownO _ _ gen2 _ _ _ _ a c hL' hg'=>rw [hL] at hL'; cases hL'; omega
   | ownN _ _ _ _ hL' hm'=>exact ⟨_,⟨hsub,_,0,[],rfl,by simp,by simpa using RL.nil,by simp,by simp⟩,h⟩
   | own _ _ _ _ sz' r o c els' hL' hm' ho hc hlc hle =>
    rw [hL] at hL'; cases hL'
    rcases hrow with ⟨hm,rfl⟩ | ⟨r',cur,T,hm,hh,hcap,hbig,hone,hrec⟩
    ·rw [hm] at hm'; cases hm'
    ·rw [hm] at hm'; cases hm'
     have hn : ((els.drop lo).take len).length = len:=by simp; omega
     have hb : lo * sz + len * sz ≤ cur.size:=by rw [← Nat.add_mul]; exact Nat.le_trans (Nat.mul_le_mul_right sz hle) hbig
     refine ⟨_,⟨hsub,some ⟨r,o,none⟩,c,(cur.toList.drop (lo * sz)).take (len * sz),by rw [hn],by rw [hn]; exact hlc.1,row_RL hsz0 hels hbig hone hrec hle,by rw [hn]; simp; omega,fun hpos=>⟨_,rfl,.inr ⟨b,⟨_,hL,by simp⟩,hm⟩,fun j u hu=>?_⟩⟩,h⟩
     rw [hn] at hpos
     have ho' : o = lo * sz:=by rcases ho with h0 | h0 <;> omega
     subst ho'
     rw [Addr.add_lit,cell_row hh]
     rw [List.getElem?_take] at hu
     split at hu
     ·simpa using hu
     ·cases hu
  ·exact h.elim
 ·exact h.elim
theorem TIok.infos {P : Program} {t : TypeId} {ti : TI} (h : TIok P t ti) : ∃ i,P.info? t = some i ∧ i.size = ti.sz ∧ i.bytes = ti.bytes ∧ i.zero = some ti.zv:=by
 have hi:=h.info
 cases e : P.info? t with
 | none=>rw [e] at hi; cases hi
 | some i =>
  rw [e] at hi
  simp only [Option.map_some,Option.some.injEq,Prod.mk.injEq] at hi
  exact ⟨i,rfl,hi.1,hi.2.1,hi.2.2⟩
def apLim (b : Nat) : Nat:=bif Nat.beq b 16 then 8796093022208 else 4294967296
theorem apLim_ge (b : Nat) : 4294967296 ≤ apLim b:=by unfold apLim; cases Nat.beq b 16 <;> decide
theorem apLim_le {n b : Nat} (h : n ≤ apLim b) (hb : b ≤ 4096) : n * b ≤ 140737488355328 ∧ n ≤ 8796093022208:=by
 unfold apLim at h
 cases e : Nat.beq b 16 with
 | true =>
  rw [e] at h
  have:=Nat.eq_of_beq_eq_true e
  subst this
  simp only [cond_true] at h
  omega
 | false =>
  rw [e] at h
  simp only [cond_false] at h
  exact ⟨Nat.le_trans (Nat.mul_le_mul h hb) (by decide),by omega⟩
def vAppend (C : Ctx) (t : TypeId) (s x : V) (L : List Blk) (k : V → List Blk → Prop) : Prop :=
 match C.tt t with
 | some ti=>match ti.k with
  | .sl e=>match C.tt e with
   | some ei=>bif zokB ei && Nat.beq ei.zv.cells.size ei.sz && Nat.blt 0 ei.sz && Nat.ble ei.bytes 4096 then
     vSrc L ei.sz x fun news=>match s with
      | .nil=>Need (news.length ≤ apLim ei.bytes) (k (.own L.length 0 0 news.length) (L ++ [.row 0 ei.sz news]))
      | .own b gen 0 len=>match L[b]? with
       | some (.row gen' sz els)=>bif Nat.beq gen gen' && Nat.beq sz ei.sz then
         Need (len + news.length ≤ apLim ei.bytes) (k (.own b (gen + 1) 0 (len + news.length)) (L.set b (.row (gen + 1) sz (els.take len ++ news)))) else False
       | _=>False
      | .clp els=>Need (0 < news.length ∧ ∀ x ∈ els,x.length = ei.sz) (Need (els.length + news.length ≤ apLim ei.bytes) (k (.own L.length 0 0 (els.length + news.length)) (L ++ [.row 0 ei.sz (els.map (·.map .d) ++ news)])))
      | _=>False
    else False
   | none=>False
  | _=>False
 | none=>False
theorem zeros_one {z : Array Value} (h : z.all (·.oneCell') = true) (n : Nat) : ∀ (j : Nat) (u : Value),(Builtin.zeroCells z n).toList[j]? = some u → u.oneCell' = true:=by
 intro j u hu
 have hu' : (Builtin.zeroCells z n)[j]? = some u:=by simpa using hu
 unfold Builtin.zeroCells at hu'
 rw [Array.getElem?_map] at hu'
 rcases Nat.lt_or_ge j (n * z.size) with hj | hj
 ·rw [Array.getElem?_eq_getElem (by simpa using hj)] at hu'
  simp at hu'
  have hz : 0 < z.size:=by
   rcases Nat.eq_zero_or_pos z.size with h0 | h0
   ·rw [h0] at hj; omega
   ·exact h0
  rw [Array.all_eq_true] at h
  have hlt:=Nat.mod_lt j hz
  rw [getElem!_pos z (j % z.size) hlt] at hu'
  exact hu' ▸ h _ hlt
 ·rw [Array.getElem?_eq_none (by simpa using hj)] at hu'; cases hu'
theorem run_append_zero {P : Program} {t ty e : TypeId} {ei : TI} (ht : P.underlying t = some (.slice e)) (hE : TIok P e ei) (base a : Option Addr) (sLen sCap c : Nat) (hle : sLen ≤ sCap) (w : World) :
  (Builtin.append_ #[t,t] ty #[.slice base sLen sCap,.slice a 0 c]).run P w = .ok (.slice base sLen sCap) w:=by
 have hf : (Builtin.firstCells ei.sz 0 (.slice a 0 c)).run P w = .ok #[] w:=by
  cases a <;> simp [Builtin.firstCells,loadCells,loadCellsFrom]
 cases base <;> simp [Builtin.append_,run_underlying ht,hE.run_sizeOf,Builtin.lenOf,hle,hf,storeCells]
theorem moved_ok (hg : Good g w L) {b gen gen' sz : Nat} {els : List (List V)} (hL : L[b]? = some (.row gen sz els)) (hgen : gen < gen') (e : TypeId) (hsz : 0 < sz) {els' : List (List V)} (hels : ∀ x ∈ els',x.length = sz) {vs spare : List Value}
  (h : RL g w L els'.flatten vs) (hsp : ∀ (j : Nat) (u : Value),spare[j]? = some u → u.oneCell' = true) (c : Nat) (hc : vs.length + spare.length = c * sz) (hcl : els'.length ≤ c ∧ c ≤ 9223372036854775807) :
  ∃ g',RV g' (w.drew.alloc (.cells (vs ++ spare).toArray e)) (L.set b (.row gen' sz els')) (.own b gen' 0 els'.length) (.slice (some ⟨w.heap.size,0,none⟩) els'.length c) ∧
   Good g' (w.drew.alloc (.cells (vs ++ spare).toArray e)) (L.set b (.row gen' sz els')) ∧ Prog L.length g w L g' (w.drew.alloc (.cells (vs ++ spare).toArray e)) (L.set b (.row gen' sz els')):=by
 have hbl:=lt_of_get hL
 have hvl : vs.length = els'.length * sz:=by rw [← h.1,flatten_len hels]
 have S : Step g w L b (.row gen' sz els') (g.add b (some w.heap.size) (c * sz)) (w.drew.alloc (.cells (vs ++ spare).toArray e)):=by
  refine ⟨hg,⟨_,hL,by simp⟩,by rw [hL]; simp,⟨rfl,rfl,rfl⟩,by simp,rfl,fun b' hb=>by simp [Gh.add,hb],fun b' hb=>by simp [Gh.add,hb],fun q o ho _=>heap_old (w:=w.drew) ho,fun r hr=>?_,?_⟩
  ·simp [Gh.add] at hr; omega
  ·exact ⟨fun cs' e=>(by rw [hL] at e; cases e),fun gen1 sz1 els1 e=>(by rw [hL] at e; cases e; exact .inr ⟨_,_,_,List.getElem?_set_self hbl,.inl hgen⟩),fun es e=>(by rw [hL] at e; cases e),fun l e=>(by rw [hL] at e; cases e),fun e=>(by rw [hL] at e; cases e)⟩
 refine ⟨_,.own _ _ _ _ sz _ 0 c els' (List.getElem?_set_self hbl) (by simp [Gh.add]) (.inr (by simp)) (by simp [Gh.add]) hcl (by simp),S.good' ⟨hsz,hels,.inr ⟨_,_,e,by simp [Gh.add],heap_alloc_new w.drew _,by simp [Gh.add]; omega,by simp; omega,?_,?_⟩⟩,S.prog⟩
 ·intro i v hv
  simp only [List.getElem?_toArray] at hv
  rcases Nat.lt_or_ge i vs.length with hi | hi
  ·rw [List.getElem?_append_left hi] at hv; exact h.2.1 i v hv
  ·rw [List.getElem?_append_right hi] at hv; exact hsp _ v hv
 ·have h2:=row_of_RL (cur:=vs ++ spare) hsz hels (by rw [List.take_append_of_le_length (by omega),List.take_of_length_le (by omega)]; exact h.mono fun x v hx=>S.mono hx)
  intro i j x v hx hv
  exact h2 i j x v hx (by simpa using hv)
theorem run_append_room' {P : Program} (t ty e : TypeId) (i : TypeInfo) (ht : P.underlying t = some (.slice e)) (hi : P.info? e = some i)
  (g sLen sCap : Nat) (cur : Array Value) (T : TypeId) (hg : w.heap[g]? = some (.cells cur T (0,0)))
  (a : Addr) (m c : Nat) (news : List Value) (hl : news.length = m * i.size) (hnews : ∀ j u,news[j]? = some u → w.cell? (a.add j) = some u) (h1 : ∀ u ∈ news,u.oneCell' = true)
  (hroom : sLen + m ≤ sCap) (hfit : sLen * i.size + news.length ≤ cur.size) :
  (Builtin.append_ #[t,t] ty #[.slice (some ⟨g,0,none⟩) sLen sCap,.slice (some a) m c]).run P w =
   .ok (.slice (some ⟨g,0,none⟩) (sLen + m) sCap) (w.setRow g (cur.toList.take (sLen * i.size) ++ news ++ cur.toList.drop (sLen * i.size + news.length)).toArray):=by
 have hf:=run_firstCells_some (P:=P) w i.size m a m c news hl hnews
 have hst:=run_storeCells_at P g (sLen * i.size) T news 0 cur w hg (by simpa using hfit) h1
 simp only [Nat.add_zero] at hst
 simp [Builtin.append_,run_underlying ht,sizeOf,typeInfo,hi,Builtin.lenOf,hroom,hf,Addr.add_lit,hst]
theorem grownCap_top {w : World} {need old : Nat} {e : TypeId} (h : need ≤ 9223372036854775807) : grownCap w need old e ≤ 9223372036854775807:=by
 have:=grownCap_le_maxLen w need old e (by simpa [maxLen] using h)
 simpa [maxLen] using this
theorem run_append_empty {P : Program} (w : World) (t ty e : TypeId) (i : TypeInfo) (z : Value) (ht : P.underlying t = some (.slice e)) (hi : P.info? e = some i) (hz : i.zero = some z) (a0 : Option Addr) (ad : Addr) (m c : Nat) (vs : List Value)
  (hvl : vs.length = m * i.size) (hcell : ∀ j u,vs[j]? = some u → w.cell? (ad.add j) = some u) (hpos : 0 < m) (hm : m ≤ 8796093022208) (hby : m * i.bytes ≤ 140737488355328) :
  ∃ cap,(m ≤ cap ∧ cap ≤ 9223372036854775807) ∧ (Builtin.append_ #[t,t] ty #[.slice a0 0 0,.slice (some ad) m c]).run P w = .ok (.slice (some ⟨w.heap.size,0,none⟩) m cap) (w.drew.alloc (.cells (vs ++ (Builtin.zeroCells z.cells (cap - m)).toList).toArray e)):=by
 cases a0 with
 | none =>
  have hr:=run_append_nil (P:=P) w t ty e i z ht hi hz ad m c vs hvl hcell hpos (by omega) (by omega)
  exact ⟨_,⟨grownCap_ge w m 0 e,grownCap_top (by omega)⟩,hr.trans (by congr 3; simp)⟩
 | some a0 =>
  have hr:=run_append_grow (P:=P) w t ty e i z ht hi hz a0 0 0 [] (by simp) (by simp) ad m c vs hvl hcell (by omega) (by omega) (growslice_fits (by omega) (by simpa using hby))
  simp only [Nat.zero_add] at hr
  exact ⟨_,⟨grownCap_ge w m 0 e,grownCap_top (by omega)⟩,hr.trans (by congr 3; simp)⟩
theorem vAppend_ok (hC : C.OK) (hg : Good g w L) {t ty : TypeId} {s x : V} {v u : Value} (hs : RV g w L s v) (hx : RV g w L x u) {k : V → List Blk → Prop} (h : vAppend C t s x L k) :
  ∃ r w' X L' g',(Builtin.append_ #[t,t] ty #[v,u]).run C.P w = .ok r w' ∧ k X L' ∧ RV g' w' L' X r ∧ Good g' w' L' ∧ Prog L.length g w L g' w' L':=by
 unfold vAppend at h
 cases ht : C.tt t with
 | none=>simp [ht] at h
 | some ti =>
 simp only [ht] at h
 split at h
 ·rename_i e hk
  cases he : C.tt e with
  | none=>simp [he] at h
  | some ei =>
  simp only [he] at h
  have hE:=hC e ei he
  have hT:=(hC t ti ht).slice hk
  cases hc : (zokB ei && Nat.beq ei.zv.cells.size ei.sz && Nat.blt 0 ei.sz && Nat.ble ei.bytes 4096) with
  | false=>simp [hc] at h
  | true =>
  simp only [hc,cond_true] at h
  rw [Bool.and_eq_true,Bool.and_eq_true,Bool.and_eq_true] at hc
  obtain ⟨⟨⟨c1,c2⟩,c3⟩,c4⟩:=hc
  have c2:=Nat.eq_of_beq_eq_true c2
  have c3 : 0 < ei.sz:=by simpa [Nat.blt_eq] using c3
  have c4:=Nat.le_of_ble_eq_true c4
  obtain ⟨i,hi,hi1,hi2,hi3⟩:=hE.infos
  obtain ⟨news,⟨hlen,a,c,vs,rfl,hnc,hrl,hvl,hcells⟩,h⟩:=vSrc_ok hg c3 hx h
  have hz : ∀ n,(Builtin.zeroCells ei.zv.cells n).toList.length = n * ei.sz:=fun n=>by rw [Array.length_toList,size_zeroCells,c2]
  split at h
  ·obtain ⟨hsmall,h⟩:=h.out
   have hsm:=(apLim_le hsmall c4).2
   cases hs with
   | nil =>
   rcases Nat.eq_zero_or_pos news.length with h0 | hpos
   ·have hn : news = []:=List.eq_nil_of_length_eq_zero h0
    subst hn
    exact ⟨_,w,_,_,g.add L.length none 0,run_append_zero hT hE none a 0 0 c (Nat.le_refl _) w,h,.ownN _ _ ei.sz [] (by simp) (by simp [Gh.add]),
     add_good hg (Ext.refl w) none (fun q h=>by cases h) 0 ⟨c3,by simp,.inl ⟨by simp [Gh.add],rfl⟩⟩,add_prog hg (Ext.refl w) _ none (fun q h=>by cases h) 0⟩
   ·obtain ⟨ad,rfl,_,hcell⟩:=hcells hpos
    have hr:=run_append_nil (P:=C.P) w t ty e i ei.zv hT hi hi3 ad news.length c vs (by rw [hi1]; exact hvl) hcell hpos (by omega)
     (by rw [hi2]; exact Nat.le_trans (apLim_le hsmall c4).1 (by decide))
    have hge : _ ∧ _:=⟨grownCap_ge w news.length 0 e,grownCap_top (w:=w) (old:=0) (e:=e) (show news.length ≤ 9223372036854775807 by omega)⟩
    obtain ⟨g',r1,r2,r3⟩:=newRow_ext hg (Ext.drewAlloc w (.cells (vs ++ (Builtin.zeroCells ei.zv.cells (grownCap w news.length 0 e - news.length)).toList).toArray e)) e c3 hlen hrl (zeros_one (zokB_all c1) _) (grownCap w news.length 0 e)
     (by rw [hvl,hz,← Nat.add_mul]; congr 1; omega) hge (heap_alloc_new w.drew _)
    refine ⟨_,_,_,_,g',hr.trans ?_,h,r1,r2,r3⟩
    congr 3
    simp
  ·rename_i b gen len _
   split at h
   ·rename_i gen' sz els hL
    cases hle : (Nat.beq gen gen' && Nat.beq sz ei.sz) with
    | false=>simp only [hle,cond_false] at h
    | true =>
    simp only [hle,cond_true] at h
    rw [Bool.and_eq_true] at hle
    have e1:=Nat.eq_of_beq_eq_true hle.1
    have e2:=Nat.eq_of_beq_eq_true hle.2
    subst e1 e2
    obtain ⟨hsmall,h⟩:=h.out
    have hsm:=(apLim_le hsmall c4).2
    have hbl:=lt_of_get hL
    obtain ⟨hsz0,hels,hrow⟩:=hg.blk b _ hL
    have hels' : ∀ x ∈ els.take len ++ news,x.length = ei.sz:=by
     intro x hx
     rcases List.mem_append.1 hx with hx | hx
     ·exact hels x (List.mem_of_mem_take hx)
     ·exact hlen x hx
    cases hs with
    | ownX _ _ _ _ a c hL'=>rw [hL] at hL'; cases hL'
    | ownO _ _ gen2 _ _ _ _ a c hL' hg'=>rw [hL] at hL'; cases hL'; omega
    | ownN _ _ sz2 els2 hL' hm' =>
     rw [hL] at hL'; cases hL'
     rcases hrow with ⟨hm,rfl⟩ | ⟨r',cur,T,hm,_⟩
     ·have h : k (.own b (gen + 1) 0 news.length) (L.set b (.row (gen + 1) ei.sz news)):=by simpa using h
      have hsmall : news.length ≤ apLim ei.bytes:=by omega
      have hsm:=(apLim_le hsmall c4).2
      rcases Nat.eq_zero_or_pos news.length with h0 | hpos
      ·have hn : news = []:=List.eq_nil_of_length_eq_zero h0
       subst hn
       have S : Step g w L b (.row (gen + 1) ei.sz []) g w:=by
        refine ⟨hg,⟨_,hL,by simp⟩,by rw [hL]; simp,⟨rfl,rfl,rfl⟩,Nat.le_refl _,rfl,fun _ _=>rfl,fun _ _=>rfl,fun q o ho _=>ho,fun r hr=>.inl hr,?_⟩
        exact ⟨fun cs' e=>(by rw [hL] at e; cases e),fun gen1 sz1 els1 e=>(by rw [hL] at e; cases e; exact .inr ⟨_,_,_,List.getElem?_set_self hbl,.inl (Nat.lt_succ_self _)⟩),fun es e=>(by rw [hL] at e; cases e),fun l e=>(by rw [hL] at e; cases e),fun e=>(by rw [hL] at e; cases e)⟩
       exact ⟨_,w,_,_,g,run_append_zero hT hE _ a 0 0 c (Nat.le_refl _) w,h,.ownN _ _ ei.sz [] (List.getElem?_set_self hbl) hm,S.good' ⟨c3,by simp,.inl ⟨hm,rfl⟩⟩,S.prog⟩
      ·obtain ⟨ad,rfl,_,hcell⟩:=hcells hpos
       obtain ⟨cap,hge,hr⟩:=run_append_empty (P:=C.P) w t ty e i ei.zv hT hi hi3 _ ad news.length c vs (by rw [hi1]; exact hvl) hcell hpos hsm (by rw [hi2]; exact (apLim_le hsmall c4).1)
       obtain ⟨g',r1,r2,r3⟩:=moved_ok hg hL (Nat.lt_succ_self gen) e c3 hlen hrl (zeros_one (zokB_all c1) (cap - news.length)) cap
        (by rw [hvl,hz,← Nat.add_mul]; congr 1; omega) hge
       exact ⟨_,_,_,_,g',hr,h,r1,r2,r3⟩
     ·rw [hm] at hm'; cases hm'
    | own _ _ _ _ sz2 r o cc els2 hL' hm' ho hcap hlc hle2 =>
     rw [hL] at hL'; cases hL'
     rcases hrow with ⟨hm,rfl⟩ | ⟨r',cur,T,hm,hh,hcapg,hbig,hone,hrec⟩
     ·rw [hm] at hm'; cases hm'
     rw [hm] at hm'; cases hm'
     simp only [Nat.zero_add] at hle2 hcap
     have hro:=row_RL (lo:=0) (len:=len) c3 hels hbig hone hrec (by omega)
     simp only [Nat.zero_mul,List.drop_zero] at hro
     have htl : (els.take len).length = len:=by simp; omega
     have hnl : (els.take len ++ news).length = len + news.length:=by simp; omega
     have hoz : o = 0 ∨ cc = 0:=by rcases ho with h0 | h0 <;> omega
     rcases Nat.eq_zero_or_pos news.length with h0 | hpos
     ·have hn : news = []:=List.eq_nil_of_length_eq_zero h0
      subst hn
      simp only [List.append_nil,List.length_nil,Nat.add_zero] at h hels' hnl
      have S : Step g w L b (.row (gen + 1) ei.sz (els.take len)) g w:=by
       refine ⟨hg,⟨_,hL,by simp⟩,by rw [hL]; simp,⟨rfl,rfl,rfl⟩,Nat.le_refl _,rfl,fun _ _=>rfl,fun _ _=>rfl,fun q o ho _=>ho,fun r hr=>.inl hr,?_⟩
       exact ⟨fun cs' e=>(by rw [hL] at e; cases e),fun gen1 sz1 els1 e=>(by rw [hL] at e; cases e; exact .inr ⟨_,_,_,List.getElem?_set_self hbl,.inl (Nat.lt_succ_self _)⟩),fun es e=>(by rw [hL] at e; cases e),fun l e=>(by rw [hL] at e; cases e),fun e=>(by rw [hL] at e; cases e)⟩
      refine ⟨_,w,_,_,g,run_append_zero hT hE _ a len cc c hlc.1 w,h,.own _ _ _ _ ei.sz r o cc (els.take len) (List.getElem?_set_self hbl) hm ho (by simpa using hcap) hlc (by omega),S.good' ⟨c3,hels',.inr ⟨r,cur,T,hm,hh,hcapg,?_,hone,?_⟩⟩,S.prog⟩
      ·rw [htl]; exact Nat.le_trans (Nat.mul_le_mul_right _ (by omega)) hbig
      ·have:=row_of_RL (g:=g) (w:=w) (L:=L.set b (.row (gen + 1) ei.sz (els.take len))) (cur:=cur.toList) c3 hels' (by rw [htl]; exact hro.mono fun x v hx=>S.mono hx)
       intro i j x v hx hv
       exact this i j x v hx (by simpa using hv)
     ·obtain ⟨ad,rfl,hIo,hcell⟩:=hcells hpos
      by_cases hroom : len + news.length ≤ cc
      ·have ho0 : o = 0:=by omega
       subst ho0
       have hfit : len * i.size + vs.length ≤ cur.size:=by
        rw [hvl,hi1,← Nat.add_mul,hcapg]; exact Nat.le_trans (Nat.mul_le_mul_right _ hroom) hcap
       have hone2 : ∀ u ∈ vs,u.oneCell' = true:=fun u hu=>by
        obtain ⟨j,hj,rfl⟩:=List.getElem_of_mem hu
        exact hrl.2.1 j _ (List.getElem?_eq_getElem hj)
       have hr:=run_append_room' (P:=C.P) t ty e i hT hi r len cc cur T hh ad news.length c vs (by rw [hi1]; exact hvl) hcell hone2 hroom hfit
       rw [hi1] at hr hfit
       have S : Step g w L b (.row (gen + 1) ei.sz (els.take len ++ news)) g (w.setRow r (cur.toList.take (len * ei.sz) ++ vs ++ cur.toList.drop (len * ei.sz + vs.length)).toArray):=by
        refine ⟨hg,⟨_,hL,by simp⟩,by rw [hL]; simp,setRow_env _ _ _,by rw [setRow_size]; exact Nat.le_refl _,rfl,fun _ _=>rfl,fun _ _=>rfl,fun q o ho hne=>?_,fun r hr=>.inl hr,?_⟩
        ·rw [setRow_other (fun e=>hne (by rw [← e]; exact hm))]; exact ho
        ·exact ⟨fun cs' e=>(by rw [hL] at e; cases e),fun gen1 sz1 els1 e=>(by rw [hL] at e; cases e; exact .inr ⟨_,_,_,List.getElem?_set_self hbl,.inl (Nat.lt_succ_self _)⟩),fun es e=>(by rw [hL] at e; cases e),fun l e=>(by rw [hL] at e; cases e),fun e=>(by rw [hL] at e; cases e)⟩
       have hflat : RL g w L (els.take len ++ news).flatten (cur.toList.take (len * ei.sz) ++ vs):=by
        rw [List.flatten_append]; exact hro.append hrl
       have hsum : (len + news.length) * ei.sz = len * ei.sz + vs.length:=by rw [hvl,Nat.add_mul]
       refine ⟨_,_,_,_,g,hr,h,.own _ _ _ _ ei.sz r 0 cc (els.take len ++ news) (List.getElem?_set_self hbl) hm (.inr (by simp)) (by simpa using hcap) ⟨hroom,hlc.2⟩ (by omega),S.good' ⟨c3,hels',.inr ⟨r,_,T,hm,setRow_same hh,?_,?_,?_,?_⟩⟩,S.prog⟩
       ·simp; omega
       ·rw [hnl,hsum]; simp; omega
       ·intro j v' hv'
        simp only [List.getElem?_toArray] at hv'
        rw [splice_get (by simp; omega)] at hv'
        split at hv'
        ·exact hone j v' (by simpa using hv')
        ·split at hv'
         ·exact hrl.2.1 _ v' hv'
         ·exact hone j v' (by simpa using hv')
       ·have:=row_of_RL (g:=g) (w:=w.setRow r (cur.toList.take (len * ei.sz) ++ vs ++ cur.toList.drop (len * ei.sz + vs.length)).toArray) (L:=L.set b (.row (gen + 1) ei.sz (els.take len ++ news)))
         (cur:=cur.toList.take (len * ei.sz) ++ vs ++ cur.toList.drop (len * ei.sz + vs.length)) c3 hels' (by
          have hlen1 : (cur.toList.take (len * ei.sz) ++ vs).length = len * ei.sz + vs.length:=by simp; omega
          have e3 : (cur.toList.take (len * ei.sz) ++ vs ++ cur.toList.drop (len * ei.sz + vs.length)).take ((els.take len ++ news).length * ei.sz) = cur.toList.take (len * ei.sz) ++ vs:=by
           rw [hnl,hsum,← hlen1,List.take_left]
          rw [e3]
          exact hflat.mono fun x v hx=>S.mono hx)
        intro i j x v hx hv
        exact this i j x v hx (by simpa using hv)
      ·have hold : ∀ (j : Nat) (u : Value),(cur.toList.take (len * ei.sz))[j]? = some u → w.cell? ((⟨r,o,none⟩ : Addr).add j) = some u:=by
        intro j u hu
        rw [List.getElem?_take] at hu
        split at hu
        ·rename_i hj
         have : 0 < len:=by
          rcases Nat.eq_zero_or_pos len with h0 | h0
          ·rw [h0] at hj; omega
          ·exact h0
         have ho0 : o = 0:=by omega
         subst ho0
         rw [Addr.add_lit,Nat.zero_add,cell_row hh]
         simpa using hu
        ·cases hu
       have hcl : (cur.toList.take (len * ei.sz)).length = len * ei.sz:=by
        have : len * ei.sz ≤ cur.size:=Nat.le_trans (Nat.mul_le_mul_right _ (by omega)) hbig
        simp; omega
       have hbytes : (len + news.length) * i.bytes ≤ 140737488355328:=by rw [hi2]; exact (apLim_le hsmall c4).1
       have hr:=run_append_grow (P:=C.P) w t ty e i ei.zv hT hi hi3 ⟨r,o,none⟩ len cc (cur.toList.take (len * ei.sz)) (by rw [hi1]; exact hcl) hold ad news.length c vs (by rw [hi1]; exact hvl) hcell (by omega) (by omega)
        (growslice_fits (by omega) hbytes)
       have hge : _ ∧ _:=⟨grownCap_ge w (len + news.length) cc e,grownCap_top (w:=w) (old:=cc) (e:=e) (show len + news.length ≤ 9223372036854775807 by omega)⟩
       obtain ⟨g',r1,r2,r3⟩:=moved_ok hg hL (Nat.lt_succ_self gen) e c3 hels' (vs:=cur.toList.take (len * ei.sz) ++ vs) (by rw [List.flatten_append]; exact hro.append hrl) (zeros_one (zokB_all c1) (grownCap w (len + news.length) cc e - (len + news.length))) (grownCap w (len + news.length) cc e)
        (by rw [List.length_append,hcl,hvl,hz,← Nat.add_mul,← Nat.add_mul]; congr 1; omega) (by omega)
       rw [hnl] at r1
       refine ⟨_,_,_,_,g',hr.trans ?_,h,r1,r2,r3⟩
       congr 3
       simp
   ·exact h.elim
  ·rename_i els _
   obtain ⟨⟨hpos,hels⟩,h⟩:=h.out
   obtain ⟨hsmall,h⟩:=h.out
   have hsm:=apLim_le hsmall c4
   cases hs with | clp _ a0 hd =>
   obtain ⟨olds,⟨hlen0,a1,c0,vs0,he0,hnc0,hrl0,hvl0,hcells0⟩,ho⟩:=vSrc_ok (k:=fun n=>n = els.map (·.map V.d)) hg c3 (RV.d (g:=g) (L:=L) _ _ hd) (by unfold vSrc; exact Need.intro hels rfl)
   subst ho
   have hml : (els.map (·.map V.d)).length = els.length:=List.length_map ..
   rw [hml] at he0 hnc0 hvl0 hcells0
   have e1 : a0 = a1:=by injection he0
   have e2 : els.length = c0:=by injection he0
   subst e1
   obtain ⟨ad,rfl,_,hcell⟩:=hcells hpos
   have hels' : ∀ x ∈ els.map (·.map V.d) ++ news,x.length = ei.sz:=by
    intro x hx
    rcases List.mem_append.1 hx with hx | hx
    ·exact hlen0 x hx
    ·exact hlen x hx
   have hnl : (els.map (·.map V.d) ++ news).length = els.length + news.length:=by rw [List.length_append,hml]
   have hbytes : (els.length + news.length) * i.bytes ≤ 140737488355328:=by rw [hi2]; exact hsm.1
   rcases Nat.eq_zero_or_pos els.length with h0 | hp0
   ·have hn : els = []:=List.eq_nil_of_length_eq_zero h0
    subst hn
    obtain ⟨cap,hge,hr⟩:=run_append_empty (P:=C.P) w t ty e i ei.zv hT hi hi3 a0 ad news.length c vs (by rw [hi1]; exact hvl) hcell hpos (by have:=hsm.2; simp only [List.length_nil] at this; omega) (by simpa using hbytes)
    obtain ⟨g',r1,r2,r3⟩:=newRow_ext hg (Ext.drewAlloc w (.cells (vs ++ (Builtin.zeroCells ei.zv.cells (cap - news.length)).toList).toArray e)) e c3 hlen hrl (zeros_one (zokB_all c1) _) cap
     (by rw [hvl,hz,← Nat.add_mul]; congr 1; omega) hge (heap_alloc_new w.drew _)
    refine ⟨_,_,_,_,g',hr,h,?_,?_,?_⟩
    ·simpa using r1
    ·simpa using r2
    ·simpa using r3
   ·obtain ⟨ad0,rfl,_,hcell0⟩:=hcells0 hp0
    have hr:=run_append_grow (P:=C.P) w t ty e i ei.zv hT hi hi3 ad0 els.length els.length vs0 (by rw [hi1]; exact hvl0) hcell0 ad news.length c vs (by rw [hi1]; exact hvl) hcell (by omega) (by have:=hsm.2; omega)
     (growslice_fits (by omega) hbytes)
    have hge : _ ∧ _:=⟨grownCap_ge w (els.length + news.length) els.length e,grownCap_top (w:=w) (old:=els.length) (e:=e) (show els.length + news.length ≤ 9223372036854775807 by have:=hsm.2; omega)⟩
    obtain ⟨g',r1,r2,r3⟩:=newRow_ext hg (Ext.drewAlloc w (.cells ((vs0 ++ vs) ++ (Builtin.zeroCells ei.zv.cells (grownCap w (els.length + news.length) els.length e - (els.length + news.length))).toList).toArray e)) e c3 hels' (vs:=vs0 ++ vs)
     (by rw [List.flatten_append]; exact hrl0.append hrl) (zeros_one (zokB_all c1) _) (grownCap w (els.length + news.length) els.length e)
     (by rw [List.length_append,hvl0,hvl,hz,← Nat.add_mul,← Nat.add_mul]; congr 1; omega) (by rw [hnl]; exact hge) (heap_alloc_new w.drew _)
    rw [hnl] at r1
    refine ⟨_,_,_,_,g',hr.trans ?_,h,r1,r2,r3⟩
    congr 3
    simp
  ·exact h.elim
 ·exact h.elim
def vClear (C : Ctx) (t : TypeId) (s : V) (L : List Blk) (k : List Blk → Prop) : Prop :=
 match C.tt t with
 | some ti=>match ti.k with
  | .sl e=>match C.tt e with
   | some ei=>bif zokB ei && Nat.beq ei.zv.cells.size ei.sz && Nat.blt 0 ei.sz then
     match s with
     | .nil=>k L
     | .own b gen lo len=>match L[b]? with
      | some (.row gen' sz els)=>bif Nat.beq gen gen' && Nat.beq sz ei.sz then k (L.set b (.row gen sz (els.take lo ++ (List.replicate len (Go.Tidy.zeroCells ei) ++ els.drop (lo + len))))) else False
      | _=>False
     | _=>False
    else False
   | none=>False
  | _=>False
 | none=>False
theorem take_rep_drop {α : Type} {els : List α} {lo : Nat} {z : α} (_h : lo ≤ els.length) : els.take lo ++ (List.replicate 0 z ++ els.drop (lo + 0)) = els:=by simp
theorem trd_get {α : Type} {els : List α} {lo len : Nat} {z : α} (h : lo + len ≤ els.length) (i : Nat) :
  (els.take lo ++ (List.replicate len z ++ els.drop (lo + len)))[i]? = if i < lo then els[i]? else if i < lo + len then some z else els[i]?:=by
 have hl : (els.take lo).length = lo:=by simp; omega
 by_cases h1 : i < lo
 ·rw [List.getElem?_append_left (by omega),if_pos h1,List.getElem?_take,if_pos h1]
 ·rw [List.getElem?_append_right (by omega),if_neg h1,hl]
  by_cases h2 : i < lo + len
  ·rw [if_pos h2,List.getElem?_append_left (by simp; omega),List.getElem?_replicate,if_pos (by omega)]
  ·rw [if_neg h2,List.getElem?_append_right (by simp; omega),List.length_replicate,List.getElem?_drop]
   congr 1; omega
theorem zeroCells_at {z : Array Value} {n i j : Nat} (hi : i < n) (hj : j < z.size) : (Builtin.zeroCells z n).toList[i * z.size + j]? = z[j]?:=by
 have hlt : i * z.size + j < n * z.size:=by
  have:=Nat.mul_le_mul_right z.size (show i + 1 ≤ n from hi)
  rw [Nat.succ_mul] at this; omega
 have hm : (i * z.size + j) % z.size = j:=by rw [Nat.add_comm,Nat.add_mul_mod_self_right,Nat.mod_eq_of_lt hj]
 unfold Builtin.zeroCells
 rw [Array.getElem?_toList,Array.getElem?_map,Array.getElem?_range,if_pos hlt,Option.map_some,hm,getElem!_pos z j hj,Array.getElem?_eq_getElem hj]
theorem vClear_ok (hC : C.OK) (hg : Good g w L) {t ty : TypeId} {s : V} {v : Value} (hs : RV g w L s v) {k : List Blk → Prop} (h : vClear C t s L k) :
  ∃ w' L',(Builtin.clear_ #[t] ty #[v]).run C.P w = .ok (.tuple #[]) w' ∧ k L' ∧ Good g w' L' ∧ Prog L.length g w L g w' L':=by
 unfold vClear at h
 cases ht : C.tt t with
 | none=>simp [ht] at h
 | some ti =>
 simp only [ht] at h
 split at h
 ·rename_i e hk
  cases he : C.tt e with
  | none=>simp [he] at h
  | some ei =>
  simp only [he] at h
  have hE:=hC e ei he
  have hT:=(hC t ti ht).slice hk
  cases hc : (zokB ei && Nat.beq ei.zv.cells.size ei.sz && Nat.blt 0 ei.sz) with
  | false=>simp [hc] at h
  | true =>
  simp only [hc,cond_true] at h
  rw [Bool.and_eq_true,Bool.and_eq_true] at hc
  obtain ⟨⟨c1,c2⟩,c3⟩:=hc
  have c2:=Nat.eq_of_beq_eq_true c2
  have c3 : 0 < ei.sz:=by simpa [Nat.blt_eq] using c3
  obtain ⟨z1,z2,z3⟩:=zeroCells_ok g w L c1
  have none_ok : ∀ (a : Option Addr) (c : Nat),(Builtin.clear_ #[t] ty #[.slice a 0 c]).run C.P w = .ok (.tuple #[]) w:=by
   intro a c
   cases a <;> simp [Builtin.clear_,run_underlying hT]
  split at h
  ·cases hs with
   | nil=>exact ⟨w,_,none_ok _ _,h,hg,Prog.refl _ _ _ _⟩
  ·rename_i b gen lo len
   split at h
   ·rename_i gen' sz els hL
    cases hle : (Nat.beq gen gen' && Nat.beq sz ei.sz) with
    | false=>simp only [hle,cond_false] at h
    | true =>
    simp only [hle,cond_true] at h
    rw [Bool.and_eq_true] at hle
    have e1:=Nat.eq_of_beq_eq_true hle.1
    have e2:=Nat.eq_of_beq_eq_true hle.2
    subst e1 e2
    have hbl:=lt_of_get hL
    obtain ⟨hsz0,hels,hrow⟩:=hg.blk b _ hL
    have same : ∀ {lo : Nat},lo ≤ els.length → k (L.set b (.row gen ei.sz (els.take lo ++ (List.replicate 0 (Go.Tidy.zeroCells ei) ++ els.drop (lo + 0))))) → k L:=by
     intro lo hlo h
     have e : L.set b (.row gen ei.sz els) = L:=by
      apply List.ext_getElem?
      intro i
      rw [List.getElem?_set]
      split
      ·rename_i hi; subst hi; exact hL.symm
      ·rfl
     rw [take_rep_drop hlo,e] at h
     exact h
    cases hs with
    | ownX _ _ _ _ a c hL'=>rw [hL] at hL'; cases hL'
    | ownO _ _ gen2 _ _ _ _ a c hL' hg'=>rw [hL] at hL'; cases hL'; omega
    | ownN _ _ sz2 els2 hL' hm'=>exact ⟨w,L,none_ok _ _,same (Nat.zero_le _) h,hg,Prog.refl _ _ _ _⟩
    | own _ _ _ _ sz2 r o cc els2 hL' hm' ho hcap hlc hle2 =>
     rw [hL] at hL'; cases hL'
     rcases Nat.eq_zero_or_pos len with h0 | hpos
     ·subst h0
      exact ⟨w,L,none_ok _ _,same (by omega) h,hg,Prog.refl _ _ _ _⟩
     rcases hrow with ⟨hm,rfl⟩ | ⟨r',cur,T,hm,hh,hcapg,hbig,honec,hrec⟩
     ·simp at hle2; omega
     rw [hm] at hm'; cases hm'
     have ho' : o = lo * ei.sz:=by
      rcases ho with h0 | h0
      ·omega
      ·exact h0
     subst ho'
     have hzl : (Builtin.zeroCells ei.zv.cells len).toList.length = len * ei.sz:=by rw [Array.length_toList,size_zeroCells,c2]
     have hzs : (Builtin.zeroCells ei.zv.cells len).size = len * ei.sz:=by rw [size_zeroCells,c2]
     have hb : lo * ei.sz + len * ei.sz ≤ cur.size:=by rw [← Nat.add_mul]; exact Nat.le_trans (Nat.mul_le_mul_right _ hle2) hbig
     have hone:=zeros_one (zokB_all c1) len
     have hst:=run_storeCells_at (P:=C.P) r (lo * ei.sz) T (Builtin.zeroCells ei.zv.cells len).toList 0 cur w hh (by rw [hzl]; omega) fun u hu=>by
      obtain ⟨j,hj,rfl⟩:=List.getElem_of_mem hu
      exact hone j _ (List.getElem?_eq_getElem hj)
     simp only [Nat.add_zero] at hst
     have hrun : (Builtin.clear_ #[t] ty #[.slice (some ⟨r,lo * ei.sz,none⟩) len cc]).run C.P w = .ok (.tuple #[]) (w.setRow r (cur.toList.take (lo * ei.sz) ++ (Builtin.zeroCells ei.zv.cells len).toList ++ cur.toList.drop (lo * ei.sz + (Builtin.zeroCells ei.zv.cells len).toList.length)).toArray):=by
      obtain ⟨m,rfl⟩ : ∃ m,len = m + 1:=⟨len - 1,by omega⟩
      have h0 : ∀ (a : Addr),(Builtin.clear_ #[t] ty #[.slice (some a) (m + 1) cc]).run C.P w = ((storeCells a (Builtin.zeroCells ei.zv.cells (m + 1)).toList).run C.P w).andThen fun _ w'=>.ok (.tuple #[]) w':=fun a=>by
       simp [Builtin.clear_,run_underlying hT,hE.run_zero]
      rw [h0,hst]
      rfl
     have S : Step g w L b (.row gen ei.sz (els.take lo ++ (List.replicate len (Go.Tidy.zeroCells ei) ++ els.drop (lo + len)))) g (w.setRow r (cur.toList.take (lo * ei.sz) ++ (Builtin.zeroCells ei.zv.cells len).toList ++ cur.toList.drop (lo * ei.sz + (Builtin.zeroCells ei.zv.cells len).toList.length)).toArray):=by
      refine ⟨hg,⟨_,hL,by simp⟩,by rw [hL]; simp,setRow_env _ _ _,by rw [setRow_size]; exact Nat.le_refl _,rfl,fun _ _=>rfl,fun _ _=>rfl,fun q o ho hne=>?_,fun r hr=>.inl hr,?_⟩
      ·rw [setRow_other (fun e=>hne (by rw [← e]; exact hm))]; exact ho
      ·exact ⟨fun cs' e=>(by rw [hL] at e; cases e),fun gen' sz' els' e=>(by rw [hL] at e; cases e; exact .inr ⟨_,_,_,List.getElem?_set_self hbl,.inr ⟨rfl,rfl,rfl,rfl,by simp; omega⟩⟩),fun es e=>(by rw [hL] at e; cases e),fun l e=>(by rw [hL] at e; cases e),fun e=>(by rw [hL] at e; cases e)⟩
     refine ⟨_,_,hrun,h,S.good' ⟨c3,?_,.inr ⟨r,_,T,hm,setRow_same hh,?_,?_,?_,?_⟩⟩,S.prog⟩
     ·intro e' he'
      rcases List.mem_append.1 he' with h' | h'
      ·exact hels e' (List.mem_of_mem_take h')
      ·rcases List.mem_append.1 h' with h' | h'
       ·rw [List.eq_of_mem_replicate h',z1,c2]
       ·exact hels e' (List.mem_of_mem_drop h')
     ·simp; omega
     ·have : (els.take lo ++ (List.replicate len (Go.Tidy.zeroCells ei) ++ els.drop (lo + len))).length = els.length:=by simp; omega
      rw [this]; simp; omega
     ·intro j v' hv'
      simp only [List.getElem?_toArray] at hv'
      rw [splice_get (by simp; omega)] at hv'
      split at hv'
      ·exact honec j v' (by simpa using hv')
      ·split at hv'
       ·exact hone _ v' hv'
       ·exact honec j v' (by simpa using hv')
     ·intro i' j x' v' hx' hv'
      simp only [List.getElem?_toArray] at hv'
      rw [splice_get (by simp; omega),hzl] at hv'
      rw [trd_get hle2] at hx'
      have hjs : ∀ (e' : List V),els[i']? = some e' → e'[j]? = some x' → j < ei.sz:=fun e' h1 h2=>by
       have:=lt_of_get h2; have:=hels e' (List.mem_of_getElem? h1); omega
      have hbnd : ∀ (e' : List V),els[i']? = some e' → i' < els.length:=fun e' h1=>lt_of_get h1
      by_cases h1 : i' < lo
      ·rw [if_pos h1] at hx'
       cases hq : els[i']? with
       | none=>rw [hq] at hx'; cases hx'
       | some e' =>
        have hj:=hjs e' hq (by rw [hq] at hx'; simpa using hx')
        have : i' * ei.sz + j < lo * ei.sz:=by
         have:=Nat.mul_le_mul_right ei.sz (show i' + 1 ≤ lo from h1)
         rw [Nat.succ_mul] at this; omega
        rw [if_pos this] at hv'
        exact S.mono (hrec i' j x' v' hx' (by simpa using hv'))
      ·rw [if_neg h1] at hx'
       have hlo : lo * ei.sz ≤ i' * ei.sz:=Nat.mul_le_mul_right _ (by omega)
       by_cases h2 : i' < lo + len
       ·rw [if_pos h2] at hx'
        simp only [Option.bind_some] at hx'
        have hj : j < ei.zv.cells.size:=by rw [← z1]; exact lt_of_get hx'
        have hlt : i' * ei.sz + j < lo * ei.sz + len * ei.sz:=by
         rw [← Nat.add_mul]
         have:=Nat.mul_le_mul_right ei.sz (show i' + 1 ≤ lo + len from h2)
         rw [Nat.succ_mul] at this; omega
        rw [if_neg (by omega),if_pos hlt] at hv'
        have hidx : i' * ei.sz + j - lo * ei.sz = (i' - lo) * ei.zv.cells.size + j:=by rw [c2,Nat.sub_mul]; omega
        rw [hidx,zeroCells_at (by omega) hj] at hv'
        exact S.mono (z3 j x' v' hx' hv')
       ·rw [if_neg h2] at hx'
        have hlt : lo * ei.sz + len * ei.sz ≤ i' * ei.sz:=by rw [← Nat.add_mul]; exact Nat.mul_le_mul_right _ (by omega)
        rw [if_neg (by omega),if_neg (by omega)] at hv'
        exact S.mono (hrec i' j x' v' hx' (by simpa using hv'))
   ·exact h.elim
  ·exact h.elim
 ·exact h.elim
def vMin (x y : V) (c : V → Prop) : Prop :=
 match x,y with
 | .d (.int k a),.d (.int k' b)=>bif decide (k = k') then c (.d (.int k (if b < a then b else a))) else False
 | _,_=>False
def vMax (x y : V) (c : V → Prop) : Prop :=
 match x,y with
 | .d (.int k a),.d (.int k' b)=>bif decide (k = k') then c (.d (.int k (if a < b then b else a))) else False
 | _,_=>False
theorem vMin_ok {x y : V} {v u : Value} (hx : RV g w L x v) (hy : RV g w L y u) (tys : Array TypeId) (ty : TypeId) {c : V → Prop} (h : vMin x y c) : ∃ r X,(Builtin.min_ tys ty #[v,u]).run C.P w = .ok r w ∧ c X ∧ RV g w L X r:=by
 unfold vMin at h
 split at h
 ·rename_i k a k' b
  cases hd : decide (k = k') with
  | false=>simp [hd] at h
  | true =>
  simp only [hd,cond_true] at h
  have:=of_decide_eq_true hd
  subst this
  cases hx with | d _ _ hx=>cases hx; cases hy with | d _ _ hy =>
  cases hy
  exact ⟨_,_,by simp [Builtin.min_,Builtin.min2],h,.d _ _ (.int _ _)⟩
 ·exact h.elim
theorem vMax_ok {x y : V} {v u : Value} (hx : RV g w L x v) (hy : RV g w L y u) (tys : Array TypeId) (ty : TypeId) {c : V → Prop} (h : vMax x y c) : ∃ r X,(Builtin.max_ tys ty #[v,u]).run C.P w = .ok r w ∧ c X ∧ RV g w L X r:=by
 unfold vMax at h
 split at h
 ·rename_i k a k' b
  cases hd : decide (k = k') with
  | false=>simp [hd] at h
  | true =>
  simp only [hd,cond_true] at h
  have:=of_decide_eq_true hd
  subst this
  cases hx with | d _ _ hx=>cases hx; cases hy with | d _ _ hy =>
  cases hy
  exact ⟨_,_,by simp [Builtin.max_,Builtin.max2],h,.d _ _ (.int _ _)⟩
 ·exact h.elim
end
end Go.Tidy
