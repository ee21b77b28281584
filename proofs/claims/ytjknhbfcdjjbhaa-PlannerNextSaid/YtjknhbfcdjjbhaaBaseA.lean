import Derived.Test.YtjknhbfcdjjbhaaRows
import Derived.WalkKit
import Derived.RangeFuncNested
/-
  The base layer: tidy values, the symbolic executor's words, and the relation to the machine's memory.
-/
namespace Go.Tidy

inductive D where
  | bool (b : Bool)
  | int (k : IntKind) (n : Int)
  | str (s : ByteArray)
  | sl (els : List (List D))
  | nilptr | nilfn | niliface | nilmap
  | rptr (cells : List D)
  | fn (f : FuncId) (caps : List D)
  | iface (t : TypeId) (agg : Bool) (cells : List D)
  deriving Inhabited

inductive V where
  | poison
  | tt | ff
  | d (x : D)
  | nil
  | own (b g lo len : Nat)
  | ptr (b off : Nat)
  | eptr (b g i off : Nat)
  | map (b : Nat)
  | fn (f : FuncId) (caps : List V)
  | iface (t : TypeId) (x : V)
  | agg (cs : List V)
  | tup (vs : List V)
  | yld (l : Nat)
  | glob (g : Nat)
  deriving Inhabited

structure LoopR where
  st : LoopState
  pend : Option Code
  fr : List (Nat × V)
  n : Nat
  ps : List Tmp
  assign : Code
  body : Code
  df : Nat

inductive Blk where
  | cells (cs : List V)
  | row (g sz : Nat) (els : List (List V))
  | map (es : List (V × V))
  | loop (r : LoopR)
  | defr
  | dead

inductive TK where
  | int (k : IntKind) | bool | str | sl (e : TypeId) | map (k e : TypeId) | struct (fs : List (Nat × TypeId)) | arr (n : Nat) (e : TypeId) | ptr (e : TypeId)
  | func | iface (empty : Bool) | tuple | keys (ks : List IntKind) | other

structure TI where
  sz : Nat
  bytes : Nat
  zv : Value
  k : TK
  eqok : Bool

structure Ctx where
  P : Program
  tt : Nat → Option TI
  pn : Nat := 0
  pan : V → List Blk → Prop := fun _ _ => False

structure TS where
  fr : List (Nat × V)
  n : Nat
  L : List Blk
  df : List Nat
  ro : Option Nat

def look : List (Nat × V) → Nat → V
  | [], _ => .poison
  | (j, v) :: r, i => bif Nat.beq j i then v else look r i

structure Gh where
  I : Nat → Prop
  m : Nat → Option Nat
  cap : Nat → Nat

inductive RD (I : Nat → Prop) (w : World) : D → Value → Prop
  | bool (b : Bool) : RD I w (.bool b) (.bool b)
  | int (k : IntKind) (n : Int) : RD I w (.int k n) (.int k n)
  | str (s : ByteArray) : RD I w (.str s) (.string s)
  | slNil (a : Option Addr) (c : Nat) : RD I w (.sl []) (.slice a 0 c)
  | sl (els : List (List D)) (ad : Addr) (c sz : Nat) (cs : Nat → Nat → Value) (hsz : ∀ e ∈ els, e.length = sz)
      (hcell : ∀ i j, i < els.length → j < sz → w.cell? (ad.add (i * sz + j)) = some (cs i j)) (hI : I ad.block) (hlc : els.length ≤ c)
      (hrec : ∀ (i j : Nat) (x : D), (els[i]?).bind (fun e => e[j]?) = some x → RD I w x (cs i j)) : RD I w (.sl els) (.slice (some ad) els.length c)
  | nilptr : RD I w .nilptr (.pointer none)
  | nilfn : RD I w .nilfn .nilFunc
  | niliface : RD I w .niliface .nilIface
  | nilmap : RD I w .nilmap (.map none)
  | rptr (cells : List D) (ad : Addr) (cs : Nat → Value) (hcell : ∀ j, j < cells.length → w.cell? (ad.add j) = some (cs j)) (hI : I ad.block)
      (hrec : ∀ (j : Nat) (x : D), cells[j]? = some x → RD I w x (cs j)) : RD I w (.rptr cells) (.pointer (some ad))
  | fn (f : FuncId) (caps : List D) (vs : Array Value) (hlen : caps.length = vs.size)
      (hrec : ∀ (j : Nat) (x : D) (v : Value), caps[j]? = some x → vs[j]? = some v → RD I w x v) : RD I w (.fn f caps) (.func (.func f) #[] vs)
  | ifaceA (t : TypeId) (cells : List D) (vs : Array Value) (hlen : cells.length = vs.size)
      (hrec : ∀ (j : Nat) (x : D) (v : Value), cells[j]? = some x → vs[j]? = some v → RD I w x v) : RD I w (.iface t true cells) (.iface t (.agg vs))
  | ifaceL (t : TypeId) (x : D) (v : Value) (h : RD I w x v) : RD I w (.iface t false [x]) (.iface t v)

theorem RD.mono {I I' : Nat → Prop} {w w' : World} (hI : ∀ r, I r → I' r) (hc : ∀ (a : Addr) (v : Value), I a.block → w.cell? a = some v → w'.cell? a = some v)
    {x : D} {v : Value} (h : RD I w x v) : RD I' w' x v := by
  induction h with
  | bool b => exact .bool b
  | int k n => exact .int k n
  | str s => exact .str s
  | slNil a c => exact .slNil a c
  | sl els ad c sz cs hsz hcell hi hlc _ ih =>
    refine .sl els ad c sz cs hsz (fun i j hi' hj => hc _ _ ?_ (hcell i j hi' hj)) (hI _ hi) hlc ih
    unfold Addr.add; split <;> exact hi
  | nilptr => exact .nilptr
  | nilfn => exact .nilfn
  | niliface => exact .niliface
  | nilmap => exact .nilmap
  | rptr cells ad cs hcell hi _ ih =>
    refine .rptr cells ad cs (fun j hj => hc _ _ ?_ (hcell j hj)) (hI _ hi) ih
    unfold Addr.add; split <;> exact hi
  | fn f caps vs hlen _ ih => exact .fn f caps vs hlen ih
  | ifaceA t cells vs hlen _ ih => exact .ifaceA t cells vs hlen ih
  | ifaceL t x v _ ih => exact .ifaceL t x v ih

theorem RD.one {I : Nat → Prop} {w : World} {x : D} {v : Value} (h : RD I w x v) : v.oneCell' = true := by cases h <;> rfl

inductive RV (g : Gh) (w : World) (L : List Blk) : V → Value → Prop
  | poison (v : Value) : RV g w L .poison v
  | tt : RV g w L .tt (.bool true)
  | ff : RV g w L .ff (.bool false)
  | d (x : D) (v : Value) (h : RD g.I w x v) : RV g w L (.d x) v
  | nil : RV g w L .nil (.slice none 0 0)
  | ptr (b off r : Nat) (cs : List V) (hL : L[b]? = some (.cells cs)) (hm : g.m b = some r) : RV g w L (.ptr b off) (.pointer (some ⟨r, off, none⟩))
  | ptrX (b off : Nat) (a : Addr) (hL : L[b]? = some .dead) : RV g w L (.ptr b off) (.pointer (some a))
  | own (b gen lo len sz r o c : Nat) (els : List (List V)) (hL : L[b]? = some (.row gen sz els)) (hm : g.m b = some r) (ho : c = 0 ∨ o = lo * sz) (hc : (lo + c) * sz ≤ g.cap b) (hlc : len ≤ c) (hle : lo + len ≤ els.length) :
      RV g w L (.own b gen lo len) (.slice (some ⟨r, o, none⟩) len c)
  | ownN (b gen sz : Nat) (els : List (List V)) {a : Option Addr} (hL : L[b]? = some (.row gen sz els)) (hm : g.m b = none) : RV g w L (.own b gen 0 0) (.slice a 0 0)
  | ownO (b gen gen' sz lo len : Nat) (els : List (List V)) (a : Option Addr) (n c : Nat) (hL : L[b]? = some (.row gen' sz els)) (hg : gen < gen') : RV g w L (.own b gen lo len) (.slice a n c)
  | ownX (b gen lo len : Nat) (a : Option Addr) (n c : Nat) (hL : L[b]? = some .dead) : RV g w L (.own b gen lo len) (.slice a n c)
  | eptr (b gen i off sz r : Nat) (els : List (List V)) (hL : L[b]? = some (.row gen sz els)) (hm : g.m b = some r) : RV g w L (.eptr b gen i off) (.pointer (some ⟨r, i * sz + off, none⟩))
  | eptrO (b gen gen' sz i off : Nat) (els : List (List V)) (a : Addr) (hL : L[b]? = some (.row gen' sz els)) (hg : gen < gen') : RV g w L (.eptr b gen i off) (.pointer (some a))
  | eptrX (b gen i off : Nat) (a : Addr) (hL : L[b]? = some .dead) : RV g w L (.eptr b gen i off) (.pointer (some a))
  | map (b r : Nat) (es : List (V × V)) (hL : L[b]? = some (.map es)) (hm : g.m b = some r) : RV g w L (.map b) (.map (some r))
  | mapX (b : Nat) (a : Option Nat) (hL : L[b]? = some .dead) : RV g w L (.map b) (.map a)
  | yld (b r : Nat) (l : LoopR) (hL : L[b]? = some (.loop l)) (hm : g.m b = some r) : RV g w L (.yld b) (.func (.yield r) #[] #[])
  | yldX (b r : Nat) (hL : L[b]? = some .dead) : RV g w L (.yld b) (.func (.yield r) #[] #[])
  | fn (f : FuncId) (caps : List V) (vs : Array Value) (hlen : caps.length = vs.size)
      (hrec : ∀ (j : Nat) (x : V) (v : Value), caps[j]? = some x → vs[j]? = some v → RV g w L x v) : RV g w L (.fn f caps) (.func (.func f) #[] vs)
  | iface (t : TypeId) (x : V) (v : Value) (h : RV g w L x v) : RV g w L (.iface t x) (.iface t v)
  | agg (cs : List V) (vs : Array Value) (hlen : cs.length = vs.size) (hone : ∀ (j : Nat) (v : Value), vs[j]? = some v → v.oneCell' = true)
      (hrec : ∀ (j : Nat) (x : V) (v : Value), cs[j]? = some x → vs[j]? = some v → RV g w L x v) : RV g w L (.agg cs) (.agg vs)
  | tup (cs : List V) (vs : Array Value) (hlen : cs.length = vs.size)
      (hrec : ∀ (j : Nat) (x : V) (v : Value), cs[j]? = some x → vs[j]? = some v → RV g w L x v) : RV g w L (.tup cs) (.tuple vs)
  | glob (k : Nat) : RV g w L (.glob k) (.pointer (some ⟨k, 0, none⟩))

structure Keep (g : Gh) (L : List Blk) (g' : Gh) (L' : List Blk) (b : Nat) : Prop where
  cells : ∀ cs, L[b]? = some (.cells cs) → L'[b]? = some .dead ∨ ∃ cs', L'[b]? = some (.cells cs') ∧ g'.m b = g.m b
  row : ∀ gen sz els, L[b]? = some (.row gen sz els) → L'[b]? = some .dead ∨ ∃ gen' sz' els', L'[b]? = some (.row gen' sz' els') ∧
    (gen < gen' ∨ gen = gen' ∧ sz = sz' ∧ g'.m b = g.m b ∧ g'.cap b = g.cap b ∧ els'.length = els.length)
  map : ∀ es, L[b]? = some (.map es) → L'[b]? = some .dead ∨ ∃ es', L'[b]? = some (.map es') ∧ g'.m b = g.m b
  loop : ∀ l, L[b]? = some (.loop l) → L'[b]? = some .dead ∨ ∃ l', L'[b]? = some (.loop l') ∧ g'.m b = g.m b
  dead : L[b]? = some .dead → L'[b]? = some .dead

theorem Keep.refl (g : Gh) (L : List Blk) (b : Nat) : Keep g L g L b :=
  ⟨fun cs h => .inr ⟨cs, h, rfl⟩, fun gen sz els h => .inr ⟨gen, sz, els, h, .inr ⟨rfl, rfl, rfl, rfl, rfl⟩⟩, fun es h => .inr ⟨es, h, rfl⟩, fun l h => .inr ⟨l, h, rfl⟩, fun h => h⟩

theorem Keep.same {g g' : Gh} {L L' : List Blk} {b : Nat} (hL : L'[b]? = L[b]?) (hm : g'.m b = g.m b) (hc : g'.cap b = g.cap b) : Keep g L g' L' b :=
  ⟨fun cs h => .inr ⟨cs, hL.trans h, hm⟩, fun gen sz els h => .inr ⟨gen, sz, els, hL.trans h, .inr ⟨rfl, rfl, hm, hc, rfl⟩⟩, fun es h => .inr ⟨es, hL.trans h, hm⟩,
   fun l h => .inr ⟨l, hL.trans h, hm⟩, fun h => hL.trans h⟩

mutual
def V.bel (k : Nat) : V → Bool
  | .own b _ _ _ => decide (b < k)
  | .ptr b _ => decide (b < k)
  | .eptr b _ _ _ => decide (b < k)
  | .map b => decide (b < k)
  | .yld b => decide (b < k)
  | .fn _ caps => V.belL k caps
  | .iface _ x => V.bel k x
  | .agg cs => V.belL k cs
  | .tup cs => V.belL k cs
  | .poison | .tt | .ff | .d _ | .nil | .glob _ => true
def V.belL (k : Nat) : List V → Bool
  | [] => true
  | x :: r => V.bel k x && V.belL k r
end

theorem V.belL_get {k : Nat} : ∀ {cs : List V} {j : Nat} {x : V}, V.belL k cs = true → cs[j]? = some x → x.bel k = true
  | [], j, x, _, h => by simp at h
  | c :: r, 0, x, hb, h => by simp only [V.belL, Bool.and_eq_true] at hb; simp at h; exact h ▸ hb.1
  | c :: r, j + 1, x, hb, h => by simp only [V.belL, Bool.and_eq_true] at hb; exact V.belL_get hb.2 (by simpa using h)

theorem V.belL_of {k : Nat} : ∀ {cs : List V}, (∀ (j : Nat) (x : V), cs[j]? = some x → x.bel k = true) → V.belL k cs = true
  | [], _ => rfl
  | c :: r, h => by
    simp only [V.belL, Bool.and_eq_true]
    exact ⟨h 0 c rfl, V.belL_of fun j x hx => h (j + 1) x (by simpa using hx)⟩

theorem RV.mono {g g' : Gh} {w w' : World} {L L' : List Blk} {k : Nat} (hI : ∀ r, g.I r → g'.I r) (hc : ∀ (a : Addr) (v : Value), g.I a.block → w.cell? a = some v → w'.cell? a = some v)
    (hK : ∀ b, b < k → Keep g L g' L' b) {x : V} {v : Value} (hx : x.bel k = true) (h : RV g w L x v) : RV g' w' L' x v := by
  induction h with
  | poison v => exact .poison v
  | tt => exact .tt
  | ff => exact .ff
  | d x v h => exact .d x v (h.mono hI hc)
  | nil => exact .nil
  | ptr b off r cs hL hm =>
    rcases (hK b (by simpa [V.bel] using hx)).cells cs hL with h | ⟨cs', h, hm'⟩
    · exact .ptrX b off _ h
    · exact .ptr b off r cs' h (hm'.trans hm)
  | ptrX b off a hL => exact .ptrX b off a ((hK b (by simpa [V.bel] using hx)).dead hL)
  | own b gen lo len sz r o c els hL hm ho hcap hlc hle =>
    rcases (hK b (by simpa [V.bel] using hx)).row gen sz els hL with h | ⟨gen', sz', els', h, hg | ⟨rfl, rfl, hm', hc', hl'⟩⟩
    · exact .ownX b gen lo len _ _ _ h
    · exact .ownO b gen gen' sz' lo len els' _ _ _ h hg
    · exact .own b gen lo len sz r o c els' h (hm'.trans hm) ho (by rw [hc']; exact hcap) hlc (by rw [hl']; exact hle)
  | ownN b gen sz els hL hm =>
    rcases (hK b (by simpa [V.bel] using hx)).row gen sz els hL with h | ⟨gen', sz', els', h, hg | ⟨rfl, rfl, hm', hc', hl'⟩⟩
    · exact .ownX b gen 0 0 _ _ _ h
    · exact .ownO b gen gen' sz' 0 0 els' _ _ _ h hg
    · exact .ownN b gen sz els' h (hm'.trans hm)
  | ownO b gen gen1 sz lo len els a n c hL hg0 =>
    rcases (hK b (by simpa [V.bel] using hx)).row gen1 sz els hL with h | ⟨gen', sz', els', h, hg | ⟨rfl, rfl, hm', hc', hl'⟩⟩
    · exact .ownX b gen lo len _ _ _ h
    · exact .ownO b gen gen' sz' lo len els' _ _ _ h (by omega)
    · exact .ownO b gen gen1 sz lo len els' _ _ _ h hg0
  | ownX b gen lo len a n c hL => exact .ownX b gen lo len a n c ((hK b (by simpa [V.bel] using hx)).dead hL)
  | eptr b gen i off sz r els hL hm =>
    rcases (hK b (by simpa [V.bel] using hx)).row gen sz els hL with h | ⟨gen', sz', els', h, hg | ⟨rfl, rfl, hm', hc', hl'⟩⟩
    · exact .eptrX b gen i off _ h
    · exact .eptrO b gen gen' sz' i off els' _ h hg
    · exact .eptr b gen i off sz r els' h (hm'.trans hm)
  | eptrO b gen gen1 sz i off els a hL hg0 =>
    rcases (hK b (by simpa [V.bel] using hx)).row gen1 sz els hL with h | ⟨gen', sz', els', h, hg | ⟨rfl, rfl, hm', hc', hl'⟩⟩
    · exact .eptrX b gen i off _ h
    · exact .eptrO b gen gen' sz' i off els' _ h (by omega)
    · exact .eptrO b gen gen1 sz i off els' _ h hg0
  | eptrX b gen i off a hL => exact .eptrX b gen i off a ((hK b (by simpa [V.bel] using hx)).dead hL)
  | map b r es hL hm =>
    rcases (hK b (by simpa [V.bel] using hx)).map es hL with h | ⟨es', h, hm'⟩
    · exact .mapX b _ h
    · exact .map b r es' h (hm'.trans hm)
  | mapX b a hL => exact .mapX b a ((hK b (by simpa [V.bel] using hx)).dead hL)
  | yld b r l hL hm =>
    rcases (hK b (by simpa [V.bel] using hx)).loop l hL with h | ⟨l', h, hm'⟩
    · exact .yldX b _ h
    · exact .yld b r l' h (hm'.trans hm)
  | yldX b r hL => exact .yldX b r ((hK b (by simpa [V.bel] using hx)).dead hL)
  | fn f caps vs hlen _ ih => exact .fn f caps vs hlen fun j x v h1 h2 => ih j x v h1 h2 (V.belL_get (by simpa [V.bel] using hx) h1)
  | iface t x v _ ih => exact .iface t x v (ih (by simpa [V.bel] using hx))
  | agg cs vs hlen hone _ ih => exact .agg cs vs hlen hone fun j x v h1 h2 => ih j x v h1 h2 (V.belL_get (by simpa [V.bel] using hx) h1)
  | tup cs vs hlen _ ih => exact .tup cs vs hlen fun j x v h1 h2 => ih j x v h1 h2 (V.belL_get (by simpa [V.bel] using hx) h1)
  | glob k => exact .glob k

theorem lt_of_get {α : Type} {L : List α} {b : Nat} {k : α} (h : L[b]? = some k) : b < L.length := by
  rcases Nat.lt_or_ge b L.length with hl | hl
  · exact hl
  · rw [List.getElem?_eq_none hl] at h; cases h

theorem RV.bel {g : Gh} {w : World} {L : List Blk} {x : V} {v : Value} (h : RV g w L x v) : x.bel L.length = true := by
  induction h with
  | fn f caps vs hlen _ ih => exact V.belL_of fun j x hx => ih j x (vs[j]'(by have := lt_of_get hx; omega)) hx (Array.getElem?_eq_getElem _)
  | agg cs vs hlen _ _ ih => exact V.belL_of fun j x hx => ih j x (vs[j]'(by have := lt_of_get hx; omega)) hx (Array.getElem?_eq_getElem _)
  | tup cs vs hlen _ ih => exact V.belL_of fun j x hx => ih j x (vs[j]'(by have := lt_of_get hx; omega)) hx (Array.getElem?_eq_getElem _)
  | iface t x v _ ih => simpa [V.bel] using ih
  | poison | tt | ff | d | nil | glob => rfl
  | ptr b off r cs hL | ptrX b off a hL | own b _ _ _ _ _ _ _ _ hL | ownN b _ _ _ hL | ownO b _ _ _ _ _ _ _ _ _ hL | ownX b _ _ _ _ _ _ hL | eptr b _ _ _ _ _ _ hL
    | eptrO b _ _ _ _ _ _ _ hL | eptrX b _ _ _ _ hL | map b _ _ hL | mapX b _ hL | yld b _ _ hL | yldX b _ hL => simp only [V.bel]; exact decide_eq_true (lt_of_get hL)

def live (L : List Blk) (b : Nat) : Prop := ∃ k, L[b]? = some k ∧ k ≠ .dead
def owned (g : Gh) (L : List Blk) (r : Nat) : Prop := ∃ b, live L b ∧ g.m b = some r

def RC (g : Gh) (w : World) (L : List Blk) (x : V) (v : Value) : Prop := RV g w L x v ∧ v.oneCell' = true

def validF (f : Nat) : Prop := ∃ fn, Go.Proofs.Try.prog.funcs[f]? = some fn
def RB (g : Gh) (w : World) (L : List Blk) (b : Nat) : Blk → Prop
  | .cells cs => ∃ r cur T, g.m b = some r ∧ w.heap[r]? = some (.cells cur T (0, 0)) ∧ cur.size = cs.length ∧ (∀ (i : Nat) (v : Value), cur[i]? = some v → v.oneCell' = true) ∧
      ∀ (i : Nat) (x : V) (v : Value), cs[i]? = some x → cur[i]? = some v → RV g w L x v
  | .row _ sz els => 0 < sz ∧ (∀ e ∈ els, e.length = sz) ∧ ((g.m b = none ∧ els = []) ∨
      ∃ r cur T, g.m b = some r ∧ w.heap[r]? = some (.cells cur T (0, 0)) ∧ cur.size = g.cap b ∧ els.length * sz ≤ cur.size ∧ (∀ (i : Nat) (v : Value), cur[i]? = some v → v.oneCell' = true) ∧
        ∀ (i j : Nat) (x : V) (v : Value), (els[i]?).bind (fun e => e[j]?) = some x → cur[i * sz + j]? = some v → RV g w L x v)
  | .map es => ∃ r ents clock, g.m b = some r ∧ w.heap[r]? = some (.map ents clock) ∧ ents.size = es.length ∧
      ∀ (i : Nat) (x : V × V) (e : MapEntry), es[i]? = some x → ents[i]? = some e → RV g w L x.1 e.key ∧ RV g w L x.2 e.val
  | .loop l => ∃ r rec, g.m b = some r ∧ w.heap[r]? = some (.loop rec) ∧ rec.state = l.st ∧ rec.pending = l.pend ∧ rec.params = l.ps.toArray ∧ rec.assign = l.assign ∧ rec.body = l.body ∧
      rec.tmps.size = l.n ∧ (∀ i, RV g w L (look l.fr i) (rec.tmps.getD i undef)) ∧ g.m l.df = some rec.defers ∧ L[l.df]? = some .defr ∧ validF rec.fn
  | .defr => ∃ r, g.m b = some r ∧ w.heap[r]? = some (.deferred (some []))
  | .dead => True

def gtab : List (Nat × List D) := []
def GlobOK (I : Nat → Prop) (w : World) : Prop := ∀ p ∈ gtab, RD I w (.rptr p.2) (.pointer (some ⟨p.1, 0, none⟩))
theorem GlobOK.mono {I I' : Nat → Prop} {w w' : World} (hI : ∀ r, I r → I' r) (hc : ∀ (a : Addr) (v : Value), I a.block → w.cell? a = some v → w'.cell? a = some v) (h : GlobOK I w) : GlobOK I' w' :=
  fun p hp => (h p hp).mono hI hc
theorem GlobOK.same {I : Nat → Prop} {w w' : World} (hh : w'.heap = w.heap) (h : GlobOK I w) : GlobOK I w' :=
  h.mono (fun _ h => h) fun a v _ hv => by simpa [World.cell?, hh] using hv

structure Good (g : Gh) (w : World) (L : List Blk) : Prop where
  inj : ∀ b b' r, live L b → live L b' → g.m b = some r → g.m b' = some r → b = b'
  dis : ∀ r, owned g L r → ¬ g.I r
  lt : ∀ r, g.I r → r < w.heap.size
  blk : ∀ b k, L[b]? = some k → RB g w L b k
  gl : GlobOK g.I w

theorem Good.owned_lt {g : Gh} {w : World} {L : List Blk} (h : Good g w L) {r : Nat} (ho : owned g L r) : r < w.heap.size := by
  obtain ⟨b, ⟨k, hk, hd⟩, hm⟩ := ho
  have hb := h.blk b k hk
  have fin : ∀ {o : Obj}, w.heap[r]? = some o → r < w.heap.size := fun h => (Array.getElem?_eq_some_iff.1 h).1
  cases k with
  | cells cs => obtain ⟨r', cur, T, h1, h2, _⟩ := hb; rw [hm] at h1; cases h1; exact fin h2
  | row gen sz els =>
    obtain ⟨_, _, ⟨h1, _⟩ | ⟨r', cur, T, h1, h2, _⟩⟩ := hb
    · rw [hm] at h1; cases h1
    · rw [hm] at h1; cases h1; exact fin h2
  | map es => obtain ⟨r', ents, clock, h1, h2, _⟩ := hb; rw [hm] at h1; cases h1; exact fin h2
  | loop l => obtain ⟨r', rec, h1, h2, _⟩ := hb; rw [hm] at h1; cases h1; exact fin h2
  | defr => obtain ⟨r', h1, h2⟩ := hb; rw [hm] at h1; cases h1; exact fin h2
  | dead => exact absurd rfl hd

structure Prog (k : Nat) (g : Gh) (w : World) (L : List Blk) (g' : Gh) (w' : World) (L' : List Blk) : Prop where
  env : w'.tape = w.tape ∧ w'.os = w.os ∧ w'.output = w.output
  size : w.heap.size ≤ w'.heap.size
  kept : ∀ r o, w.heap[r]? = some o → ¬ owned g L r → w'.heap[r]? = some o
  own : ∀ r, owned g' L' r → r < w.heap.size → owned g L r
  imm : ∀ r, g'.I r → g.I r ∨ w.heap.size ≤ r ∨ owned g L r
  immk : ∀ r, g.I r → g'.I r
  mono : ∀ (x : V) (v : Value), x.bel k = true → RV g w L x v → RV g' w' L' x v
  defr : ∀ b r, b < k → L[b]? = some .defr → g.m b = some r → L'[b]? = some .defr ∧ g'.m b = some r
  len : k ≤ L.length → k ≤ L'.length

theorem Prog.refl (k : Nat) (g : Gh) (w : World) (L : List Blk) : Prog k g w L g w L :=
  ⟨⟨rfl, rfl, rfl⟩, Nat.le_refl _, fun _ _ h _ => h, fun _ h _ => h, fun _ h => .inl h, fun _ h => h, fun _ _ _ h => h, fun _ _ _ h h' => ⟨h, h'⟩, fun h => h⟩

theorem Prog.trans {k : Nat} {g0 g1 g2 : Gh} {w0 w1 w2 : World} {L0 L1 L2 : List Blk} (h : Prog k g0 w0 L0 g1 w1 L1) (h' : Prog k g1 w1 L1 g2 w2 L2) : Prog k g0 w0 L0 g2 w2 L2 where
  env := ⟨h'.env.1.trans h.env.1, h'.env.2.1.trans h.env.2.1, h'.env.2.2.trans h.env.2.2⟩
  size := Nat.le_trans h.size h'.size
  kept r o hr hn := h'.kept r o (h.kept r o hr hn) fun ho => hn (h.own r ho (Array.getElem?_eq_some_iff.1 hr).1)
  own r ho hl := h.own r (h'.own r ho (Nat.lt_of_lt_of_le hl h.size)) hl
  imm r hr := by
    rcases h'.imm r hr with h1 | h1 | h1
    · exact h.imm r h1
    · exact .inr (.inl (Nat.le_trans h.size h1))
    · rcases Nat.lt_or_ge r w0.heap.size with hl | hl
      · exact .inr (.inr (h.own r h1 hl))
      · exact .inr (.inl hl)
  immk r hr := h'.immk r (h.immk r hr)
  mono x v hx hv := h'.mono x v hx (h.mono x v hx hv)
  defr b r hb hL hm := h'.defr b r hb (h.defr b r hb hL hm).1 (h.defr b r hb hL hm).2
  len hk := h'.len (h.len hk)

mutual
theorem V.bel_le {k k' : Nat} (hk : k ≤ k') : ∀ x : V, x.bel k = true → x.bel k' = true
  | .own b _ _ _, h | .ptr b _, h | .eptr b _ _ _, h | .map b, h | .yld b, h => by simp only [V.bel, decide_eq_true_eq] at h ⊢; omega
  | .fn _ caps, h => by simp only [V.bel] at h ⊢; exact V.belL_le hk caps h
  | .iface _ x, h => by simp only [V.bel] at h ⊢; exact V.bel_le hk x h
  | .agg cs, h => by simp only [V.bel] at h ⊢; exact V.belL_le hk cs h
  | .tup cs, h => by simp only [V.bel] at h ⊢; exact V.belL_le hk cs h
  | .poison, _ | .tt, _ | .ff, _ | .d _, _ | .nil, _ | .glob _, _ => by simp [V.bel]
theorem V.belL_le {k k' : Nat} (hk : k ≤ k') : ∀ cs : List V, V.belL k cs = true → V.belL k' cs = true
  | [], _ => rfl
  | x :: r, h => by
    simp only [V.belL, Bool.and_eq_true] at h ⊢
    exact ⟨V.bel_le hk x h.1, V.belL_le hk r h.2⟩
end

theorem Prog.le {k k' : Nat} {g g' : Gh} {w w' : World} {L L' : List Blk} (hk : k ≤ k') (hl : k' ≤ L.length) (h : Prog k' g w L g' w' L') : Prog k g w L g' w' L' :=
  ⟨h.env, h.size, h.kept, h.own, h.imm, h.immk, fun x v hx hv => h.mono x v (V.bel_le hk x hx) hv, fun b r hb => h.defr b r (Nat.lt_of_lt_of_le hb hk), fun _ => Nat.le_trans hk (h.len hl)⟩

structure St (k : Nat) (r : Option Nat) (g : Gh) (σ : TS) (a : Act) (w : World) : Prop where
  n : a.tmps.size = σ.n
  fr : ∀ i, RV g w σ.L (look σ.fr i) (a.tmps.getD i undef)
  good : Good g w σ.L
  k : k ≤ σ.L.length
  df : a.defers.length = σ.df.length
  dfs : ∀ (i : Nat) (b : Nat) (d : Deferred), σ.df[i]? = some b → a.defers[i]? = some d → ∃ q, g.m b = some q ∧ d = { target := .collected q, args := #[] } ∧ σ.L[b]? = some .defr
  ro : ∀ lb, σ.ro = some lb → ∃ l, r = some l ∧ RV g w σ.L (.yld lb) (.func (.yield l) #[] #[])
  ro' : σ.ro = none → r = none

end Go.Tidy

/-
  The base layer: what one operation does to a tidy state, and that the machine's operation does so.
-/
namespace Go.Tidy

def TK.isAgg : TK → Bool
  | .struct _ | .arr _ _ => true
  | _ => false

def kindOK : TK → TypeDesc → Prop
  | .int k, .int k' => k = k'
  | .bool, .bool => True
  | .str, .string => True
  | .sl e, .slice e' => e = e'
  | .map k e, .map k' e' => k = k' ∧ e = e'
  | .struct fs, .struct fields => fields.toList.map (fun f => (f.offset, f.type)) = fs ∧ fields.toList.all (fun f => f.name != "_") = true
  | .arr n e, .array n' e' => n = n' ∧ e = e'
  | .ptr e, .pointer e' => e = e'
  | .func, .func _ _ _ => True
  | .iface b, .interface ms => b = ms.isEmpty
  | .tuple, .tuple _ => True
  | .other, .struct _ => False
  | .other, .array _ _ => False
  | .other, _ => True
  | _, _ => False

structure TIok (P : Program) (t : TypeId) (ti : TI) : Prop where
  info : (P.info? t).map (fun i => (i.size, i.bytes, i.zero)) = some (ti.sz, ti.bytes, some ti.zv)
  und : ∃ u, P.underlying t = some u ∧ kindOK ti.k u
  one : ti.k.isAgg = false → ti.sz = 1
  eqok : ti.eqok = true → P.eqGuardType P.depth t = false ∧ P.stoodInHeld t = false

structure Ctx.OK (C : Ctx) : Prop where
  ty : ∀ t ti, C.tt t = some ti → TIok C.P t ti
  fs : ∀ f fn, C.P.funcs[f]? = some fn → validF f
  ex : ∀ f, validF f → ∃ fn, C.P.funcs[f]? = some fn
instance {C : Ctx} : CoeFun (C.OK) (fun _ => ∀ t ti, C.tt t = some ti → TIok C.P t ti) := ⟨Ctx.OK.ty⟩

@[irreducible] def Br (t : Bool) (k : Bool → Prop) : Prop := (t = true → k true) ∧ (t = false → k false)
theorem Br.intro {t : Bool} {k : Bool → Prop} (h1 : t = true → k true) (h2 : t = false → k false) : Br t k := by unfold Br; exact ⟨h1, h2⟩
theorem Br.lit {t : Bool} {k : Bool → Prop} (b : Bool) (h : t = b) (hk : k b) : Br t k := by subst h; unfold Br; exact ⟨fun h => h ▸ hk, fun h => h ▸ hk⟩
theorem Br.out {t : Bool} {k : Bool → Prop} (h : Br t k) : k t := by unfold Br at h; cases t; exact h.2 rfl; exact h.1 rfl

@[irreducible] def Idx {α : Type} (els : List α) (i : Int) (k : Nat → α → Prop) : Prop := ∃ n : Nat, i = n ∧ ∃ e, els[n]? = some e ∧ k n e
theorem Idx.intro {α : Type} {els : List α} {i : Int} {k : Nat → α → Prop} (n : Nat) (e : α) (hi : i = n) (he : els[n]? = some e) (hk : k n e) : Idx els i k := by
  unfold Idx; exact ⟨n, hi, e, he, hk⟩
@[irreducible] def IdxN (len : Nat) (i : Int) (k : Nat → Prop) : Prop := ∃ n : Nat, i = n ∧ n < len ∧ k n
theorem IdxN.intro {len : Nat} {i : Int} {k : Nat → Prop} (n : Nat) (hi : i = n) (hn : n < len) (hk : k n) : IdxN len i k := by unfold IdxN; exact ⟨n, hi, hn, hk⟩
@[irreducible] def GetE {α : Type} (els : List α) (n : Nat) (k : α → Prop) : Prop := ∃ e, els[n]? = some e ∧ k e
theorem GetE.intro {α : Type} {els : List α} {n : Nat} {k : α → Prop} (e : α) (he : els[n]? = some e) (hk : k e) : GetE els n k := by unfold GetE; exact ⟨e, he, hk⟩
@[irreducible] def Need (p : Prop) (k : Prop) : Prop := p ∧ k
theorem Need.intro {p k : Prop} (h : p) (hk : k) : Need p k := by unfold Need; exact ⟨h, hk⟩
theorem Need.out {p k : Prop} (h : Need p k) : p ∧ k := by unfold Need at h; exact h

def V.head (x : V) (K : V → Prop) : Prop :=
  match x with
  | .poison => K .poison
  | .tt => K .tt
  | .ff => K .ff
  | .d y => K (.d y)
  | .nil => K .nil
  | .own b g lo len => K (.own b g lo len)
  | .ptr b off => K (.ptr b off)
  | .eptr b g i off => K (.eptr b g i off)
  | .map b => K (.map b)
  | .fn f caps => K (.fn f caps)
  | .iface t y => K (.iface t y)
  | .agg cs => K (.agg cs)
  | .tup cs => K (.tup cs)
  | .yld l => K (.yld l)
  | .glob g => K (.glob g)
theorem V.head_eq (x : V) (K : V → Prop) : V.head x K = K x := by cases x <;> rfl
def forceL : List V → (List V → Prop) → Prop
  | [], K => K []
  | x :: r, K => V.head x fun x => forceL r fun r => K (x :: r)
theorem forceL_eq : ∀ (l : List V) (K : List V → Prop), forceL l K = K l
  | [], K => rfl
  | x :: r, K => by simp only [forceL, V.head_eq, forceL_eq r]
def V.force (x : V) (K : V → Prop) : Prop :=
  match x with
  | .agg cs => forceL cs fun cs => K (.agg cs)
  | .tup cs => forceL cs fun cs => K (.tup cs)
  | .fn f cs => forceL cs fun cs => K (.fn f cs)
  | x => V.head x K
theorem V.force_eq (x : V) (K : V → Prop) : V.force x K = K x := by cases x <;> simp [V.force, V.head, forceL_eq]
def setB : List Blk → Nat → Blk → (List Blk → Prop) → Prop
  | [], _, _, K => K []
  | _ :: r, 0, x, K => K (x :: r)
  | y :: r, n + 1, x, K => setB r n x fun r => K (y :: r)
theorem setB_eq : ∀ (L : List Blk) (b : Nat) (x : Blk) (K : List Blk → Prop), setB L b x K = K (L.set b x)
  | [], _, _, _ => rfl
  | _ :: _, 0, _, _ => rfl
  | y :: r, n + 1, x, K => by simp only [setB, setB_eq r n x, List.set]
def pushB : List Blk → Blk → (List Blk → Prop) → Prop
  | [], x, K => K [x]
  | y :: r, x, K => pushB r x fun r => K (y :: r)
theorem pushB_eq : ∀ (L : List Blk) (x : Blk) (K : List Blk → Prop), pushB L x K = K (L ++ [x])
  | [], _, _ => rfl
  | y :: r, x, K => by simp only [pushB, pushB_eq r x, List.cons_append]

def ofLeaf : Value → V
  | .bool b => .d (.bool b)
  | .int k n => .d (.int k n)
  | .string s => .d (.str s)
  | .pointer none => .d .nilptr
  | .slice none 0 0 => .nil
  | .map none => .d .nilmap
  | .nilFunc => .d .nilfn
  | .nilIface => .d .niliface
  | _ => .poison
def ofConst : Value → V
  | .agg cs => bif cs.toList.all (·.oneCell') then .agg (cs.toList.map ofLeaf) else .poison
  | v => ofLeaf v

theorem ofLeaf_ok (g : Gh) (w : World) (L : List Blk) (v : Value) : RV g w L (ofLeaf v) v := by
  unfold ofLeaf
  split
  · exact .d _ _ (.bool _)
  · exact .d _ _ (.int _ _)
  · exact .d _ _ (.str _)
  · exact .d _ _ .nilptr
  · exact .nil
  · exact .d _ _ .nilmap
  · exact .d _ _ .nilfn
  · exact .d _ _ .niliface
  · exact .poison _

theorem ofConst_ok (g : Gh) (w : World) (L : List Blk) (v : Value) : RV g w L (ofConst v) v := by
  unfold ofConst
  split
  · rename_i cs
    cases h : cs.toList.all (·.oneCell') with
    | true =>
      refine .agg _ _ (by simp) (fun j v hv => ?_) (fun j x v hx hv => ?_)
      · exact List.all_eq_true.1 h v (List.mem_of_getElem? (i := j) (by simpa using hv))
      · rw [List.getElem?_map] at hx
        have : cs.toList[j]? = some v := by simpa using hv
        rw [this] at hx
        cases hx
        exact ofLeaf_ok g w L v
    | false => exact .poison _
  · exact ofLeaf_ok g w L _

def norm : V → V
  | .tt => .d (.bool true)
  | .ff => .d (.bool false)
  | v => v
theorem norm_ok {g : Gh} {w : World} {L : List Blk} {x : V} {v : Value} (h : RV g w L x v) : RV g w L (norm x) v := by
  unfold norm
  split
  · cases h; exact .d _ _ (.bool _)
  · cases h; exact .d _ _ (.bool _)
  · exact h
def globV : List (Nat × List D) → Nat → V
  | [], g => .glob g
  | (k, cs) :: r, g => bif Nat.beq k g then .d (.rptr cs) else globV r g
theorem globV_ok {g : Gh} {w : World} {L : List Blk} (k : Nat) : ∀ t : List (Nat × List D), (∀ p ∈ t, RD g.I w (.rptr p.2) (.pointer (some ⟨p.1, 0, none⟩))) → RV g w L (globV t k) (.pointer (some ⟨k, 0, none⟩))
  | [], _ => .glob k
  | (j, cs) :: r, h => by
    unfold globV
    cases e : Nat.beq j k with
    | true =>
      have hj := h (j, cs) (by simp)
      have := Nat.eq_of_beq_eq_true e
      subst this
      exact .d _ _ hj
    | false => exact globV_ok k r fun p hp => h p (by simp [hp])
def ev (fr : List (Nat × V)) : Operand → V
  | .tmp t => norm (look fr t)
  | .const v => ofConst v
  | .global g => globV gtab g
  | .func f => .fn f []

theorem ev_ok {g : Gh} {w : World} {L : List Blk} {fr : List (Nat × V)} {a : Act} (hgl : GlobOK g.I w) (h : ∀ i, RV g w L (look fr i) (a.tmps.getD i undef)) (x : Operand) : RV g w L (ev fr x) (a.eval x) := by
  cases x with
  | tmp t => exact norm_ok (h t)
  | const v => exact ofConst_ok g w L v
  | global k => exact globV_ok k gtab hgl
  | func f => exact .fn f [] #[] rfl (fun j x v h _ => by simp at h)

def evB (fr : List (Nat × V)) : Operand → V
  | .tmp t => look fr t
  | .const (.bool true) => .tt
  | .const (.bool false) => .ff
  | x => ev fr x
theorem evB_ok {g : Gh} {w : World} {L : List Blk} {fr : List (Nat × V)} {a : Act} (hgl : GlobOK g.I w) (h : ∀ i, RV g w L (look fr i) (a.tmps.getD i undef)) (x : Operand) : RV g w L (evB fr x) (a.eval x) := by
  cases x with
  | tmp t => exact h t
  | const v =>
    unfold evB
    split
    · rename_i e; cases e
    · rename_i e; cases e; exact .tt
    · rename_i e; cases e; exact .ff
    · exact ev_ok hgl h (.const v)
  | global k => exact ev_ok hgl h (.global k)
  | func f => exact ev_ok hgl h (.func f)
theorem RV.bool_of {g : Gh} {w : World} {L : List Blk} {t : Bool} {v : Value} (h : RV g w L (.d (.bool t)) v) : v = .bool t := by cases h with | d _ _ hd => cases hd; rfl

def mk (agg : Bool) (cs : List V) : V := bif agg then .agg cs else match cs with | [v] => v | _ => .poison
def cellsOf : V → List V
  | .agg cs => cs
  | v => [v]
def V.stor : V → Bool
  | .poison | .tup _ => false
  | _ => true

theorem RV.cells {g : Gh} {w : World} {L : List Blk} {x : V} {v : Value} (h : RV g w L x v) (hs : x.stor = true) :
    (cellsOf x).length = v.cells.size ∧ (∀ (j : Nat) (u : Value), v.cells[j]? = some u → u.oneCell' = true) ∧
    ∀ (j : Nat) (y : V) (u : Value), (cellsOf x)[j]? = some y → v.cells[j]? = some u → RV g w L y u := by
  have leaf : ∀ {x : V} {v : Value}, RV g w L x v → cellsOf x = [x] → v.cells = #[v] → v.oneCell' = true → (cellsOf x).length = v.cells.size ∧ (∀ (j : Nat) (u : Value), v.cells[j]? = some u → u.oneCell' = true) ∧
      ∀ (j : Nat) (y : V) (u : Value), (cellsOf x)[j]? = some y → v.cells[j]? = some u → RV g w L y u := by
    intro x v h h1 h2 h3
    rw [h1, h2]
    refine ⟨rfl, fun j u hu => ?_, fun j y u hy hu => ?_⟩
    · cases j with
      | zero => simp at hu; exact hu ▸ h3
      | succ j => simp at hu
    · cases j with
      | zero => simp at hy hu; exact hy ▸ hu ▸ h
      | succ j => simp at hu
  cases h with
  | poison v => simp [V.stor] at hs
  | tt => exact leaf .tt rfl rfl rfl
  | ff => exact leaf .ff rfl rfl rfl
  | tup => simp [V.stor] at hs
  | d x v h => exact leaf (.d x v h) rfl (by cases h <;> rfl) h.one
  | agg cs vs hlen hone hrec => exact ⟨hlen, hone, hrec⟩
  | nil => exact leaf .nil rfl rfl rfl
  | ptr b off r cs hL hm => exact leaf (.ptr b off r cs hL hm) rfl rfl rfl
  | ptrX b off a hL => exact leaf (.ptrX b off a hL) rfl rfl rfl
  | own b gen lo len sz r o c els hL hm ho hc hlc hle => exact leaf (.own b gen lo len sz r o c els hL hm ho hc hlc hle) rfl rfl rfl
  | ownN b gen sz els hL hm => exact leaf (.ownN b gen sz els hL hm) rfl rfl rfl
  | ownO b gen gen' sz lo len els a n c hL hg => exact leaf (.ownO b gen gen' sz lo len els a n c hL hg) rfl rfl rfl
  | ownX b gen lo len a n c hL => exact leaf (.ownX b gen lo len a n c hL) rfl rfl rfl
  | eptr b gen i off sz r els hL hm => exact leaf (.eptr b gen i off sz r els hL hm) rfl rfl rfl
  | eptrO b gen gen' sz i off els a hL hg => exact leaf (.eptrO b gen gen' sz i off els a hL hg) rfl rfl rfl
  | eptrX b gen i off a hL => exact leaf (.eptrX b gen i off a hL) rfl rfl rfl
  | map b r es hL hm => exact leaf (.map b r es hL hm) rfl rfl rfl
  | mapX b a hL => exact leaf (.mapX b a hL) rfl rfl rfl
  | yld b r l hL hm => exact leaf (.yld b r l hL hm) rfl rfl rfl
  | yldX b r hL => exact leaf (.yldX b r hL) rfl rfl rfl
  | fn f caps vs hlen hrec => exact leaf (.fn f caps vs hlen hrec) rfl rfl rfl
  | iface t x v h => exact leaf (.iface t x v h) rfl rfl rfl
  | glob k => exact leaf (.glob k) rfl rfl rfl

def vLoad (C : Ctx) (t : TypeId) (x : V) (L : List Blk) (k : V → Prop) : Prop :=
  match C.tt t with
  | none => False
  | some ti =>
    match x with
    | .ptr b off => match L[b]? with
      | some (.cells cs) => bif Nat.ble (off + ti.sz) cs.length then k (mk ti.k.isAgg ((cs.drop off).take ti.sz)) else False
      | _ => False
    | .eptr b gen i off => match L[b]? with
      | some (.row gen' sz els) => bif Nat.beq gen gen' && Nat.ble (off + ti.sz) sz then GetE els i fun e => k (mk ti.k.isAgg ((e.drop off).take ti.sz)) else False
      | _ => False
    | .d (.rptr cs) => bif Nat.ble ti.sz cs.length then k (mk ti.k.isAgg ((cs.take ti.sz).map .d)) else False
    | _ => False

section
variable {C : Ctx} {g : Gh} {w : World} {L : List Blk}

def uAgg : TypeDesc → Bool
  | .struct _ | .array _ _ => true
  | _ => false
theorem kindOK.agg {k : TK} {u : TypeDesc} (h : kindOK k u) : uAgg u = k.isAgg := by
  cases k <;> cases u <;> first | rfl | exact h.elim
theorem TIok.run_isAgg {P : Program} {t : TypeId} {ti : TI} (h : TIok P t ti) (w : World) : (isAgg t).run P w = .ok ti.k.isAgg w := by
  obtain ⟨u, hu, hk⟩ := h.und
  rw [← hk.agg]
  cases u <;> simp [isAgg, run_underlying hu, uAgg]

theorem TIok.run_sizeOf {P : Program} {t : TypeId} {ti : TI} (h : TIok P t ti) (w : World) : (sizeOf t).run P w = .ok ti.sz w := by
  have hi := h.info
  cases e : P.info? t with
  | none => rw [e] at hi; cases hi
  | some i =>
    rw [e] at hi
    simp only [Option.map_some, Option.some.injEq, Prod.mk.injEq] at hi
    simp [sizeOf, typeInfo, e, hi.1]

theorem TIok.run_zero {P : Program} {t : TypeId} {ti : TI} (h : TIok P t ti) (w : World) : (zeroValue t).run P w = .ok ti.zv w := by
  have hi := h.info
  cases e : P.info? t with
  | none => rw [e] at hi; cases hi
  | some i =>
    rw [e] at hi
    simp only [Option.map_some, Option.some.injEq, Prod.mk.injEq] at hi
    simp [zeroValue, typeInfo, e, hi.2.2]

theorem run_load_of {P : Program} {w : World} {a : Addr} {v : Value} (h : w.cell? a = some v) : (load a).run P w = .ok v w := by
  simp [h]

theorem loadVar_list {P : Program} {t : TypeId} {ti : TI} (hT : TIok P t ti) {a : Addr} {cs : List Value} (hn : cs.length = ti.sz)
    (h : ∀ (j : Nat) (v : Value), cs[j]? = some v → w.cell? (a.add j) = some v) :
    ∃ v, (loadVar t a).run P w = .ok v w ∧ ((ti.k.isAgg = true ∧ v = .agg cs.toArray) ∨ (ti.k.isAgg = false ∧ cs = [v])) := by
  cases hA : ti.k.isAgg with
  | true =>
    refine ⟨.agg cs.toArray, ?_, .inl ⟨rfl, rfl⟩⟩
    have h1 : (loadCells a cs.length).run P w = .ok cs.toArray w := run_loadCells_list w a cs h
    rw [hn] at h1
    simp [loadVar, hT.run_isAgg, hA, hT.run_sizeOf, h1]
  | false =>
    rw [hT.one hA] at hn
    match cs, hn with
    | [v], _ =>
      refine ⟨v, ?_, .inr ⟨rfl, rfl⟩⟩
      have := h 0 v rfl
      rw [show a.add 0 = a by simp [Addr.add]] at this
      simp [loadVar, hT.run_isAgg, hA, this]

theorem mk_ok {ti : TI} {xs : List V} {cs : List Value} {v : Value} (hlen : xs.length = cs.length) (hone : ∀ (j : Nat) (u : Value), cs[j]? = some u → u.oneCell' = true)
    (hrec : ∀ (j : Nat) (y : V) (u : Value), xs[j]? = some y → cs[j]? = some u → RV g w L y u)
    (h : (ti.k.isAgg = true ∧ v = .agg cs.toArray) ∨ (ti.k.isAgg = false ∧ cs = [v])) : RV g w L (mk ti.k.isAgg xs) v := by
  rcases h with ⟨hA, rfl⟩ | ⟨hA, rfl⟩
  · rw [hA]
    exact .agg xs cs.toArray (by simpa using hlen) (fun j u hu => hone j u (by simpa using hu)) (fun j y u hy hu => hrec j y u hy (by simpa using hu))
  · rw [hA]
    match xs, hlen with
    | [x], _ => exact hrec 0 x v rfl rfl

theorem cell_row {r i : Nat} {cur : Array Value} {T : TypeId} {fr : Nat × Nat} (h : w.heap[r]? = some (.cells cur T fr)) : w.cell? ⟨r, i, none⟩ = cur[i]? := cell_of_row w r i cur T fr h

theorem vLoad_ok (hC : C.OK) (hg : Good g w L) {t : TypeId} {x : V} {v : Value} (hx : RV g w L x v) {k : V → Prop} (h : vLoad C t x L k) :
    ∃ r V, (Instr.loadAt t v).run C.P w = .ok r w ∧ k V ∧ RV g w L V r := by
  unfold vLoad at h
  cases ht : C.tt t with
  | none => simp only [ht] at h
  | some ti =>
    simp only [ht] at h
    have hT := hC t ti ht
    split at h
    · rename_i b off
      split at h
      · rename_i cs hL
        cases hle : Nat.ble (off + ti.sz) cs.length with
        | false => simp only [hle, cond_false] at h
        | true =>
          simp only [hle, cond_true] at h
          have hle' := Nat.le_of_ble_eq_true hle
          obtain ⟨r, cur, T, hm, hh, hsz, hone, hrec⟩ := hg.blk b _ hL
          cases hx with
          | ptrX _ _ a hL' => rw [hL] at hL'; cases hL'
          | ptr _ _ r' cs' hL' hm' =>
            rw [hm] at hm'; cases hm'
            obtain ⟨v, hrun, hv⟩ := loadVar_list (P := C.P) (w := w) hT (a := ⟨r, off, none⟩) (cs := (cur.toList.drop off).take ti.sz) (by simp; omega) (fun j u hu => by
              rw [Addr.add_lit, cell_row hh]
              rw [List.getElem?_take] at hu
              split at hu
              · simpa using hu
              · cases hu)
            refine ⟨v, _, by simp [Instr.loadAt, Instr.sureAddr, hrun], h, mk_ok (by simp; omega) (fun j u hu => ?_) (fun j y u hy hu => ?_) hv⟩
            · rw [List.getElem?_take] at hu
              split at hu
              · exact hone (off + j) u (by simpa using hu)
              · cases hu
            · rw [List.getElem?_take] at hu hy
              split at hu
              · rename_i hj
                rw [if_pos hj] at hy
                exact hrec (off + j) y u (by simpa using hy) (by simpa using hu)
              · cases hu
      · exact h.elim
    · rename_i b gen i off
      split at h
      · rename_i gen' sz els hL
        cases hle : (Nat.beq gen gen' && Nat.ble (off + ti.sz) sz) with
        | false => simp only [hle, cond_false] at h
        | true =>
          simp only [hle, cond_true] at h
          rw [Bool.and_eq_true] at hle
          have hgen := Nat.eq_of_beq_eq_true hle.1
          subst hgen
          have hle' := Nat.le_of_ble_eq_true hle.2
          unfold GetE at h
          obtain ⟨e, he, h⟩ := h
          obtain ⟨hsz0, hels, hrow⟩ := hg.blk b _ hL
          have hel : e.length = sz := hels e (List.mem_of_getElem? he)
          rcases hrow with ⟨hm, rfl⟩ | ⟨r, cur, T, hm, hh, hcap, hbig, hone, hrec⟩
          · simp at he
          · cases hx with
            | eptrX _ _ _ _ a hL' => rw [hL] at hL'; cases hL'
            | eptrO _ _ gen' _ _ _ _ a hL' hg' => rw [hL] at hL'; cases hL'; omega
            | eptr _ _ _ _ sz' r' els' hL' hm' =>
              rw [hL] at hL'; cases hL'
              rw [hm] at hm'; cases hm'
              have hi : i < els.length := lt_of_get he
              have hbound : (i + 1) * sz ≤ cur.size := Nat.le_trans (Nat.mul_le_mul_right sz hi) hbig
              have hb2 : i * sz + sz ≤ cur.size := by rw [← Nat.succ_mul]; exact hbound
              obtain ⟨v, hrun, hv⟩ := loadVar_list (P := C.P) (w := w) hT (a := ⟨r, i * sz + off, none⟩) (cs := (cur.toList.drop (i * sz + off)).take ti.sz) (by simp; omega) (fun j u hu => by
                rw [Addr.add_lit, cell_row hh]
                rw [List.getElem?_take] at hu
                split at hu
                · simpa using hu
                · cases hu)
              refine ⟨v, _, by simp [Instr.loadAt, Instr.sureAddr, hrun], h, mk_ok (by simp; omega) (fun j u hu => ?_) (fun j y u hy hu => ?_) hv⟩
              · rw [List.getElem?_take] at hu
                split at hu
                · exact hone (i * sz + off + j) u (by simpa using hu)
                · cases hu
              · rw [List.getElem?_take] at hu hy
                split at hu
                · rename_i hj
                  rw [if_pos hj] at hy
                  refine hrec i (off + j) y u (by rw [he]; simpa using hy) (by simpa [Nat.add_assoc] using hu)
                · cases hu
      · exact h.elim
    · rename_i cs
      cases hle : Nat.ble ti.sz cs.length with
      | false => simp only [hle, cond_false] at h
      | true =>
        simp only [hle, cond_true] at h
        have hle' := Nat.le_of_ble_eq_true hle
        cases hx with
        | d _ _ hd =>
          cases hd with
          | rptr _ ad vs hcell hI hrec =>
            obtain ⟨v, hrun, hv⟩ := loadVar_list (P := C.P) (w := w) hT (a := ad) (cs := (List.range ti.sz).map vs) (by simp) (fun j u hu => by
              rw [List.getElem?_map] at hu
              rcases Nat.lt_or_ge j ti.sz with hj | hj
              · rw [List.getElem?_range hj] at hu
                simp at hu
                rw [hcell j (by omega), hu]
              · rw [List.getElem?_eq_none (by simpa using hj)] at hu; cases hu)
            have hr : ∀ (j : Nat) (y : D) , j < ti.sz → cs[j]? = some y → RD g.I w y (vs j) := fun j y _ hy => hrec j y hy
            refine ⟨v, _, by simp [Instr.loadAt, Instr.sureAddr, hrun], h, mk_ok (by simp; omega) (fun j u hu => ?_) (fun j y u hy hu => ?_) hv⟩
            · rw [List.getElem?_map] at hu
              rcases Nat.lt_or_ge j ti.sz with hj | hj
              · rw [List.getElem?_range hj] at hu
                simp at hu
                exact hu ▸ (hr j _ hj (List.getElem?_eq_getElem (by omega))).one
              · rw [List.getElem?_eq_none (by simpa using hj)] at hu; cases hu
            · rw [List.getElem?_map] at hu hy
              rcases Nat.lt_or_ge j ti.sz with hj | hj
              · rw [List.getElem?_range hj] at hu
                simp at hu
                rw [List.getElem?_take, if_pos hj, List.getElem?_eq_getElem (by omega)] at hy
                simp at hy
                subst hy hu
                exact .d _ _ (hr j _ hj (List.getElem?_eq_getElem (by omega)))
              · rw [List.getElem?_eq_none (by simpa using hj)] at hu; cases hu
    · exact h.elim

end
end Go.Tidy

/-
  The base layer: changes of one block, new blocks; storing, allocating.
-/
namespace Go.Tidy

section
variable {g g' : Gh} {w w' : World} {L : List Blk} {b : Nat} {k' : Blk}

structure Step (g : Gh) (w : World) (L : List Blk) (b : Nat) (k' : Blk) (g' : Gh) (w' : World) : Prop where
  good : Good g w L
  lv : live L b
  nd : L[b]? ≠ some .defr
  env : w'.tape = w.tape ∧ w'.os = w.os ∧ w'.output = w.output
  size : w.heap.size ≤ w'.heap.size
  I : g'.I = g.I
  m : ∀ b', b' ≠ b → g'.m b' = g.m b'
  cap : ∀ b', b' ≠ b → g'.cap b' = g.cap b'
  heap : ∀ q o, w.heap[q]? = some o → g.m b ≠ some q → w'.heap[q]? = some o
  new : ∀ r, g'.m b = some r → g.m b = some r ∨ w.heap.size ≤ r
  keep : Keep g L g' (L.set b k') b

theorem Step.lt (h : Step g w L b k' g' w') : b < L.length := by obtain ⟨k, hk, _⟩ := h.lv; exact lt_of_get hk

theorem Step.cells (h : Step g w L b k' g' w') : ∀ (a : Addr) (v : Value), g.I a.block → w.cell? a = some v → w'.cell? a = some v := by
  intro a v hI hc
  have hlt := h.good.lt _ hI
  have hne : g.m b ≠ some a.block := fun e => h.good.dis a.block ⟨b, h.lv, e⟩ hI
  have hh := h.heap a.block (w.heap[a.block]) (Array.getElem?_eq_getElem hlt) hne
  rw [World.cell?_of_block (w := w) (w' := w') (by rw [hh, Array.getElem?_eq_getElem hlt])]
  exact hc

theorem Step.keeps (h : Step g w L b k' g' w') (b' : Nat) : Keep g L g' (L.set b k') b' := by
  by_cases e : b' = b
  · subst e; exact h.keep
  · exact Keep.same (by rw [List.getElem?_set_ne (Ne.symm e)]) (h.m b' e) (h.cap b' e)

theorem Step.mono (h : Step g w L b k' g' w') {x : V} {v : Value} (hx : RV g w L x v) : RV g' w' (L.set b k') x v :=
  hx.mono (fun r hr => by rw [h.I]; exact hr) h.cells (fun b' _ => h.keeps b') hx.bel

theorem RB.mono' {g g' : Gh} {w w' : World} {L L' : List Blk} {b : Nat} {k : Blk} (hmono : ∀ (x : V) (v : Value), RV g w L x v → RV g' w' L' x v)
    (hm : g'.m b = g.m b) (hcap : g'.cap b = g.cap b) (hheap : ∀ r o, g.m b = some r → w.heap[r]? = some o → w'.heap[r]? = some o)
    (hdf : ∀ l, k = .loop l → g'.m l.df = g.m l.df ∧ (L[l.df]? = some .defr → L'[l.df]? = some .defr)) (h : RB g w L b k) : RB g' w' L' b k := by
  cases k with
  | cells cs =>
    obtain ⟨r, cur, T, h1, h2, h3, h4, h5⟩ := h
    exact ⟨r, cur, T, hm.trans h1, hheap r _ h1 h2, h3, h4, fun i x v hx hv => hmono x v (h5 i x v hx hv)⟩
  | row gen sz els =>
    obtain ⟨h0, h1, ⟨h2, h3⟩ | ⟨r, cur, T, h2, h3, h4, h5, h6, h7⟩⟩ := h
    · exact ⟨h0, h1, .inl ⟨hm.trans h2, h3⟩⟩
    · exact ⟨h0, h1, .inr ⟨r, cur, T, hm.trans h2, hheap r _ h2 h3, by rw [hcap]; exact h4, h5, h6, fun i j x v hx hv => hmono x v (h7 i j x v hx hv)⟩⟩
  | map es =>
    obtain ⟨r, ents, clock, h1, h2, h3, h4⟩ := h
    exact ⟨r, ents, clock, hm.trans h1, hheap r _ h1 h2, h3, fun i x e hx he => ⟨hmono _ _ (h4 i x e hx he).1, hmono _ _ (h4 i x e hx he).2⟩⟩
  | loop l =>
    obtain ⟨r, rec, h1, h2, h3, h4, h5, h6, h7, h8, h9, h10, h11⟩ := h
    exact ⟨r, rec, hm.trans h1, hheap r _ h1 h2, h3, h4, h5, h6, h7, h8, fun i => hmono _ _ (h9 i), (hdf l rfl).1.trans h10, (hdf l rfl).2 h11.1, h11.2⟩
  | defr =>
    obtain ⟨r, h1, h2⟩ := h
    exact ⟨r, hm.trans h1, hheap r _ h1 h2⟩
  | dead => trivial

theorem Step.good' (h : Step g w L b k' g' w') (hrb : RB g' w' (L.set b k') b k') : Good g' w' (L.set b k') := by
  have hlive : ∀ b', b' ≠ b → live (L.set b k') b' → live L b' := fun b' e ⟨k, hk, hd⟩ => ⟨k, by rw [List.getElem?_set_ne (Ne.symm e)] at hk; exact hk, hd⟩
  refine ⟨?_, ?_, ?_, ?_, h.good.gl.mono (fun r hr => by rw [h.I]; exact hr) h.cells⟩
  · intro b1 b2 r h1 h2 hm1 hm2
    by_cases e1 : b1 = b <;> by_cases e2 : b2 = b
    · rw [e1, e2]
    · subst e1
      rw [h.m b2 e2] at hm2
      have h2' := hlive b2 e2 h2
      rcases h.new r hm1 with hn | hn
      · exact h.good.inj _ _ r h.lv h2' hn hm2
      · have := h.good.owned_lt ⟨b2, h2', hm2⟩; omega
    · subst e2
      rw [h.m b1 e1] at hm1
      have h1' := hlive b1 e1 h1
      rcases h.new r hm2 with hn | hn
      · exact h.good.inj _ _ r h1' h.lv hm1 hn
      · have := h.good.owned_lt ⟨b1, h1', hm1⟩; omega
    · rw [h.m b1 e1] at hm1; rw [h.m b2 e2] at hm2
      exact h.good.inj _ _ r (hlive b1 e1 h1) (hlive b2 e2 h2) hm1 hm2
  · rintro r ⟨b1, h1, hm1⟩ hI
    rw [h.I] at hI
    by_cases e1 : b1 = b
    · subst e1
      rcases h.new r hm1 with hn | hn
      · exact h.good.dis r ⟨_, h.lv, hn⟩ hI
      · have := h.good.lt r hI; omega
    · rw [h.m b1 e1] at hm1
      exact h.good.dis r ⟨b1, hlive b1 e1 h1, hm1⟩ hI
  · intro r hI
    rw [h.I] at hI
    exact Nat.lt_of_lt_of_le (h.good.lt r hI) h.size
  · intro b1 k hk
    by_cases e1 : b1 = b
    · subst e1
      rw [List.getElem?_set_self h.lt] at hk
      cases hk
      exact hrb
    · rw [List.getElem?_set_ne (Ne.symm e1)] at hk
      by_cases hd : k = .dead
      · subst hd; trivial
      · have hl : Tidy.live L b1 := ⟨k, hk, hd⟩
        refine RB.mono' (fun x v hx => h.mono hx) (h.m b1 e1) (h.cap b1 e1) (fun r o hr ho => h.heap r o ho (fun e => e1 (h.good.inj _ _ r hl h.lv hr e))) (fun l hl' => ?_) (h.good.blk b1 k hk)
        subst hl'
        obtain ⟨_, _, _, _, _, _, _, _, _, _, _, _, hdf, _⟩ := h.good.blk b1 _ hk
        have hne : l.df ≠ b := fun e => h.nd (by rw [← e]; exact hdf)
        exact ⟨h.m _ hne, fun hh => by rw [List.getElem?_set_ne (Ne.symm hne)]; exact hh⟩

theorem Step.prog (h : Step g w L b k' g' w') : Prog L.length g w L g' w' (L.set b k') := by
  refine ⟨h.env, h.size, fun r o hr hn => h.heap r o hr (fun e => hn ⟨b, h.lv, e⟩), ?_, fun r hr => .inl (by rw [h.I] at hr; exact hr), fun r hr => by rw [h.I]; exact hr, fun x v _ hx => h.mono hx,
    fun b1 r _ hL hm => ?_, fun _ => by simp⟩
  · rintro r ⟨b1, ⟨k, hk, hd⟩, hm1⟩ hlt
    by_cases e1 : b1 = b
    · subst e1
      rcases h.new r hm1 with hn | hn
      · exact ⟨_, h.lv, hn⟩
      · omega
    · rw [h.m b1 e1] at hm1
      rw [List.getElem?_set_ne (Ne.symm e1)] at hk
      exact ⟨b1, ⟨k, hk, hd⟩, hm1⟩
  · have e1 : b1 ≠ b := fun e => h.nd (by rw [← e]; exact hL)
    exact ⟨by rw [List.getElem?_set_ne (Ne.symm e1)]; exact hL, by rw [h.m b1 e1]; exact hm⟩

def Gh.add (g : Gh) (b : Nat) (r : Option Nat) (c : Nat) : Gh :=
  { I := g.I, m := fun x => if x = b then r else g.m x, cap := fun x => if x = b then c else g.cap x }

theorem alloc_keep (g : Gh) (L : List Blk) (k' : Blk) (r : Option Nat) (c b' : Nat) (hb : b' < L.length) : Keep g L (g.add L.length r c) (L ++ [k']) b' :=
  Keep.same (by rw [List.getElem?_append_left hb]) (by simp [Gh.add]; omega) (by simp [Gh.add]; omega)

theorem heap_old {w : World} {o o' : Obj} {q : Nat} (h : w.heap[q]? = some o) : (w.alloc o').heap[q]? = some o := by
  rw [heap_alloc_old w o' (Array.getElem?_eq_some_iff.1 h).1]; exact h

structure Ext (w w' : World) : Prop where
  env : w'.tape = w.tape ∧ w'.os = w.os ∧ w'.output = w.output
  size : w.heap.size ≤ w'.heap.size
  old : ∀ (q : Nat) (o : Obj), w.heap[q]? = some o → w'.heap[q]? = some o

theorem Ext.refl (w : World) : Ext w w := ⟨⟨rfl, rfl, rfl⟩, Nat.le_refl _, fun _ _ h => h⟩
theorem Ext.alloc (w : World) (o : Obj) : Ext w (w.alloc o) := ⟨⟨rfl, rfl, rfl⟩, by simp, fun _ _ h => heap_old h⟩
theorem Ext.drewAlloc (w : World) (o : Obj) : Ext w (w.drew.alloc o) := ⟨⟨rfl, rfl, rfl⟩, by simp, fun _ _ h => heap_old (w := w.drew) h⟩
theorem Ext.cell {w w' : World} (h : Ext w w') {a : Addr} (hlt : a.block < w.heap.size) : w'.cell? a = w.cell? a :=
  World.cell?_of_block (by rw [h.old a.block _ (Array.getElem?_eq_getElem hlt), Array.getElem?_eq_getElem hlt])

theorem add_mono (hg : Good g w L) (hE : Ext w w') (k' : Blk) (r : Option Nat) (c : Nat) {x : V} {v : Value} (hx : RV g w L x v) : RV (g.add L.length r c) w' (L ++ [k']) x v :=
  RV.mono (g := g) (g' := g.add L.length r c) (fun r hr => hr) (fun a v hI hc => by rw [hE.cell (hg.lt _ hI)]; exact hc)
    (fun b' hb => alloc_keep g L k' r c b' hb) hx.bel hx

theorem add_good (hg : Good g w L) (hE : Ext w w') (r : Option Nat) (hr : ∀ q, r = some q → w.heap.size ≤ q) (c : Nat) (hrb : RB (g.add L.length r c) w' (L ++ [k']) L.length k') :
    Good (g.add L.length r c) w' (L ++ [k']) := by
  have hold : ∀ b', b' ≠ L.length → live (L ++ [k']) b' → live L b' := by
    rintro b' e ⟨k, hk, hd⟩
    have hlt := lt_of_get hk
    simp at hlt
    rw [List.getElem?_append_left (by omega)] at hk
    exact ⟨k, hk, hd⟩
  have hm : ∀ b', b' ≠ L.length → (g.add L.length r c).m b' = g.m b' := fun b' e => by simp [Gh.add, e]
  have hmL : (g.add L.length r c).m L.length = r := by simp [Gh.add]
  refine ⟨?_, ?_, ?_, ?_, hg.gl.mono (fun r hr => hr) (fun a v hI hc => by rw [hE.cell (hg.lt _ hI)]; exact hc)⟩
  · intro b1 b2 q h1 h2 hm1 hm2
    by_cases e1 : b1 = L.length <;> by_cases e2 : b2 = L.length
    · rw [e1, e2]
    · subst e1
      rw [hmL] at hm1; rw [hm b2 e2] at hm2
      have := hg.owned_lt ⟨b2, hold b2 e2 h2, hm2⟩; have := hr q hm1; omega
    · subst e2
      rw [hmL] at hm2; rw [hm b1 e1] at hm1
      have := hg.owned_lt ⟨b1, hold b1 e1 h1, hm1⟩; have := hr q hm2; omega
    · rw [hm b1 e1] at hm1; rw [hm b2 e2] at hm2
      exact hg.inj _ _ q (hold b1 e1 h1) (hold b2 e2 h2) hm1 hm2
  · rintro q ⟨b1, h1, hm1⟩ hI
    have hI' : g.I q := hI
    by_cases e1 : b1 = L.length
    · subst e1
      rw [hmL] at hm1
      have := hr q hm1; have := hg.lt q hI'; omega
    · rw [hm b1 e1] at hm1
      exact hg.dis q ⟨b1, hold b1 e1 h1, hm1⟩ hI'
  · intro q hI
    exact Nat.lt_of_lt_of_le (hg.lt q hI) hE.size
  · intro b1 k hk
    by_cases e1 : b1 = L.length
    · subst e1
      simp at hk
      subst hk
      exact hrb
    · have hlt := lt_of_get hk
      simp at hlt
      rw [List.getElem?_append_left (by omega)] at hk
      refine RB.mono' (fun x v hx => add_mono hg hE k' r c hx) (hm b1 e1) (by simp [Gh.add, e1]) (fun q o' _ ho => hE.old q o' ho) (fun l hl => ?_) (hg.blk b1 k hk)
      subst hl
      obtain ⟨_, _, _, _, _, _, _, _, _, _, _, _, hdf, _⟩ := hg.blk b1 _ hk
      have hlt2 := lt_of_get hdf
      exact ⟨hm _ (by omega), fun hh => by rw [List.getElem?_append_left hlt2]; exact hh⟩

theorem add_prog (hg : Good g w L) (hE : Ext w w') (k' : Blk) (r : Option Nat) (hr : ∀ q, r = some q → w.heap.size ≤ q) (c : Nat) : Prog L.length g w L (g.add L.length r c) w' (L ++ [k']) := by
  refine ⟨hE.env, hE.size, fun q o' ho _ => hE.old q o' ho, ?_, fun q hq => .inl hq, fun q hq => hq, fun x v _ hx => add_mono hg hE k' r c hx,
    fun b1 q hb hL hm => ⟨by rw [List.getElem?_append_left hb]; exact hL, by simp [Gh.add]; rw [if_neg (by omega)]; exact hm⟩, fun _ => by simp⟩
  rintro q ⟨b1, ⟨k, hk, hd⟩, hm1⟩ hlt
  by_cases e1 : b1 = L.length
  · subst e1
    simp [Gh.add] at hm1
    have := hr q hm1; omega
  · have hl := lt_of_get hk
    simp at hl
    rw [List.getElem?_append_left (by omega)] at hk
    simp [Gh.add, e1] at hm1
    exact ⟨b1, ⟨k, hk, hd⟩, hm1⟩

theorem alloc_mono (hg : Good g w L) (k' : Blk) (o : Obj) (r : Option Nat) (c : Nat) {x : V} {v : Value} (hx : RV g w L x v) : RV (g.add L.length r c) (w.alloc o) (L ++ [k']) x v :=
  add_mono hg (Ext.alloc w o) k' r c hx
theorem alloc_good (hg : Good g w L) (o : Obj) (r : Option Nat) (hr : ∀ q, r = some q → q = w.heap.size) (c : Nat) (hrb : RB (g.add L.length r c) (w.alloc o) (L ++ [k']) L.length k') :
    Good (g.add L.length r c) (w.alloc o) (L ++ [k']) := add_good hg (Ext.alloc w o) r (fun q h => Nat.le_of_eq (hr q h).symm) c hrb
theorem alloc_prog (hg : Good g w L) (k' : Blk) (o : Obj) (r : Option Nat) (hr : ∀ q, r = some q → q = w.heap.size) (c : Nat) : Prog L.length g w L (g.add L.length r c) (w.alloc o) (L ++ [k']) :=
  add_prog hg (Ext.alloc w o) k' r (fun q h => Nat.le_of_eq (hr q h).symm) c

end

def setCells : List V → Nat → List V → List V
  | [], _, vs => vs
  | c :: cs, 0, [] => c :: cs
  | _ :: cs, 0, v :: vs => v :: setCells cs 0 vs
  | c :: cs, off + 1, vs => c :: setCells cs off vs
theorem setCells_eq : ∀ (cs : List V) (off : Nat) (vs : List V), setCells cs off vs = cs.take off ++ vs ++ cs.drop (off + vs.length)
  | [], _, vs => by simp [setCells]
  | c :: cs, 0, [] => by simp [setCells]
  | _ :: cs, 0, v :: vs => by simp [setCells, setCells_eq cs 0 vs]
  | c :: cs, off + 1, vs => by
    rw [setCells, setCells_eq cs off vs, show off + 1 + vs.length = (off + vs.length) + 1 by omega]
    rfl

theorem setCells_length {cs vs : List V} {off : Nat} (h : off + vs.length ≤ cs.length) : (setCells cs off vs).length = cs.length := by
  simp [setCells_eq]; omega

theorem splice_get {α : Type} {cs vs : List α} {off j : Nat} (h : off + vs.length ≤ cs.length) :
    (cs.take off ++ vs ++ cs.drop (off + vs.length))[j]? = if j < off then cs[j]? else if j < off + vs.length then vs[j - off]? else cs[j]? := by
  rw [List.append_assoc]
  by_cases h1 : j < off
  · rw [List.getElem?_append_left (by simp; omega), if_pos h1, List.getElem?_take, if_pos h1]
  · rw [List.getElem?_append_right (by simp; omega), if_neg h1]
    have e : (cs.take off).length = off := by simp; omega
    rw [e]
    by_cases h2 : j < off + vs.length
    · rw [if_pos h2, List.getElem?_append_left (by omega)]
    · rw [if_neg h2, List.getElem?_append_right (by omega), List.getElem?_drop]
      congr 1; omega

theorem Value.cells_list (v : Value) (j : Nat) : v.cells.toList[j]? = v.cells[j]? := by simp

section
variable {C : Ctx} {g : Gh} {w : World} {L : List Blk}

theorem setRow_env (w : World) (r : Nat) (cs : Array Value) : (w.setRow r cs).tape = w.tape ∧ (w.setRow r cs).os = w.os ∧ (w.setRow r cs).output = w.output := ⟨rfl, rfl, rfl⟩
theorem setRow_size (w : World) (r : Nat) (cs : Array Value) : (w.setRow r cs).heap.size = w.heap.size := by simp [World.setRow]
theorem setRow_other {w : World} {r q : Nat} {cs : Array Value} (h : r ≠ q) : (w.setRow r cs).heap[q]? = w.heap[q]? := by
  simp [World.setRow, Array.getElem?_modify, h]
theorem setRow_same {w : World} {r : Nat} {cs cur : Array Value} {T : TypeId} {fr : Nat × Nat} (h : w.heap[r]? = some (.cells cur T fr)) : (w.setRow r cs).heap[r]? = some (.cells cs T fr) := by
  simp [World.setRow, Array.getElem?_modify, h]

theorem run_storeVar {P : Program} {t : TypeId} {ti : TI} (hT : TIok P t ti) {v : Value} (hsz : v.cells.size = ti.sz) (hone : ∀ (j : Nat) (u : Value), v.cells[j]? = some u → u.oneCell' = true)
    {r off : Nat} {cur : Array Value} {T : TypeId} (hh : w.heap[r]? = some (.cells cur T (0, 0))) (hb : off + v.cells.size ≤ cur.size) :
    (storeVar t ⟨r, off, none⟩ v).run P w = .ok () (w.setRow r (cur.toList.take off ++ v.cells.toList ++ cur.toList.drop (off + v.cells.toList.length)).toArray) := by
  have := run_storeCells_at P r off T v.cells.toList 0 cur w hh (by simpa using hb) (fun u hu => by
    obtain ⟨j, hj, rfl⟩ := List.getElem_of_mem hu
    exact hone j _ (by rw [← Value.cells_list]; exact List.getElem?_eq_getElem hj))
  simp only [Nat.add_zero] at this
  simp [storeVar, hT.run_sizeOf, hsz, this]

def vStore (C : Ctx) (t : TypeId) (x y : V) (L : List Blk) (k : List Blk → Prop) : Prop :=
  match C.tt t with
  | none => False
  | some ti =>
    bif y.stor && Nat.beq (cellsOf y).length ti.sz then
      match x with
      | .ptr b off => match L[b]? with
        | some (.cells cs) => bif Nat.ble (off + ti.sz) cs.length then k (L.set b (.cells (setCells cs off (cellsOf y)))) else False
        | _ => False
      | .eptr b gen i off => match L[b]? with
        | some (.row gen' sz els) => bif Nat.beq gen gen' && Nat.ble (off + ti.sz) sz then GetE els i fun e => k (L.set b (.row gen' sz (els.set i (setCells e off (cellsOf y))))) else False
        | _ => False
      | _ => False
    else False

theorem vStore_ok (hC : C.OK) (hg : Good g w L) {t : TypeId} {x y : V} {v u : Value} (hx : RV g w L x v) (hy : RV g w L y u) {k : List Blk → Prop} (h : vStore C t x y L k) :
    ∃ w' L', (Instr.storeAt t v u).run C.P w = .ok () w' ∧ k L' ∧ L'.length = L.length ∧ Good g w' L' ∧ Prog L.length g w L g w' L' := by
  unfold vStore at h
  cases ht : C.tt t with
  | none => simp only [ht] at h
  | some ti =>
    simp only [ht] at h
    have hT := hC t ti ht
    cases hst : (y.stor && Nat.beq (cellsOf y).length ti.sz) with
    | false => simp only [hst, cond_false] at h
    | true =>
    simp only [hst, cond_true] at h
    rw [Bool.and_eq_true] at hst
    have hlen := Nat.eq_of_beq_eq_true hst.2
    obtain ⟨hl, hone, hrec⟩ := hy.cells hst.1
    have husz : u.cells.size = ti.sz := by omega
    split at h
    · rename_i b off
      split at h
      · rename_i cs hL
        cases hle : Nat.ble (off + ti.sz) cs.length with
        | false => simp only [hle, cond_false] at h
        | true =>
        simp only [hle, cond_true] at h
        have hle' := Nat.le_of_ble_eq_true hle
        have hb := hg.blk b _ hL
        obtain ⟨r, cur, T, hm, hh, hsz, honec, hrecc⟩ := hb
        cases hx with
        | ptrX _ _ a hL' => rw [hL] at hL'; cases hL'
        | ptr _ _ r' cs' hL' hm' =>
          rw [hm] at hm'; cases hm'
          have hrun := run_storeVar (w := w) hT husz hone (off := off) hh (by omega)
          have hbl := lt_of_get hL
          have S : Step g w L b (.cells (setCells cs off (cellsOf y))) g (w.setRow r (cur.toList.take off ++ u.cells.toList ++ cur.toList.drop (off + u.cells.toList.length)).toArray) := by
            refine ⟨hg, ⟨_, hL, by simp⟩, by rw [hL]; simp, setRow_env _ _ _, by rw [setRow_size]; exact Nat.le_refl _, rfl, fun _ _ => rfl, fun _ _ => rfl, fun q o ho hne => ?_, fun r hr => .inl hr, ?_⟩
            · rw [setRow_other (fun e => hne (by rw [← e]; exact hm))]; exact ho
            · exact ⟨fun cs' _ => .inr ⟨_, List.getElem?_set_self hbl, rfl⟩, fun gen sz els e => (by rw [hL] at e; cases e), fun es e => (by rw [hL] at e; cases e), fun l e => (by rw [hL] at e; cases e), fun e => (by rw [hL] at e; cases e)⟩
          refine ⟨_, _, by simp [Instr.storeAt, Instr.sureAddr, hrun], h, by simp, S.good' ⟨r, _, T, hm, setRow_same hh, ?_, ?_, ?_⟩, S.prog⟩
          · rw [setCells_length (by omega)]
            simp; omega
          · intro i v' hv'
            simp only [List.getElem?_toArray] at hv'
            rw [splice_get (by simp; omega)] at hv'
            split at hv'
            · exact honec i v' (by simpa using hv')
            · split at hv'
              · exact hone _ v' (by rw [← Value.cells_list]; exact hv')
              · exact honec i v' (by simpa using hv')
          · intro i x' v' hx' hv'
            simp only [List.getElem?_toArray] at hv'
            rw [splice_get (by simp; omega)] at hv'
            rw [setCells_eq] at hx'
            rw [splice_get (by omega)] at hx'
            have e : u.cells.toList.length = (cellsOf y).length := by simp; omega
            rw [e] at hv'
            split at hv'
            · rename_i h1
              rw [if_pos h1] at hx'
              exact S.mono (hrecc i x' v' hx' (by simpa using hv'))
            · rename_i h1
              rw [if_neg h1] at hx'
              split at hv'
              · rename_i h2
                rw [if_pos h2] at hx'
                exact S.mono (hrec _ x' v' hx' (by rw [← Value.cells_list]; exact hv'))
              · rename_i h2
                rw [if_neg h2] at hx'
                exact S.mono (hrecc i x' v' hx' (by simpa using hv'))
      · exact h.elim
    · rename_i b gen i off
      split at h
      · rename_i gen' sz els hL
        cases hle : (Nat.beq gen gen' && Nat.ble (off + ti.sz) sz) with
        | false => simp only [hle, cond_false] at h
        | true =>
        simp only [hle, cond_true] at h
        rw [Bool.and_eq_true] at hle
        have hgen := Nat.eq_of_beq_eq_true hle.1
        subst hgen
        have hle' := Nat.le_of_ble_eq_true hle.2
        unfold GetE at h
        obtain ⟨e, he, h⟩ := h
        obtain ⟨hsz0, hels, hrow⟩ := hg.blk b _ hL
        have hel : e.length = sz := hels e (List.mem_of_getElem? he)
        rcases hrow with ⟨hm, rfl⟩ | ⟨r, cur, T, hm, hh, hcap, hbig, honec, hrecc⟩
        · simp at he
        · cases hx with
          | eptrX _ _ _ _ a hL' => rw [hL] at hL'; cases hL'
          | eptrO _ _ gen' _ _ _ _ a hL' hg' => rw [hL] at hL'; cases hL'; omega
          | eptr _ _ _ _ sz' r' els' hL' hm' =>
            rw [hL] at hL'; cases hL'
            rw [hm] at hm'; cases hm'
            have hi : i < els.length := lt_of_get he
            have hbound : (i + 1) * sz ≤ cur.size := Nat.le_trans (Nat.mul_le_mul_right sz hi) hbig
            have hb2 : i * sz + sz ≤ cur.size := by rw [← Nat.succ_mul]; exact hbound
            have hrun := run_storeVar (w := w) hT husz hone (off := i * sz + off) hh (by omega)
            have hbl := lt_of_get hL
            have S : Step g w L b (.row gen sz (els.set i (setCells e off (cellsOf y)))) g (w.setRow r (cur.toList.take (i * sz + off) ++ u.cells.toList ++ cur.toList.drop (i * sz + off + u.cells.toList.length)).toArray) := by
              refine ⟨hg, ⟨_, hL, by simp⟩, by rw [hL]; simp, setRow_env _ _ _, by rw [setRow_size]; exact Nat.le_refl _, rfl, fun _ _ => rfl, fun _ _ => rfl, fun q o ho hne => ?_, fun r hr => .inl hr, ?_⟩
              · rw [setRow_other (fun e => hne (by rw [← e]; exact hm))]; exact ho
              · exact ⟨fun cs' e => (by rw [hL] at e; cases e), fun gen' sz' els' e => (by rw [hL] at e; cases e; exact .inr ⟨_, _, _, List.getElem?_set_self hbl, .inr ⟨rfl, rfl, rfl, rfl, by simp⟩⟩), fun es e => (by rw [hL] at e; cases e), fun l e => (by rw [hL] at e; cases e), fun e => (by rw [hL] at e; cases e)⟩
            refine ⟨_, _, by simp [Instr.storeAt, Instr.sureAddr, hrun], h, by simp, S.good' ⟨hsz0, ?_, .inr ⟨r, _, T, hm, setRow_same hh, ?_, ?_, ?_, ?_⟩⟩, S.prog⟩
            · intro e' he'
              rcases List.mem_or_eq_of_mem_set he' with h' | h'
              · exact hels e' h'
              · rw [h', setCells_length (by omega)]; exact hel
            · simp; omega
            · simp only [List.length_set]; simp; omega
            · intro j v' hv'
              simp only [List.getElem?_toArray] at hv'
              rw [splice_get (by simp; omega)] at hv'
              split at hv'
              · exact honec j v' (by simpa using hv')
              · split at hv'
                · exact hone _ v' (by rw [← Value.cells_list]; exact hv')
                · exact honec j v' (by simpa using hv')
            · intro i' j x' v' hx' hv'
              simp only [List.getElem?_toArray] at hv'
              rw [splice_get (by simp; omega)] at hv'
              have elen : u.cells.toList.length = (cellsOf y).length := by simp; omega
              rw [elen] at hv'
              have hjs : j < sz := by
                cases hq : (els.set i (setCells e off (cellsOf y)))[i']? with
                | none => rw [hq] at hx'; cases hx'
                | some e' =>
                  rw [hq] at hx'
                  have := lt_of_get (L := e') (by simpa using hx')
                  have hmem := List.mem_of_getElem? hq
                  rcases List.mem_or_eq_of_mem_set hmem with h' | h'
                  · have := hels e' h'; omega
                  · rw [h', setCells_length (by omega)] at this; omega
              by_cases hii : i' = i
              · subst hii
                rw [List.getElem?_set_self hi] at hx'
                simp only [Option.bind_some] at hx'
                rw [setCells_eq] at hx'
                rw [splice_get (by omega)] at hx'
                by_cases h1 : j < off
                · rw [if_pos h1] at hx'; rw [if_pos (by omega)] at hv'
                  exact S.mono (hrecc i' j x' v' (by rw [he]; simpa using hx') (by simpa using hv'))
                · rw [if_neg h1] at hx'; rw [if_neg (by omega)] at hv'
                  by_cases h2 : j < off + (cellsOf y).length
                  · rw [if_pos h2] at hx'; rw [if_pos (by omega)] at hv'
                    exact S.mono (hrec _ x' v' hx' (by rw [← Value.cells_list]; rw [← hv']; congr 1; omega))
                  · rw [if_neg h2] at hx'; rw [if_neg (by omega)] at hv'
                    exact S.mono (hrecc i' j x' v' (by rw [he]; simpa using hx') (by simpa using hv'))
              · rw [List.getElem?_set_ne (Ne.symm hii)] at hx'
                have hout : ¬ (i * sz ≤ i' * sz + j ∧ i' * sz + j < i * sz + sz) := by
                  rintro ⟨h1, h2⟩
                  rcases Nat.lt_or_ge i' i with hlt | hge
                  · have := Nat.mul_le_mul_right sz (show i' + 1 ≤ i from hlt)
                    rw [Nat.succ_mul] at this; omega
                  · have := Nat.mul_le_mul_right sz (show i + 1 ≤ i' by omega)
                    rw [Nat.succ_mul] at this; omega
                have hv2 : cur.toList[i' * sz + j]? = some v' := by
                  split at hv'
                  · exact hv'
                  · split at hv'
                    · omega
                    · exact hv'
                exact S.mono (hrecc i' j x' v' hx' (by simpa using hv2))
      · exact h.elim
    · exact h.elim

def vBox (x : V) (L : List Blk) (k : V → List Blk → Prop) : Prop := bif x.stor then k (.ptr L.length 0) (L ++ [.cells (cellsOf x)]) else False

theorem newCells_ok (hg : Good g w L) (T : TypeId) {cs : List V} {vs : Array Value} (hl : cs.length = vs.size) (hone : ∀ (j : Nat) (u : Value), vs[j]? = some u → u.oneCell' = true)
    (hrec : ∀ (j : Nat) (y : V) (u : Value), cs[j]? = some y → vs[j]? = some u → RV g w L y u) :
    ∃ g', RV g' (w.alloc (.cells vs T)) (L ++ [.cells cs]) (.ptr L.length 0) (.pointer (some ⟨w.heap.size, 0, none⟩)) ∧ Good g' (w.alloc (.cells vs T)) (L ++ [.cells cs]) ∧
      Prog L.length g w L g' (w.alloc (.cells vs T)) (L ++ [.cells cs]) := by
  refine ⟨g.add L.length (some w.heap.size) 0, .ptr _ _ _ cs (by simp) (by simp [Gh.add]), alloc_good hg _ _ (fun q h => by cases h; rfl) _ ⟨_, vs, T, by simp [Gh.add], heap_alloc_new w _, by omega, hone, ?_⟩,
    alloc_prog hg _ _ _ (fun q h => by cases h; rfl) _⟩
  exact fun i x v hx hv => alloc_mono hg _ _ _ _ (hrec i x v hx hv)

theorem vBox_ok (hg : Good g w L) (t : TypeId) {x : V} {v : Value} (hx : RV g w L x v) {k : V → List Blk → Prop} (h : vBox x L k) :
    ∃ r w' X L' g', (Instr.box t v).run C.P w = .ok r w' ∧ k X L' ∧ RV g' w' L' X r ∧ Good g' w' L' ∧ Prog L.length g w L g' w' L' := by
  unfold vBox at h
  cases hst : x.stor with
  | false => simp only [hst, cond_false] at h
  | true =>
    simp only [hst, cond_true] at h
    obtain ⟨hl, hone, hrec⟩ := hx.cells hst
    obtain ⟨g', h1, h2, h3⟩ := newCells_ok hg t hl hone hrec
    exact ⟨_, _, _, _, g', by simp [Instr.box, newVar, newRow], h, h1, h2, h3⟩

def zokB (ti : TI) : Bool := ti.zv.cells.toList.all (·.oneCell')
theorem zokB_all {ti : TI} (h : zokB ti = true) : ti.zv.cells.all (·.oneCell') = true := by rw [← Array.all_toList]; exact h
def zeroCells (ti : TI) : List V := ti.zv.cells.toList.map ofLeaf
def vAlloc (C : Ctx) (t : TypeId) (L : List Blk) (k : V → List Blk → Prop) : Prop :=
  match C.tt t with
  | none => False
  | some ti => bif zokB ti then k (.ptr L.length 0) (L ++ [.cells (zeroCells ti)]) else False

theorem zeroCells_ok (g : Gh) (w : World) (L : List Blk) {ti : TI} (h : zokB ti = true) : (zeroCells ti).length = ti.zv.cells.size ∧ (∀ (j : Nat) (u : Value), ti.zv.cells[j]? = some u → u.oneCell' = true) ∧
    ∀ (j : Nat) (y : V) (u : Value), (zeroCells ti)[j]? = some y → ti.zv.cells[j]? = some u → RV g w L y u := by
  refine ⟨by simp [zeroCells], fun j u hu => ?_, fun j y u hy hu => ?_⟩
  · have h := zokB_all h
    rw [Array.all_eq_true] at h
    obtain ⟨hj, rfl⟩ := Array.getElem?_eq_some_iff.1 hu
    exact h j hj
  · unfold zeroCells at hy
    rw [List.getElem?_map, Value.cells_list, hu] at hy
    cases hy
    exact ofLeaf_ok g w L u

theorem vAlloc_ok (hC : C.OK) (hg : Good g w L) {t : TypeId} {k : V → List Blk → Prop} (h : vAlloc C t L k) :
    ∃ r w' X L' g', (Instr.alloc t true (.tuple #[])).run C.P w = .ok r w' ∧ k X L' ∧ RV g' w' L' X r ∧ Good g' w' L' ∧ Prog L.length g w L g' w' L' := by
  unfold vAlloc at h
  cases ht : C.tt t with
  | none => simp only [ht] at h
  | some ti =>
    simp only [ht] at h
    have hT := hC t ti ht
    cases hst : zokB ti with
    | false => simp only [hst, cond_false] at h
    | true =>
      simp only [hst, cond_true] at h
      obtain ⟨hl, hone, hrec⟩ := zeroCells_ok g w L hst
      obtain ⟨g', h1, h2, h3⟩ := newCells_ok hg t hl hone hrec
      exact ⟨_, _, _, _, g', by simp [Instr.alloc, hT.run_zero, newVar, newRow], h, h1, h2, h3⟩

end
end Go.Tidy

/-
  The base layer: addresses, numbers, comparisons, composite values.
-/
namespace Go.Tidy

section
variable {C : Ctx} {g : Gh} {w : World} {L : List Blk}

theorem add_add (a : Addr) (i j : Nat) : (a.add i).add j = a.add (i + j) := by
  unfold Addr.add
  by_cases hi : i = 0 <;> by_cases hj : j = 0 <;> simp [hi, hj, Nat.add_assoc]
theorem add_block (a : Addr) (n : Nat) : (a.add n).block = a.block := by unfold Addr.add; split <;> rfl

theorem RD.drop {I : Nat → Prop} {cs : List D} {ad : Addr} (h : RD I w (.rptr cs) (.pointer (some ad))) (n : Nat) (hn : n ≤ cs.length) : RD I w (.rptr (cs.drop n)) (.pointer (some (ad.add n))) := by
  cases h with
  | rptr _ _ vs hcell hI hrec =>
    refine .rptr _ _ (fun j => vs (n + j)) (fun j hj => ?_) (by rw [add_block]; exact hI) (fun j x hx => hrec (n + j) x (by simpa using hx))
    rw [add_add]
    exact hcell (n + j) (by simp at hj; omega)

def vFieldAddr (C : Ctx) (s : TypeId) (x : V) (f : Nat) (k : V → Prop) : Prop :=
  match C.tt s with
  | some si => match si.k with
    | .struct fs => match fs[f]? with
      | some (off, ft) => match C.tt ft with
        | some fi => bif Nat.blt 0 fi.sz then
            match x with
            | .ptr b o => k (.ptr b (o + off))
            | .eptr b gen i o => k (.eptr b gen i (o + off))
            | .d (.rptr cs) => bif Nat.ble off cs.length then k (.d (.rptr (cs.drop off))) else False
            | _ => False
          else False
        | none => False
      | none => False
    | _ => False
  | none => False

theorem TIok.struct {P : Program} {t : TypeId} {ti : TI} (h : TIok P t ti) {fs : List (Nat × TypeId)} (hk : ti.k = .struct fs) :
    ∃ fields, P.underlying t = some (.struct fields) ∧ fields.toList.map (fun f => (f.offset, f.type)) = fs ∧ fields.toList.all (fun f => f.name != "_") = true := by
  obtain ⟨u, hu, hko⟩ := h.und
  rw [hk] at hko
  cases u <;> first | exact hko.elim | exact ⟨_, hu, hko.1, hko.2⟩

theorem field_get {fields : Array Field} {fs : List (Nat × TypeId)} (h : fields.toList.map (fun f => (f.offset, f.type)) = fs) {i off : Nat} {ft : TypeId} (hf : fs[i]? = some (off, ft)) :
    ∃ fld, fields[i]? = some fld ∧ fld.offset = off ∧ fld.type = ft := by
  subst h
  rw [List.getElem?_map] at hf
  cases e : fields.toList[i]? with
  | none => rw [e] at hf; cases hf
  | some fld =>
    rw [e] at hf
    simp at hf
    exact ⟨fld, by simpa using e, hf.1, hf.2⟩

theorem run_fieldAt {P : Program} {s ft : TypeId} {si fi : TI} {fs : List (Nat × TypeId)} {f off : Nat} (hS : TIok P s si) (hk : si.k = .struct fs) (hf : fs[f]? = some (off, ft)) (hF : TIok P ft fi) (hpos : 0 < fi.sz) (a : Addr) (w : World) :
    (Instr.fieldAt s (.pointer (some a)) f).run P w = .ok (.pointer (some (a.add off))) w := by
  obtain ⟨fields, hu, hfs, _⟩ := hS.struct hk
  obtain ⟨fld, h1, h2, h3⟩ := field_get hfs hf
  subst h2 h3
  have h0 : fi.sz ≠ 0 := by omega
  simp [Instr.fieldAt, run_underlying hu, h1, Instr.sureAddr, fieldPlace, hF.run_sizeOf, h0]

theorem vFieldAddr_ok (hC : C.OK) {s : TypeId} {x : V} {v : Value} {f : Nat} (hx : RV g w L x v) {k : V → Prop} (h : vFieldAddr C s x f k) :
    ∃ r X, (Instr.fieldAt s v f).run C.P w = .ok r w ∧ k X ∧ RV g w L X r := by
  unfold vFieldAddr at h
  cases hs : C.tt s with
  | none => simp only [hs] at h
  | some si =>
  simp only [hs] at h
  split at h
  · rename_i fs hk
    split at h
    · rename_i off ft hf
      cases hft : C.tt ft with
      | none => simp only [hft] at h
      | some fi =>
      simp only [hft] at h
      cases hpos : Nat.blt 0 fi.sz with
      | false => simp only [hpos, cond_false] at h
      | true =>
      simp only [hpos, cond_true] at h
      have hp : 0 < fi.sz := by simpa [Nat.blt_eq] using hpos
      have hrun := fun a => run_fieldAt (hC s si hs) hk hf (hC ft fi hft) hp a w
      split at h
      · rename_i b o
        cases hx with
        | ptr _ _ r cs hL hm => exact ⟨_, _, hrun _, h, by rw [Addr.add_lit]; exact .ptr b _ r cs hL hm⟩
        | ptrX _ _ a hL => exact ⟨_, _, hrun _, h, .ptrX _ _ _ hL⟩
      · rename_i b gen i o
        cases hx with
        | eptr _ _ _ _ sz r els hL hm => exact ⟨_, _, hrun _, h, by rw [Addr.add_lit, Nat.add_assoc]; exact .eptr b gen i _ sz r els hL hm⟩
        | eptrO _ _ gen' sz _ _ els a hL hg => exact ⟨_, _, hrun _, h, .eptrO _ _ _ _ _ _ _ _ hL hg⟩
        | eptrX _ _ _ _ a hL => exact ⟨_, _, hrun _, h, .eptrX _ _ _ _ _ hL⟩
      · rename_i cs
        cases hle : Nat.ble off cs.length with
        | false => simp only [hle, cond_false] at h
        | true =>
        simp only [hle, cond_true] at h
        cases hx with
        | d _ _ hd =>
          have hd' := hd
          cases hd with
          | rptr _ ad vs hcell hI hrec => exact ⟨_, _, hrun _, h, .d _ _ (hd'.drop off (Nat.le_of_ble_eq_true hle))⟩
      · exact h.elim
    · exact h.elim
  · exact h.elim

theorem TIok.slice {P : Program} {t e : TypeId} {ti : TI} (h : TIok P t ti) (hk : ti.k = .sl e) : P.underlying t = some (.slice e) := by
  obtain ⟨u, hu, hko⟩ := h.und
  rw [hk] at hko
  cases u <;> first | exact hko.elim | (rename_i e'; have : e = e' := hko; subst this; exact hu)
theorem TIok.array {P : Program} {t e : TypeId} {n : Nat} {ti : TI} (h : TIok P t ti) (hk : ti.k = .arr n e) : P.underlying t = some (.array n e) := by
  obtain ⟨u, hu, hko⟩ := h.und
  rw [hk] at hko
  cases u <;> first | exact hko.elim | (rename_i n' e'; obtain ⟨h1, h2⟩ : n = n' ∧ e = e' := hko; subst h1 h2; exact hu)
theorem TIok.intK {P : Program} {t : TypeId} {k : IntKind} {ti : TI} (h : TIok P t ti) (hk : ti.k = .int k) : P.underlying t = some (.int k) := by
  obtain ⟨u, hu, hko⟩ := h.und
  rw [hk] at hko
  cases u <;> first | exact hko.elim | (rename_i k'; have : k = k' := hko; subst this; exact hu)
theorem TIok.boolK {P : Program} {t : TypeId} {ti : TI} (h : TIok P t ti) (hk : ti.k = .bool) : P.underlying t = some .bool := by
  obtain ⟨u, hu, hko⟩ := h.und
  rw [hk] at hko
  cases u <;> first | exact hko.elim | exact hu
theorem TIok.strK {P : Program} {t : TypeId} {ti : TI} (h : TIok P t ti) (hk : ti.k = .str) : P.underlying t = some .string := by
  obtain ⟨u, hu, hko⟩ := h.und
  rw [hk] at hko
  cases u <;> first | exact hko.elim | exact hu

def vIndexAddr (C : Ctx) (t : TypeId) (x i : V) (k : V → Prop) (L : List Blk) : Prop :=
  match C.tt t with
  | some ti => match i with
    | .d (.int _ n) => match ti.k with
      | .sl e => match C.tt e with
        | some ei => match x with
          | .d (.sl els) => Idx els n fun _ e => Need (e.length = ei.sz) (k (.d (.rptr e)))
          | .own b gen lo len => match L[b]? with
            | some (.row gen' sz _) => bif Nat.beq gen gen' && Nat.beq sz ei.sz then IdxN len n fun j => k (.eptr b gen (lo + j) 0) else False
            | _ => False
          | _ => False
        | none => False
      | .arr len e => match C.tt e with
        | some ei => match x with
          | .ptr b o => IdxN len n fun j => k (.ptr b (o + j * ei.sz))
          | .eptr b gen i o => IdxN len n fun j => k (.eptr b gen i (o + j * ei.sz))
          | .d (.rptr cs) => bif Nat.beq cs.length (len * ei.sz) then IdxN len n fun j => k (.d (.rptr (cs.drop (j * ei.sz)))) else False
          | _ => False
        | none => False
      | _ => False
    | _ => False
  | none => False

theorem run_indexAt_sl {P : Program} {t e : TypeId} {ei : TI} (ht : P.underlying t = some (.slice e)) (hE : TIok P e ei) (a : Addr) (len c : Nat) (kk : IntKind) {n : Nat} (hn : n < len) (w : World) :
    (Instr.indexAt t (.slice (some a) len c) (.int kk n)).run P w = .ok (.pointer (some (a.add (n * ei.sz)))) w := by
  simp [Instr.indexAt, asIntOf, run_underlying ht, hE.run_sizeOf]
  intro hh; omega
theorem run_indexAt_ar {P : Program} {t e : TypeId} {ei : TI} {len : Nat} (ht : P.underlying t = some (.array len e)) (hE : TIok P e ei) (a : Addr) (kk : IntKind) {n : Nat} (hn : n < len) (w : World) :
    (Instr.indexAt t (.pointer (some a)) (.int kk n)).run P w = .ok (.pointer (some (a.add (n * ei.sz)))) w := by
  simp [Instr.indexAt, asIntOf, run_underlying ht, hE.run_sizeOf, Instr.sureAddr]
  intro hh; omega

theorem vIndexAddr_ok (hC : C.OK) (_hg : Good g w L) {t : TypeId} {x i : V} {v u : Value} (hx : RV g w L x v) (hi : RV g w L i u) {k : V → Prop} (h : vIndexAddr C t x i k L) :
    ∃ r X, (Instr.indexAt t v u).run C.P w = .ok r w ∧ k X ∧ RV g w L X r := by
  unfold vIndexAddr at h
  cases ht : C.tt t with
  | none => simp only [ht] at h
  | some ti =>
  simp only [ht] at h
  have hT := hC t ti ht
  split at h
  · rename_i kk n
    have hu : u = .int kk n := by cases hi with | d _ _ hd => cases hd; rfl
    subst hu
    split at h
    · rename_i e hk
      cases he : C.tt e with
      | none => simp only [he] at h
      | some ei =>
      simp only [he] at h
      have hE := hC e ei he
      have hsl := hT.slice hk
      split at h
      · rename_i els
        unfold Idx at h
        obtain ⟨m, hm, el, hel, h⟩ := h
        obtain ⟨hlen, h⟩ := h.out
        subst hm
        cases hx with
        | d _ _ hd =>
          cases hd with
          | slNil a c => simp at hel
          | sl _ ad c sz cs hsz hcell hI hlc hrec =>
            have hlt := lt_of_get hel
            have hszz : sz = ei.sz := by rw [← hlen]; exact (hsz el (List.mem_of_getElem? hel)).symm
            refine ⟨_, _, run_indexAt_sl hsl hE ad _ c kk hlt w, h, .d _ _ (.rptr _ _ (fun j => cs m j) (fun j hj => ?_) (by rw [add_block]; exact hI) (fun j x hx => hrec m j x (by rw [hel]; exact hx)))⟩
            rw [add_add, ← hszz]
            exact hcell m j hlt (by rw [hszz, ← hlen]; exact hj)
      · rename_i b gen lo len
        split at h
        · rename_i gen' sz els hL
          cases hle : (Nat.beq gen gen' && Nat.beq sz ei.sz) with
          | false => simp only [hle, cond_false] at h
          | true =>
          simp only [hle, cond_true] at h
          rw [Bool.and_eq_true] at hle
          have e1 := Nat.eq_of_beq_eq_true hle.1
          have e2 := Nat.eq_of_beq_eq_true hle.2
          subst e1 e2
          unfold IdxN at h
          obtain ⟨m, hm, hlt, h⟩ := h
          subst hm
          cases hx with
          | ownX _ _ _ _ a n c hL' => rw [hL] at hL'; cases hL'
          | ownO _ _ gen2 _ _ _ _ a n c hL' hg' => rw [hL] at hL'; cases hL'; omega
          | ownN _ _ _ _ hL' hm' => omega
          | own _ _ _ _ sz' r o c els' hL' hm' ho hc hlc hle =>
            rw [hL] at hL'; cases hL'
            have ho' : o = lo * ei.sz := by rcases ho with h0 | h0 <;> omega
            subst ho'
            refine ⟨_, _, run_indexAt_sl hsl hE _ len c kk hlt w, h, ?_⟩
            rw [Addr.add_lit, ← Nat.add_mul]
            exact .eptr b gen (lo + m) 0 ei.sz r els hL hm'
        · exact h.elim
      · exact h.elim
    · rename_i len e hk
      cases he : C.tt e with
      | none => simp only [he] at h
      | some ei =>
      simp only [he] at h
      have hE := hC e ei he
      have har := hT.array hk
      split at h
      · rename_i b o
        unfold IdxN at h
        obtain ⟨m, hm, hlt, h⟩ := h
        subst hm
        cases hx with
        | ptr _ _ r cs hL hm => exact ⟨_, _, run_indexAt_ar har hE _ kk hlt w, h, by rw [Addr.add_lit]; exact .ptr b _ r cs hL hm⟩
        | ptrX _ _ a hL => exact ⟨_, _, run_indexAt_ar har hE _ kk hlt w, h, .ptrX _ _ _ hL⟩
      · rename_i b gen i o
        unfold IdxN at h
        obtain ⟨m, hm, hlt, h⟩ := h
        subst hm
        cases hx with
        | eptr _ _ _ _ sz r els hL hm => exact ⟨_, _, run_indexAt_ar har hE _ kk hlt w, h, by rw [Addr.add_lit, Nat.add_assoc]; exact .eptr b gen i _ sz r els hL hm⟩
        | eptrO _ _ gen' sz _ _ els a hL hg => exact ⟨_, _, run_indexAt_ar har hE _ kk hlt w, h, .eptrO _ _ _ _ _ _ _ _ hL hg⟩
        | eptrX _ _ _ _ a hL => exact ⟨_, _, run_indexAt_ar har hE _ kk hlt w, h, .eptrX _ _ _ _ _ hL⟩
      · rename_i cs
        cases hle : Nat.beq cs.length (len * ei.sz) with
        | false => simp only [hle, cond_false] at h
        | true =>
        simp only [hle, cond_true] at h
        have hlen := Nat.eq_of_beq_eq_true hle
        unfold IdxN at h
        obtain ⟨m, hm, hlt, h⟩ := h
        subst hm
        cases hx with
        | d _ _ hd =>
          have hd' := hd
          cases hd with
          | rptr _ ad vs hcell hI hrec => exact ⟨_, _, run_indexAt_ar har hE _ kk hlt w, h, .d _ _ (hd'.drop _ (by rw [hlen]; exact Nat.mul_le_mul_right _ (Nat.le_of_lt hlt)))⟩
      · exact h.elim
    · exact h.elim
  · exact h.elim

def cut (ti : TI) (cs : List V) (off : Nat) : Option V := bif Nat.ble (off + ti.sz) cs.length then some (mk ti.k.isAgg ((cs.drop off).take ti.sz)) else none

theorem part_ok {t : TypeId} {ti : TI} (hT : TIok C.P t ti) {cs : List V} {vs : Array Value} (hx : RV g w L (.agg cs) (.agg vs)) {off : Nat} {X : V} (h : cut ti cs off = some X) :
    ∃ r, (part t vs off).run C.P w = .ok r w ∧ RV g w L X r := by
  unfold cut at h
  cases hle : Nat.ble (off + ti.sz) cs.length with
  | false => rw [hle] at h; cases h
  | true =>
  rw [hle] at h
  simp only [cond_true, Option.some.injEq] at h
  subst h
  have hle' := Nat.le_of_ble_eq_true hle
  cases hx with
  | agg _ _ hlen hone hrec =>
    have hget : ∀ (j : Nat) (u : Value), ((vs.toList.drop off).take ti.sz)[j]? = some u → vs[off + j]? = some u ∧ j < ti.sz := by
      intro j u hu
      rw [List.getElem?_take] at hu
      split at hu
      · exact ⟨by simpa using hu, by assumption⟩
      · cases hu
    have hmk : ∀ v, ((ti.k.isAgg = true ∧ v = .agg ((vs.toList.drop off).take ti.sz).toArray) ∨ (ti.k.isAgg = false ∧ (vs.toList.drop off).take ti.sz = [v])) → RV g w L (mk ti.k.isAgg ((cs.drop off).take ti.sz)) v :=
      fun v hv => mk_ok (by simp; omega) (fun j u hu => hone _ u (hget j u hu).1) (fun j y u hy hu => by
        rw [List.getElem?_take, if_pos (hget j u hu).2] at hy
        exact hrec (off + j) y u (by simpa using hy) (hget j u hu).1) hv
    cases hA : ti.k.isAgg with
    | true =>
      refine ⟨.agg (vs.extract off (off + ti.sz)), by simp [part, hT.run_isAgg, hA, hT.run_sizeOf], ?_⟩
      have := hmk (.agg (vs.extract off (off + ti.sz))) (.inl ⟨hA, by congr 1; apply Array.ext'; simp [List.extract_eq_take_drop]⟩)
      rwa [hA] at this
    | false =>
      have h1 := hT.one hA
      have hv : vs[off]? = some vs[off] := Array.getElem?_eq_getElem (by omega)
      refine ⟨vs[off], by simp [part, hT.run_isAgg, hA, hv], ?_⟩
      have := hmk vs[off] (.inr ⟨hA, by
        rw [h1]
        rw [List.drop_eq_getElem_cons (by simp; omega)]
        simp⟩)
      rwa [hA] at this

end
end Go.Tidy
