/-
  The base layer: tidy values, the symbolic executor's words, and the relation to the machine's memory.
-/
import Derived.WalkKit
import Derived.RangeFuncNested
namespace Go.Tidy

/-- Data that no one writes any more: numbers, strings, slices and pointers by what they hold. -/
inductive D where
  | bool (b : Bool)
  | int (k : IntKind) (n : Int)
  | str (s : ByteArray)
  | sl (els : List (List D))
  | nilptr | nilfn | niliface | nilmap
  | rptr (cells : List D)
  | fn (f : FuncId) (caps : List D)
  | iface (t : TypeId) (agg : Bool) (cells : List D)
  deriving Inhabited

/-- Values: data, or references into the blocks that the activation may write. -/
inductive V where
  | poison
  | tt | ff
  | d (x : D)
  | nil
  | own (b g lo len : Nat)
  | ptr (b off : Nat)
  | eptr (b g i off : Nat)
  | map (b : Nat)
  | fn (f : FuncId) (caps : List V)
  | iface (t : TypeId) (x : V)
  | agg (cs : List V)
  | tup (vs : List V)
  | yld (l : Nat)
  | glob (g : Nat)
  deriving Inhabited

structure LoopR where
  st : LoopState
  pend : Option Code
  fr : List (Nat × V)
  n : Nat
  ps : List Tmp
  assign : Code
  body : Code
  df : Nat

inductive Blk where
  | cells (cs : List V)
  | row (g sz : Nat) (els : List (List V))
  | map (es : List (V × V))
  | loop (r : LoopR)
  | defr
  | dead

inductive TK where
  | int (k : IntKind) | bool | str | sl (e : TypeId) | map (k e : TypeId) | struct (fs : List (Nat × TypeId)) | arr (n : Nat) (e : TypeId) | ptr (e : TypeId)
  | func | iface (empty : Bool) | tuple | other

structure TI where
  sz : Nat
  bytes : Nat
  zv : Value
  k : TK
  eqok : Bool

structure Ctx where
  P : Program
  tt : Nat → Option TI

structure TS where
  fr : List (Nat × V)
  n : Nat
  L : List Blk
  df : List Nat
  ro : Option Nat

def look : List (Nat × V) → Nat → V
  | [], _ => .poison
  | (j, v) :: r, i => bif Nat.beq j i then v else look r i

/-! ### The relation -/
structure Gh where
  I : Nat → Prop
  m : Nat → Option Nat
  cap : Nat → Nat

inductive RD (I : Nat → Prop) (w : World) : D → Value → Prop
  | bool (b : Bool) : RD I w (.bool b) (.bool b)
  | int (k : IntKind) (n : Int) : RD I w (.int k n) (.int k n)
  | str (s : ByteArray) : RD I w (.str s) (.string s)
  | slNil (a : Option Addr) (c : Nat) : RD I w (.sl []) (.slice a 0 c)
  | sl (els : List (List D)) (ad : Addr) (c sz : Nat) (cs : Nat → Nat → Value) (hsz : ∀ e ∈ els, e.length = sz)
      (hcell : ∀ i j, i < els.length → j < sz → w.cell? (ad.add (i * sz + j)) = some (cs i j)) (hI : I ad.block) (hlc : els.length ≤ c)
      (hrec : ∀ (i j : Nat) (x : D), (els[i]?).bind (fun e => e[j]?) = some x → RD I w x (cs i j)) : RD I w (.sl els) (.slice (some ad) els.length c)
  | nilptr : RD I w .nilptr (.pointer none)
  | nilfn : RD I w .nilfn .nilFunc
  | niliface : RD I w .niliface .nilIface
  | nilmap : RD I w .nilmap (.map none)
  | rptr (cells : List D) (ad : Addr) (cs : Nat → Value) (hcell : ∀ j, j < cells.length → w.cell? (ad.add j) = some (cs j)) (hI : I ad.block)
      (hrec : ∀ (j : Nat) (x : D), cells[j]? = some x → RD I w x (cs j)) : RD I w (.rptr cells) (.pointer (some ad))
  | fn (f : FuncId) (caps : List D) (vs : Array Value) (hlen : caps.length = vs.size)
      (hrec : ∀ (j : Nat) (x : D) (v : Value), caps[j]? = some x → vs[j]? = some v → RD I w x v) : RD I w (.fn f caps) (.func (.func f) #[] vs)
  | ifaceA (t : TypeId) (cells : List D) (vs : Array Value) (hlen : cells.length = vs.size)
      (hrec : ∀ (j : Nat) (x : D) (v : Value), cells[j]? = some x → vs[j]? = some v → RD I w x v) : RD I w (.iface t true cells) (.iface t (.agg vs))
  | ifaceL (t : TypeId) (x : D) (v : Value) (h : RD I w x v) : RD I w (.iface t false [x]) (.iface t v)

theorem RD.mono {I I' : Nat → Prop} {w w' : World} (hI : ∀ r, I r → I' r) (hc : ∀ (a : Addr) (v : Value), I a.block → w.cell? a = some v → w'.cell? a = some v)
    {x : D} {v : Value} (h : RD I w x v) : RD I' w' x v := by
  induction h with
  | bool b => exact .bool b
  | int k n => exact .int k n
  | str s => exact .str s
  | slNil a c => exact .slNil a c
  | sl els ad c sz cs hsz hcell hi hlc _ ih =>
    refine .sl els ad c sz cs hsz (fun i j hi' hj => hc _ _ ?_ (hcell i j hi' hj)) (hI _ hi) hlc ih
    unfold Addr.add; split <;> exact hi
  | nilptr => exact .nilptr
  | nilfn => exact .nilfn
  | niliface => exact .niliface
  | nilmap => exact .nilmap
  | rptr cells ad cs hcell hi _ ih =>
    refine .rptr cells ad cs (fun j hj => hc _ _ ?_ (hcell j hj)) (hI _ hi) ih
    unfold Addr.add; split <;> exact hi
  | fn f caps vs hlen _ ih => exact .fn f caps vs hlen ih
  | ifaceA t cells vs hlen _ ih => exact .ifaceA t cells vs hlen ih
  | ifaceL t x v _ ih => exact .ifaceL t x v ih

theorem RD.one {I : Nat → Prop} {w : World} {x : D} {v : Value} (h : RD I w x v) : v.oneCell' = true := by cases h <;> rfl

inductive RV (g : Gh) (w : World) (L : List Blk) : V → Value → Prop
  | poison (v : Value) : RV g w L .poison v
  | tt : RV g w L .tt (.bool true)
  | ff : RV g w L .ff (.bool false)
  | d (x : D) (v : Value) (h : RD g.I w x v) : RV g w L (.d x) v
  | nil : RV g w L .nil (.slice none 0 0)
  | ptr (b off r : Nat) (cs : List V) (hL : L[b]? = some (.cells cs)) (hm : g.m b = some r) : RV g w L (.ptr b off) (.pointer (some ⟨r, off, none⟩))
  | ptrX (b off : Nat) (a : Addr) (hL : L[b]? = some .dead) : RV g w L (.ptr b off) (.pointer (some a))
  | own (b gen lo len sz r o c : Nat) (els : List (List V)) (hL : L[b]? = some (.row gen sz els)) (hm : g.m b = some r) (ho : c = 0 ∨ o = lo * sz) (hc : (lo + c) * sz ≤ g.cap b) (hlc : len ≤ c) (hle : lo + len ≤ els.length) :
      RV g w L (.own b gen lo len) (.slice (some ⟨r, o, none⟩) len c)
  | ownN (b gen sz : Nat) (els : List (List V)) {a : Option Addr} (hL : L[b]? = some (.row gen sz els)) (hm : g.m b = none) : RV g w L (.own b gen 0 0) (.slice a 0 0)
  | ownO (b gen gen' sz lo len : Nat) (els : List (List V)) (a : Option Addr) (n c : Nat) (hL : L[b]? = some (.row gen' sz els)) (hg : gen < gen') : RV g w L (.own b gen lo len) (.slice a n c)
  | ownX (b gen lo len : Nat) (a : Option Addr) (n c : Nat) (hL : L[b]? = some .dead) : RV g w L (.own b gen lo len) (.slice a n c)
  | eptr (b gen i off sz r : Nat) (els : List (List V)) (hL : L[b]? = some (.row gen sz els)) (hm : g.m b = some r) : RV g w L (.eptr b gen i off) (.pointer (some ⟨r, i * sz + off, none⟩))
  | eptrO (b gen gen' sz i off : Nat) (els : List (List V)) (a : Addr) (hL : L[b]? = some (.row gen' sz els)) (hg : gen < gen') : RV g w L (.eptr b gen i off) (.pointer (some a))
  | eptrX (b gen i off : Nat) (a : Addr) (hL : L[b]? = some .dead) : RV g w L (.eptr b gen i off) (.pointer (some a))
  | map (b r : Nat) (es : List (V × V)) (hL : L[b]? = some (.map es)) (hm : g.m b = some r) : RV g w L (.map b) (.map (some r))
  | mapX (b : Nat) (a : Option Nat) (hL : L[b]? = some .dead) : RV g w L (.map b) (.map a)
  | yld (b r : Nat) (l : LoopR) (hL : L[b]? = some (.loop l)) (hm : g.m b = some r) : RV g w L (.yld b) (.func (.yield r) #[] #[])
  | yldX (b r : Nat) (hL : L[b]? = some .dead) : RV g w L (.yld b) (.func (.yield r) #[] #[])
  | fn (f : FuncId) (caps : List V) (vs : Array Value) (hlen : caps.length = vs.size)
      (hrec : ∀ (j : Nat) (x : V) (v : Value), caps[j]? = some x → vs[j]? = some v → RV g w L x v) : RV g w L (.fn f caps) (.func (.func f) #[] vs)
  | iface (t : TypeId) (x : V) (v : Value) (h : RV g w L x v) : RV g w L (.iface t x) (.iface t v)
  | agg (cs : List V) (vs : Array Value) (hlen : cs.length = vs.size) (hone : ∀ (j : Nat) (v : Value), vs[j]? = some v → v.oneCell' = true)
      (hrec : ∀ (j : Nat) (x : V) (v : Value), cs[j]? = some x → vs[j]? = some v → RV g w L x v) : RV g w L (.agg cs) (.agg vs)
  | tup (cs : List V) (vs : Array Value) (hlen : cs.length = vs.size)
      (hrec : ∀ (j : Nat) (x : V) (v : Value), cs[j]? = some x → vs[j]? = some v → RV g w L x v) : RV g w L (.tup cs) (.tuple vs)
  | glob (k : Nat) : RV g w L (.glob k) (.pointer (some ⟨k, 0, none⟩))

/-- What a change of the blocks keeps of what refers to them. -/
structure Keep (g : Gh) (L : List Blk) (g' : Gh) (L' : List Blk) (b : Nat) : Prop where
  cells : ∀ cs, L[b]? = some (.cells cs) → L'[b]? = some .dead ∨ ∃ cs', L'[b]? = some (.cells cs') ∧ g'.m b = g.m b
  row : ∀ gen sz els, L[b]? = some (.row gen sz els) → L'[b]? = some .dead ∨ ∃ gen' sz' els', L'[b]? = some (.row gen' sz' els') ∧
    (gen < gen' ∨ gen = gen' ∧ sz = sz' ∧ g'.m b = g.m b ∧ g'.cap b = g.cap b ∧ els'.length = els.length)
  map : ∀ es, L[b]? = some (.map es) → L'[b]? = some .dead ∨ ∃ es', L'[b]? = some (.map es') ∧ g'.m b = g.m b
  loop : ∀ l, L[b]? = some (.loop l) → L'[b]? = some .dead ∨ ∃ l', L'[b]? = some (.loop l') ∧ g'.m b = g.m b
  dead : L[b]? = some .dead → L'[b]? = some .dead

theorem Keep.refl (g : Gh) (L : List Blk) (b : Nat) : Keep g L g L b :=
  ⟨fun cs h => .inr ⟨cs, h, rfl⟩, fun gen sz els h => .inr ⟨gen, sz, els, h, .inr ⟨rfl, rfl, rfl, rfl, rfl⟩⟩, fun es h => .inr ⟨es, h, rfl⟩, fun l h => .inr ⟨l, h, rfl⟩, fun h => h⟩

/-- Where block b is as it was. -/
theorem Keep.same {g g' : Gh} {L L' : List Blk} {b : Nat} (hL : L'[b]? = L[b]?) (hm : g'.m b = g.m b) (hc : g'.cap b = g.cap b) : Keep g L g' L' b :=
  ⟨fun cs h => .inr ⟨cs, hL.trans h, hm⟩, fun gen sz els h => .inr ⟨gen, sz, els, hL.trans h, .inr ⟨rfl, rfl, hm, hc, rfl⟩⟩, fun es h => .inr ⟨es, hL.trans h, hm⟩,
   fun l h => .inr ⟨l, hL.trans h, hm⟩, fun h => hL.trans h⟩

mutual
def V.bel (k : Nat) : V → Bool
  | .own b _ _ _ => decide (b < k)
  | .ptr b _ => decide (b < k)
  | .eptr b _ _ _ => decide (b < k)
  | .map b => decide (b < k)
  | .yld b => decide (b < k)
  | .fn _ caps => V.belL k caps
  | .iface _ x => V.bel k x
  | .agg cs => V.belL k cs
  | .tup cs => V.belL k cs
  | .poison | .tt | .ff | .d _ | .nil | .glob _ => true
def V.belL (k : Nat) : List V → Bool
  | [] => true
  | x :: r => V.bel k x && V.belL k r
end

theorem V.belL_get {k : Nat} : ∀ {cs : List V} {j : Nat} {x : V}, V.belL k cs = true → cs[j]? = some x → x.bel k = true
  | [], j, x, _, h => by simp at h
  | c :: r, 0, x, hb, h => by simp only [V.belL, Bool.and_eq_true] at hb; simp at h; exact h ▸ hb.1
  | c :: r, j + 1, x, hb, h => by simp only [V.belL, Bool.and_eq_true] at hb; exact V.belL_get hb.2 (by simpa using h)

theorem V.belL_of {k : Nat} : ∀ {cs : List V}, (∀ (j : Nat) (x : V), cs[j]? = some x → x.bel k = true) → V.belL k cs = true
  | [], _ => rfl
  | c :: r, h => by
    simp only [V.belL, Bool.and_eq_true]
    exact ⟨h 0 c rfl, V.belL_of fun j x hx => h (j + 1) x (by simpa using hx)⟩

theorem RV.mono {g g' : Gh} {w w' : World} {L L' : List Blk} {k : Nat} (hI : ∀ r, g.I r → g'.I r) (hc : ∀ (a : Addr) (v : Value), g.I a.block → w.cell? a = some v → w'.cell? a = some v)
    (hK : ∀ b, b < k → Keep g L g' L' b) {x : V} {v : Value} (hx : x.bel k = true) (h : RV g w L x v) : RV g' w' L' x v := by
  induction h with
  | poison v => exact .poison v
  | tt => exact .tt
  | ff => exact .ff
  | d x v h => exact .d x v (h.mono hI hc)
  | nil => exact .nil
  | ptr b off r cs hL hm =>
    rcases (hK b (by simpa [V.bel] using hx)).cells cs hL with h | ⟨cs', h, hm'⟩
    · exact .ptrX b off _ h
    · exact .ptr b off r cs' h (hm'.trans hm)
  | ptrX b off a hL => exact .ptrX b off a ((hK b (by simpa [V.bel] using hx)).dead hL)
  | own b gen lo len sz r o c els hL hm ho hcap hlc hle =>
    rcases (hK b (by simpa [V.bel] using hx)).row gen sz els hL with h | ⟨gen', sz', els', h, hg | ⟨rfl, rfl, hm', hc', hl'⟩⟩
    · exact .ownX b gen lo len _ _ _ h
    · exact .ownO b gen gen' sz' lo len els' _ _ _ h hg
    · exact .own b gen lo len sz r o c els' h (hm'.trans hm) ho (by rw [hc']; exact hcap) hlc (by rw [hl']; exact hle)
  | ownN b gen sz els hL hm =>
    rcases (hK b (by simpa [V.bel] using hx)).row gen sz els hL with h | ⟨gen', sz', els', h, hg | ⟨rfl, rfl, hm', hc', hl'⟩⟩
    · exact .ownX b gen 0 0 _ _ _ h
    · exact .ownO b gen gen' sz' 0 0 els' _ _ _ h hg
    · exact .ownN b gen sz els' h (hm'.trans hm)
  | ownO b gen gen1 sz lo len els a n c hL hg0 =>
    rcases (hK b (by simpa [V.bel] using hx)).row gen1 sz els hL with h | ⟨gen', sz', els', h, hg | ⟨rfl, rfl, hm', hc', hl'⟩⟩
    · exact .ownX b gen lo len _ _ _ h
    · exact .ownO b gen gen' sz' lo len els' _ _ _ h (by omega)
    · exact .ownO b gen gen1 sz lo len els' _ _ _ h hg0
  | ownX b gen lo len a n c hL => exact .ownX b gen lo len a n c ((hK b (by simpa [V.bel] using hx)).dead hL)
  | eptr b gen i off sz r els hL hm =>
    rcases (hK b (by simpa [V.bel] using hx)).row gen sz els hL with h | ⟨gen', sz', els', h, hg | ⟨rfl, rfl, hm', hc', hl'⟩⟩
    · exact .eptrX b gen i off _ h
    · exact .eptrO b gen gen' sz' i off els' _ h hg
    · exact .eptr b gen i off sz r els' h (hm'.trans hm)
  | eptrO b gen gen1 sz i off els a hL hg0 =>
    rcases (hK b (by simpa [V.bel] using hx)).row gen1 sz els hL with h | ⟨gen', sz', els', h, hg | ⟨rfl, rfl, hm', hc', hl'⟩⟩
    · exact .eptrX b gen i off _ h
    · exact .eptrO b gen gen' sz' i off els' _ h (by omega)
    · exact .eptrO b gen gen1 sz i off els' _ h hg0
  | eptrX b gen i off a hL => exact .eptrX b gen i off a ((hK b (by simpa [V.bel] using hx)).dead hL)
  | map b r es hL hm =>
    rcases (hK b (by simpa [V.bel] using hx)).map es hL with h | ⟨es', h, hm'⟩
    · exact .mapX b _ h
    · exact .map b r es' h (hm'.trans hm)
  | mapX b a hL => exact .mapX b a ((hK b (by simpa [V.bel] using hx)).dead hL)
  | yld b r l hL hm =>
    rcases (hK b (by simpa [V.bel] using hx)).loop l hL with h | ⟨l', h, hm'⟩
    · exact .yldX b _ h
    · exact .yld b r l' h (hm'.trans hm)
  | yldX b r hL => exact .yldX b r ((hK b (by simpa [V.bel] using hx)).dead hL)
  | fn f caps vs hlen _ ih => exact .fn f caps vs hlen fun j x v h1 h2 => ih j x v h1 h2 (V.belL_get (by simpa [V.bel] using hx) h1)
  | iface t x v _ ih => exact .iface t x v (ih (by simpa [V.bel] using hx))
  | agg cs vs hlen hone _ ih => exact .agg cs vs hlen hone fun j x v h1 h2 => ih j x v h1 h2 (V.belL_get (by simpa [V.bel] using hx) h1)
  | tup cs vs hlen _ ih => exact .tup cs vs hlen fun j x v h1 h2 => ih j x v h1 h2 (V.belL_get (by simpa [V.bel] using hx) h1)
  | glob k => exact .glob k

theorem lt_of_get {α : Type} {L : List α} {b : Nat} {k : α} (h : L[b]? = some k) : b < L.length := by
  rcases Nat.lt_or_ge b L.length with hl | hl
  · exact hl
  · rw [List.getElem?_eq_none hl] at h; cases h

theorem RV.bel {g : Gh} {w : World} {L : List Blk} {x : V} {v : Value} (h : RV g w L x v) : x.bel L.length = true := by
  induction h with
  | fn f caps vs hlen _ ih => exact V.belL_of fun j x hx => ih j x (vs[j]'(by have := lt_of_get hx; omega)) hx (Array.getElem?_eq_getElem _)
  | agg cs vs hlen _ _ ih => exact V.belL_of fun j x hx => ih j x (vs[j]'(by have := lt_of_get hx; omega)) hx (Array.getElem?_eq_getElem _)
  | tup cs vs hlen _ ih => exact V.belL_of fun j x hx => ih j x (vs[j]'(by have := lt_of_get hx; omega)) hx (Array.getElem?_eq_getElem _)
  | iface t x v _ ih => simpa [V.bel] using ih
  | poison | tt | ff | d | nil | glob => rfl
  | ptr b off r cs hL | ptrX b off a hL | own b _ _ _ _ _ _ _ _ hL | ownN b _ _ _ hL | ownO b _ _ _ _ _ _ _ _ _ hL | ownX b _ _ _ _ _ _ hL | eptr b _ _ _ _ _ _ hL
    | eptrO b _ _ _ _ _ _ _ hL | eptrX b _ _ _ _ hL | map b _ _ hL | mapX b _ hL | yld b _ _ hL | yldX b _ hL => simp only [V.bel]; exact decide_eq_true (lt_of_get hL)

/-! ### Blocks -/
def live (L : List Blk) (b : Nat) : Prop := ∃ k, L[b]? = some k ∧ k ≠ .dead
def owned (g : Gh) (L : List Blk) (r : Nat) : Prop := ∃ b, live L b ∧ g.m b = some r

/-- Of whatever is stored in a block's cells: a value of one cell. -/
def RC (g : Gh) (w : World) (L : List Blk) (x : V) (v : Value) : Prop := RV g w L x v ∧ v.oneCell' = true

def RB (g : Gh) (w : World) (L : List Blk) (b : Nat) : Blk → Prop
  | .cells cs => ∃ r cur T, g.m b = some r ∧ w.heap[r]? = some (.cells cur T (0, 0)) ∧ cur.size = cs.length ∧ (∀ (i : Nat) (v : Value), cur[i]? = some v → v.oneCell' = true) ∧
      ∀ (i : Nat) (x : V) (v : Value), cs[i]? = some x → cur[i]? = some v → RV g w L x v
  | .row _ sz els => 0 < sz ∧ (∀ e ∈ els, e.length = sz) ∧ ((g.m b = none ∧ els = []) ∨
      ∃ r cur T, g.m b = some r ∧ w.heap[r]? = some (.cells cur T (0, 0)) ∧ cur.size = g.cap b ∧ els.length * sz ≤ cur.size ∧ (∀ (i : Nat) (v : Value), cur[i]? = some v → v.oneCell' = true) ∧
        ∀ (i j : Nat) (x : V) (v : Value), (els[i]?).bind (fun e => e[j]?) = some x → cur[i * sz + j]? = some v → RV g w L x v)
  | .map es => ∃ r ents clock, g.m b = some r ∧ w.heap[r]? = some (.map ents clock) ∧ ents.size = es.length ∧
      ∀ (i : Nat) (x : V × V) (e : MapEntry), es[i]? = some x → ents[i]? = some e → RV g w L x.1 e.key ∧ RV g w L x.2 e.val
  | .loop l => ∃ r rec, g.m b = some r ∧ w.heap[r]? = some (.loop rec) ∧ rec.state = l.st ∧ rec.pending = l.pend ∧ rec.params = l.ps.toArray ∧ rec.assign = l.assign ∧ rec.body = l.body ∧
      rec.tmps.size = l.n ∧ (∀ i, RV g w L (look l.fr i) (rec.tmps.getD i undef)) ∧ g.m l.df = some rec.defers ∧ L[l.df]? = some .defr
  | .defr => ∃ r, g.m b = some r ∧ w.heap[r]? = some (.deferred (some []))
  | .dead => True

structure Good (g : Gh) (w : World) (L : List Blk) : Prop where
  inj : ∀ b b' r, live L b → live L b' → g.m b = some r → g.m b' = some r → b = b'
  dis : ∀ r, owned g L r → ¬ g.I r
  lt : ∀ r, g.I r → r < w.heap.size
  blk : ∀ b k, L[b]? = some k → RB g w L b k

theorem Good.owned_lt {g : Gh} {w : World} {L : List Blk} (h : Good g w L) {r : Nat} (ho : owned g L r) : r < w.heap.size := by
  obtain ⟨b, ⟨k, hk, hd⟩, hm⟩ := ho
  have hb := h.blk b k hk
  have fin : ∀ {o : Obj}, w.heap[r]? = some o → r < w.heap.size := fun h => (Array.getElem?_eq_some_iff.1 h).1
  cases k with
  | cells cs => obtain ⟨r', cur, T, h1, h2, _⟩ := hb; rw [hm] at h1; cases h1; exact fin h2
  | row gen sz els =>
    obtain ⟨_, _, ⟨h1, _⟩ | ⟨r', cur, T, h1, h2, _⟩⟩ := hb
    · rw [hm] at h1; cases h1
    · rw [hm] at h1; cases h1; exact fin h2
  | map es => obtain ⟨r', ents, clock, h1, h2, _⟩ := hb; rw [hm] at h1; cases h1; exact fin h2
  | loop l => obtain ⟨r', rec, h1, h2, _⟩ := hb; rw [hm] at h1; cases h1; exact fin h2
  | defr => obtain ⟨r', h1, h2⟩ := hb; rw [hm] at h1; cases h1; exact fin h2
  | dead => exact absurd rfl hd

/-- From one point of a run to a later one: k blocks are spoken of on both sides. -/
structure Prog (k : Nat) (g : Gh) (w : World) (L : List Blk) (g' : Gh) (w' : World) (L' : List Blk) : Prop where
  env : w'.tape = w.tape ∧ w'.os = w.os ∧ w'.output = w.output
  size : w.heap.size ≤ w'.heap.size
  kept : ∀ r o, w.heap[r]? = some o → ¬ owned g L r → w'.heap[r]? = some o
  own : ∀ r, owned g' L' r → r < w.heap.size → owned g L r
  imm : ∀ r, g'.I r → g.I r ∨ w.heap.size ≤ r ∨ owned g L r
  immk : ∀ r, g.I r → g'.I r
  mono : ∀ (x : V) (v : Value), x.bel k = true → RV g w L x v → RV g' w' L' x v
  defr : ∀ b r, b < k → L[b]? = some .defr → g.m b = some r → L'[b]? = some .defr ∧ g'.m b = some r
  len : k ≤ L.length → k ≤ L'.length

theorem Prog.refl (k : Nat) (g : Gh) (w : World) (L : List Blk) : Prog k g w L g w L :=
  ⟨⟨rfl, rfl, rfl⟩, Nat.le_refl _, fun _ _ h _ => h, fun _ h _ => h, fun _ h => .inl h, fun _ h => h, fun _ _ _ h => h, fun _ _ _ h h' => ⟨h, h'⟩, fun h => h⟩

theorem Prog.trans {k : Nat} {g0 g1 g2 : Gh} {w0 w1 w2 : World} {L0 L1 L2 : List Blk} (h : Prog k g0 w0 L0 g1 w1 L1) (h' : Prog k g1 w1 L1 g2 w2 L2) : Prog k g0 w0 L0 g2 w2 L2 where
  env := ⟨h'.env.1.trans h.env.1, h'.env.2.1.trans h.env.2.1, h'.env.2.2.trans h.env.2.2⟩
  size := Nat.le_trans h.size h'.size
  kept r o hr hn := h'.kept r o (h.kept r o hr hn) fun ho => hn (h.own r ho (Array.getElem?_eq_some_iff.1 hr).1)
  own r ho hl := h.own r (h'.own r ho (Nat.lt_of_lt_of_le hl h.size)) hl
  imm r hr := by
    rcases h'.imm r hr with h1 | h1 | h1
    · exact h.imm r h1
    · exact .inr (.inl (Nat.le_trans h.size h1))
    · rcases Nat.lt_or_ge r w0.heap.size with hl | hl
      · exact .inr (.inr (h.own r h1 hl))
      · exact .inr (.inl hl)
  immk r hr := h'.immk r (h.immk r hr)
  mono x v hx hv := h'.mono x v hx (h.mono x v hx hv)
  defr b r hb hL hm := h'.defr b r hb (h.defr b r hb hL hm).1 (h.defr b r hb hL hm).2
  len hk := h'.len (h.len hk)

mutual
theorem V.bel_le {k k' : Nat} (hk : k ≤ k') : ∀ x : V, x.bel k = true → x.bel k' = true
  | .own b _ _ _, h | .ptr b _, h | .eptr b _ _ _, h | .map b, h | .yld b, h => by simp only [V.bel, decide_eq_true_eq] at h ⊢; omega
  | .fn _ caps, h => by simp only [V.bel] at h ⊢; exact V.belL_le hk caps h
  | .iface _ x, h => by simp only [V.bel] at h ⊢; exact V.bel_le hk x h
  | .agg cs, h => by simp only [V.bel] at h ⊢; exact V.belL_le hk cs h
  | .tup cs, h => by simp only [V.bel] at h ⊢; exact V.belL_le hk cs h
  | .poison, _ | .tt, _ | .ff, _ | .d _, _ | .nil, _ | .glob _, _ => by simp [V.bel]
theorem V.belL_le {k k' : Nat} (hk : k ≤ k') : ∀ cs : List V, V.belL k cs = true → V.belL k' cs = true
  | [], _ => rfl
  | x :: r, h => by
    simp only [V.belL, Bool.and_eq_true] at h ⊢
    exact ⟨V.bel_le hk x h.1, V.belL_le hk r h.2⟩
end

theorem Prog.le {k k' : Nat} {g g' : Gh} {w w' : World} {L L' : List Blk} (hk : k ≤ k') (hl : k' ≤ L.length) (h : Prog k' g w L g' w' L') : Prog k g w L g' w' L' :=
  ⟨h.env, h.size, h.kept, h.own, h.imm, h.immk, fun x v hx hv => h.mono x v (V.bel_le hk x hx) hv, fun b r hb => h.defr b r (Nat.lt_of_lt_of_le hb hk), fun _ => Nat.le_trans hk (h.len hl)⟩

/-- The state of an activation. -/
structure St (k : Nat) (r : Option Nat) (g : Gh) (σ : TS) (a : Act) (w : World) : Prop where
  n : a.tmps.size = σ.n
  fr : ∀ i, RV g w σ.L (look σ.fr i) (a.tmps.getD i undef)
  good : Good g w σ.L
  k : k ≤ σ.L.length
  df : a.defers.length = σ.df.length
  dfs : ∀ (i : Nat) (b : Nat) (d : Deferred), σ.df[i]? = some b → a.defers[i]? = some d → ∃ q, g.m b = some q ∧ d = { target := .collected q, args := #[] } ∧ σ.L[b]? = some .defr
  ro : ∀ lb, σ.ro = some lb → ∃ l, r = some l ∧ RV g w σ.L (.yld lb) (.func (.yield l) #[] #[])
  ro' : σ.ro = none → r = none

end Go.Tidy
