/-
  The base layer: contracts, as the callers use them.
-/
import Derived.Test.YtnkfifkgbkgcjaaTidyX
namespace Go.Tidy

/-- The contract of a function that is handed data and hands data back. -/
theorem CallP.pure {C : Ctx} {f : FuncId} {args : List V} {x : V} (h : CallP C f args [] fun X L => L = [] ∧ X = x) (ha : V.belL 0 args = true) (hx : ∀ n, x.sh n = x) {L : List Blk} {k : V → List Blk → Prop} (hk : k x L) : CallP C f args L k :=
  h.frame ha fun X L' ⟨h1, h2⟩ => by subst h1 h2; rw [hx]; simpa [shB] using hk

/-- The same, where the caller lends what it owns. -/
theorem CallP.lent {C : Ctx} {f : FuncId} {args dargs : List V} {x : V} {L : List Blk} {k : V → List Blk → Prop} (h : CallP C f dargs [] fun X L => L = [] ∧ X = x) (hc : CwL (fun _ => True) L args dargs) (ha : V.belL 0 dargs = true) (hx : x.scalar = true)
    (hk : k x L) : CallP C f args L k :=
  h.borrow hc ha fun X L' ⟨h1, h2⟩ => by subst h1 h2; exact ⟨rfl, hx, hk⟩

inductive CvL (S : Nat → Prop) (L : List Blk) : List V → List D → Prop
  | nil : CvL S L [] []
  | cons {x : V} {y : D} {xs : List V} {ys : List D} (h : Cv S L x y) (hs : CvL S L xs ys) : CvL S L (x :: xs) (y :: ys)
theorem CvL.get {S : Nat → Prop} {L : List Blk} {xs : List V} {ys : List D} (h : CvL S L xs ys) : xs.length = ys.length ∧ ∀ (j : Nat) (x : V) (y : D), xs[j]? = some x → ys[j]? = some y → Cv S L x y := by
  induction h with
  | nil => exact ⟨rfl, fun j x y hx => by simp at hx⟩
  | cons h hs ih =>
    refine ⟨by simp [ih.1], fun j x y hx hy => ?_⟩
    cases j with
    | zero => simp at hx hy; subst hx hy; exact h
    | succ j => exact ih.2 j x y (by simpa using hx) (by simpa using hy)
theorem CvL.data {S : Nat → Prop} {L : List Blk} : ∀ ds : List D, CvL S L (ds.map .d) ds
  | [] => .nil
  | d :: ds => .cons (.d d) (CvL.data ds)
theorem Cv.fnL {S : Nat → Prop} {L : List Blk} {f : FuncId} {xs : List V} {ys : List D} (h : CvL S L xs ys) : Cv S L (.fn f xs) (.fn f ys) := .fn f xs ys h.get.1 h.get.2
theorem Cv.ptrL {S : Nat → Prop} {L : List Blk} {b off : Nat} {cs : List V} {ys : List D} (hb : S b) (hL : L[b]? = some (.cells cs)) (h : CvL S L (cs.drop off) ys) : Cv S L (.ptr b off) (.rptr ys) := .ptr b off cs ys hb hL h.get.1 h.get.2
theorem Cw.aggL {S : Nat → Prop} {L : List Blk} {xs : List V} {ys : List D} (h : CvL S L xs ys) : Cw S L (.agg xs) (.agg (ys.map .d)) := .agg xs ys h.get.1 h.get.2
end Go.Tidy
