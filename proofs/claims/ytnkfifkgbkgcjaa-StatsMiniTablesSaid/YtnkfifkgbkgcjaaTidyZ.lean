/-
  The base layer: branches read off; contracts of functions that are handed a pointer.
-/
import Derived.Test.YtnkfifkgbkgcjaaTidyY
namespace Go.Tidy

theorem Br.tt {k : Bool → Prop} (h : k true) : Br true k := Br.intro (fun _ => h) (fun e => by cases e)
theorem Br.ff {k : Bool → Prop} (h : k false) : Br false k := Br.intro (fun e => by cases e) (fun _ => h)
theorem Br.dec {p : Prop} {_ : Decidable p} {k : Bool → Prop} (h1 : p → k true) (h2 : ¬ p → k false) : Br (decide p) k :=
  Br.intro (fun h => h1 (of_decide_eq_true h)) (fun h => h2 (of_decide_eq_false h))
theorem Br.not {t : Bool} {k : Bool → Prop} (h : Br t fun b => k (!b)) : Br (!t) k := by
  have := h.out
  cases t
  · exact Br.tt this
  · exact Br.ff this
theorem Br.nn {t : Bool} {k : Bool → Prop} (h : Br t k) : Br (!!t) k := by
  rw [Bool.not_not]; exact h
theorem Br.yes {t : Bool} {k : Bool → Prop} (ht : t = true) (h : k true) : Br t k := by subst ht; exact Br.tt h
theorem Br.no {t : Bool} {k : Bool → Prop} (ht : t = false) (h : k false) : Br t k := by subst ht; exact Br.ff h
section
variable {C : Ctx} {L L0 : List Blk}

theorem Part.one {b : Nat} {k0 k1 : Blk} (hb : L[b]? = some k1) (hr : k0.rn (rnI [b] L.length) = k1) (hbel : k0.bel 1 = true) (hdf : dfB [k0] = true) : Part [b] [k0] L := by
  refine ⟨by simp, fun c hc => ?_, rfl, fun b' c h => ?_, by simp [belB, hbel], hdf⟩
  · simp at hc; subst hc; exact lt_of_get hb
  · cases b' with
    | zero => simp at h; subst h; rw [hb, ← hr]; rfl
    | succ b' => simp at h

/-- A function that is handed one pointer. -/
theorem CallP.at1 {f : FuncId} {args0 args : List V} {k : V → List Blk → Prop} {b : Nat} {k0 k1 k0' : Blk} {x x' : V} (h : CallP C f args0 [k0] fun X L1 => L1 = [k1] ∧ X = x) (hb : L[b]? = some k0') (hr : k0.rn (rnI [b] L.length) = k0')
    (ha : V.belL 1 args0 = true) (hargs : V.rnL (rnI [b] L.length) args0 = args) (hk : k x' (L.set b (k1.rn (rnI [b] L.length)))) (hx : x.rn (rnI [b] L.length) = x') (hbel : k0.bel 1 = true) (hdf : dfB [k0] = true) : CallP C f args L k := by
  subst hargs hx
  refine CallP.embed [b] h (Part.one hb hr hbel hdf) ha fun X L1 ⟨h1, h2⟩ => ?_
  subst h1 h2
  simpa [putB, rnB] using hk

theorem V.rnL_d (ρ : Nat → Nat) : ∀ ds : List D, V.rnL ρ (ds.map .d) = ds.map .d
  | [] => rfl
  | y :: ys => by simp [V.rnL, V.rn, V.rnL_d ρ ys]
theorem V.belL_d (n : Nat) : ∀ ds : List D, V.belL n (ds.map .d) = true
  | [] => rfl
  | y :: ys => by simp [V.belL, V.bel, V.belL_d n ys]
end
end Go.Tidy
