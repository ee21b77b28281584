/-
  The base layer: drawn regions whose every order comes to the same.
-/
import Derived.Test.YtnkfifkgbkgcjaaTidyP
namespace Go.Tidy

/-! ### Operations that leave the memory as it is -/
def isRead : Op → Bool
  | .load .. | .indexAddr .. | .slice _ _ _ _ none | .lookup .. => true
  | .call c => match c.callee with | .builtin .len => true | _ => false
  | _ => false

theorem rd_of {L : List Blk} {f : (V → Prop) → Prop} (h : Det (fun k => f fun v => k v L)) : ∃ (p : Prop) (v : V), ∀ k : V → List Blk → Prop, f (fun v => k v L) ↔ (p ∧ k v L) := by
  obtain ⟨p, v, M, h⟩ := h
  exact ⟨p, v, fun k => h fun v _ => k v L⟩

theorem vOp_rd (C : Ctx) (o : Oper) (fr : List (Nat × V)) (L : List Blk) (hc : isPure o.op = true ∨ isRead o.op = true) : ∃ (p : Prop) (v : V), ∀ k, vOp C o fr L k ↔ (p ∧ k v L) := by
  rcases hc with hc | hc
  · obtain ⟨p, v, h⟩ := vOp_pu C o fr hc
    exact ⟨p, v, fun k => h L k⟩
  · have no : ∃ (p : Prop) (v : V), ∀ k : V → List Blk → Prop, False ↔ (p ∧ k v L) := ⟨False, .poison, fun k => by simp⟩
    unfold vOp
    cases h : o.op
    all_goals first | (rw [h] at hc; cases hc; done) | skip
    case load t a => exact rd_of (vLoad_det C t (ev fr a) L L)
    case indexAddr t x i => exact rd_of (f := fun κ => vIndexAddr C t (ev fr x) (ev fr i) κ L) (vIndexAddr_det C t (ev fr x) (ev fr i) L L)
    case slice t x lo hi mx =>
      cases mx with
      | none => exact rd_of (vSlice_det C t (ev fr x) (lo.map (ev fr)) (hi.map (ev fr)) none L L)
      | some m => rw [h] at hc; cases hc
    case lookup t x i ok => exact rd_of (f := fun κ => vLookup C t (ev fr x) (ev fr i) ok L κ) (vLookup_det C t (ev fr x) (ev fr i) ok L L)
    case call c =>
      obtain ⟨cal, args, tys⟩ := c
      rw [h] at hc
      simp only [isRead] at hc
      cases cal with
      | value f => cases hc
      | invoke r m => cases hc
      | builtin b =>
        cases b
        all_goals first | (cases hc; done) | skip
        dsimp only []
        split
        · exact rd_of (vLenL_det C _ _ L L)
        · exact no

def isWriter (op : Op) : Bool := !(isPure op || isRead op || isCall op)

/-! ### The walk in the text's order -/
@[irreducible] def QCall (f : (V → List Blk → Prop) → Prop) (L : List Blk) (k : V → List Blk → Prop) : Prop := ∃ v, f (fun x M => x = v ∧ M = L) ∧ k v L
theorem QCall.intro {f : (V → List Blk → Prop) → Prop} {L : List Blk} {k : V → List Blk → Prop} (v : V) (h : f fun x M => x = v ∧ M = L) (hk : k v L) : QCall f L k := by
  unfold QCall; exact ⟨v, h, hk⟩

def qOp (C : Ctx) (o : Oper) (fr : List (Nat × V)) (L : List Blk) (k : V → List Blk → Prop) : Prop :=
  match isCall o.op with
  | true => QCall (fun k => vOpF C o fr L k) L k
  | false => vOpF C o fr L k

theorem qOp_out {C : Ctx} {o : Oper} {fr : List (Nat × V)} {L : List Blk} {k : V → List Blk → Prop} (h : qOp C o fr L k) :
    ∃ v L', vOp C o fr L (fun x M => x = v ∧ M = L') ∧ k v L' ∧ (isWriter o.op = false → L' = L) := by
  unfold qOp at h
  simp only [vOpF_eq] at h
  cases hc : isCall o.op with
  | true =>
    simp only [hc] at h
    unfold QCall at h
    obtain ⟨v, h1, h2⟩ := h
    exact ⟨v, L, h1, h2, fun _ => rfl⟩
  | false =>
    simp only [hc] at h
    cases hw : isWriter o.op with
    | true =>
      obtain ⟨p, v, M, hd⟩ := vOp_det C o fr L hc
      have := (hd k).1 h
      exact ⟨v, M, (hd _).2 ⟨this.1, rfl, rfl⟩, this.2, fun h => by cases h⟩
    | false =>
      have hr : isPure o.op = true ∨ isRead o.op = true := by
        unfold isWriter at hw
        simp only [hc, Bool.or_false, Bool.not_eq_false'] at hw
        simpa using hw
      obtain ⟨p, v, hd⟩ := vOp_rd C o fr L hr
      have := (hd k).1 h
      exact ⟨v, L, (hd _).2 ⟨this.1, rfl, rfl⟩, this.2, fun _ => rfl⟩

def qOp1 (C : Ctx) (n : Nat) (all : List Oper) (o : Oper) (fr : List (Nat × V)) (L : List Blk) (K : List (Nat × V) → List Blk → Prop) : Prop :=
  match o.guard with
  | none => qOp C o fr L fun v L' => vPut n o.dst fr v fun fr' => K fr' L'
  | some (j, want) =>
    match dstAt all j with
    | none => False
    | some d => match look fr d with
      | .tt => match want with
        | true => qOp C o fr L fun v L' => vPut n o.dst fr v fun fr' => K fr' L'
        | false => vPut n o.dst fr (.tup []) fun fr' => K fr' L
      | .ff => match want with
        | false => qOp C o fr L fun v L' => vPut n o.dst fr v fun fr' => K fr' L'
        | true => vPut n o.dst fr (.tup []) fun fr' => K fr' L
      | .d (.bool t) => Br t fun b => match b, want with
        | true, true => qOp C o ((d, .tt) :: fr) L fun v L' => vPut n o.dst ((d, .tt) :: fr) v fun fr' => K fr' L'
        | false, false => qOp C o ((d, .ff) :: fr) L fun v L' => vPut n o.dst ((d, .ff) :: fr) v fun fr' => K fr' L'
        | true, false => vPut n o.dst ((d, .tt) :: fr) (.tup []) fun fr' => K fr' L
        | false, true => vPut n o.dst ((d, .ff) :: fr) (.tup []) fun fr' => K fr' L
      | .tup [] => vPut n o.dst fr (.tup []) fun fr' => K fr' L
      | _ => False
def qOps (C : Ctx) (n : Nat) (all : List Oper) : List Oper → List (Nat × V) → List Blk → (List (Nat × V) → List Blk → Prop) → Prop
  | [], fr, L, K => K fr L
  | o :: rest, fr, L, K => qOp1 C n all o fr L fun fr' L' => qOps C n all rest fr' L' K

/-! ### What the walk has found -/
def VEq (x y : V) : Prop := VLe x y ∧ VLe y x
theorem VEq.refl (x : V) : VEq x x := ⟨VLe.refl x, VLe.refl x⟩
theorem VEq.symm {x y : V} (h : VEq x y) : VEq y x := ⟨h.2, h.1⟩
theorem VEq.trans {x y z : V} (h : VEq x y) (h' : VEq y z) : VEq x z := ⟨fun g w L v hv => h'.1 g w L v (h.1 g w L v hv), fun g w L v hv => h.2 g w L v (h'.2 g w L v hv)⟩
theorem VEq.tt : VEq (.d (.bool true)) .tt := ⟨fun _ _ _ _ h => by rw [h.bool_of]; exact .tt, fun _ _ _ _ h => by cases h; exact .d _ _ (.bool _)⟩
theorem VEq.ff : VEq (.d (.bool false)) .ff := ⟨fun _ _ _ _ h => by rw [h.bool_of]; exact .ff, fun _ _ _ _ h => by cases h; exact .d _ _ (.bool _)⟩
def Eqv (fr fr' : List (Nat × V)) : Prop := ∀ s, VEq (look fr s) (look fr' s)
theorem Eqv.refl (fr : List (Nat × V)) : Eqv fr fr := fun _ => VEq.refl _
theorem Eqv.trans {a b c : List (Nat × V)} (h : Eqv a b) (h' : Eqv b c) : Eqv a c := fun s => (h s).trans (h' s)
def putF (dst : Option Tmp) (v : V) (fr : List (Nat × V)) : List (Nat × V) := match dst with | some d => (d, v) :: fr | none => fr

/-- What one operation does in the text's order. -/
structure PlO (C : Ctx) (n : Nat) (all : List Oper) (o : Oper) (fr : List (Nat × V)) (L : List Blk) (v : V) (ex : Bool) (L' : List Blk) : Prop where
  run : ex = true → vOp C o fr L fun x M => x = v ∧ M = L'
  skip : ex = false → v = .tup [] ∧ L' = L
  guard : match o.guard with | none => ex = true | some (j, want) => ∃ d, dstAt all j = some d ∧ (look fr d = (if ex == want then .tt else .ff) ∨ (look fr d = .tup [] ∧ ex = false))
  dst : ∀ d, o.dst = some d → Nat.blt d n = true
  quiet : isWriter o.op = false → L' = L

theorem vPut_out {n : Nat} {dst : Option Tmp} {fr : List (Nat × V)} {v : V} {K : List (Nat × V) → Prop} (h : vPut n dst fr v K) : K (putF dst v fr) ∧ ∀ d, dst = some d → Nat.blt d n = true := by
  unfold vPut at h
  simp only [V.force_eq] at h
  cases dst with
  | none => exact ⟨h, fun d hd => (by cases hd)⟩
  | some d =>
    simp only at h
    cases hb : Nat.blt d n with
    | false => simp [hb] at h
    | true => simp only [hb, cond_true] at h; exact ⟨h, fun d' hd => by cases hd; exact hb⟩

section
variable {C : Ctx} {n : Nat} {all : List Oper} {o : Oper} {fr : List (Nat × V)} {L : List Blk} {K : List (Nat × V) → List Blk → Prop}

theorem qOp1_out (h : qOp1 C n all o fr L K) : ∃ fr1 v ex L', Eqv fr1 fr ∧ PlO C n all o fr1 L v ex L' ∧ K (putF o.dst v fr1) L' := by
  unfold qOp1 at h
  have exec : ∀ fr1, Eqv fr1 fr → (match o.guard with | none => True | some (j, want) => ∃ d, dstAt all j = some d ∧ (look fr1 d = (if true == want then .tt else .ff) ∨ (look fr1 d = .tup [] ∧ true = false))) →
      (qOp C o fr1 L fun v L' => vPut n o.dst fr1 v fun fr' => K fr' L') → ∃ fr1 v ex L', Eqv fr1 fr ∧ PlO C n all o fr1 L v ex L' ∧ K (putF o.dst v fr1) L' := by
    intro fr1 he hg h
    obtain ⟨v, L', h1, h2, h3⟩ := qOp_out h
    obtain ⟨h4, h5⟩ := vPut_out h2
    refine ⟨fr1, v, true, L', he, ⟨fun _ => h1, fun h => (by cases h), ?_, h5, h3⟩, h4⟩
    split
    · rfl
    · rename_i hgd; rw [hgd] at hg; exact hg
  have skip : ∀ fr1, Eqv fr1 fr → (∃ j want, o.guard = some (j, want) ∧ ∃ d, dstAt all j = some d ∧ (look fr1 d = (if false == want then .tt else .ff) ∨ (look fr1 d = .tup [] ∧ false = false))) →
      (vPut n o.dst fr1 (.tup []) fun fr' => K fr' L) → ∃ fr1 v ex L', Eqv fr1 fr ∧ PlO C n all o fr1 L v ex L' ∧ K (putF o.dst v fr1) L' := by
    rintro fr1 he ⟨j, want, hg, hd⟩ h
    obtain ⟨h4, h5⟩ := vPut_out h
    refine ⟨fr1, .tup [], false, L, he, ⟨fun h => (by cases h), fun _ => ⟨rfl, rfl⟩, ?_, h5, fun _ => rfl⟩, h4⟩
    rw [hg]; exact hd
  cases hgd : o.guard with
  | none =>
    simp only [hgd] at h
    exact exec fr (Eqv.refl _) (by rw [hgd]; trivial) h
  | some jw =>
    obtain ⟨j, want⟩ := jw
    simp only [hgd] at h
    cases hd : dstAt all j with
    | none => simp [hd] at h
    | some d =>
      simp only [hd] at h
      split at h
      · rename_i hl
        cases want with
        | true => exact exec fr (Eqv.refl _) (by rw [hgd]; exact ⟨d, hd, .inl hl⟩) h
        | false => exact skip fr (Eqv.refl _) ⟨j, false, hgd, d, hd, .inl hl⟩ h
      · rename_i hl
        cases want with
        | false => exact exec fr (Eqv.refl _) (by rw [hgd]; exact ⟨d, hd, .inl hl⟩) h
        | true => exact skip fr (Eqv.refl _) ⟨j, true, hgd, d, hd, .inl hl⟩ h
      · rename_i t hl
        have h := h.out
        cases t with
        | true =>
          have he : Eqv ((d, .tt) :: fr) fr := fun s => by
            rw [look_cons]
            by_cases e : d = s
            · subst e; rw [if_pos rfl, hl]; exact VEq.tt.symm
            · rw [if_neg e]; exact VEq.refl _
          have hl' : look ((d, V.tt) :: fr) d = .tt := by rw [look_cons, if_pos rfl]
          cases want with
          | true => exact exec _ he (by rw [hgd]; exact ⟨d, hd, .inl hl'⟩) h
          | false => exact skip _ he ⟨j, false, hgd, d, hd, .inl hl'⟩ h
        | false =>
          have he : Eqv ((d, .ff) :: fr) fr := fun s => by
            rw [look_cons]
            by_cases e : d = s
            · subst e; rw [if_pos rfl, hl]; exact VEq.ff.symm
            · rw [if_neg e]; exact VEq.refl _
          have hl' : look ((d, V.ff) :: fr) d = .ff := by rw [look_cons, if_pos rfl]
          cases want with
          | false => exact exec _ he (by rw [hgd]; exact ⟨d, hd, .inl hl'⟩) h
          | true => exact skip _ he ⟨j, true, hgd, d, hd, .inl hl'⟩ h
      · rename_i hl
        exact skip fr (Eqv.refl _) ⟨j, want, hgd, d, hd, .inr ⟨hl, rfl⟩⟩ h
      · exact h.elim

/-- The whole walk, from operation i on. -/
theorem qOps_out : ∀ (l : List Oper) (i : Nat) (fr : List (Nat × V)) (L : List Blk), qOps C n all l fr L K → ∃ (F : Nat → List (Nat × V)) (M : Nat → List Blk) (val : Nat → V) (ex : Nat → Bool),
    Eqv (F i) fr ∧ M i = L ∧ (∀ j o, l[j]? = some o → PlO C n all o (F (i + j)) (M (i + j)) (val (i + j)) (ex (i + j)) (M (i + j + 1)) ∧ Eqv (F (i + j + 1)) (putF o.dst (val (i + j)) (F (i + j)))) ∧
    K (F (i + l.length)) (M (i + l.length))
  | [], i, fr, L, h => ⟨fun _ => fr, fun _ => L, fun _ => .poison, fun _ => true, Eqv.refl _, rfl, fun j o ho => by simp at ho, h⟩
  | o :: l, i, fr, L, h => by
    obtain ⟨fr1, v, ex, L', h1, h2, h3⟩ := qOp1_out h
    obtain ⟨F, M, val, exs, e1, e2, e3, e4⟩ := qOps_out l (i + 1) _ L' h3
    have up : ∀ {α : Type} (a : α) (f : Nat → α) (j : Nat), (fun k => if k ≤ i then a else f k) (i + 1 + j) = f (i + 1 + j) := fun a f j => by
      simp only []; rw [if_neg (by omega)]
    refine ⟨fun k => if k ≤ i then fr1 else F k, fun k => if k ≤ i then L else M k, fun k => if k ≤ i then v else val k, fun k => if k ≤ i then ex else exs k, ?_, ?_, ?_, ?_⟩
    · simp only [Nat.le_refl, if_true]; exact h1
    · simp
    · intro j o' ho'
      cases j with
      | zero =>
        simp at ho'
        subst ho'
        simp only [Nat.add_zero, Nat.le_refl, if_true, show ¬ i + 1 ≤ i by omega, if_false]
        rw [e2]
        exact ⟨h2, e1⟩
      | succ j =>
        have := e3 j o' (by simpa using ho')
        have a1 : i + (j + 1) = i + 1 + j := by omega
        rw [a1]
        simp only [show ¬ i + 1 + j ≤ i by omega, show ¬ i + 1 + j + 1 ≤ i by omega, if_false]
        exact this
    · have a1 : i + (o :: l).length = i + 1 + l.length := by simp; omega
      rw [a1]
      simp only [show ¬ i + 1 + l.length ≤ i by omega, if_false]
      exact e4
end
end Go.Tidy
