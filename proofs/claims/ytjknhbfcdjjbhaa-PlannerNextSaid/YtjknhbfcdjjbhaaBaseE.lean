import Derived.Test.YtjknhbfcdjjbhaaBaseD
import Derived.Orders
import Derived.ReadAgain
import Derived.ChangeArms
import Derived.ChangeSame
import Derived.ChangeShapes
import Derived.RowKit3
import Derived.WideShapes
import Derived.Below
import Derived.RowKit
/-
  The base layer: what an operation does is determined; regions whose order is drawn.
-/
namespace Go.Tidy

def Det (f : (V → List Blk → Prop) → Prop) : Prop := ∃ (p : Prop) (v : V) (L : List Blk), ∀ k, f k ↔ (p ∧ k v L)

theorem Det.no : Det (fun _ => False) := ⟨False, .poison, [], fun k => by simp⟩
theorem Det.ret (v : V) (L : List Blk) : Det (fun k => k v L) := ⟨True, v, L, fun k => by simp⟩
theorem Det.need {p : Prop} {f : (V → List Blk → Prop) → Prop} (h : Det f) : Det (fun k => Need p (f k)) := by
  obtain ⟨q, v, L, h⟩ := h
  exact ⟨p ∧ q, v, L, fun k => ⟨fun hn => ⟨⟨hn.out.1, ((h k).1 hn.out.2).1⟩, ((h k).1 hn.out.2).2⟩, fun hn => Need.intro hn.1.1 ((h k).2 ⟨hn.1.2, hn.2⟩)⟩⟩
theorem Det.bif {b : Bool} {f : (V → List Blk → Prop) → Prop} (h : Det f) : Det (fun k => bif b then f k else False) := by
  cases b
  · exact Det.no
  · exact h
theorem Det.br {t : Bool} {f : Bool → (V → List Blk → Prop) → Prop} (h : ∀ b, Det (f b)) : Det (fun k => Br t fun b => f b k) := by
  obtain ⟨q, v, L, h⟩ := h t
  exact ⟨q, v, L, fun k => ⟨fun hb => (h k).1 hb.out, fun hb => Br.lit t rfl ((h k).2 hb)⟩⟩
theorem Det.getE {α : Type} {els : List α} {n : Nat} {f : α → (V → List Blk → Prop) → Prop} (h : ∀ e, Det (f e)) : Det (fun k => GetE els n fun e => f e k) := by
  cases e : els[n]? with
  | none => exact ⟨False, .poison, [], fun k => by unfold GetE; simp [e]⟩
  | some x =>
    obtain ⟨q, v, L, h⟩ := h x
    refine ⟨q, v, L, fun k => ?_⟩
    unfold GetE
    constructor
    · rintro ⟨y, hy, hk⟩; rw [e] at hy; cases hy; exact (h k).1 hk
    · exact fun hk => ⟨x, e, (h k).2 hk⟩
theorem Det.idx {α : Type} {els : List α} {i : Int} {f : Nat → α → (V → List Blk → Prop) → Prop} (h : ∀ n e, Det (f n e)) : Det (fun k => Idx els i fun n e => f n e k) := by
  by_cases hh : ∃ n : Nat, i = n ∧ ∃ e, els[n]? = some e
  · obtain ⟨n, hn, x, e⟩ := hh
    obtain ⟨q, v, L, h⟩ := h n x
    refine ⟨q, v, L, fun k => ?_⟩
    unfold Idx
    constructor
    · rintro ⟨m, hm, y, hy, hk⟩
      have : m = n := by omega
      subst this
      rw [e] at hy; cases hy; exact (h k).1 hk
    · exact fun hk => ⟨n, hn, x, e, (h k).2 hk⟩
  · refine ⟨False, .poison, [], fun k => ?_⟩
    unfold Idx
    constructor
    · rintro ⟨m, hm, y, hy, hk⟩; exact absurd ⟨m, hm, y, hy⟩ hh
    · exact fun h => h.1.elim
theorem Det.idxN {len : Nat} {i : Int} {f : Nat → (V → List Blk → Prop) → Prop} (h : ∀ n, Det (f n)) : Det (fun k => IdxN len i fun n => f n k) := by
  by_cases hh : ∃ n : Nat, i = n ∧ n < len
  · obtain ⟨n, hn, hl⟩ := hh
    obtain ⟨q, v, L, h⟩ := h n
    refine ⟨q, v, L, fun k => ?_⟩
    unfold IdxN
    constructor
    · rintro ⟨m, hm, _, hk⟩
      have : m = n := by omega
      subst this
      exact (h k).1 hk
    · exact fun hk => ⟨n, hn, hl, (h k).2 hk⟩
  · refine ⟨False, .poison, [], fun k => ?_⟩
    unfold IdxN
    constructor
    · rintro ⟨m, hm, hy, hk⟩; exact absurd ⟨m, hm, hy⟩ hh
    · exact fun h => h.1.elim
theorem isB_uniq {o : Option V} {d n m : Nat} (h : isB o d n) (h' : isB o d m) : n = m := by
  unfold isB at h h'
  split at h
  · simp at h'; omega
  · rename_i a
    simp at h'; omega
  · exact h.elim
theorem Det.slice {n : Nat} {lo hi : Option V} {f : Nat → Nat → (V → List Blk → Prop) → Prop} (h : ∀ l m, Det (f l m)) : Det (fun k => SliceP n lo hi fun l m => f l m k) := by
  by_cases hh : ∃ l m : Nat, isB lo 0 l ∧ isB hi n m ∧ l ≤ m ∧ m ≤ n
  · obtain ⟨l, m, h1, h2, h3, h4⟩ := hh
    obtain ⟨q, v, L, h⟩ := h l m
    refine ⟨q, v, L, fun k => ?_⟩
    unfold SliceP
    constructor
    · rintro ⟨l', m', h1', h2', _, _, hk⟩
      have := isB_uniq h1 h1'
      have := isB_uniq h2 h2'
      subst_vars
      exact (h k).1 hk
    · exact fun hk => ⟨l, m, h1, h2, h3, h4, (h k).2 hk⟩
  · refine ⟨False, .poison, [], fun k => ?_⟩
    unfold SliceP
    constructor
    · rintro ⟨l, m, h1, h2, h3, h4, _⟩; exact absurd ⟨l, m, h1, h2, h3, h4⟩ hh
    · exact fun h => h.1.elim


theorem vLoad_det (C : Ctx) (t : TypeId) (x : V) (L M : List Blk) : Det (fun k => vLoad C t x L fun v => k v M) := by
  unfold vLoad
  repeat' (first | exact Det.no | exact Det.ret _ _ | apply Det.need | apply Det.bif | (apply Det.getE; intro _) | (apply Det.idx; intro _ _) | (apply Det.idxN; intro _) | (apply Det.slice; intro _ _) | (apply Det.br; intro _) | split)
theorem vStore_det (C : Ctx) (t : TypeId) (x y : V) (L : List Blk) : Det (fun k => vStore C t x y L fun L' => k .poison L') := by
  unfold vStore
  repeat' (first | exact Det.no | exact Det.ret _ _ | apply Det.need | apply Det.bif | (apply Det.getE; intro _) | (apply Det.idx; intro _ _) | (apply Det.idxN; intro _) | (apply Det.slice; intro _ _) | (apply Det.br; intro _) | split)
theorem vBox_det (x : V) (L : List Blk) : Det (fun k => vBox x L k) := by
  unfold vBox
  repeat' (first | exact Det.no | exact Det.ret _ _ | apply Det.need | apply Det.bif | (apply Det.getE; intro _) | (apply Det.idx; intro _ _) | (apply Det.idxN; intro _) | (apply Det.slice; intro _ _) | (apply Det.br; intro _) | split)
theorem vAlloc_det (C : Ctx) (t : TypeId) (L : List Blk) : Det (fun k => vAlloc C t L k) := by
  unfold vAlloc
  repeat' (first | exact Det.no | exact Det.ret _ _ | apply Det.need | apply Det.bif | (apply Det.getE; intro _) | (apply Det.idx; intro _ _) | (apply Det.idxN; intro _) | (apply Det.slice; intro _ _) | (apply Det.br; intro _) | split)
theorem vFieldAddr_det (C : Ctx) (s : TypeId) (x : V) (f : Nat) (M : List Blk) : Det (fun k => vFieldAddr C s x f fun v => k v M) := by
  unfold vFieldAddr
  repeat' (first | exact Det.no | exact Det.ret _ _ | apply Det.need | apply Det.bif | (apply Det.getE; intro _) | (apply Det.idx; intro _ _) | (apply Det.idxN; intro _) | (apply Det.slice; intro _ _) | (apply Det.br; intro _) | split)
theorem vIndexAddr_det (C : Ctx) (t : TypeId) (x i : V) (L M : List Blk) : Det (fun k => vIndexAddr C t x i (fun v => k v M) L) := by
  unfold vIndexAddr
  repeat' (first | exact Det.no | exact Det.ret _ _ | apply Det.need | apply Det.bif | (apply Det.getE; intro _) | (apply Det.idx; intro _ _) | (apply Det.idxN; intro _) | (apply Det.slice; intro _ _) | (apply Det.br; intro _) | split)
theorem vBin_det (C : Ctx) (op : BinOp) (t : TypeId) (x y : V) (M : List Blk) : Det (fun k => vBin C op t x y fun v => k v M) := by
  unfold vBin intBin strBin vNilI
  repeat' (first | exact Det.no | exact Det.ret _ _ | apply Det.need | apply Det.bif | (apply Det.getE; intro _) | (apply Det.idx; intro _ _) | (apply Det.idxN; intro _) | (apply Det.slice; intro _ _) | (apply Det.br; intro _) | split)
theorem vUn_det (op : UnOp) (x : V) (M : List Blk) : Det (fun k => vUn op x fun v => k v M) := by
  unfold vUn
  repeat' (first | exact Det.no | exact Det.ret _ _ | apply Det.need | apply Det.bif | (apply Det.getE; intro _) | (apply Det.idx; intro _ _) | (apply Det.idxN; intro _) | (apply Det.slice; intro _ _) | (apply Det.br; intro _) | split)
theorem vConv_det (C : Ctx) (s t : TypeId) (x : V) (M : List Blk) : Det (fun k => vConv C s t x fun v => k v M) := by
  unfold vConv
  repeat' (first | exact Det.no | exact Det.ret _ _ | split)
theorem vBuild_det (C : Ctx) (t : TypeId) (ps : List (Nat × V)) (M : List Blk) : Det (fun k => vBuild C t ps fun v => k v M) := by
  unfold vBuild
  repeat' (first | exact Det.no | exact Det.ret _ _ | apply Det.need | apply Det.bif | (apply Det.getE; intro _) | (apply Det.idx; intro _ _) | (apply Det.idxN; intro _) | (apply Det.slice; intro _ _) | (apply Det.br; intro _) | split)
theorem vBuildSlice_det (C : Ctx) (t : TypeId) (len : Nat) (ps : List (Nat × V)) (L : List Blk) : Det (fun k => vBuildSlice C t len ps L k) := by
  unfold vBuildSlice
  repeat' (first | exact Det.no | exact Det.ret _ _ | apply Det.need | apply Det.bif | (apply Det.getE; intro _) | (apply Det.idx; intro _ _) | (apply Det.idxN; intro _) | (apply Det.slice; intro _ _) | (apply Det.br; intro _) | split)
theorem vSlice_det (C : Ctx) (t : TypeId) (x : V) (lo hi mx : Option V) (L M : List Blk) : Det (fun k => vSlice C t x lo hi mx L fun v => k v M) := by
  unfold vSlice
  repeat' (first | exact Det.no | exact Det.ret _ _ | apply Det.need | apply Det.bif | (apply Det.getE; intro _) | (apply Det.idx; intro _ _) | (apply Det.idxN; intro _) | (apply Det.slice; intro _ _) | (apply Det.br; intro _) | split)
theorem vLenL_det (C : Ctx) (t : TypeId) (x : V) (L M : List Blk) : Det (fun k => vLenL C t x L fun v => k v M) := by
  unfold vLenL vLen
  repeat' (first | exact Det.no | exact Det.ret _ _ | apply Det.need | apply Det.bif | (apply Det.getE; intro _) | (apply Det.idx; intro _ _) | (apply Det.idxN; intro _) | (apply Det.slice; intro _ _) | (apply Det.br; intro _) | split)
theorem vAppend_det (C : Ctx) (t : TypeId) (s x : V) (L : List Blk) : Det (fun k => vAppend C t s x L k) := by
  unfold vAppend vSrc
  repeat' (first | exact Det.no | exact Det.ret _ _ | apply Det.need | apply Det.bif | (apply Det.getE; intro _) | (apply Det.idx; intro _ _) | (apply Det.idxN; intro _) | (apply Det.slice; intro _ _) | (apply Det.br; intro _) | split)

theorem Det.mapF {tk : TK} {es : List (V × V)} {key : V} {f : Option (Nat × V) → (V → List Blk → Prop) → Prop} (h : ∀ r, Det (f r)) : Det (fun k => MapF tk es key fun r => f r k) := by
  by_cases h0 : ∀ kv ∈ es, keyV tk kv.1 = true
  · by_cases hh : ∃ i v, es[i]? = some (key, v) ∧ (∀ (j : Nat) (kv : V × V), j < i → es[j]? = some kv → kv.1 ≠ key)
    · obtain ⟨i, v, hi, hj⟩ := hh
      obtain ⟨q, x, L, h⟩ := h (some (i, v))
      refine ⟨q, x, L, fun k => ⟨fun hm => ?_, fun hk => MapF.hit i v h0 hi hj ((h k).2 hk)⟩⟩
      unfold MapF at hm
      rcases hm.2 with ⟨i', v', hi', hj', hk⟩ | ⟨hno, _⟩
      · have : i = i' := by
          rcases Nat.lt_trichotomy i i' with h | h | h
          · exact absurd rfl (hj' i _ h hi)
          · exact h
          · exact absurd rfl (hj i' _ h hi')
        subst this
        rw [hi] at hi'; cases hi'
        exact (h k).1 hk
      · exact absurd rfl (hno _ (List.mem_of_getElem? hi))
    · obtain ⟨q, x, L, h⟩ := h none
      refine ⟨(∀ kv ∈ es, kv.1 ≠ key) ∧ q, x, L, fun k => ⟨fun hm => ?_, fun hk => MapF.miss h0 hk.1.1 ((h k).2 ⟨hk.1.2, hk.2⟩)⟩⟩
      unfold MapF at hm
      rcases hm.2 with ⟨i', v', hi', hj', _⟩ | ⟨hno, hk⟩
      · exact absurd ⟨i', v', hi', hj'⟩ hh
      · exact ⟨⟨hno, ((h k).1 hk).1⟩, ((h k).1 hk).2⟩
  · refine ⟨False, .poison, [], fun k => ⟨fun hm => ?_, fun hk => hk.1.elim⟩⟩
    unfold MapF at hm
    exact absurd hm.1 h0
theorem vLookup_det (C : Ctx) (t : TypeId) (m key : V) (ok : Bool) (L M : List Blk) : Det (fun k => vLookup C t m key ok L fun v => k v M) := by
  unfold vLookup
  repeat' (first | exact Det.no | exact Det.ret _ _ | apply Det.need | apply Det.bif | (apply Det.mapF; intro _) | split)
theorem vMapUpdate_det (C : Ctx) (t : TypeId) (m key x : V) (L : List Blk) : Det (fun k => vMapUpdate C t m key x L fun L' => k .poison L') := by
  unfold vMapUpdate
  repeat' (first | exact Det.no | exact Det.ret _ _ | apply Det.need | apply Det.bif | (apply Det.mapF; intro _) | split)

def isCall : Op → Bool
  | .call c => match c.callee with | .value _ => true | .invoke .. => true | _ => false
  | .binOp _ _ _ y _ => isNilSl y
  | .panic _ => true
  | _ => false

theorem vSlice3_det (C : Ctx) (t : TypeId) (x : V) (lo hi : Option V) (m : V) (L : List Blk) : Det (fun k => vSlice3 C t x lo hi m L k) := by
  unfold vSlice3
  repeat' (first | exact Det.no | exact Det.ret _ _ | apply Det.need | apply Det.bif | split)
theorem vSliceM_det (C : Ctx) (t : TypeId) (x : V) (lo hi mx : Option V) (L : List Blk) : Det (fun k => vSliceM C t x lo hi mx L k) := by
  cases mx with
  | none => exact vSlice_det C t x lo hi none L L
  | some m => exact vSlice3_det C t x lo hi m L
theorem vClear_det (C : Ctx) (t : TypeId) (s : V) (L : List Blk) : Det (fun k => vClear C t s L fun L' => k (.tup []) L') := by
  unfold vClear
  repeat' (first | exact Det.no | exact Det.ret _ _ | apply Det.need | apply Det.bif | split)
theorem vMin_det (x y : V) (L : List Blk) : Det (fun k => vMin x y fun v => k v L) := by
  unfold vMin
  repeat' (first | exact Det.no | exact Det.ret _ _ | apply Det.bif | split)
theorem vMax_det (x y : V) (L : List Blk) : Det (fun k => vMax x y fun v => k v L) := by
  unfold vMax
  repeat' (first | exact Det.no | exact Det.ret _ _ | apply Det.bif | split)
theorem vMakeIface_det (C : Ctx) (t : TypeId) (x : V) (L : List Blk) : Det (fun k => vMakeIface C t x fun v => k v L) := by
  unfold vMakeIface
  repeat' (first | exact Det.no | exact Det.ret _ _ | apply Det.bif | split)
theorem vTypeAssert_det (C : Ctx) (x : V) (t : TypeId) (ok : Bool) (L : List Blk) : Det (fun k => vTypeAssert C x t ok fun v => k v L) := by
  unfold vTypeAssert vHold vFail
  repeat' (first | exact Det.no | exact Det.ret _ _ | apply Det.bif | split)
theorem vIndex_det (C : Ctx) (t : TypeId) (x i : V) (L : List Blk) : Det (fun k => vIndex C t x i fun v => k v L) := by
  unfold vIndex
  repeat' (first | exact Det.no | exact Det.ret _ _ | (apply Det.idxN; intro _) | split)
theorem vOp_det (C : Ctx) (o : Oper) (fr : List (Nat × V)) (L : List Blk) (hc : isCall o.op = false) : Det (fun k => vOp C o fr L k) := by
  unfold vOp
  cases h : o.op
  case call c =>
    simp only [h, isCall] at hc
    dsimp only []
    cases hcal : c.callee with
    | value f => simp [hcal] at hc
    | invoke r m => simp [hcal] at hc
    | builtin b =>
      cases b <;> dsimp only [] <;> repeat' (first | exact Det.no | exact Det.ret _ _ | apply Det.need | apply Det.bif | (apply Det.getE; intro _) | (apply Det.idx; intro _ _) | (apply Det.idxN; intro _) | (apply Det.slice; intro _ _) | (apply Det.br; intro _) | exact vLenL_det _ _ _ _ _ | exact vAppend_det _ _ _ _ _ | exact vClear_det _ _ _ _ | exact vMin_det _ _ _ | exact vMax_det _ _ _ | split)
  case panic x => rw [h] at hc; cases hc
  case binOp op t x y u =>
    rw [h] at hc
    simp only [isCall] at hc
    dsimp only []
    rw [hc]
    exact vBin_det _ _ _ _ _ _
  case makeFunc fn first caps =>
    cases fn <;> dsimp only []
    all_goals repeat' (first | exact Det.no | exact Det.ret _ _ | apply Det.need | apply Det.bif | (apply Det.getE; intro _) | (apply Det.idx; intro _ _) | (apply Det.idxN; intro _) | (apply Det.slice; intro _ _) | (apply Det.br; intro _) | split)
  case makeMap t r =>
    cases r <;> dsimp only []
    · exact Det.ret _ _
    · exact Det.no
  all_goals try dsimp only []
  all_goals repeat' (first | exact Det.no | exact Det.ret _ _ | apply Det.need | apply Det.bif | (apply Det.getE; intro _) | (apply Det.idx; intro _ _) | (apply Det.idxN; intro _) | (apply Det.slice; intro _ _) | (apply Det.br; intro _) | exact vLoad_det _ _ _ _ _ | exact vStore_det _ _ _ _ _ | exact vBox_det _ _ | exact vAlloc_det _ _ _ | exact vFieldAddr_det _ _ _ _ _ | exact vMakeIface_det _ _ _ _ | exact vTypeAssert_det _ _ _ _ _ | exact vIndex_det _ _ _ _ _ | exact vIndexAddr_det _ _ _ _ _ _ | exact vBin_det _ _ _ _ _ _ | exact vUn_det _ _ _ | exact vConv_det _ _ _ _ _ | exact vBuild_det _ _ _ _ | exact vBuildSlice_det _ _ _ _ _ | exact vSliceM_det _ _ _ _ _ _ _ | exact vLookup_det _ _ _ _ _ _ _ | exact vMapUpdate_det _ _ _ _ _ _ | split)

theorem YieldP.mono {C : Ctx} {b : Nat} {args : List V} {L : List Blk} {k k' : V → List Blk → Prop} (h : YieldP C b args L k) (hk : ∀ X L', k X L' → k' X L') : YieldP C b args L k' := by
  unfold YieldP at h ⊢
  intro g w vs l hg hv hy
  obtain ⟨f, tmps, assign, body, h1, h2⟩ := h g w vs l hg hv hy
  refine ⟨f, tmps, assign, body, h1, RoundIn.mono h2 ?_⟩
  rintro e w' (⟨v, X, L', g', he, hX, hr⟩ | h)
  · exact .inl ⟨v, X, L', g', he, hk _ _ hX, hr⟩
  · exact .inr h
theorem vCallV_mono {C : Ctx} {f : V} {args : List V} {L : List Blk} {k k' : V → List Blk → Prop} (h : vCallV C f args L k) (hk : ∀ X L', k X L' → k' X L') : vCallV C f args L k' := by
  unfold vCallV at *
  split at h
  · exact YieldP.mono h hk
  · unfold vCallF at *
    split at h
    · exact CallP.mono h hk
    · exact CallP.mono h hk
    · exact h.elim

theorem vNilSl_mono {C : Ctx} {op : BinOp} {t : TypeId} {x : V} {L : List Blk} {k k' : V → Prop} (h : vNilSl C op t x L k) (hk : ∀ v, k v → k' v) : vNilSl C op t x L k' := by
  have q : ∀ {q q' : Bool → Prop}, (∀ b, q b → q' b) → vNilQ x L q → vNilQ x L q' := by
    intro q q' hq h
    have n : ∀ {n : Nat}, NilP n q → NilP n q' := fun h => by unfold NilP at h ⊢; exact ⟨fun h0 => hq _ (h.1 h0), hq _ h.2⟩
    unfold vNilQ at h ⊢
    split at h
    · exact hq _ h
    · exact n h
    · split at h
      · rename_i b gen lo len _ _ gen' _ _ _
        cases hb : Nat.beq gen gen' with
        | false => simp [hb] at h
        | true => simp only [hb, cond_true] at h ⊢; exact n h
      · exact h.elim
    · exact h.elim
  unfold vNilSl at h ⊢
  split at h
  · split at h
    · split at h
      · exact q (fun b hb => hk _ hb) h
      · exact q (fun b hb => hk _ hb) h
      · exact h.elim
    · exact h.elim
  · exact h.elim
theorem vInvoke_mono {C : Ctx} {x : V} {name : String} {args : List V} {L : List Blk} {k k' : V → List Blk → Prop} (h : vInvoke C x name args L k) (hk : ∀ X L', k X L' → k' X L') : vInvoke C x name args L k' := by
  have m : ∀ {t : TypeId} {y : V}, (MethP C t name fun f => CallP C f (y :: args) L k) → MethP C t name fun f => CallP C f (y :: args) L k' := fun h => by
    unfold MethP at h ⊢
    obtain ⟨f, h1, h2⟩ := h
    exact ⟨f, h1, CallP.mono h2 hk⟩
  unfold vInvoke at h ⊢
  split at h
  · exact m h
  · exact m h
  · exact h.elim
theorem vOp_mono {C : Ctx} {o : Oper} {fr : List (Nat × V)} {L : List Blk} {k k' : V → List Blk → Prop} (h : vOp C o fr L k) (hk : ∀ X L', k X L' → k' X L') : vOp C o fr L k' := by
  cases hc : isCall o.op with
  | false =>
    obtain ⟨p, v, M, hd⟩ := vOp_det C o fr L hc
    have := (hd k).1 h
    exact (hd k').2 ⟨this.1, hk _ _ this.2⟩
  | true =>
    unfold isCall at hc
    split at hc
    · rename_i c hop
      split at hc
      · rename_i f hcal
        unfold vOp at h ⊢
        simp only [hop, hcal] at h ⊢
        exact vCallV_mono h hk
      · rename_i r m hcal
        unfold vOp at h ⊢
        simp only [hop, hcal] at h ⊢
        exact vInvoke_mono h hk
      · cases hc
    · rename_i op t x y u hop
      unfold vOp at h ⊢
      simp only [hop, hc] at h ⊢
      exact vNilSl_mono h fun v hv => hk v L hv
    · rename_i x hop
      unfold vOp at h ⊢
      simp only [hop] at h ⊢
      exact h
    · cases hc

section
variable {C : Ctx} {fr fr' : List (Nat × V)} {L : List Blk} {k : V → List Blk → Prop}

theorem ev_congr {x : Operand} (h : ∀ t, x = .tmp t → look fr t = look fr' t) : ev fr x = ev fr' x := by
  cases x with
  | tmp t => simp only [ev, h t rfl]
  | _ => rfl
theorem evB_congr {x : Operand} (h : ∀ t, x = .tmp t → look fr t = look fr' t) : evB fr x = evB fr' x := by
  cases x with
  | tmp t => simp only [evB, h t rfl]
  | const v =>
    cases v <;> try rfl
    rename_i b
    cases b <;> rfl
  | _ => rfl

theorem vOp_congr {o : Oper} (h : ∀ t, Operand.tmp t ∈ o.op.operands.toList → look fr t = look fr' t) : vOp C o fr L k = vOp C o fr' L k := by
  have hev : ∀ x, x ∈ o.op.operands.toList → ev fr x = ev fr' x := fun x hx => ev_congr fun t ht => h t (ht ▸ hx)
  have hevB : ∀ x, x ∈ o.op.operands.toList → evB fr x = evB fr' x := fun x hx => evB_congr fun t ht => h t (ht ▸ hx)
  unfold vOp
  cases ho : o.op
  all_goals rw [ho] at hev hevB
  case move x => simp only [hevB x (by simp [Op.operands])]
  case assign x => simp only [hevB x (by simp [Op.operands])]
  case pick c a b => simp only [hevB a (by simp [Op.operands]), hevB b (by simp [Op.operands]), hevB c (by simp [Op.operands])]
  case box t x => simp only [hev x (by simp [Op.operands])]
  case build t ps =>
    have : ps.toList.map (fun p => (p.1, ev fr p.2)) = ps.toList.map fun p => (p.1, ev fr' p.2) :=
      List.map_congr_left fun p hp => by rw [hev p.2 (by simp only [Op.operands, List.mem_map]; exact ⟨p, hp, rfl⟩)]
    simp only [this]
  case buildSlice t len ps =>
    have : ps.toList.map (fun p => (p.1, ev fr p.2)) = ps.toList.map fun p => (p.1, ev fr' p.2) :=
      List.map_congr_left fun p hp => by rw [hev p.2 (by simp only [Op.operands, List.mem_map]; exact ⟨p, hp, rfl⟩)]
    simp only [this]
  case load t x => simp only [hev x (by simp [Op.operands])]
  case panic x => simp only [hev x (by simp [Op.operands])]
  case store t x y => simp only [hev x (by simp [Op.operands]), hev y (by simp [Op.operands])]
  case nilCheck x => simp only [hev x (by simp [Op.operands])]
  case binOp op t x y u => simp only [hev x (by simp [Op.operands]), hev y (by simp [Op.operands])]
  case unOp op t x => simp only [hevB x (by simp [Op.operands])]
  case convert s t x => simp only [hev x (by simp [Op.operands])]
  case fieldAddr s x f => simp only [hev x (by simp [Op.operands])]
  case field s x f => simp only [hev x (by simp [Op.operands])]
  case indexAddr t x i => simp only [hev x (by simp [Op.operands]), hev i (by simp [Op.operands])]
  case extract x i => simp only [hev x (by simp [Op.operands])]
  case slice t x lo hi mx =>
    have h1 : lo.map (ev fr) = lo.map (ev fr') := by cases lo with | none => rfl | some y => simp only [Option.map_some, hev y (by simp [Op.operands])]
    have h2 : hi.map (ev fr) = hi.map (ev fr') := by cases hi with | none => rfl | some y => simp only [Option.map_some, hev y (by simp [Op.operands])]
    have h3 : mx.map (ev fr) = mx.map (ev fr') := by cases mx with | none => rfl | some y => simp only [Option.map_some, hev y (by simp [Op.operands])]
    simp only [hev x (by simp [Op.operands]), h1, h2, h3]
  case makeMap t r => cases r <;> rfl
  case makeInterface t x => simp only [hev x (by simp [Op.operands])]
  case typeAssert x xt t ok => simp only [hev x (by simp [Op.operands])]
  case index t x i => simp only [hev x (by simp [Op.operands]), hev i (by simp [Op.operands])]
  case lookup t x i ok => simp only [hev x (by simp [Op.operands]), hev i (by simp [Op.operands])]
  case mapUpdate t m x v => simp only [hev m (by simp [Op.operands]), hev x (by simp [Op.operands]), hev v (by simp [Op.operands])]
  case insert t m x v => simp only [hev m (by simp [Op.operands]), hev x (by simp [Op.operands]), hev v (by simp [Op.operands])]
  case makeFunc fn first caps =>
    have : caps.toList.map (ev fr) = caps.toList.map (ev fr') := List.map_congr_left fun p hp => hev p (by simp only [Op.operands, Array.toList_append, List.mem_append]; exact .inr hp)
    cases fn <;> simp only [this]
  case call c =>
    obtain ⟨cal, args, tys⟩ := c
    have hm : ∀ x, x ∈ args.toList → ev fr x = ev fr' x := fun p hp => hev p (by simp only [Op.operands, Call.operands, Array.toList_append, List.mem_append]; exact .inr hp)
    have ha : args.toList.map (ev fr) = args.toList.map (ev fr') := List.map_congr_left hm
    cases cal with
    | value f => simp only [ha, hev f (by simp [Op.operands, Call.operands])]
    | invoke r m => simp only [ha, hev r (by simp [Op.operands, Call.operands])]
    | builtin b =>
      cases b <;> dsimp only []
      case len =>
        split
        · rename_i x t h1 h2
          rw [hm x (by rw [h1]; simp)]
        · rfl
      case append =>
        split
        · rename_i x y t t' h1 h2
          rw [hm x (by rw [h1]; simp), hm y (by rw [h1]; simp)]
        · rfl
      case clear =>
        split
        · rename_i x t h1 h2
          rw [hm x (by rw [h1]; simp)]
        · rfl
      case min =>
        split
        · rename_i x y h1
          rw [hm x (by rw [h1]; simp), hm y (by rw [h1]; simp)]
        · rfl
      case max =>
        split
        · rename_i x y h1
          rw [hm x (by rw [h1]; simp), hm y (by rw [h1]; simp)]
        · rfl

def isPure : Op → Bool
  | .move _ | .assign _ | .pick .. | .build .. | .nilCheck _ | .unOp .. | .convert .. | .fieldAddr .. | .field .. | .extract .. | .makeFunc .. | .makeInterface .. | .typeAssert .. => true
  | .binOp _ _ _ y _ => !isNilSl y
  | _ => false

def Pu (f : List Blk → (V → List Blk → Prop) → Prop) : Prop := ∃ (p : Prop) (v : V), ∀ L k, f L k ↔ (p ∧ k v L)
theorem Pu.no : Pu (fun _ _ => False) := ⟨False, .poison, fun L k => by simp⟩
theorem Pu.ret (v : V) : Pu (fun L k => k v L) := ⟨True, v, fun L k => by simp⟩
theorem Pu.need {p : Prop} {f : List Blk → (V → List Blk → Prop) → Prop} (h : Pu f) : Pu (fun L k => Need p (f L k)) := by
  obtain ⟨q, v, h⟩ := h
  exact ⟨p ∧ q, v, fun L k => ⟨fun hn => ⟨⟨hn.out.1, ((h L k).1 hn.out.2).1⟩, ((h L k).1 hn.out.2).2⟩, fun hn => Need.intro hn.1.1 ((h L k).2 ⟨hn.1.2, hn.2⟩)⟩⟩
theorem Pu.bif {b : Bool} {f : List Blk → (V → List Blk → Prop) → Prop} (h : Pu f) : Pu (fun L k => bif b then f L k else False) := by
  cases b
  · exact Pu.no
  · exact h
theorem Pu.br {t : Bool} {f : Bool → List Blk → (V → List Blk → Prop) → Prop} (h : ∀ b, Pu (f b)) : Pu (fun L k => Br t fun b => f b L k) := by
  obtain ⟨q, v, h⟩ := h t
  exact ⟨q, v, fun L k => ⟨fun hb => (h L k).1 hb.out, fun hb => Br.lit t rfl ((h L k).2 hb)⟩⟩

theorem vFieldAddr_pu (C : Ctx) (s : TypeId) (x : V) (f : Nat) : Pu (fun L k => vFieldAddr C s x f fun v => k v L) := by
  unfold vFieldAddr
  repeat' (first | exact Pu.no | exact Pu.ret _ | apply Pu.need | apply Pu.bif | (apply Pu.br; intro _) | split)
theorem vBin_pu (C : Ctx) (op : BinOp) (t : TypeId) (x y : V) : Pu (fun L k => vBin C op t x y fun v => k v L) := by
  unfold vBin intBin strBin vNilI
  repeat' (first | exact Pu.no | exact Pu.ret _ | apply Pu.need | apply Pu.bif | (apply Pu.br; intro _) | split)
theorem vUn_pu (op : UnOp) (x : V) : Pu (fun L k => vUn op x fun v => k v L) := by
  unfold vUn
  repeat' (first | exact Pu.no | exact Pu.ret _ | apply Pu.need | apply Pu.bif | (apply Pu.br; intro _) | split)
theorem vConv_pu (C : Ctx) (s t : TypeId) (x : V) : Pu (fun L k => vConv C s t x fun v => k v L) := by
  unfold vConv
  repeat' (first | exact Pu.no | exact Pu.ret _ | split)
theorem vBuild_pu (C : Ctx) (t : TypeId) (ps : List (Nat × V)) : Pu (fun L k => vBuild C t ps fun v => k v L) := by
  unfold vBuild
  repeat' (first | exact Pu.no | exact Pu.ret _ | apply Pu.need | apply Pu.bif | (apply Pu.br; intro _) | split)

theorem vMakeIface_pu (C : Ctx) (t : TypeId) (x : V) : Pu (fun L k => vMakeIface C t x fun v => k v L) := by
  unfold vMakeIface
  repeat' (first | exact Pu.no | exact Pu.ret _ | apply Pu.bif | split)
theorem vTypeAssert_pu (C : Ctx) (x : V) (t : TypeId) (ok : Bool) : Pu (fun L k => vTypeAssert C x t ok fun v => k v L) := by
  unfold vTypeAssert vHold vFail
  repeat' (first | exact Pu.no | exact Pu.ret _ | apply Pu.bif | split)
theorem vOp_pu (C : Ctx) (o : Oper) (fr : List (Nat × V)) (hc : isPure o.op = true) : Pu (fun L k => vOp C o fr L k) := by
  unfold vOp
  cases h : o.op
  all_goals first | (rw [h] at hc; cases hc; done) | skip
  case binOp op t x y u =>
    rw [h] at hc
    simp only [isPure, Bool.not_eq_true'] at hc
    dsimp only []
    rw [hc]
    exact vBin_pu _ _ _ _ _
  case makeFunc fn first caps =>
    cases fn <;> dsimp only []
    all_goals repeat' (first | exact Pu.no | exact Pu.ret _ | apply Pu.need | apply Pu.bif | (apply Pu.br; intro _) | split)
  all_goals try dsimp only []
  all_goals repeat' (first | exact Pu.no | exact Pu.ret _ | apply Pu.need | apply Pu.bif | (apply Pu.br; intro _) | exact vFieldAddr_pu _ _ _ _ | exact vBin_pu _ _ _ _ _ | exact vUn_pu _ _ | exact vConv_pu _ _ _ _ | exact vBuild_pu _ _ _ | exact vMakeIface_pu _ _ _ | exact vTypeAssert_pu _ _ _ _ | split)
end
theorem vPut_mono {n : Nat} {dst : Option Tmp} {fr : List (Nat × V)} {v : V} {K K' : List (Nat × V) → Prop} (h : vPut n dst fr v K) (hk : ∀ fr', K fr' → K' fr') : vPut n dst fr v K' := by
  unfold vPut at *
  simp only [V.force_eq] at *
  split at h
  · exact hk _ h
  · rename_i d
    cases hb : Nat.blt d n with
    | false => simp [hb] at h
    | true => simp only [hb, cond_true] at h ⊢; exact hk _ h

theorem vcOp1_mono {C : Ctx} {n : Nat} {all : List Oper} {o : Oper} {fr : List (Nat × V)} {L : List Blk} {K K' : List (Nat × V) → List Blk → Prop} (h : vcOp1 C n all o fr L K) (hk : ∀ fr' L', K fr' L' → K' fr' L') : vcOp1 C n all o fr L K' := by
  have ex : ∀ fr, (vOp C o fr L fun v L' => vPut n o.dst fr v fun fr' => K fr' L') → (vOp C o fr L fun v L' => vPut n o.dst fr v fun fr' => K' fr' L') := fun fr h => vOp_mono h fun v L' hp => vPut_mono hp fun fr' => hk fr' L'
  have sk : ∀ fr, (vPut n o.dst fr (.tup []) fun fr' => K fr' L) → (vPut n o.dst fr (.tup []) fun fr' => K' fr' L) := fun fr h => vPut_mono h fun fr' => hk fr' L
  unfold vcOp1 at *
  simp only [vOpF_eq] at *
  split at h
  · exact ex _ h
  · split at h
    · exact h.elim
    · split at h
      · split at h
        · exact ex _ h
        · exact sk _ h
      · split at h
        · exact ex _ h
        · exact sk _ h
      · rename_i t _
        have h := h.out
        refine Br.lit t rfl ?_
        split at h
        · exact ex _ h
        · exact ex _ h
        · exact sk _ h
        · exact sk _ h
      · exact sk _ h
      · exact h.elim
end Go.Tidy

/-
  The base layer: regions whose order is drawn.
-/
namespace Go.Tidy

def rdy (ops : List Oper) (done : List Nat) : List Nat :=
  (List.range ops.length).filter fun i => !done.contains i && match ops[i]? with | some o => o.after.toList.all fun e => !Region.binds .any e || done.contains e.on | none => false
def AllP {α : Type} (p : α → Prop) : List α → Prop
  | [] => True
  | x :: r => p x ∧ AllP p r
theorem AllP.mem {α : Type} {p : α → Prop} : ∀ {l : List α}, AllP p l → ∀ x ∈ l, p x
  | [], _, x, hx => by simp at hx
  | y :: r, h, x, hx => by
    rcases List.mem_cons.1 hx with rfl | hx
    · exact h.1
    · exact h.2.mem x hx

def vAny (C : Ctx) (n : Nat) (ops : List Oper) : Nat → List Nat → List (Nat × V) → List Blk → (List (Nat × V) → List Blk → Prop) → Prop
  | 0, _done, fr, L, K => K fr L
  | f + 1, done, fr, L, K =>
    match rdy ops done with
    | [] => K fr L
    | r => AllP (fun i => match ops[i]? with | some o => vcOp1 C n ops o fr L fun fr' L' => vAny C n ops f (i :: done) fr' L' K | none => False) r

section
variable {C : Ctx} {n : Nat} {ops : Array Oper} {K : List (Nat × V) → List Blk → Prop}

def Same (ops : Array Oper) (done : List Nat) (listed : Array Bool) : Prop := listed.size = ops.size ∧ ∀ i, i < ops.size → listed.getD i false = done.contains i

theorem Same.none (ops : Array Oper) : Same ops [] (Array.replicate ops.size false) := ⟨by simp, fun i hi => by simp [Array.getD, hi]⟩
theorem Same.put {done : List Nat} {listed : Array Bool} (h : Same ops done listed) {i : Nat} (_hi : i < ops.size) : Same ops (i :: done) (listed.setIfInBounds i true) := by
  refine ⟨by simp [h.1], fun j hj => ?_⟩
  have hj' : j < listed.size := by rw [h.1]; exact hj
  simp only [Array.getD_eq_getD_getElem?, List.contains_cons]
  by_cases e : i = j
  · subst e
    rw [Array.getElem?_setIfInBounds_self_of_lt hj']
    simp
  · rw [Array.getElem?_setIfInBounds_ne e]
    have := h.2 j hj
    rw [Array.getD_eq_getD_getElem?] at this
    rw [this]
    simp [Ne.symm e]

theorem getD_of_lt {a : Array Bool} {i : Nat} (h : i < a.size) (x y : Bool) : a.getD i x = a.getD i y := by simp [Array.getD, h]

theorem Same.ready {done : List Nat} {listed : Array Bool} (h : Same ops done listed) (hedge : ∀ (i : Nat) (o : Oper) (e : Edge), ops[i]? = some o → e ∈ o.after.toList → Region.binds .any e = true → e.on < ops.size) :
    Region.ready .any ops listed = rdy ops.toList done := by
  unfold Region.ready rdy
  rw [show ops.toList.length = ops.size by simp]
  apply List.filter_congr
  intro i hi
  have hi' : i < ops.size := by simpa using hi
  rw [getD_of_lt (by rw [h.1]; exact hi') true false, h.2 i hi']
  congr 1
  rw [show ops.toList[i]? = ops[i]? by simp]
  cases ho : ops[i]? with
  | none => rfl
  | some o =>
    simp only [Option.map_some, Option.getD_some]
    rw [← Array.all_toList]
    rw [Bool.eq_iff_iff, List.all_eq_true, List.all_eq_true]
    refine forall_congr' fun e => forall_congr' fun he => ?_
    cases hb : Region.binds .any e with
    | false => simp
    | true => simp only [Bool.not_true, Bool.false_or]; rw [h.2 _ (hedge i o e ho he hb)]

def edgesB (ops : List Oper) : Bool := ops.all fun o => o.after.toList.all fun e => !Region.binds .any e || Nat.blt e.on ops.length
theorem edgesB.out (h : edgesB ops.toList = true) : ∀ (i : Nat) (o : Oper) (e : Edge), ops[i]? = some o → e ∈ o.after.toList → Region.binds .any e = true → e.on < ops.size := by
  intro i o e ho he hb
  unfold edgesB at h
  rw [List.all_eq_true] at h
  have := h o (List.mem_of_getElem? (i := i) (by simpa using ho))
  rw [List.all_eq_true] at this
  have := this e he
  simpa [hb, Nat.blt_eq] using this

theorem VLe.refl (x : V) : VLe x x := fun _ _ _ _ h => h

theorem any_go (hedge : edgesB ops.toList = true) : ∀ (f t : Nat) (done : List Nat) (listed : Array Bool) (fr : List (Nat × V)) (L : List Blk), Same ops done listed → vAny C n ops.toList f done fr L K →
    vOpsC C n ops.toList ((Region.linearise.go .any ops f t listed []).filterMap fun i => ops[i]?) fr L K
  | 0, t, done, listed, fr, L, hs, h => ⟨fr, FrLe.refl fr, h⟩
  | f + 1, t, done, listed, fr, L, hs, h => by
    simp only [Region.linearise.go]
    show vOpsC C n ops.toList ((match (Region.ready .any ops listed)[t % (Region.ready .any ops listed).length]? with
      | some i => Region.linearise.go .any ops f (t / (Region.ready .any ops listed).length) (listed.setIfInBounds i true) [i]
      | none => [].reverse).filterMap fun i => ops[i]?) fr L K
    rw [hs.ready (edgesB.out hedge)]
    cases hi : (rdy ops.toList done)[t % (rdy ops.toList done).length]? with
    | none =>
      have hnil : rdy ops.toList done = [] := by
        cases hr : rdy ops.toList done with
        | nil => rfl
        | cons x xs =>
          rw [hr] at hi
          have hlt : t % (x :: xs).length < (x :: xs).length := Nat.mod_lt _ (by simp)
          simp at hi
          simp at hlt
          omega
      simp only [vAny, hnil] at h
      exact ⟨fr, FrLe.refl fr, h⟩
    | some i =>
      have hmem := List.mem_of_getElem? hi
      have hk : AllP (fun i => match ops.toList[i]? with | some o => vcOp1 C n ops.toList o fr L fun fr' L' => vAny C n ops.toList f (i :: done) fr' L' K | none => False) (rdy ops.toList done) := by
        simp only [vAny] at h
        cases hr : rdy ops.toList done with
        | nil => trivial
        | cons x xs => rw [hr] at h; exact h
      have hk := hk.mem i hmem
      have hlt : i < ops.size := by
        simp only [rdy, List.mem_filter, List.mem_range] at hmem
        simpa using hmem.1
      have ho : ops[i]? = some ops[i] := Array.getElem?_eq_getElem hlt
      rw [show ops.toList[i]? = some ops[i] by simp] at hk
      simp only [] at hk ⊢
      rw [linearise_go_acc, List.reverse_singleton, List.singleton_append, List.filterMap_cons]
      simp only [ho]
      refine ⟨fr, FrLe.refl fr, ?_⟩
      refine vcOp1_mono hk fun fr' L' hv => ?_
      exact any_go hedge f _ (i :: done) _ fr' L' (hs.put hlt) hv
end

theorem DrawP.all {C : Ctx} {n : Nat} {ops : Array Oper} {fr : List (Nat × V)} {L : List Blk} {K : List (Nat × V) → List Blk → Prop} (hm : C.P.follows .mixedOrders = true) (hedge : edgesB ops.toList = true)
    (h : vAny C n ops.toList ops.toList.length [] fr L K) : DrawP C n ops fr L K := by
  unfold DrawP
  intro t
  simp only [Region.schedule, hm, Bool.true_or, if_true, Region.linearise]
  exact any_go hedge _ t [] _ fr L (Same.none ops) (by simpa using h)
end Go.Tidy

/-
  The base layer: drawn regions whose every order comes to the same.
-/
namespace Go.Tidy

def isRead : Op → Bool
  | .load .. | .indexAddr .. | .slice _ _ _ _ none | .lookup .. => true
  | .call c => match c.callee with | .builtin .len => true | _ => false
  | _ => false

theorem rd_of {L : List Blk} {f : (V → Prop) → Prop} (h : Det (fun k => f fun v => k v L)) : ∃ (p : Prop) (v : V), ∀ k : V → List Blk → Prop, f (fun v => k v L) ↔ (p ∧ k v L) := by
  obtain ⟨p, v, M, h⟩ := h
  exact ⟨p, v, fun k => h fun v _ => k v L⟩

theorem vOp_rd (C : Ctx) (o : Oper) (fr : List (Nat × V)) (L : List Blk) (hc : isPure o.op = true ∨ isRead o.op = true) : ∃ (p : Prop) (v : V), ∀ k, vOp C o fr L k ↔ (p ∧ k v L) := by
  rcases hc with hc | hc
  · obtain ⟨p, v, h⟩ := vOp_pu C o fr hc
    exact ⟨p, v, fun k => h L k⟩
  · have no : ∃ (p : Prop) (v : V), ∀ k : V → List Blk → Prop, False ↔ (p ∧ k v L) := ⟨False, .poison, fun k => by simp⟩
    unfold vOp
    cases h : o.op
    all_goals first | (rw [h] at hc; cases hc; done) | skip
    case load t a => exact rd_of (vLoad_det C t (ev fr a) L L)
    case indexAddr t x i => exact rd_of (f := fun κ => vIndexAddr C t (ev fr x) (ev fr i) κ L) (vIndexAddr_det C t (ev fr x) (ev fr i) L L)
    case slice t x lo hi mx =>
      cases mx with
      | none => exact rd_of (vSlice_det C t (ev fr x) (lo.map (ev fr)) (hi.map (ev fr)) none L L)
      | some m => rw [h] at hc; cases hc
    case lookup t x i ok => exact rd_of (f := fun κ => vLookup C t (ev fr x) (ev fr i) ok L κ) (vLookup_det C t (ev fr x) (ev fr i) ok L L)
    case call c =>
      obtain ⟨cal, args, tys⟩ := c
      rw [h] at hc
      simp only [isRead] at hc
      cases cal with
      | value f => cases hc
      | invoke r m => cases hc
      | builtin b =>
        cases b
        all_goals first | (cases hc; done) | skip
        dsimp only []
        split
        · exact rd_of (vLenL_det C _ _ L L)
        · exact no

def isWriter (op : Op) : Bool := !(isPure op || isRead op || isCall op)

@[irreducible] def QCall (f : (V → List Blk → Prop) → Prop) (L : List Blk) (k : V → List Blk → Prop) : Prop := ∃ v, f (fun x M => x = v ∧ M = L) ∧ k v L
theorem QCall.intro {f : (V → List Blk → Prop) → Prop} {L : List Blk} {k : V → List Blk → Prop} (v : V) (h : f fun x M => x = v ∧ M = L) (hk : k v L) : QCall f L k := by
  unfold QCall; exact ⟨v, h, hk⟩

def qOp (C : Ctx) (o : Oper) (fr : List (Nat × V)) (L : List Blk) (k : V → List Blk → Prop) : Prop :=
  match isCall o.op with
  | true => QCall (fun k => vOpF C o fr L k) L k
  | false => vOpF C o fr L k

theorem qOp_out {C : Ctx} {o : Oper} {fr : List (Nat × V)} {L : List Blk} {k : V → List Blk → Prop} (h : qOp C o fr L k) :
    ∃ v L', vOp C o fr L (fun x M => x = v ∧ M = L') ∧ k v L' ∧ (isWriter o.op = false → L' = L) := by
  unfold qOp at h
  simp only [vOpF_eq] at h
  cases hc : isCall o.op with
  | true =>
    simp only [hc] at h
    unfold QCall at h
    obtain ⟨v, h1, h2⟩ := h
    exact ⟨v, L, h1, h2, fun _ => rfl⟩
  | false =>
    simp only [hc] at h
    cases hw : isWriter o.op with
    | true =>
      obtain ⟨p, v, M, hd⟩ := vOp_det C o fr L hc
      have := (hd k).1 h
      exact ⟨v, M, (hd _).2 ⟨this.1, rfl, rfl⟩, this.2, fun h => by cases h⟩
    | false =>
      have hr : isPure o.op = true ∨ isRead o.op = true := by
        unfold isWriter at hw
        simp only [hc, Bool.or_false, Bool.not_eq_false'] at hw
        simpa using hw
      obtain ⟨p, v, hd⟩ := vOp_rd C o fr L hr
      have := (hd k).1 h
      exact ⟨v, L, (hd _).2 ⟨this.1, rfl, rfl⟩, this.2, fun _ => rfl⟩

def qOp1 (C : Ctx) (n : Nat) (all : List Oper) (o : Oper) (fr : List (Nat × V)) (L : List Blk) (K : List (Nat × V) → List Blk → Prop) : Prop :=
  match o.guard with
  | none => qOp C o fr L fun v L' => vPut n o.dst fr v fun fr' => K fr' L'
  | some (j, want) =>
    match dstAt all j with
    | none => False
    | some d => match look fr d with
      | .tt => match want with
        | true => qOp C o fr L fun v L' => vPut n o.dst fr v fun fr' => K fr' L'
        | false => vPut n o.dst fr (.tup []) fun fr' => K fr' L
      | .ff => match want with
        | false => qOp C o fr L fun v L' => vPut n o.dst fr v fun fr' => K fr' L'
        | true => vPut n o.dst fr (.tup []) fun fr' => K fr' L
      | .d (.bool t) => Br t fun b => match b, want with
        | true, true => qOp C o ((d, .tt) :: fr) L fun v L' => vPut n o.dst ((d, .tt) :: fr) v fun fr' => K fr' L'
        | false, false => qOp C o ((d, .ff) :: fr) L fun v L' => vPut n o.dst ((d, .ff) :: fr) v fun fr' => K fr' L'
        | true, false => vPut n o.dst ((d, .tt) :: fr) (.tup []) fun fr' => K fr' L
        | false, true => vPut n o.dst ((d, .ff) :: fr) (.tup []) fun fr' => K fr' L
      | .tup [] => vPut n o.dst fr (.tup []) fun fr' => K fr' L
      | _ => False
def qOps (C : Ctx) (n : Nat) (all : List Oper) : List Oper → List (Nat × V) → List Blk → (List (Nat × V) → List Blk → Prop) → Prop
  | [], fr, L, K => K fr L
  | o :: rest, fr, L, K => qOp1 C n all o fr L fun fr' L' => qOps C n all rest fr' L' K

def VEq (x y : V) : Prop := VLe x y ∧ VLe y x
theorem VEq.refl (x : V) : VEq x x := ⟨VLe.refl x, VLe.refl x⟩
theorem VEq.symm {x y : V} (h : VEq x y) : VEq y x := ⟨h.2, h.1⟩
theorem VEq.trans {x y z : V} (h : VEq x y) (h' : VEq y z) : VEq x z := ⟨fun g w L v hv => h'.1 g w L v (h.1 g w L v hv), fun g w L v hv => h.2 g w L v (h'.2 g w L v hv)⟩
theorem VEq.tt : VEq (.d (.bool true)) .tt := ⟨fun _ _ _ _ h => by rw [h.bool_of]; exact .tt, fun _ _ _ _ h => by cases h; exact .d _ _ (.bool _)⟩
theorem VEq.ff : VEq (.d (.bool false)) .ff := ⟨fun _ _ _ _ h => by rw [h.bool_of]; exact .ff, fun _ _ _ _ h => by cases h; exact .d _ _ (.bool _)⟩
def Eqv (fr fr' : List (Nat × V)) : Prop := ∀ s, VEq (look fr s) (look fr' s)
theorem Eqv.refl (fr : List (Nat × V)) : Eqv fr fr := fun _ => VEq.refl _
theorem Eqv.trans {a b c : List (Nat × V)} (h : Eqv a b) (h' : Eqv b c) : Eqv a c := fun s => (h s).trans (h' s)
def putF (dst : Option Tmp) (v : V) (fr : List (Nat × V)) : List (Nat × V) := match dst with | some d => (d, v) :: fr | none => fr

structure PlO (C : Ctx) (n : Nat) (all : List Oper) (o : Oper) (fr : List (Nat × V)) (L : List Blk) (v : V) (ex : Bool) (L' : List Blk) : Prop where
  run : ex = true → vOp C o fr L fun x M => x = v ∧ M = L'
  skip : ex = false → v = .tup [] ∧ L' = L
  guard : match o.guard with | none => ex = true | some (j, want) => ∃ d, dstAt all j = some d ∧ (look fr d = (if ex == want then .tt else .ff) ∨ (look fr d = .tup [] ∧ ex = false))
  dst : ∀ d, o.dst = some d → Nat.blt d n = true
  quiet : isWriter o.op = false → L' = L

theorem vPut_out {n : Nat} {dst : Option Tmp} {fr : List (Nat × V)} {v : V} {K : List (Nat × V) → Prop} (h : vPut n dst fr v K) : K (putF dst v fr) ∧ ∀ d, dst = some d → Nat.blt d n = true := by
  unfold vPut at h
  simp only [V.force_eq] at h
  cases dst with
  | none => exact ⟨h, fun d hd => (by cases hd)⟩
  | some d =>
    simp only at h
    cases hb : Nat.blt d n with
    | false => simp [hb] at h
    | true => simp only [hb, cond_true] at h; exact ⟨h, fun d' hd => by cases hd; exact hb⟩

section
variable {C : Ctx} {n : Nat} {all : List Oper} {o : Oper} {fr : List (Nat × V)} {L : List Blk} {K : List (Nat × V) → List Blk → Prop}

theorem qOp1_out (h : qOp1 C n all o fr L K) : ∃ fr1 v ex L', Eqv fr1 fr ∧ PlO C n all o fr1 L v ex L' ∧ K (putF o.dst v fr1) L' := by
  unfold qOp1 at h
  have exec : ∀ fr1, Eqv fr1 fr → (match o.guard with | none => True | some (j, want) => ∃ d, dstAt all j = some d ∧ (look fr1 d = (if true == want then .tt else .ff) ∨ (look fr1 d = .tup [] ∧ true = false))) →
      (qOp C o fr1 L fun v L' => vPut n o.dst fr1 v fun fr' => K fr' L') → ∃ fr1 v ex L', Eqv fr1 fr ∧ PlO C n all o fr1 L v ex L' ∧ K (putF o.dst v fr1) L' := by
    intro fr1 he hg h
    obtain ⟨v, L', h1, h2, h3⟩ := qOp_out h
    obtain ⟨h4, h5⟩ := vPut_out h2
    refine ⟨fr1, v, true, L', he, ⟨fun _ => h1, fun h => (by cases h), ?_, h5, h3⟩, h4⟩
    split
    · rfl
    · rename_i hgd; rw [hgd] at hg; exact hg
  have skip : ∀ fr1, Eqv fr1 fr → (∃ j want, o.guard = some (j, want) ∧ ∃ d, dstAt all j = some d ∧ (look fr1 d = (if false == want then .tt else .ff) ∨ (look fr1 d = .tup [] ∧ false = false))) →
      (vPut n o.dst fr1 (.tup []) fun fr' => K fr' L) → ∃ fr1 v ex L', Eqv fr1 fr ∧ PlO C n all o fr1 L v ex L' ∧ K (putF o.dst v fr1) L' := by
    rintro fr1 he ⟨j, want, hg, hd⟩ h
    obtain ⟨h4, h5⟩ := vPut_out h
    refine ⟨fr1, .tup [], false, L, he, ⟨fun h => (by cases h), fun _ => ⟨rfl, rfl⟩, ?_, h5, fun _ => rfl⟩, h4⟩
    rw [hg]; exact hd
  cases hgd : o.guard with
  | none =>
    simp only [hgd] at h
    exact exec fr (Eqv.refl _) (by rw [hgd]; trivial) h
  | some jw =>
    obtain ⟨j, want⟩ := jw
    simp only [hgd] at h
    cases hd : dstAt all j with
    | none => simp [hd] at h
    | some d =>
      simp only [hd] at h
      split at h
      · rename_i hl
        cases want with
        | true => exact exec fr (Eqv.refl _) (by rw [hgd]; exact ⟨d, hd, .inl hl⟩) h
        | false => exact skip fr (Eqv.refl _) ⟨j, false, hgd, d, hd, .inl hl⟩ h
      · rename_i hl
        cases want with
        | false => exact exec fr (Eqv.refl _) (by rw [hgd]; exact ⟨d, hd, .inl hl⟩) h
        | true => exact skip fr (Eqv.refl _) ⟨j, true, hgd, d, hd, .inl hl⟩ h
      · rename_i t hl
        have h := h.out
        cases t with
        | true =>
          have he : Eqv ((d, .tt) :: fr) fr := fun s => by
            rw [look_cons]
            by_cases e : d = s
            · subst e; rw [if_pos rfl, hl]; exact VEq.tt.symm
            · rw [if_neg e]; exact VEq.refl _
          have hl' : look ((d, V.tt) :: fr) d = .tt := by rw [look_cons, if_pos rfl]
          cases want with
          | true => exact exec _ he (by rw [hgd]; exact ⟨d, hd, .inl hl'⟩) h
          | false => exact skip _ he ⟨j, false, hgd, d, hd, .inl hl'⟩ h
        | false =>
          have he : Eqv ((d, .ff) :: fr) fr := fun s => by
            rw [look_cons]
            by_cases e : d = s
            · subst e; rw [if_pos rfl, hl]; exact VEq.ff.symm
            · rw [if_neg e]; exact VEq.refl _
          have hl' : look ((d, V.ff) :: fr) d = .ff := by rw [look_cons, if_pos rfl]
          cases want with
          | false => exact exec _ he (by rw [hgd]; exact ⟨d, hd, .inl hl'⟩) h
          | true => exact skip _ he ⟨j, true, hgd, d, hd, .inl hl'⟩ h
      · rename_i hl
        exact skip fr (Eqv.refl _) ⟨j, want, hgd, d, hd, .inr ⟨hl, rfl⟩⟩ h
      · exact h.elim

theorem qOps_out : ∀ (l : List Oper) (i : Nat) (fr : List (Nat × V)) (L : List Blk), qOps C n all l fr L K → ∃ (F : Nat → List (Nat × V)) (M : Nat → List Blk) (val : Nat → V) (ex : Nat → Bool),
    Eqv (F i) fr ∧ M i = L ∧ (∀ j o, l[j]? = some o → PlO C n all o (F (i + j)) (M (i + j)) (val (i + j)) (ex (i + j)) (M (i + j + 1)) ∧ Eqv (F (i + j + 1)) (putF o.dst (val (i + j)) (F (i + j)))) ∧
    K (F (i + l.length)) (M (i + l.length))
  | [], i, fr, L, h => ⟨fun _ => fr, fun _ => L, fun _ => .poison, fun _ => true, Eqv.refl _, rfl, fun j o ho => by simp at ho, h⟩
  | o :: l, i, fr, L, h => by
    obtain ⟨fr1, v, ex, L', h1, h2, h3⟩ := qOp1_out h
    obtain ⟨F, M, val, exs, e1, e2, e3, e4⟩ := qOps_out l (i + 1) _ L' h3
    have up : ∀ {α : Type} (a : α) (f : Nat → α) (j : Nat), (fun k => if k ≤ i then a else f k) (i + 1 + j) = f (i + 1 + j) := fun a f j => by
      simp only []; rw [if_neg (by omega)]
    refine ⟨fun k => if k ≤ i then fr1 else F k, fun k => if k ≤ i then L else M k, fun k => if k ≤ i then v else val k, fun k => if k ≤ i then ex else exs k, ?_, ?_, ?_, ?_⟩
    · simp only [Nat.le_refl, if_true]; exact h1
    · simp
    · intro j o' ho'
      cases j with
      | zero =>
        simp at ho'
        subst ho'
        simp only [Nat.add_zero, Nat.le_refl, if_true, show ¬ i + 1 ≤ i by omega, if_false]
        rw [e2]
        exact ⟨h2, e1⟩
      | succ j =>
        have := e3 j o' (by simpa using ho')
        have a1 : i + (j + 1) = i + 1 + j := by omega
        rw [a1]
        simp only [show ¬ i + 1 + j ≤ i by omega, show ¬ i + 1 + j + 1 ≤ i by omega, if_false]
        exact this
    · have a1 : i + (o :: l).length = i + 1 + l.length := by simp; omega
      rw [a1]
      simp only [show ¬ i + 1 + l.length ≤ i by omega, if_false]
      exact e4
end
end Go.Tidy

/-
  The base layer: a drawn region whose every order comes to the same.
-/
namespace Go.Tidy

def maskGo (T : List Nat) : List Edge → Nat → Nat
  | [], s => s
  | e :: r, s => maskGo T r (bif Region.binds .any e then s ||| (1 <<< e.on) ||| T.getD e.on 0 else s)
def maskOf (T : List Nat) (o : Oper) : Nat := maskGo T o.after.toList 0
def tblGo : List Oper → List Nat → List Nat
  | [], T => T
  | o :: r, T => tblGo r (T ++ [maskOf T o])
def looks (all : List Oper) (o : Oper) : List Nat :=
  (o.op.operands.toList.filterMap fun | .tmp t => some t | _ => none) ++ (match o.guard with | some (j, _) => (dstAt all j).toList | none => [])
def apartB (all : List Oper) (T : List Nat) (p q : Oper × Nat) : Bool :=
  Nat.beq p.2 q.2 || ((match q.1.dst with | some d => !(p.1.dst == some d) | none => true) &&
    ((T.getD p.2 0).testBit q.2 || (T.getD q.2 0).testBit p.2 ||
      ((match q.1.dst with | some d => !(looks all p.1).contains d | none => true) && (isPure p.1.op || !isWriter q.1.op))))
def stableB (all : List Oper) (T : List Nat) : Bool :=
  all.zipIdx.all fun p =>
    (p.1.after.toList.all fun e => !Region.binds .any e || Nat.blt e.on p.2) &&
    Nat.beq (maskOf T p.1 ||| T.getD p.2 0) (maskOf T p.1) &&
    all.zipIdx.all fun q => apartB all T p q

theorem maskGo_bit {T : List Nat} {j : Nat} : ∀ (l : List Edge) (s : Nat), (maskGo T l s).testBit j = true → s.testBit j = true ∨ ∃ e ∈ l, Region.binds .any e = true ∧ (j = e.on ∨ (T.getD e.on 0).testBit j = true)
  | [], s, h => .inl h
  | e :: r, s, h => by
    simp only [maskGo] at h
    rcases maskGo_bit r _ h with h1 | ⟨e', he', h2⟩
    · cases hb : Region.binds .any e with
      | false => rw [hb] at h1; exact .inl h1
      | true =>
        rw [hb] at h1
        simp only [cond_true, Nat.testBit_or, Bool.or_eq_true, Nat.one_shiftLeft, Nat.testBit_two_pow, decide_eq_true_eq] at h1
        rcases h1 with (h1 | h1) | h1
        · exact .inl h1
        · exact .inr ⟨e, by simp, hb, .inl h1.symm⟩
        · exact .inr ⟨e, by simp, hb, .inr h1⟩
    · exact .inr ⟨e', by simp [he'], h2⟩

section
variable {C : Ctx} {n : Nat} {all : List Oper} {T : List Nat}

structure Stab (all : List Oper) (T : List Nat) : Prop where
  edge : ∀ (i : Nat) (o : Oper) (e : Edge), all[i]? = some o → e ∈ o.after.toList → Region.binds .any e = true → e.on < i
  tbl : ∀ (i : Nat) (o : Oper) (j : Nat), all[i]? = some o → (T.getD i 0).testBit j = true → ∃ e ∈ o.after.toList, Region.binds .any e = true ∧ (j = e.on ∨ (T.getD e.on 0).testBit j = true)
  apart : ∀ (i j : Nat) (o q : Oper), all[i]? = some o → all[j]? = some q → i ≠ j → (∀ d, q.dst = some d → o.dst ≠ some d) ∧
    ((T.getD i 0).testBit j = true ∨ (T.getD j 0).testBit i = true ∨ ((∀ d, q.dst = some d → d ∉ looks all o) ∧ (isPure o.op = true ∨ isWriter q.op = false)))

theorem stab_of (h : stableB all T = true) : Stab all T := by
  unfold stableB at h
  rw [List.all_eq_true] at h
  have mem : ∀ (i : Nat) (o : Oper), all[i]? = some o → (o, i) ∈ all.zipIdx := fun i o ho => by
    rw [List.mem_zipIdx_iff_getElem?]; exact ho
  have h : ∀ (i : Nat) (o : Oper), all[i]? = some o → _ := fun i o ho => h (o, i) (mem i o ho)
  simp only [Bool.and_eq_true] at h
  refine ⟨fun i o e ho he hb => ?_, fun i o j ho hj => ?_, fun i j o q ho hq hij => ?_⟩
  · have := (h i o ho).1.1
    rw [List.all_eq_true] at this
    have := this e he
    simpa [hb, Nat.blt_eq] using this
  · have := (h i o ho).1.2
    have heq := Nat.eq_of_beq_eq_true this
    have hm : (maskOf T o).testBit j = true := by
      rw [← heq, Nat.testBit_or, hj, Bool.or_true]
    unfold maskOf at hm
    rcases maskGo_bit _ _ hm with h0 | h1
    · simp at h0
    · exact h1
  · have := (h i o ho).2
    rw [List.all_eq_true] at this
    have := this (q, j) (mem j q hq)
    unfold apartB at this
    simp only [Bool.or_eq_true, Bool.and_eq_true] at this
    rcases this with hh | ⟨hd, hh⟩
    · exact absurd (Nat.eq_of_beq_eq_true hh) hij
    · refine ⟨fun d hqd => ?_, ?_⟩
      · rw [hqd] at hd
        simp only [Bool.not_eq_true', beq_eq_false_iff_ne, ne_eq] at hd
        exact hd
      · rcases hh with (hh | hh) | ⟨h1, h2⟩
        · exact .inl hh
        · exact .inr (.inl hh)
        · refine .inr (.inr ⟨fun d hqd => ?_, ?_⟩)
          · rw [hqd] at h1
            simpa using h1
          · rcases h2 with h2 | h2
            · exact .inl h2
            · exact .inr (by simpa using h2)

def Down (all : List Oper) (S : Nat → Prop) : Prop := ∀ (i : Nat) (o : Oper) (e : Edge), S i → all[i]? = some o → e ∈ o.after.toList → Region.binds .any e = true → S e.on

theorem Stab.anc (hs : Stab all T) {S : Nat → Prop} (hd : Down all S) : ∀ (i j : Nat), i < all.length → (T.getD i 0).testBit j = true → (S i → S j) ∧ j < i := by
  intro i
  induction i using Nat.strongRecOn with
  | _ i ih =>
    intro j hi hj
    obtain ⟨e, he, hb, hh⟩ := hs.tbl i all[i] j (List.getElem?_eq_getElem hi) hj
    have hlt := hs.edge i all[i] e (List.getElem?_eq_getElem hi) he hb
    rcases hh with rfl | hh
    · exact ⟨fun h => hd i _ e h (List.getElem?_eq_getElem hi) he hb, hlt⟩
    · obtain ⟨h1, h2⟩ := ih e.on hlt j (by omega) hh
      exact ⟨fun h => h1 (hd i _ e h (List.getElem?_eq_getElem hi) he hb), by omega⟩

theorem Stab.before (hs : Stab all T) {S : Nat → Prop} (hd : Down all S) {i : Nat} (hi : i < all.length) (hr : ∀ (o : Oper) (e : Edge), all[i]? = some o → e ∈ o.after.toList → Region.binds .any e = true → S e.on) {j : Nat}
    (hj : (T.getD i 0).testBit j = true) : S j ∧ j < i := by
  obtain ⟨e, he, hb, hh⟩ := hs.tbl i all[i] j (List.getElem?_eq_getElem hi) hj
  have hlt := hs.edge i all[i] e (List.getElem?_eq_getElem hi) he hb
  have hS := hr _ e (List.getElem?_eq_getElem hi) he hb
  rcases hh with rfl | hh
  · exact ⟨hS, hlt⟩
  · obtain ⟨h1, h2⟩ := hs.anc hd e.on j (by omega) hh
    exact ⟨h1 hS, by omega⟩

structure Plan (C : Ctx) (n : Nat) (all : List Oper) (F : Nat → List (Nat × V)) (M : Nat → List Blk) (val : Nat → V) (ex : Nat → Bool) : Prop where
  op : ∀ (i : Nat) (o : Oper), all[i]? = some o → PlO C n all o (F i) (M i) (val i) (ex i) (M (i + 1))
  nxt : ∀ (i : Nat) (o : Oper), all[i]? = some o → Eqv (F (i + 1)) (putF o.dst (val i) (F i))

def Wrote (all : List Oper) (i s : Nat) : Prop := ∃ o : Oper, all[i]? = some o ∧ o.dst = some s

theorem putF_look {dst : Option Tmp} {v : V} {fr : List (Nat × V)} (s : Nat) : look (putF dst v fr) s = if dst = some s then v else look fr s := by
  unfold putF
  cases dst with
  | none => simp
  | some d => simp only [look_cons, Option.some.injEq]

variable {F : Nat → List (Nat × V)} {M : Nat → List Blk} {val : Nat → V} {ex : Nat → Bool}

theorem Plan.text (hp : Plan C n all F M val ex) (hs : Stab all T) : ∀ (i : Nat), i ≤ all.length → ∀ s, (∀ j, j < i → Wrote all j s → VEq (look (F i) s) (val j)) ∧ ((∀ j, j < i → ¬ Wrote all j s) → VEq (look (F i) s) (look (F 0) s))
  | 0, _, s => ⟨fun j hj => absurd hj (Nat.not_lt_zero j), fun _ => VEq.refl _⟩
  | i + 1, hi, s => by
    obtain ⟨h1, h2⟩ := hp.text hs i (by omega) s
    have ho : all[i]? = some all[i] := List.getElem?_eq_getElem (by omega)
    have hn := hp.nxt i _ ho s
    rw [putF_look] at hn
    refine ⟨fun j hj hw => ?_, fun hw => ?_⟩
    · by_cases e : j = i
      · subst e
        obtain ⟨o, ho', hd⟩ := hw
        rw [ho] at ho'; cases ho'
        rw [if_pos hd] at hn
        exact hn
      · have hji : j < i := by omega
        by_cases hd : (all[i]).dst = some s
        · obtain ⟨q, hq, hqd⟩ := hw
          exact absurd hd ((hs.apart i j _ q ho hq (Ne.symm e)).1 s hqd)
        · rw [if_neg hd] at hn
          exact hn.trans (h1 j hji hw)
    · have hd : ¬ (all[i]).dst = some s := fun hd => hw i (by omega) ⟨_, ho, hd⟩
      rw [if_neg hd] at hn
      exact hn.trans (h2 fun j hj => hw j (by omega))

theorem Plan.mem (hp : Plan C n all F M val ex) : ∀ (a b : Nat), a ≤ b → b ≤ all.length → (∀ j (o : Oper), a ≤ j → j < b → all[j]? = some o → isWriter o.op = false) → M b = M a := by
  intro a b hab
  induction b with
  | zero => intro _ _; rw [show a = 0 by omega]
  | succ b ih =>
    intro hb hw
    by_cases e : a = b + 1
    · rw [e]
    · have ho : all[b]? = some all[b] := List.getElem?_eq_getElem (by omega)
      rw [(hp.op b _ ho).quiet (hw b _ (by omega) (by omega) ho)]
      exact ih (by omega) (by omega) fun j o h1 h2 => hw j o h1 (by omega)

structure Inv (all : List Oper) (F : Nat → List (Nat × V)) (M : Nat → List Blk) (val : Nat → V) (S : Nat → Prop) (fr : List (Nat × V)) (L : List Blk) : Prop where
  down : Down all S
  val : ∀ j s, S j → Wrote all j s → VEq (look fr s) (val j)
  old : ∀ s, (∀ j, S j → ¬ Wrote all j s) → VEq (look fr s) (look (F 0) s)
  mem : ∃ m, m ≤ all.length ∧ L = M m ∧ ∀ j (o : Oper), all[j]? = some o → isWriter o.op = true → (S j ↔ j < m)

theorem Plan.at (hp : Plan C n all F M val ex) (hs : Stab all T) {S : Nat → Prop} {fr : List (Nat × V)} {L : List Blk} (hi : Inv all F M val S fr L) {i : Nat} {o : Oper} (ho : all[i]? = some o) (hS : ¬ S i)
    (hr : ∀ (e : Edge), e ∈ o.after.toList → Region.binds .any e = true → S e.on) :
    (∀ s, s ∈ looks all o → VEq (look fr s) (look (F i) s)) ∧ (isPure o.op = false → L = M i) ∧ ∃ m, m ≤ all.length ∧ L = M m ∧ (isWriter o.op = true → m ≤ i) ∧ ∀ j (q : Oper), all[j]? = some q → isWriter q.op = true → (S j ↔ j < m) := by
  have hlt : i < all.length := lt_of_get ho
  have hr' : ∀ (o' : Oper) (e : Edge), all[i]? = some o' → e ∈ o'.after.toList → Region.binds .any e = true → S e.on := fun o' e ho' => by rw [ho] at ho'; cases ho'; exact hr e
  have cmp : ∀ j, (T.getD i 0).testBit j = true → S j ∧ j < i := fun j hj => hs.before hi.down hlt hr' hj
  have cmp' : ∀ j, j < all.length → (T.getD j 0).testBit i = true → ¬ S j ∧ i < j := fun j hj hb =>
    ⟨fun h => hS ((hs.anc hi.down j i hj hb).1 h), (hs.anc hi.down j i hj hb).2⟩
  refine ⟨fun s hsl => ?_, fun hpu => ?_, ?_⟩
  · obtain ⟨h1, h2⟩ := hp.text hs i (by omega) s
    by_cases hw : ∃ j, j ≠ i ∧ Wrote all j s
    · obtain ⟨j, hji, hw⟩ := hw
      have hw' := hw
      obtain ⟨q, hq, hqd⟩ := hw
      have hjl := lt_of_get hq
      have uniq : ∀ j', Wrote all j' s → j' = j := by
        rintro j' ⟨q', hq', hqd'⟩
        by_cases e : j' = j
        · exact e
        · exact absurd hqd' ((hs.apart j' j q' q hq' hq e).1 s hqd)
      rcases (hs.apart i j o q ho hq (Ne.symm hji)).2 with h | h | h
      · obtain ⟨a, b⟩ := cmp j h
        exact (hi.val j s a hw').trans (h1 j b hw').symm
      · obtain ⟨a, b⟩ := cmp' j hjl h
        exact (hi.old s fun j' hj' hwj => a (uniq j' hwj ▸ hj')).trans (h2 fun j' hj' hwj => by have := uniq j' hwj; omega).symm
      · exact absurd hsl (h.1 s hqd)
    · have hno : ∀ j, Wrote all j s → j = i := fun j hj => Classical.byContradiction fun e => hw ⟨j, e, hj⟩
      exact (hi.old s fun j hj hwj => hS (hno j hwj ▸ hj)).trans (h2 fun j hj hwj => by have := hno j hwj; omega).symm
  · obtain ⟨m, hm, hL, hmw⟩ := hi.mem
    have key : ∀ j (q : Oper), j ≠ i → all[j]? = some q → isWriter q.op = true → (j < m ↔ j < i) := by
      intro j q hji hq hw
      rcases (hs.apart i j o q ho hq (Ne.symm hji)).2 with h | h | h
      · obtain ⟨a, b⟩ := cmp j h
        exact ⟨fun _ => b, fun _ => (hmw j q hq hw).1 a⟩
      · obtain ⟨a, b⟩ := cmp' j (lt_of_get hq) h
        exact ⟨fun h => absurd ((hmw j q hq hw).2 h) a, fun h => by omega⟩
      · rcases h.2 with h | h
        · rw [hpu] at h; cases h
        · rw [hw] at h; cases h
    rw [hL]
    rcases Nat.le_total m i with h | h
    · refine (hp.mem m i h (by omega) fun j q h1 h2 hq => ?_).symm
      cases hw : isWriter q.op with
      | false => rfl
      | true => have := (key j q (by omega) hq hw).2 h2; omega
    · refine hp.mem i m h hm fun j q h1 h2 hq => ?_
      cases hw : isWriter q.op with
      | false => rfl
      | true =>
        by_cases e : j = i
        · subst e; exact absurd ((hmw j q hq hw).2 h2) hS
        · have := (key j q e hq hw).1 h2; omega
  · obtain ⟨m, hm, hL, hmw⟩ := hi.mem
    refine ⟨m, hm, hL, fun hw => ?_, hmw⟩
    exact Nat.le_of_not_lt fun h => hS ((hmw i o ho hw).2 h)
end
end Go.Tidy

/-
  The base layer: a drawn region whose every order comes to the same: the run.
-/
namespace Go.Tidy

theorem filter_le {α : Type} {p q : α → Bool} : ∀ {l : List α}, (∀ x ∈ l, p x = true → q x = true) → (l.filter p).length ≤ (l.filter q).length
  | [], _ => Nat.le_refl _
  | a :: l, h => by
    have ih := filter_le (l := l) fun x hx => h x (by simp [hx])
    simp only [List.filter_cons]
    cases hp : p a with
    | true => rw [h a (by simp) hp]; simpa using ih
    | false =>
      cases q a with
      | true => simp; omega
      | false => simpa using ih
theorem filter_lt {α : Type} {p q : α → Bool} : ∀ {l : List α}, (∀ x ∈ l, p x = true → q x = true) → (∃ x ∈ l, p x = false ∧ q x = true) → (l.filter p).length < (l.filter q).length
  | [], _, ⟨x, hx, _⟩ => by simp at hx
  | a :: l, h, ⟨x, hx, h1, h2⟩ => by
    simp only [List.filter_cons]
    rcases List.mem_cons.1 hx with rfl | hx
    · have := filter_le (l := l) (p := p) (q := q) fun x hx => h x (by simp [hx])
      rw [h1, h2]
      simp; omega
    · have ih := filter_lt (l := l) (fun x hx => h x (by simp [hx])) ⟨x, hx, h1, h2⟩
      cases hp : p a with
      | true => rw [h a (by simp) hp]; simpa using ih
      | false =>
        cases q a with
        | true => simp; omega
        | false => simpa using ih

section
variable {C : Ctx} {n : Nat} {ops : Array Oper} {T : List Nat} {F : Nat → List (Nat × V)} {M : Nat → List Blk} {val : Nat → V} {ex : Nat → Bool} {K : List (Nat × V) → List Blk → Prop}

theorem look_pre (F : List (Nat × V)) (fr : List (Nat × V)) (s : Nat) : ∀ (l : List Nat), look (l.map (fun t => (t, look F t)) ++ fr) s = if s ∈ l then look F s else look fr s
  | [] => by simp
  | t :: l => by
    simp only [List.map_cons, List.cons_append, look_cons, look_pre F fr s l]
    by_cases e : t = s
    · subst e; simp
    · rw [if_neg e]
      by_cases e2 : s ∈ l
      · simp [e2]
      · simp [e2, Ne.symm e]

theorem looks_op {all : List Oper} {o : Oper} {t : Nat} (h : Operand.tmp t ∈ o.op.operands.toList) : t ∈ looks all o := by
  unfold looks
  rw [List.mem_append, List.mem_filterMap]
  exact .inl ⟨_, h, rfl⟩
theorem looks_guard {all : List Oper} {o : Oper} {j d : Nat} {want : Bool} (h : o.guard = some (j, want)) (hd : dstAt all j = some d) : d ∈ looks all o := by
  unfold looks
  rw [List.mem_append, h]
  simp [hd]

theorem Plan.step {all : List Oper} (hp : Plan C n all F M val ex) (hs : Stab all T) {S : Nat → Prop} {fr : List (Nat × V)} {L : List Blk} (hi : Inv all F M val S fr L) {i : Nat} {o : Oper} (ho : all[i]? = some o) (hS : ¬ S i)
    (hr : ∀ (e : Edge), e ∈ o.after.toList → Region.binds .any e = true → S e.on) {K' : List (Nat × V) → List Blk → Prop} {S' : Nat → Prop} (hS' : ∀ j, S' j ↔ (S j ∨ j = i))
    (hK : ∀ fr' L', Inv all F M val S' fr' L' → K' fr' L') : ∃ fr1, FrLe fr fr1 ∧ vcOp1 C n all o fr1 L K' := by
  obtain ⟨hl, hpure, m, hm, hL, hmi, hmw⟩ := hp.at hs hi ho hS hr
  have hlt : i < all.length := lt_of_get ho
  refine ⟨(looks all o).map (fun t => (t, look (F i) t)) ++ fr, fun s => ?_, ?_⟩
  · rw [look_pre]
    split
    · rename_i h; exact (hl s h).1
    · exact VLe.refl _
  · have hpl := hp.op i o ho
    generalize hfr1 : (looks all o).map (fun t => (t, look (F i) t)) ++ fr = fr1
    have hfr1s : ∀ s, look fr1 s = if s ∈ looks all o then look (F i) s else look fr s := fun s => by rw [← hfr1, look_pre]
    have hq : ∀ s, VEq (look fr1 s) (look fr s) := fun s => by
      rw [hfr1s]
      split
      · rename_i h; exact (hl s h).symm
      · exact VEq.refl _
    -- the new place
    have inv : ∀ L', (L' = if isWriter o.op then M (i + 1) else L) → Inv all F M val S' (putF o.dst (val i) fr1) L' := by
      intro L' hL'
      refine ⟨?_, ?_, ?_, ?_⟩
      · intro j q e hj hq he hb
        rcases (hS' j).1 hj with h | rfl
        · exact (hS' _).2 (.inl (hi.down j q e h hq he hb))
        · rw [ho] at hq; cases hq
          exact (hS' _).2 (.inl (hr e he hb))
      · intro j s hj hw
        rw [putF_look]
        by_cases e : o.dst = some s
        · rw [if_pos e]
          by_cases ej : j = i
          · rw [ej]; exact VEq.refl _
          · obtain ⟨q, hq, hqd⟩ := hw
            exact absurd e ((hs.apart i j o q ho hq (Ne.symm ej)).1 s hqd)
        · rw [if_neg e]
          rcases (hS' j).1 hj with h | rfl
          · exact (hq s).trans (hi.val j s h hw)
          · obtain ⟨q, hq, hqd⟩ := hw
            rw [ho] at hq; cases hq
            exact absurd hqd e
      · intro s hno
        rw [putF_look]
        by_cases e : o.dst = some s
        · exact absurd ⟨o, ho, e⟩ (hno i ((hS' i).2 (.inr rfl)))
        · rw [if_neg e]
          exact (hq s).trans (hi.old s fun j hj => hno j ((hS' j).2 (.inl hj)))
      · cases hw : isWriter o.op with
        | false =>
          rw [hw] at hL'
          simp at hL'
          refine ⟨m, hm, hL'.trans hL, fun j q hq hqw => ?_⟩
          rw [hS' j, ← hmw j q hq hqw]
          refine ⟨fun h => h.resolve_right fun e => ?_, .inl⟩
          subst e; rw [ho] at hq; cases hq; rw [hw] at hqw; cases hqw
        | true =>
          rw [hw] at hL'
          simp at hL'
          refine ⟨i + 1, by omega, hL', fun j q hq hqw => ?_⟩
          rw [hS' j]
          have hnp : isPure o.op = false := by
            unfold isWriter at hw; simp at hw; exact hw.1.1
          by_cases e : j = i
          · simp [e]
          · have : S j ↔ j < i := by
              rcases (hs.apart i j o q ho hq (Ne.symm e)).2 with h | h | h
              · have := hs.before hi.down hlt (fun o' e' ho' => by rw [ho] at ho'; cases ho'; exact hr e') h
                exact ⟨fun _ => this.2, fun _ => this.1⟩
              · have := hs.anc hi.down j i (lt_of_get hq) h
                exact ⟨fun hj => absurd (this.1 hj) hS, fun hj => by omega⟩
              · rcases h.2 with h | h
                · rw [hnp] at h; cases h
                · rw [hqw] at h; cases h
            rw [this]; omega
    -- the run itself
    have run : ex i = true → vOp C o fr1 L fun v L' => vPut n o.dst fr1 v fun fr' => K' fr' L' := by
      intro hex
      have h1 := hpl.run hex
      have h2 : vOp C o fr1 (M i) fun x N => x = val i ∧ N = M (i + 1) := by
        rw [vOp_congr (fr := fr1) (fr' := F i) fun t ht => by rw [hfr1s, if_pos (looks_op ht)]]
        exact h1
      have put : ∀ L', (L' = if isWriter o.op then M (i + 1) else L) → vPut n o.dst fr1 (val i) fun fr' => K' fr' L' := by
        intro L' hL'
        unfold vPut
        simp only [V.force_eq]
        have := hK _ _ (inv L' hL')
        unfold putF at this
        cases hd : o.dst with
        | none => rw [hd] at this; exact this
        | some d => rw [hd] at this; simp only [hpl.dst d hd, cond_true]; exact this
      cases hpu : isPure o.op with
      | false =>
        rw [hpure hpu]
        refine vOp_mono h2 ?_
        rintro x N ⟨rfl, rfl⟩
        refine put _ ?_
        cases hw : isWriter o.op with
        | true => simp
        | false => simp; rw [hpl.quiet hw, hpure hpu]
      | true =>
        obtain ⟨p, v, hpv⟩ := vOp_pu C o fr1 hpu
        have h3 := (hpv (M i) _).1 h2
        refine (hpv L _).2 ⟨h3.1, ?_⟩
        rw [h3.2.1]
        refine put L ?_
        have : isWriter o.op = false := by unfold isWriter; rw [hpu]; rfl
        rw [this]; rfl
    have skip : ex i = false → vPut n o.dst fr1 (.tup []) fun fr' => K' fr' L := by
      intro hex
      obtain ⟨h1, h2⟩ := hpl.skip hex
      have hL' : L = if isWriter o.op then M (i + 1) else L := by
        cases hw : isWriter o.op with
        | false => rfl
        | true =>
          have hnp : isPure o.op = false := by
            unfold isWriter at hw; simp at hw; exact hw.1.1
          simp; rw [h2, hpure hnp]
      unfold vPut
      simp only [V.force_eq]
      have := hK _ _ (inv L hL')
      unfold putF at this
      cases hd : o.dst with
      | none => rw [hd] at this; exact this
      | some d => rw [hd, h1] at this; simp only [hpl.dst d hd, cond_true]; exact this
    have hg := hpl.guard
    unfold vcOp1
    simp only [vOpF_eq]
    cases hgd : o.guard with
    | none => rw [hgd] at hg; exact run hg
    | some jw =>
      obtain ⟨j, want⟩ := jw
      rw [hgd] at hg
      obtain ⟨d, hd, hlk⟩ := hg
      have hfl : look fr1 d = look (F i) d := by rw [hfr1s, if_pos (looks_guard hgd hd)]
      rcases hlk with hlk | ⟨hlk, hex⟩
      · have hlk' : look fr1 d = if ex i == want then .tt else .ff := hfl.trans hlk
        simp only [hd, hlk']
        cases hex : ex i <;> cases want <;> simp <;> first | exact run hex | exact skip hex
      · have hlk' : look fr1 d = .tup [] := hfl.trans hlk
        simp only [hd, hlk']
        exact skip hex

def cnt (ops : Array Oper) (listed : Array Bool) : Nat := ((List.range ops.size).filter fun i => !listed.getD i true).length

theorem Plan.done (hp : Plan C n ops.toList F M val ex) (hs : Stab ops.toList T) {S : Nat → Prop} {fr : List (Nat × V)} {L : List Blk} (hi : Inv ops.toList F M val S fr L) (hS : ∀ i, i < ops.size → S i) (hK : K (F ops.size) (M ops.size)) :
    ∃ fr1, FrLe fr fr1 ∧ K fr1 L := by
  refine ⟨F ops.size, fun s => ?_, ?_⟩
  · obtain ⟨h1, h2⟩ := hp.text hs ops.size (by simp) s
    have hlt : ∀ j, Wrote ops.toList j s → j < ops.size := fun j ⟨o, ho, _⟩ => by simpa using lt_of_get ho
    by_cases hw : ∃ j, Wrote ops.toList j s
    · obtain ⟨j, hw⟩ := hw
      exact ((hi.val j s (hS j (hlt j hw)) hw).trans (h1 j (hlt j hw) hw).symm).1
    · exact ((hi.old s fun j _ hj => hw ⟨j, hj⟩).trans (h2 fun j _ hj => hw ⟨j, hj⟩).symm).1
  · obtain ⟨m, hm, hL, hmw⟩ := hi.mem
    have : M ops.size = M m := hp.mem m ops.size (by simpa using hm) (by simp) fun j o h1 h2 ho => by
      cases hw : isWriter o.op with
      | false => rfl
      | true => have := (hmw j o ho hw).1 (hS j h2); omega
    rw [hL, ← this]
    exact hK

theorem quiet_go (hp : Plan C n ops.toList F M val ex) (hs : Stab ops.toList T) (hK : K (F ops.size) (M ops.size)) : ∀ (f t : Nat) (listed : Array Bool) (fr : List (Nat × V)) (L : List Blk), listed.size = ops.size →
    Inv ops.toList F M val (fun i => listed.getD i false = true) fr L → cnt ops listed ≤ f →
    vOpsC C n ops.toList ((Region.linearise.go .any ops f t listed []).filterMap fun i => ops[i]?) fr L K
  | 0, t, listed, fr, L, hsz, hi, hc => by
    refine hp.done hs hi (fun i hlt => ?_) hK
    have hnil : (List.range ops.size).filter (fun i => !listed.getD i true) = [] := List.eq_nil_of_length_eq_zero (Nat.le_zero.1 hc)
    rw [List.filter_eq_nil_iff] at hnil
    have := hnil i (by simpa using hlt)
    rw [getD_of_lt (by rw [hsz]; exact hlt) false true]
    simpa using this
  | f + 1, t, listed, fr, L, hsz, hi, hc => by
    simp only [Region.linearise.go]
    show vOpsC C n ops.toList ((match (Region.ready .any ops listed)[t % (Region.ready .any ops listed).length]? with
      | some i => Region.linearise.go .any ops f (t / (Region.ready .any ops listed).length) (listed.setIfInBounds i true) [i]
      | none => [].reverse).filterMap fun i => ops[i]?) fr L K
    cases hr : (Region.ready .any ops listed)[t % (Region.ready .any ops listed).length]? with
    | none =>
      have hnil : Region.ready .any ops listed = [] := by
        cases hr' : Region.ready .any ops listed with
        | nil => rfl
        | cons x xs =>
          rw [hr'] at hr
          have hlt : t % (x :: xs).length < (x :: xs).length := Nat.mod_lt _ (by simp)
          simp at hr
          simp at hlt
          omega
      refine hp.done hs hi (fun i => ?_) hK
      induction i using Nat.strongRecOn with
      | _ i ih =>
        intro hlt
        refine Classical.byContradiction fun hn => ?_
        have : i ∈ Region.ready .any ops listed := by
          unfold Region.ready
          rw [List.mem_filter]
          refine ⟨by simpa using hlt, ?_⟩
          rw [getD_of_lt (by rw [hsz]; exact hlt) true false]
          simp only [Bool.not_eq_true] at hn
          rw [hn]
          rw [Array.getElem?_eq_getElem hlt]
          simp only [Option.map_some, Option.getD_some, Bool.not_false, Bool.true_and]
          rw [← Array.all_toList, List.all_eq_true]
          intro e he
          cases hb : Region.binds .any e with
          | false => simp
          | true =>
            have hlt' := hs.edge i ops[i] e (by simp [hlt]) he hb
            simp only [Bool.not_true, Bool.false_or]
            exact ih e.on hlt' (by omega)
        rw [hnil] at this
        cases this
    | some i =>
      have hmem := List.mem_of_getElem? hr
      unfold Region.ready at hmem
      rw [List.mem_filter] at hmem
      have hlt : i < ops.size := by simpa using hmem.1
      have hlt' : i < listed.size := by rw [hsz]; exact hlt
      have ho : ops[i]? = some ops[i] := Array.getElem?_eq_getElem hlt
      have h2 := hmem.2
      rw [ho] at h2
      simp only [Option.map_some, Option.getD_some, Bool.and_eq_true, Bool.not_eq_true'] at h2
      obtain ⟨h2a, h2b⟩ := h2
      rw [← Array.all_toList, List.all_eq_true] at h2b
      simp only []
      rw [linearise_go_acc, List.reverse_singleton, List.singleton_append, List.filterMap_cons]
      simp only [ho]
      refine hp.step hs hi (i := i) (o := ops[i]) (by simp [hlt]) (by rw [getD_of_lt hlt' false true, h2a]; simp) (fun e he hb => ?_) (S' := fun j => (listed.setIfInBounds i true).getD j false = true) (fun j => ?_) ?_
      · have := h2b e he
        simpa [hb] using this
      · simp only [Array.getD_eq_getD_getElem?]
        by_cases e : i = j
        · subst e
          rw [Array.getElem?_setIfInBounds_self_of_lt hlt']
          simp
        · rw [Array.getElem?_setIfInBounds_ne e]
          simp [Ne.symm e]
      · intro fr' L' hi'
        refine quiet_go hp hs hK f _ _ fr' L' (by simp [hsz]) hi' ?_
        have : cnt ops (listed.setIfInBounds i true) < cnt ops listed := by
          unfold cnt
          refine filter_lt (fun x hx hp => ?_) ⟨i, by simpa using hlt, ?_, by simp [h2a]⟩
          · have hx' : x < ops.size := by simpa using hx
            by_cases e : i = x
            · subst e; simp [h2a]
            · simp only [Array.getD_eq_getD_getElem?, Array.getElem?_setIfInBounds_ne e] at hp
              simpa [Array.getD_eq_getD_getElem?] using hp
          · simp only [Array.getD_eq_getD_getElem?, Array.getElem?_setIfInBounds_self_of_lt hlt']
            rfl
        omega
end

theorem DrawP.quiet {C : Ctx} {n : Nat} {ops : Array Oper} {fr : List (Nat × V)} {L : List Blk} {K : List (Nat × V) → List Blk → Prop} (hm : C.P.follows .mixedOrders = true) (T : List Nat) (hst : stableB ops.toList T = true)
    (h : qOps C n ops.toList ops.toList fr L K) : DrawP C n ops fr L K := by
  obtain ⟨F, M, val, ex, h1, h2, h3, h4⟩ := qOps_out ops.toList 0 fr L h
  have hs := stab_of hst
  have hp : Plan C n ops.toList F M val ex := ⟨fun i o ho => by simpa using (h3 i o ho).1, fun i o ho => by simpa using (h3 i o ho).2⟩
  unfold DrawP
  intro t
  simp only [Region.schedule, hm, Bool.true_or, if_true, Region.linearise]
  have hz : ∀ j, (Array.replicate ops.size false).getD j false = false := fun j => by
    simp only [Array.getD_eq_getD_getElem?, Array.getElem?_replicate]
    split <;> rfl
  refine quiet_go hp hs (by simpa using h4) _ t _ fr L (by simp) ⟨?_, ?_, ?_, ?_⟩ ?_
  · intro i o e hi; rw [hz] at hi; cases hi
  · intro j s hj; rw [hz] at hj; cases hj
  · intro s _; exact (h1 s).symm
  · exact ⟨0, Nat.zero_le _, h2.symm, fun j o _ _ => by rw [hz]; simp⟩
  · unfold cnt
    exact Nat.le_trans (List.length_filter_le _ _) (by simp)
end Go.Tidy

/-
  The base layer: from a law's arguments, as they are read, to tidy data; from a call's contract to the law's.
-/
namespace Go.Tidy

inductive TyI (P : Program) : TypeId → List D → Prop
  | bool {t : TypeId} (h : P.underlying t = some .bool) (b : Bool) : TyI P t [.bool b]
  | int {t : TypeId} {k : IntKind} (h : P.underlying t = some (.int k)) (n : Int) (hw : (Lit.int k n).wf = true) : TyI P t [.int k n]
  | str {t : TypeId} (h : P.underlying t = some .string) (s : ByteArray) (hs : s.size ≤ maxLen) : TyI P t [.str s]
  | sl {t e : TypeId} (h : P.underlying t = some (.slice e)) (els : List (List D)) (hl : els.length ≤ maxLen) (hsz : ∀ y ∈ els, y.length = P.cellsOf e) (he : ∀ y ∈ els, TyI P e y) : TyI P t [.sl els]
  | struct {t : TypeId} {fs : Array Field} (h : P.underlying t = some (.struct fs)) (xs : List D) (hl : xs.length = P.cellsOf t)
      (hf : ∀ f ∈ fs.toList, TyI P f.type ((xs.drop f.offset).take (P.cellsOf f.type))) : TyI P t xs

def plainB (P : Program) (l : List TypeId) : Bool := l.all fun t => match P.underlying t with
  | some .bool | some (.int _) | some .string => true
  | some (.slice e) => l.contains e && Nat.blt 0 (P.cellsOf e)
  | some (.struct fs) => fs.toList.all fun f => l.contains f.type
  | _ => false

section
variable {H : Type} {enc : TypeId × Value → H} {P : Program} {w : World} {T : TypeId → Prop}

def RDL (w : World) (xs : List D) (cs : List Value) : Prop := xs.length = cs.length ∧ ∀ (j : Nat) (x : D) (v : Value), xs[j]? = some x → cs[j]? = some v → RD (· < w.heap.size) w x v

theorem RDL.one {x : D} {v : Value} (h : RD (· < w.heap.size) w x v) : RDL w [x] [v] := by
  refine ⟨rfl, fun j y u hy hu => ?_⟩
  cases j with
  | zero => simp at hy hu; subst hy hu; exact h
  | succ j => simp at hy

theorem RDL.append {xs ys : List D} {cs ds : List Value} (h : RDL w xs cs) (h' : RDL w ys ds) : RDL w (xs ++ ys) (cs ++ ds) := by
  refine ⟨by simp [h.1, h'.1], fun j x v hx hv => ?_⟩
  rcases Nat.lt_or_ge j xs.length with hj | hj
  · rw [List.getElem?_append_left hj] at hx
    rw [List.getElem?_append_left (by rw [← h.1]; exact hj)] at hv
    exact h.2 j x v hx hv
  · rw [List.getElem?_append_right hj] at hx
    rw [List.getElem?_append_right (by rw [← h.1]; exact hj), ← h.1] at hv
    exact h'.2 _ x v hx hv

theorem fields_rd (cs : List Value) : ∀ (fl : List Field) (o : Nat), (∀ (j : Nat) f, fl[j]? = some f → f.offset = o + ((fl.take j).map fun f => P.cellsOf f.type).sum) → (cs.drop o).length = (fl.map fun f => P.cellsOf f.type).sum →
    (∀ f ∈ fl, ∃ ys, RDL w ys ((cs.drop f.offset).take (P.cellsOf f.type)) ∧ TyI P f.type ys) →
    ∃ xs, RDL w xs (cs.drop o) ∧ ∀ f ∈ fl, o ≤ f.offset ∧ TyI P f.type ((xs.drop (f.offset - o)).take (P.cellsOf f.type))
  | [], o, _, hl, _ => by
    have : cs.drop o = [] := List.eq_nil_of_length_eq_zero (by simpa using hl)
    rw [this]
    exact ⟨[], ⟨rfl, fun j x v hx => by simp at hx⟩, fun f hf => by simp at hf⟩
  | f :: fl, o, ho, hl, hf => by
    have h0 : f.offset = o := by simpa using ho 0 f rfl
    obtain ⟨ys, hy1, hy2⟩ := hf f (by simp)
    simp only [List.map_cons, List.sum_cons] at hl
    have hlen : ((cs.drop o).take (P.cellsOf f.type)).length = P.cellsOf f.type := by rw [List.length_take]; omega
    rw [h0] at hy1
    have hyl : ys.length = P.cellsOf f.type := hy1.1.trans hlen
    obtain ⟨xs, hx1, hx2⟩ := fields_rd cs fl (o + P.cellsOf f.type) (fun j g hg => by
      have := ho (j + 1) g (by simpa using hg)
      simp only [List.take_succ_cons, List.map_cons, List.sum_cons] at this
      omega) (by
      rw [← List.drop_drop, List.length_drop]; omega) (fun g hg => hf g (by simp [hg]))
    have hcs : cs.drop o = (cs.drop o).take (P.cellsOf f.type) ++ cs.drop (o + P.cellsOf f.type) := by
      rw [← List.drop_drop, List.take_append_drop]
    refine ⟨ys ++ xs, by rw [hcs]; exact hy1.append hx1, fun g hg => ?_⟩
    rcases List.mem_cons.1 hg with rfl | hg
    · refine ⟨by omega, ?_⟩
      rw [h0, Nat.sub_self, List.drop_zero, List.take_append_of_le_length (by omega), List.take_of_length_le (by omega)]
      exact hy2
    · obtain ⟨h1, h2⟩ := hx2 g hg
      refine ⟨by omega, ?_⟩
      rw [List.drop_append, List.drop_eq_nil_of_le (by omega), List.nil_append, hyl, show g.offset - o - P.cellsOf f.type = g.offset - (o + P.cellsOf f.type) by omega]
      exact h2

theorem mapM_range {α : Type} {f : Nat → Option α} {n : Nat} {l : List α} (h : (List.range n).mapM f = some l) : l.length = n ∧ ∀ i, i < n → f i = l[i]? := by
  have key : ∀ (xs : List Nat) (l : List α), xs.mapM f = some l → l.length = xs.length ∧ ∀ (i : Nat) (x : Nat), xs[i]? = some x → f x = l[i]? := by
    intro xs
    induction xs with
    | nil => intro l h; simp at h; subst h; exact ⟨rfl, fun i x hx => by simp at hx⟩
    | cons x xs ih =>
      intro l h
      rw [List.mapM_cons] at h
      cases hx : f x with
      | none => simp [hx] at h
      | some y =>
        cases hy : xs.mapM f with
        | none => simp [hx, hy] at h
        | some ys =>
          simp [hx, hy] at h
          subst h
          obtain ⟨h1, h2⟩ := ih ys hy
          refine ⟨by simp [h1], fun i z hz => ?_⟩
          cases i with
          | zero => simp at hz; subst hz; simpa using hx
          | succ i => simpa using h2 i z (by simpa using hz)
  obtain ⟨h1, h2⟩ := key _ _ h
  refine ⟨by simpa using h1, fun i hi => h2 i i (by rw [List.getElem?_range hi])⟩

theorem cell_lt {a : Addr} {v : Value} (h : w.cell? a = some v) : a.block < w.heap.size := by
  rcases Nat.lt_or_ge a.block w.heap.size with hl | hl
  · exact hl
  · have : w.heap[a.block]? = none := Array.getElem?_eq_none hl
    unfold World.cell? at h
    rw [this] at h
    cases h

theorem block_add (a : Addr) (n : Nat) : (a.add n).block = a.block := by unfold Addr.add; split <;> rfl

theorem trod_rd (K : Kids P (· < P.types.size)) {l : List TypeId} (hp : plainB P l = true) (hl : ∀ t ∈ l, t < P.types.size) : ∀ (n : Nat) (t : TypeId) (cs : List Value) (x : DataW H × List MemPlace), t ∈ l →
    DataW.trod enc P w 0 (fun _ => true) true n t cs = some x → ∃ xs, RDL w xs cs ∧ TyI P t xs := by
  intro n
  induction n with
  | zero => intro t cs x _ h; simp [DataW.trod] at h
  | succ n ih =>
    intro t cs x ht h
    have hpt := hp
    unfold plainB at hpt
    rw [List.all_eq_true] at hpt
    have hpt := hpt t ht
    cases hu : P.underlying t with
    | none => rw [hu] at hpt; cases hpt
    | some d =>
      rw [hu] at hpt
      cases d
      all_goals first | (cases hpt; done) | skip
      case bool =>
        obtain ⟨b, rfl, _⟩ := DataW.trod_bool hu h
        exact ⟨[.bool b], RDL.one (.bool b), .bool hu b⟩
      case int k =>
        obtain ⟨v, rfl, _, hw⟩ := DataW.trod_int hu h
        exact ⟨[.int k v], RDL.one (.int k v), .int hu v hw⟩
      case string =>
        obtain ⟨s, rfl, _, hs⟩ := DataW.trod_string hu h
        exact ⟨[.str s], RDL.one (.str s), .str hu s hs⟩
      case slice e =>
        simp only [Bool.and_eq_true, List.contains_iff_mem, Nat.blt_eq] at hpt
        rcases DataW.trod_slice hu h with ⟨rfl, _⟩ | ⟨a, len, cap, elems, rest, m, hm, rfl, _, _, hlc, hcm, hlen, hel, _, _⟩
        · exact ⟨[.sl []], RDL.one (.slNil _ _), .sl hu [] (Nat.zero_le _) (fun y hy => by simp at hy) (fun y hy => by simp at hy)⟩
        · obtain rfl : n = m := by omega
          have each : ∀ i, i < len → ∃ (cs : Nat → Value) (ys : List D), (∀ j, j < P.cellsOf e → w.cell? ((a.add (i * P.cellsOf e)).add j) = some (cs j)) ∧ ys.length = P.cellsOf e ∧ (∀ (j : Nat) (x : D), ys[j]? = some x → RD (· < w.heap.size) w x (cs j)) ∧ TyI P e ys := by
            intro i hi
            have h1 := hel i hi
            have h2 : elems[i]? = some elems[i] := List.getElem?_eq_getElem (by omega)
            rw [h2] at h1
            rw [Option.bind_eq_some_iff] at h1
            obtain ⟨vs, h3, h4⟩ := h1
            obtain ⟨ys, h5, h6⟩ := ih e vs _ hpt.1 h4
            unfold World.cells? at h3
            rw [if_pos (Nat.zero_le _)] at h3
            obtain ⟨h7, h8⟩ := mapM_range h3
            refine ⟨fun j => vs[j]?.getD default, ys, fun j hj => ?_, by rw [h5.1]; exact h7, fun j x hx => ?_, h6⟩
            · rw [h8 j hj]; simp [List.getElem?_eq_getElem (show j < vs.length by omega)]
            · have hj : j < vs.length := by have := lt_of_get hx; rw [h5.1] at this; exact this
              simp only [List.getElem?_eq_getElem hj, Option.getD_some]
              exact h5.2 j x _ hx (List.getElem?_eq_getElem hj)
          have hch : ∃ (f : Nat → Nat → Value) (g : Nat → List D), ∀ i, i < len → (∀ j, j < P.cellsOf e → w.cell? ((a.add (i * P.cellsOf e)).add j) = some (f i j)) ∧ (g i).length = P.cellsOf e ∧ (∀ (j : Nat) (x : D), (g i)[j]? = some x → RD (· < w.heap.size) w x (f i j)) ∧ TyI P e (g i) := by
            refine ⟨fun i => if h : i < len then Classical.choose (each i h) else fun _ => default, fun i => if h : i < len then Classical.choose (Classical.choose_spec (each i h)) else [], fun i hi => ?_⟩
            simp only [hi, dif_pos]
            exact Classical.choose_spec (Classical.choose_spec (each i hi))
          obtain ⟨f, g, hfg⟩ := hch
          have hels : ∀ y ∈ (List.range len).map g, ∃ i, i < len ∧ y = g i := fun y hy => by
            obtain ⟨i, hi, rfl⟩ := List.mem_map.1 hy
            exact ⟨i, by simpa using hi, rfl⟩
          have hsz : ∀ y ∈ (List.range len).map g, y.length = P.cellsOf e := fun y hy => by obtain ⟨i, hi, rfl⟩ := hels y hy; exact (hfg i hi).2.1
          refine ⟨[.sl ((List.range len).map g)], RDL.one ?_, .sl hu _ (by simp; omega) hsz fun y hy => by obtain ⟨i, hi, rfl⟩ := hels y hy; exact (hfg i hi).2.2.2⟩
          by_cases h0 : len = 0
          · subst h0; exact .slNil _ _
          · have hadd : ∀ i j, (a.add (i * P.cellsOf e)).add j = a.add (i * P.cellsOf e + j) := fun i j => Addr.add_add _ _ _
            have := RD.sl (I := (· < w.heap.size)) (w := w) ((List.range len).map g) a cap (P.cellsOf e) f hsz (fun i j hi hj => by
              rw [← hadd]; exact (hfg i (by simpa using hi)).1 j hj) (by
              have h1 := (hfg 0 (by omega)).1 0 hpt.2
              have := cell_lt h1
              rwa [block_add, block_add] at this) (by simpa using hlc) (fun i j x hx => by
              rw [List.getElem?_map] at hx
              cases hr : (List.range len)[i]? with
              | none => rw [hr] at hx; cases hx
              | some i' =>
                have hi : i < len := by have := lt_of_get hr; simpa using this
                rw [List.getElem?_range hi] at hr
                cases hr
                rw [List.getElem?_range hi] at hx
                exact (hfg i hi).2.2.1 j x hx)
            simpa using this
      case struct fs =>
        obtain ⟨xs, m, hm, _, hlen, hxl, hfl⟩ := DataW.trod_struct hu h
        obtain rfl : n = m := by omega
        simp only [List.all_eq_true, List.contains_iff_mem] at hpt
        obtain ⟨_, hk2, hk3⟩ := K.struct (hl t ht) hu
        obtain ⟨ys, h1, h2⟩ := fields_rd (P := P) (w := w) cs fs.toList 0 (fun j f hf => by rw [Nat.zero_add]; exact hk3 j f hf) (by rw [List.drop_zero, hlen, hk2]) (fun f hf => by
          obtain ⟨i, hi⟩ := List.mem_iff_getElem?.1 hf
          have hi' : fs[i]? = some f := by simpa using hi
          have hlt : i < xs.length := by rw [hxl]; exact (Array.getElem?_eq_some_iff.1 hi').1
          have := hfl i f hi'
          rw [List.getElem?_eq_getElem hlt] at this
          exact ih f.type _ _ (hpt f hf) this)
        rw [List.drop_zero] at h1
        exact ⟨ys, h1, .struct hu ys (h1.1.trans hlen) fun f hf => by simpa using (h2 f hf).2⟩
end
end Go.Tidy

/-
  The base layer: a law's statement out of its call's contract.
-/
namespace Go.Tidy

section
variable {H : Type} {enc : TypeId × Value → H} {P : Program}

theorem post_of_kept {f : Func} {s : ChangeSpec} {apart fresh handsOn again : Bool} {W W' : World} {args : Array Value} {v : Value} {ds gs : List (DataW H)} {before pa pv : List MemPlace}
    (hW : DataW.Whole enc P f.params.toList s.vars apart W args.toList ds gs before)
    (hres : ∀ (b : Nat) (sp : Nat → Bool) (hd : Bool), DataW.TrodAll enc P W' b sp hd f.resultTypes.toList (v.resultList f.resultTypes.size) (s.fn H (ds ++ gs)).results [])
    (hargs : ∀ sp : Nat → Bool, (∀ p ∈ before, sp p.block = true) → DataW.TrodAll enc P W' 0 sp true f.params.toList args.toList (s.fn H (ds ++ gs)).args pa)
    (hvars : ∀ sp : Nat → Bool, (∀ p ∈ before, sp p.block = true) → DataW.TrodVars enc P W' sp s.vars (s.fn H (ds ++ gs)).vars pv)
    (hps : before = pa ++ pv) (hk : W.keptBut W' (· ∈ before)) (hfz : ∀ a : Addr, a.block < W.heap.size → W'.frozen? a = W.frozen? a)
    (hok : ∀ (j : Nat) (t : TypeId) (r : Value), f.resultTypes[j]? = some t → (v.resultList f.resultTypes.size)[j]? = some r → Value.okWide P W' .any 0 t r) :
    s.post enc P f apart fresh handsOn again W args v W' := by
  have hlt : ∀ p ∈ before, p.block < W.heap.size := fun p hp => hW.lt p hp
  have hold : ∀ p ∈ before, (fun b => decide (b < W.heap.size)) p.block = true := fun p hp => by simpa using hlt p hp
  refine ⟨ds, gs, before, [], pa, pv, hW, hres _ _ _, hargs _ hold, hvars _ hold, World.keptBut_mono (fun p hp => ⟨hp, ?_⟩) hk, fun _ => ?_⟩
  · rw [hps, List.mem_append] at hp
    exact Or.inr hp
  · obtain ⟨_, _, _, _, _, hz, hn⟩ := hW
    refine ⟨hok, _, _, ([] ++ pa) ++ pv, ⟨[] ++ pa, pv, Go.ChangeShapes.trodAll_append (hargs _ (fun _ _ => rfl)) (hres _ _ _), hvars _ (fun _ _ => rfl), rfl, ?_, ?_⟩, ?_⟩
    · intro b off hp
      have hp' : MemPlace.cell b off ∈ before := by rw [hps]; simpa using hp
      rw [hfz _ (hlt _ hp')]
      exact hz b off hp'
    · intro ha
      have := hn ha
      rw [hps] at this
      simpa using this
    · intro p hp _
      rw [hps]
      simpa using hp

def argV (P : Program) (t : TypeId) (xs : List D) : V :=
  match P.underlying t with
  | some (.struct _) => .agg (xs.map .d)
  | _ => match xs with | [x] => .d x | _ => .poison
def argVs (P : Program) : List TypeId → List (List D) → List V
  | t :: ts, x :: xs => argV P t x :: argVs P ts xs
  | _, _ => []
def TyA (P : Program) : List TypeId → List (List D) → Prop
  | [], [] => True
  | t :: ts, x :: xs => TyI P t x ∧ TyA P ts xs
  | _, _ => False

variable {w : World}

theorem argV_rv {t : TypeId} {base : Nat} {v : Value} {xs : List D} (hx : RDL w xs v.cells.toList) (ht : TyI P t xs) (hok : Value.okWide P w .any base t v) (g : Gh) (hI : ∀ r, r < w.heap.size → g.I r) (L : List Blk) : RV g w L (argV P t xs) v := by
  have hd : ∀ {x : D} {u : Value}, RD (· < w.heap.size) w x u → RD g.I w x u := fun h => h.mono hI (fun _ _ _ h => h)
  have one : v.cells = #[v] → ∀ x, xs = [x] → RV g w L (.d x) v := by
    rintro hv x rfl
    rw [hv] at hx
    exact .d _ _ (hd (hx.2 0 x v rfl rfl))
  have cell : (∀ cs, v ≠ .agg cs) → v.cells = #[v] := fun h => by cases v <;> first | rfl | exact absurd rfl (h _)
  unfold argV
  cases ht with
  | bool h b =>
    rw [h]
    refine one (cell fun cs hv => ?_) _ rfl
    subst hv; simp [Value.okWide, h, Cell.okWide, Cell.ok] at hok
  | int h n hw =>
    rw [h]
    refine one (cell fun cs hv => ?_) _ rfl
    subst hv; simp [Value.okWide, h, Cell.okWide, Cell.ok] at hok
  | str h s hs =>
    rw [h]
    refine one (cell fun cs hv => ?_) _ rfl
    subst hv; simp [Value.okWide, h, Cell.okWide, Cell.ok] at hok
  | sl h els hl hsz he =>
    rw [h]
    refine one (cell fun cs hv => ?_) _ rfl
    subst hv; simp [Value.okWide, h, Cell.okWide, Cell.ok] at hok
  | struct h xs hl hf =>
    rw [h]
    simp only [Value.okWide, h] at hok
    obtain ⟨cs, rfl, _, _⟩ := hok
    have hx : RDL w xs cs.toList := hx
    refine .agg _ _ (by rw [List.length_map, hx.1]; simp) (fun j u hu => ?_) (fun j x u hxj hu => ?_)
    · have hj : j < xs.length := by rw [hx.1]; simpa using (Array.getElem?_eq_some_iff.1 hu).1
      exact (hx.2 j xs[j] u (List.getElem?_eq_getElem hj) (by simpa using hu)).one
    · rw [List.getElem?_map] at hxj
      cases e : xs[j]? with
      | none => rw [e] at hxj; cases hxj
      | some y =>
        rw [e] at hxj; cases hxj
        exact .d _ _ (hd (hx.2 j y u e (by simpa using hu)))

theorem args_rd (K : Kids P (· < P.types.size)) {l : List TypeId} (hp : plainB P l = true) (hl : ∀ t ∈ l, t < P.types.size) {base : Nat} : ∀ (ts : List TypeId) (vs : List Value) (ds : List (DataW H)) (ps : List MemPlace), (∀ t ∈ ts, t ∈ l) →
    (∀ (j : Nat) t v, ts[j]? = some t → vs[j]? = some v → Value.okWide P w .any base t v) → DataW.TrodAll enc P w 0 (fun _ => true) true ts vs ds ps →
    ds.length = ts.length ∧ ∃ xss, TyA P ts xss ∧ ∀ (g : Gh) (L : List Blk), (∀ r, r < w.heap.size → g.I r) → (argVs P ts xss).length = vs.length ∧ ∀ (j : Nat) (x : V) (v : Value), (argVs P ts xss)[j]? = some x → vs[j]? = some v → RV g w L x v
  | [], [], [], ps, _, _, h => ⟨rfl, [], trivial, fun g L hI => ⟨rfl, fun j x v hx => by simp [argVs] at hx⟩⟩
  | t :: ts, v :: vs, d :: ds, ps, ht, hok, ⟨p, q, ⟨n, hn⟩, h2, _⟩ => by
    obtain ⟨xs, hx, hty⟩ := trod_rd K hp hl n t _ _ (ht t (by simp)) hn
    obtain ⟨hlen, xss, h3, h4⟩ := args_rd K hp hl ts vs ds q (fun t ht' => ht t (by simp [ht'])) (fun j t v hj hv => hok (j + 1) t v (by simpa using hj) (by simpa using hv)) h2
    refine ⟨by simp [hlen], xs :: xss, ⟨hty, h3⟩, fun g L hI => ⟨by simp [argVs, (h4 g L hI).1], fun j x u hxj hu => ?_⟩⟩
    cases j with
    | zero =>
      simp [argVs] at hxj hu
      subst hxj hu
      exact argV_rv hx hty (hok 0 t v rfl rfl) g hI L
    | succ j => exact (h4 g L hI).2 j x u (by simpa [argVs] using hxj) (by simpa using hu)
  | [], v :: vs, _, _, _, _, h => by cases h
  | [], [], _ :: _, _, _, _, h => by cases h
  | _ :: _, [], _, _, _, _, h => by cases h
  | _ :: _, _ :: _, [], _, _, _, h => by cases h

theorem law_of {C : Ctx} [Quiet C] {f : FuncId} {fn : Func} {s : ChangeSpec} {apart fresh handsOn again : Bool} {W : World} {base : Nat} {args : Array Value} {ds gs : List (DataW H)} {before : List MemPlace} {tb : TypeId} {l : List TypeId}
    (K : Kids C.P (· < C.P.types.size)) (hz : ∀ t e, t < C.P.types.size → C.P.underlying t = some (.slice e) → 0 < C.P.cellsOf e) (hp : plainB C.P l = true) (hl : ∀ t ∈ l, t < C.P.types.size) (hpar : ∀ t ∈ fn.params.toList, t ∈ l)
    (hvars : s.vars = []) (hres : fn.resultTypes = #[tb]) (htb : C.P.underlying tb = some .bool)
    (hspec : ∀ ds : List (DataW H), ds.length = fn.params.toList.length → s.fn H ds = { results := [.lit (.bool true)], args := ds })
    (hcall : ∀ xss, TyA C.P fn.params.toList xss → CallP C f (argVs C.P fn.params.toList xss) [] fun X L => L = [] ∧ X = .d (.bool true))
    (hval : ∀ (j : Nat) t v, fn.params[j]? = some t → args[j]? = some v → Value.okWide C.P W .any base t v)
    (hW : DataW.Whole enc C.P fn.params.toList s.vars apart W args.toList ds gs before)
    (hgl : GlobOK (fun r => r < W.heap.size) W := by intro p hp; cases hp) :
    Calls C.P f args W fun e W' => ∃ v, e = .returned v ∧ s.post enc C.P fn apart fresh handsOn again W args v W' := by
  have hW' := hW
  obtain ⟨p, q, hA, hV, hpq, hfz, hnd⟩ := hW
  rw [hvars] at hV
  obtain ⟨rfl, rfl⟩ : gs = [] ∧ q = [] := by
    cases gs with
    | nil => exact ⟨rfl, hV⟩
    | cons _ _ => cases hV
  rw [List.append_nil] at hpq
  subst hpq
  obtain ⟨hlen, xss, hty, hrv⟩ := args_rd K hp hl fn.params.toList args.toList ds before hpar (fun j t v hj hv => hval j t v (by simpa using hj) (by simpa using hv)) hA
  have hc := hcall xss hty
  rw [CallP_q] at hc
  obtain ⟨h1, h2⟩ := hrv { I := fun r => r < W.heap.size, m := fun _ => none, cap := fun _ => 0 } [] (fun _ h => h)
  have no : ∀ (g' : Gh) q, ¬ owned g' ([] : List Blk) q := fun g' q ⟨b, ⟨k, hk, _⟩, _⟩ => by simp at hk
  refine (hc.2 { I := fun r => r < W.heap.size, m := fun _ => none, cap := fun _ => 0 } W args ⟨?_, ?_, fun r h => h, ?_, hgl⟩ ⟨by rw [h1]; simp, fun j x v hx hv => h2 j x v hx (by simpa using hv)⟩).mono ?_
  · rintro b b' r ⟨k, hk, _⟩; simp at hk
  · exact fun r ho => absurd ho (no _ r)
  · intro b k hk; simp at hk
  rintro e W' ⟨v, X, L1, g1, rfl, ⟨rfl, rfl⟩, hr, hg1, hprog⟩
  have hv : v = .bool true := hr.bool_of
  subst hv
  refine ⟨_, rfl, ?_⟩
  have heap : ∀ (r : Nat) (o : Obj), W.heap[r]? = some o → W'.heap[r]? = some o := fun r o h => hprog.kept r o h (no _ r)
  have heap' : ∀ r : Nat, r < W.heap.size → W'.heap[r]? = W.heap[r]? := fun r h => by
    rw [Array.getElem?_eq_getElem h]; exact heap r _ (Array.getElem?_eq_getElem h)
  have hlt : ∀ x ∈ before, x.block < W.heap.size := fun x hx => hW'.lt x hx
  have same : ∀ x ∈ before, W.sameAt W' x := by
    intro x hx
    have := hlt x hx
    cases x with
    | cell b off => exact World.cell?_of_block (w := W) (w' := W') (heap' b this)
    | map b => exact heap' b this
  have hkept : W.keptBut W' (· ∈ before) := by
    refine ⟨hprog.env.2.1, hprog.env.2.2, fun i hi => ?_⟩
    rw [heap' i hi]
    cases W.heap[i]? with
    | none => rfl
    | some o => cases o <;> simp
  have carry : ∀ (ts : List TypeId) (vs : List Value) (ds : List (DataW H)) (ps : List MemPlace), (∀ x ∈ ps, W.sameAt W' x) → DataW.TrodAll enc C.P W 0 (fun _ => true) true ts vs ds ps → DataW.TrodAll enc C.P W' 0 (fun _ => true) true ts vs ds ps := by
    intro ts
    induction ts with
    | nil => intro vs ds ps _ h; cases vs <;> cases ds <;> first | exact h | cases h
    | cons t ts ih =>
      intro vs ds ps hs h
      cases vs with
      | nil => cases h
      | cons v vs =>
        cases ds with
        | nil => cases h
        | cons d ds =>
          obtain ⟨p, q, ⟨n, hn⟩, h2, rfl⟩ := h
          exact ⟨p, q, ⟨n, DataW.trod_carry n _ _ _ hn fun x hx => hs x (List.mem_append_left _ hx)⟩, ih vs ds q (fun x hx => hs x (List.mem_append_right _ hx)) h2, rfl⟩
  have hA' := carry _ _ _ _ same hA
  have hfn := hspec ds hlen
  refine post_of_kept (pa := before) (pv := []) hW' ?_ ?_ ?_ (by simp) hkept (fun a ha => ?_) ?_
  · intro b sp hd
    rw [List.append_nil, hfn, hres]
    exact ⟨[], [], RowKit.shut_bool htb true, rfl, rfl⟩
  · intro sp hsp
    rw [List.append_nil, hfn]
    exact hA'.respare K hz (fun t ht => hl t (hpar t ht)) hsp
  · intro sp hsp
    rw [List.append_nil, hfn, hvars]
    rfl
  · exact World.frozen?_of_block (w := W) (w' := W') (heap' _ ha)
  · exact RowKit.ok_one hres rfl (RowKit.okWide_bool_mk htb true)
end
end Go.Tidy
