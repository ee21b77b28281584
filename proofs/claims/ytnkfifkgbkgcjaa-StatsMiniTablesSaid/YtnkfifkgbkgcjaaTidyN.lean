/-
  The base layer: what an operation does is determined; regions whose order is drawn.
-/
import Derived.Test.YtnkfifkgbkgcjaaTidyM
namespace Go.Tidy

/-! ### Determined -/
def Det (f : (V → List Blk → Prop) → Prop) : Prop := ∃ (p : Prop) (v : V) (L : List Blk), ∀ k, f k ↔ (p ∧ k v L)

theorem Det.no : Det (fun _ => False) := ⟨False, .poison, [], fun k => by simp⟩
theorem Det.ret (v : V) (L : List Blk) : Det (fun k => k v L) := ⟨True, v, L, fun k => by simp⟩
theorem Det.need {p : Prop} {f : (V → List Blk → Prop) → Prop} (h : Det f) : Det (fun k => Need p (f k)) := by
  obtain ⟨q, v, L, h⟩ := h
  exact ⟨p ∧ q, v, L, fun k => ⟨fun hn => ⟨⟨hn.out.1, ((h k).1 hn.out.2).1⟩, ((h k).1 hn.out.2).2⟩, fun hn => Need.intro hn.1.1 ((h k).2 ⟨hn.1.2, hn.2⟩)⟩⟩
theorem Det.bif {b : Bool} {f : (V → List Blk → Prop) → Prop} (h : Det f) : Det (fun k => bif b then f k else False) := by
  cases b
  · exact Det.no
  · exact h
theorem Det.br {t : Bool} {f : Bool → (V → List Blk → Prop) → Prop} (h : ∀ b, Det (f b)) : Det (fun k => Br t fun b => f b k) := by
  obtain ⟨q, v, L, h⟩ := h t
  exact ⟨q, v, L, fun k => ⟨fun hb => (h k).1 hb.out, fun hb => Br.lit t rfl ((h k).2 hb)⟩⟩
theorem Det.getE {α : Type} {els : List α} {n : Nat} {f : α → (V → List Blk → Prop) → Prop} (h : ∀ e, Det (f e)) : Det (fun k => GetE els n fun e => f e k) := by
  cases e : els[n]? with
  | none => exact ⟨False, .poison, [], fun k => by unfold GetE; simp [e]⟩
  | some x =>
    obtain ⟨q, v, L, h⟩ := h x
    refine ⟨q, v, L, fun k => ?_⟩
    unfold GetE
    constructor
    · rintro ⟨y, hy, hk⟩; rw [e] at hy; cases hy; exact (h k).1 hk
    · exact fun hk => ⟨x, e, (h k).2 hk⟩
theorem Det.idx {α : Type} {els : List α} {i : Int} {f : Nat → α → (V → List Blk → Prop) → Prop} (h : ∀ n e, Det (f n e)) : Det (fun k => Idx els i fun n e => f n e k) := by
  by_cases hh : ∃ n : Nat, i = n ∧ ∃ e, els[n]? = some e
  · obtain ⟨n, hn, x, e⟩ := hh
    obtain ⟨q, v, L, h⟩ := h n x
    refine ⟨q, v, L, fun k => ?_⟩
    unfold Idx
    constructor
    · rintro ⟨m, hm, y, hy, hk⟩
      have : m = n := by omega
      subst this
      rw [e] at hy; cases hy; exact (h k).1 hk
    · exact fun hk => ⟨n, hn, x, e, (h k).2 hk⟩
  · refine ⟨False, .poison, [], fun k => ?_⟩
    unfold Idx
    constructor
    · rintro ⟨m, hm, y, hy, hk⟩; exact absurd ⟨m, hm, y, hy⟩ hh
    · exact fun h => h.1.elim
theorem Det.idxN {len : Nat} {i : Int} {f : Nat → (V → List Blk → Prop) → Prop} (h : ∀ n, Det (f n)) : Det (fun k => IdxN len i fun n => f n k) := by
  by_cases hh : ∃ n : Nat, i = n ∧ n < len
  · obtain ⟨n, hn, hl⟩ := hh
    obtain ⟨q, v, L, h⟩ := h n
    refine ⟨q, v, L, fun k => ?_⟩
    unfold IdxN
    constructor
    · rintro ⟨m, hm, _, hk⟩
      have : m = n := by omega
      subst this
      exact (h k).1 hk
    · exact fun hk => ⟨n, hn, hl, (h k).2 hk⟩
  · refine ⟨False, .poison, [], fun k => ?_⟩
    unfold IdxN
    constructor
    · rintro ⟨m, hm, hy, hk⟩; exact absurd ⟨m, hm, hy⟩ hh
    · exact fun h => h.1.elim
theorem isB_uniq {o : Option V} {d n m : Nat} (h : isB o d n) (h' : isB o d m) : n = m := by
  unfold isB at h h'
  split at h
  · simp at h'; omega
  · rename_i a
    simp at h'; omega
  · exact h.elim
theorem Det.slice {n : Nat} {lo hi : Option V} {f : Nat → Nat → (V → List Blk → Prop) → Prop} (h : ∀ l m, Det (f l m)) : Det (fun k => SliceP n lo hi fun l m => f l m k) := by
  by_cases hh : ∃ l m : Nat, isB lo 0 l ∧ isB hi n m ∧ l ≤ m ∧ m ≤ n
  · obtain ⟨l, m, h1, h2, h3, h4⟩ := hh
    obtain ⟨q, v, L, h⟩ := h l m
    refine ⟨q, v, L, fun k => ?_⟩
    unfold SliceP
    constructor
    · rintro ⟨l', m', h1', h2', _, _, hk⟩
      have := isB_uniq h1 h1'
      have := isB_uniq h2 h2'
      subst_vars
      exact (h k).1 hk
    · exact fun hk => ⟨l, m, h1, h2, h3, h4, (h k).2 hk⟩
  · refine ⟨False, .poison, [], fun k => ?_⟩
    unfold SliceP
    constructor
    · rintro ⟨l, m, h1, h2, h3, h4, _⟩; exact absurd ⟨l, m, h1, h2, h3, h4⟩ hh
    · exact fun h => h.1.elim


theorem vLoad_det (C : Ctx) (t : TypeId) (x : V) (L M : List Blk) : Det (fun k => vLoad C t x L fun v => k v M) := by
  unfold vLoad
  repeat' (first | exact Det.no | exact Det.ret _ _ | apply Det.need | apply Det.bif | (apply Det.getE; intro _) | (apply Det.idx; intro _ _) | (apply Det.idxN; intro _) | (apply Det.slice; intro _ _) | (apply Det.br; intro _) | split)
theorem vStore_det (C : Ctx) (t : TypeId) (x y : V) (L : List Blk) : Det (fun k => vStore C t x y L fun L' => k .poison L') := by
  unfold vStore
  repeat' (first | exact Det.no | exact Det.ret _ _ | apply Det.need | apply Det.bif | (apply Det.getE; intro _) | (apply Det.idx; intro _ _) | (apply Det.idxN; intro _) | (apply Det.slice; intro _ _) | (apply Det.br; intro _) | split)
theorem vBox_det (x : V) (L : List Blk) : Det (fun k => vBox x L k) := by
  unfold vBox
  repeat' (first | exact Det.no | exact Det.ret _ _ | apply Det.need | apply Det.bif | (apply Det.getE; intro _) | (apply Det.idx; intro _ _) | (apply Det.idxN; intro _) | (apply Det.slice; intro _ _) | (apply Det.br; intro _) | split)
theorem vAlloc_det (C : Ctx) (t : TypeId) (L : List Blk) : Det (fun k => vAlloc C t L k) := by
  unfold vAlloc
  repeat' (first | exact Det.no | exact Det.ret _ _ | apply Det.need | apply Det.bif | (apply Det.getE; intro _) | (apply Det.idx; intro _ _) | (apply Det.idxN; intro _) | (apply Det.slice; intro _ _) | (apply Det.br; intro _) | split)
theorem vFieldAddr_det (C : Ctx) (s : TypeId) (x : V) (f : Nat) (M : List Blk) : Det (fun k => vFieldAddr C s x f fun v => k v M) := by
  unfold vFieldAddr
  repeat' (first | exact Det.no | exact Det.ret _ _ | apply Det.need | apply Det.bif | (apply Det.getE; intro _) | (apply Det.idx; intro _ _) | (apply Det.idxN; intro _) | (apply Det.slice; intro _ _) | (apply Det.br; intro _) | split)
theorem vIndexAddr_det (C : Ctx) (t : TypeId) (x i : V) (L M : List Blk) : Det (fun k => vIndexAddr C t x i (fun v => k v M) L) := by
  unfold vIndexAddr
  repeat' (first | exact Det.no | exact Det.ret _ _ | apply Det.need | apply Det.bif | (apply Det.getE; intro _) | (apply Det.idx; intro _ _) | (apply Det.idxN; intro _) | (apply Det.slice; intro _ _) | (apply Det.br; intro _) | split)
theorem vBin_det (C : Ctx) (op : BinOp) (t : TypeId) (x y : V) (M : List Blk) : Det (fun k => vBin C op t x y fun v => k v M) := by
  unfold vBin intBin strBin
  repeat' (first | exact Det.no | exact Det.ret _ _ | apply Det.need | apply Det.bif | (apply Det.getE; intro _) | (apply Det.idx; intro _ _) | (apply Det.idxN; intro _) | (apply Det.slice; intro _ _) | (apply Det.br; intro _) | split)
theorem vUn_det (op : UnOp) (x : V) (M : List Blk) : Det (fun k => vUn op x fun v => k v M) := by
  unfold vUn
  repeat' (first | exact Det.no | exact Det.ret _ _ | apply Det.need | apply Det.bif | (apply Det.getE; intro _) | (apply Det.idx; intro _ _) | (apply Det.idxN; intro _) | (apply Det.slice; intro _ _) | (apply Det.br; intro _) | split)
theorem vBuild_det (C : Ctx) (t : TypeId) (ps : List (Nat × V)) (M : List Blk) : Det (fun k => vBuild C t ps fun v => k v M) := by
  unfold vBuild
  repeat' (first | exact Det.no | exact Det.ret _ _ | apply Det.need | apply Det.bif | (apply Det.getE; intro _) | (apply Det.idx; intro _ _) | (apply Det.idxN; intro _) | (apply Det.slice; intro _ _) | (apply Det.br; intro _) | split)
theorem vBuildSlice_det (C : Ctx) (t : TypeId) (len : Nat) (ps : List (Nat × V)) (L : List Blk) : Det (fun k => vBuildSlice C t len ps L k) := by
  unfold vBuildSlice
  repeat' (first | exact Det.no | exact Det.ret _ _ | apply Det.need | apply Det.bif | (apply Det.getE; intro _) | (apply Det.idx; intro _ _) | (apply Det.idxN; intro _) | (apply Det.slice; intro _ _) | (apply Det.br; intro _) | split)
theorem vSlice_det (C : Ctx) (t : TypeId) (x : V) (lo hi mx : Option V) (L M : List Blk) : Det (fun k => vSlice C t x lo hi mx L fun v => k v M) := by
  unfold vSlice
  repeat' (first | exact Det.no | exact Det.ret _ _ | apply Det.need | apply Det.bif | (apply Det.getE; intro _) | (apply Det.idx; intro _ _) | (apply Det.idxN; intro _) | (apply Det.slice; intro _ _) | (apply Det.br; intro _) | split)
theorem vLenL_det (C : Ctx) (t : TypeId) (x : V) (L M : List Blk) : Det (fun k => vLenL C t x L fun v => k v M) := by
  unfold vLenL vLen
  repeat' (first | exact Det.no | exact Det.ret _ _ | apply Det.need | apply Det.bif | (apply Det.getE; intro _) | (apply Det.idx; intro _ _) | (apply Det.idxN; intro _) | (apply Det.slice; intro _ _) | (apply Det.br; intro _) | split)
theorem vAppend_det (C : Ctx) (t : TypeId) (s x : V) (L : List Blk) : Det (fun k => vAppend C t s x L k) := by
  unfold vAppend vSrc
  repeat' (first | exact Det.no | exact Det.ret _ _ | apply Det.need | apply Det.bif | (apply Det.getE; intro _) | (apply Det.idx; intro _ _) | (apply Det.idxN; intro _) | (apply Det.slice; intro _ _) | (apply Det.br; intro _) | split)

theorem Det.mapF {tk : TK} {es : List (V × V)} {key : V} {f : Option (Nat × V) → (V → List Blk → Prop) → Prop} (h : ∀ r, Det (f r)) : Det (fun k => MapF tk es key fun r => f r k) := by
  by_cases h0 : ∀ kv ∈ es, keyV tk kv.1 = true
  · by_cases hh : ∃ i v, es[i]? = some (key, v) ∧ (∀ (j : Nat) (kv : V × V), j < i → es[j]? = some kv → kv.1 ≠ key)
    · obtain ⟨i, v, hi, hj⟩ := hh
      obtain ⟨q, x, L, h⟩ := h (some (i, v))
      refine ⟨q, x, L, fun k => ⟨fun hm => ?_, fun hk => MapF.hit i v h0 hi hj ((h k).2 hk)⟩⟩
      unfold MapF at hm
      rcases hm.2 with ⟨i', v', hi', hj', hk⟩ | ⟨hno, _⟩
      · have : i = i' := by
          rcases Nat.lt_trichotomy i i' with h | h | h
          · exact absurd rfl (hj' i _ h hi)
          · exact h
          · exact absurd rfl (hj i' _ h hi')
        subst this
        rw [hi] at hi'; cases hi'
        exact (h k).1 hk
      · exact absurd rfl (hno _ (List.mem_of_getElem? hi))
    · obtain ⟨q, x, L, h⟩ := h none
      refine ⟨(∀ kv ∈ es, kv.1 ≠ key) ∧ q, x, L, fun k => ⟨fun hm => ?_, fun hk => MapF.miss h0 hk.1.1 ((h k).2 ⟨hk.1.2, hk.2⟩)⟩⟩
      unfold MapF at hm
      rcases hm.2 with ⟨i', v', hi', hj', _⟩ | ⟨hno, hk⟩
      · exact absurd ⟨i', v', hi', hj'⟩ hh
      · exact ⟨⟨hno, ((h k).1 hk).1⟩, ((h k).1 hk).2⟩
  · refine ⟨False, .poison, [], fun k => ⟨fun hm => ?_, fun hk => hk.1.elim⟩⟩
    unfold MapF at hm
    exact absurd hm.1 h0
theorem vLookup_det (C : Ctx) (t : TypeId) (m key : V) (ok : Bool) (L M : List Blk) : Det (fun k => vLookup C t m key ok L fun v => k v M) := by
  unfold vLookup
  repeat' (first | exact Det.no | exact Det.ret _ _ | apply Det.need | apply Det.bif | (apply Det.mapF; intro _) | split)
theorem vMapUpdate_det (C : Ctx) (t : TypeId) (m key x : V) (L : List Blk) : Det (fun k => vMapUpdate C t m key x L fun L' => k .poison L') := by
  unfold vMapUpdate
  repeat' (first | exact Det.no | exact Det.ret _ _ | apply Det.need | apply Det.bif | (apply Det.mapF; intro _) | split)

/-- A call of a function value. -/
def isCall : Op → Bool
  | .call c => match c.callee with | .value _ => true | _ => false
  | .binOp _ _ _ y _ => isNilSl y
  | _ => false

theorem vSlice3_det (C : Ctx) (t : TypeId) (x : V) (lo hi : Option V) (m : V) (L : List Blk) : Det (fun k => vSlice3 C t x lo hi m L k) := by
  unfold vSlice3
  repeat' (first | exact Det.no | exact Det.ret _ _ | apply Det.need | apply Det.bif | split)
theorem vSliceM_det (C : Ctx) (t : TypeId) (x : V) (lo hi mx : Option V) (L : List Blk) : Det (fun k => vSliceM C t x lo hi mx L k) := by
  cases mx with
  | none => exact vSlice_det C t x lo hi none L L
  | some m => exact vSlice3_det C t x lo hi m L
theorem vClear_det (C : Ctx) (t : TypeId) (s : V) (L : List Blk) : Det (fun k => vClear C t s L fun L' => k (.tup []) L') := by
  unfold vClear
  repeat' (first | exact Det.no | exact Det.ret _ _ | apply Det.need | apply Det.bif | split)
theorem vOp_det (C : Ctx) (o : Oper) (fr : List (Nat × V)) (L : List Blk) (hc : isCall o.op = false) : Det (fun k => vOp C o fr L k) := by
  unfold vOp
  cases h : o.op
  case call c =>
    simp only [h, isCall] at hc
    dsimp only []
    cases hcal : c.callee with
    | value f => simp [hcal] at hc
    | builtin b =>
      cases b <;> dsimp only [] <;> repeat' (first | exact Det.no | exact Det.ret _ _ | apply Det.need | apply Det.bif | (apply Det.getE; intro _) | (apply Det.idx; intro _ _) | (apply Det.idxN; intro _) | (apply Det.slice; intro _ _) | (apply Det.br; intro _) | exact vLenL_det _ _ _ _ _ | exact vAppend_det _ _ _ _ _ | exact vClear_det _ _ _ _ | split)
    | _ => exact Det.no
  case binOp op t x y u =>
    rw [h] at hc
    simp only [isCall] at hc
    dsimp only []
    rw [hc]
    exact vBin_det _ _ _ _ _ _
  case makeFunc fn first caps =>
    cases fn <;> dsimp only []
    all_goals repeat' (first | exact Det.no | exact Det.ret _ _ | apply Det.need | apply Det.bif | (apply Det.getE; intro _) | (apply Det.idx; intro _ _) | (apply Det.idxN; intro _) | (apply Det.slice; intro _ _) | (apply Det.br; intro _) | split)
  case makeMap t r =>
    cases r <;> dsimp only []
    · exact Det.ret _ _
    · exact Det.no
  all_goals try dsimp only []
  all_goals repeat' (first | exact Det.no | exact Det.ret _ _ | apply Det.need | apply Det.bif | (apply Det.getE; intro _) | (apply Det.idx; intro _ _) | (apply Det.idxN; intro _) | (apply Det.slice; intro _ _) | (apply Det.br; intro _) | exact vLoad_det _ _ _ _ _ | exact vStore_det _ _ _ _ _ | exact vBox_det _ _ | exact vAlloc_det _ _ _ | exact vFieldAddr_det _ _ _ _ _ | exact vIndexAddr_det _ _ _ _ _ _ | exact vBin_det _ _ _ _ _ _ | exact vUn_det _ _ _ | exact vBuild_det _ _ _ _ | exact vBuildSlice_det _ _ _ _ _ | exact vSliceM_det _ _ _ _ _ _ _ | exact vLookup_det _ _ _ _ _ _ _ | exact vMapUpdate_det _ _ _ _ _ _ | split)

theorem YieldP.mono {C : Ctx} {b : Nat} {args : List V} {L : List Blk} {k k' : V → List Blk → Prop} (h : YieldP C b args L k) (hk : ∀ X L', k X L' → k' X L') : YieldP C b args L k' := by
  unfold YieldP at h ⊢
  intro g w vs l hg hv hy
  obtain ⟨f, tmps, assign, body, h1, h2⟩ := h g w vs l hg hv hy
  refine ⟨f, tmps, assign, body, h1, RoundIn.mono h2 ?_⟩
  rintro e w' ⟨v, X, L', g', he, hX, hr⟩
  exact ⟨v, X, L', g', he, hk _ _ hX, hr⟩
theorem vCallV_mono {C : Ctx} {f : V} {args : List V} {L : List Blk} {k k' : V → List Blk → Prop} (h : vCallV C f args L k) (hk : ∀ X L', k X L' → k' X L') : vCallV C f args L k' := by
  unfold vCallV at *
  split at h
  · exact YieldP.mono h hk
  · unfold vCallF at *
    split at h
    · exact CallP.mono h hk
    · exact CallP.mono h hk
    · exact h.elim

theorem vNilSl_mono {C : Ctx} {op : BinOp} {t : TypeId} {x : V} {L : List Blk} {k k' : V → Prop} (h : vNilSl C op t x L k) (hk : ∀ v, k v → k' v) : vNilSl C op t x L k' := by
  have q : ∀ {q q' : Bool → Prop}, (∀ b, q b → q' b) → vNilQ x L q → vNilQ x L q' := by
    intro q q' hq h
    have n : ∀ {n : Nat}, NilP n q → NilP n q' := fun h => by unfold NilP at h ⊢; exact ⟨fun h0 => hq _ (h.1 h0), hq _ h.2⟩
    unfold vNilQ at h ⊢
    split at h
    · exact hq _ h
    · exact n h
    · split at h
      · rename_i b gen lo len _ _ gen' _ _ _
        cases hb : Nat.beq gen gen' with
        | false => simp [hb] at h
        | true => simp only [hb, cond_true] at h ⊢; exact n h
      · exact h.elim
    · exact h.elim
  unfold vNilSl at h ⊢
  split at h
  · split at h
    · split at h
      · exact q (fun b hb => hk _ hb) h
      · exact q (fun b hb => hk _ hb) h
      · exact h.elim
    · exact h.elim
  · exact h.elim
theorem vOp_mono {C : Ctx} {o : Oper} {fr : List (Nat × V)} {L : List Blk} {k k' : V → List Blk → Prop} (h : vOp C o fr L k) (hk : ∀ X L', k X L' → k' X L') : vOp C o fr L k' := by
  cases hc : isCall o.op with
  | false =>
    obtain ⟨p, v, M, hd⟩ := vOp_det C o fr L hc
    have := (hd k).1 h
    exact (hd k').2 ⟨this.1, hk _ _ this.2⟩
  | true =>
    unfold isCall at hc
    split at hc
    · rename_i c hop
      split at hc
      · rename_i f hcal
        unfold vOp at h ⊢
        simp only [hop, hcal] at h ⊢
        exact vCallV_mono h hk
      · cases hc
    · rename_i op t x y u hop
      unfold vOp at h ⊢
      simp only [hop, hc] at h ⊢
      exact vNilSl_mono h fun v hv => hk v L hv
    · cases hc

/-! ### What an operation looks at -/
section
variable {C : Ctx} {fr fr' : List (Nat × V)} {L : List Blk} {k : V → List Blk → Prop}

theorem ev_congr {x : Operand} (h : ∀ t, x = .tmp t → look fr t = look fr' t) : ev fr x = ev fr' x := by
  cases x with
  | tmp t => simp only [ev, h t rfl]
  | _ => rfl
theorem evB_congr {x : Operand} (h : ∀ t, x = .tmp t → look fr t = look fr' t) : evB fr x = evB fr' x := by
  cases x with
  | tmp t => simp only [evB, h t rfl]
  | const v =>
    cases v <;> try rfl
    rename_i b
    cases b <;> rfl
  | _ => rfl

theorem vOp_congr {o : Oper} (h : ∀ t, Operand.tmp t ∈ o.op.operands.toList → look fr t = look fr' t) : vOp C o fr L k = vOp C o fr' L k := by
  have hev : ∀ x, x ∈ o.op.operands.toList → ev fr x = ev fr' x := fun x hx => ev_congr fun t ht => h t (ht ▸ hx)
  have hevB : ∀ x, x ∈ o.op.operands.toList → evB fr x = evB fr' x := fun x hx => evB_congr fun t ht => h t (ht ▸ hx)
  unfold vOp
  cases ho : o.op
  all_goals rw [ho] at hev hevB
  case move x => simp only [hevB x (by simp [Op.operands])]
  case assign x => simp only [hevB x (by simp [Op.operands])]
  case pick c a b => simp only [hevB a (by simp [Op.operands]), hevB b (by simp [Op.operands]), hevB c (by simp [Op.operands])]
  case box t x => simp only [hev x (by simp [Op.operands])]
  case build t ps =>
    have : ps.toList.map (fun p => (p.1, ev fr p.2)) = ps.toList.map fun p => (p.1, ev fr' p.2) :=
      List.map_congr_left fun p hp => by rw [hev p.2 (by simp only [Op.operands, List.mem_map]; exact ⟨p, hp, rfl⟩)]
    simp only [this]
  case buildSlice t len ps =>
    have : ps.toList.map (fun p => (p.1, ev fr p.2)) = ps.toList.map fun p => (p.1, ev fr' p.2) :=
      List.map_congr_left fun p hp => by rw [hev p.2 (by simp only [Op.operands, List.mem_map]; exact ⟨p, hp, rfl⟩)]
    simp only [this]
  case load t x => simp only [hev x (by simp [Op.operands])]
  case store t x y => simp only [hev x (by simp [Op.operands]), hev y (by simp [Op.operands])]
  case nilCheck x => simp only [hev x (by simp [Op.operands])]
  case binOp op t x y u => simp only [hev x (by simp [Op.operands]), hev y (by simp [Op.operands])]
  case unOp op t x => simp only [hevB x (by simp [Op.operands])]
  case fieldAddr s x f => simp only [hev x (by simp [Op.operands])]
  case field s x f => simp only [hev x (by simp [Op.operands])]
  case indexAddr t x i => simp only [hev x (by simp [Op.operands]), hev i (by simp [Op.operands])]
  case extract x i => simp only [hev x (by simp [Op.operands])]
  case slice t x lo hi mx =>
    have h1 : lo.map (ev fr) = lo.map (ev fr') := by cases lo with | none => rfl | some y => simp only [Option.map_some, hev y (by simp [Op.operands])]
    have h2 : hi.map (ev fr) = hi.map (ev fr') := by cases hi with | none => rfl | some y => simp only [Option.map_some, hev y (by simp [Op.operands])]
    have h3 : mx.map (ev fr) = mx.map (ev fr') := by cases mx with | none => rfl | some y => simp only [Option.map_some, hev y (by simp [Op.operands])]
    simp only [hev x (by simp [Op.operands]), h1, h2, h3]
  case makeMap t r => cases r <;> rfl
  case lookup t x i ok => simp only [hev x (by simp [Op.operands]), hev i (by simp [Op.operands])]
  case mapUpdate t m x v => simp only [hev m (by simp [Op.operands]), hev x (by simp [Op.operands]), hev v (by simp [Op.operands])]
  case insert t m x v => simp only [hev m (by simp [Op.operands]), hev x (by simp [Op.operands]), hev v (by simp [Op.operands])]
  case makeFunc fn first caps =>
    have : caps.toList.map (ev fr) = caps.toList.map (ev fr') := List.map_congr_left fun p hp => hev p (by simp only [Op.operands, Array.toList_append, List.mem_append]; exact .inr hp)
    cases fn <;> simp only [this]
  case call c =>
    obtain ⟨cal, args, tys⟩ := c
    have hm : ∀ x, x ∈ args.toList → ev fr x = ev fr' x := fun p hp => hev p (by simp only [Op.operands, Call.operands, Array.toList_append, List.mem_append]; exact .inr hp)
    have ha : args.toList.map (ev fr) = args.toList.map (ev fr') := List.map_congr_left hm
    cases cal with
    | value f => simp only [ha, hev f (by simp [Op.operands, Call.operands])]
    | invoke r m => dsimp only []
    | builtin b =>
      cases b <;> dsimp only []
      case len =>
        split
        · rename_i x t h1 h2
          rw [hm x (by rw [h1]; simp)]
        · rfl
      case append =>
        split
        · rename_i x y t t' h1 h2
          rw [hm x (by rw [h1]; simp), hm y (by rw [h1]; simp)]
        · rfl
      case clear =>
        split
        · rename_i x t h1 h2
          rw [hm x (by rw [h1]; simp)]
        · rfl

/-! ### Operations that look at no memory -/
def isPure : Op → Bool
  | .move _ | .assign _ | .pick .. | .build .. | .nilCheck _ | .unOp .. | .fieldAddr .. | .field .. | .extract .. | .makeFunc .. => true
  | .binOp _ _ _ y _ => !isNilSl y
  | _ => false

def Pu (f : List Blk → (V → List Blk → Prop) → Prop) : Prop := ∃ (p : Prop) (v : V), ∀ L k, f L k ↔ (p ∧ k v L)
theorem Pu.no : Pu (fun _ _ => False) := ⟨False, .poison, fun L k => by simp⟩
theorem Pu.ret (v : V) : Pu (fun L k => k v L) := ⟨True, v, fun L k => by simp⟩
theorem Pu.need {p : Prop} {f : List Blk → (V → List Blk → Prop) → Prop} (h : Pu f) : Pu (fun L k => Need p (f L k)) := by
  obtain ⟨q, v, h⟩ := h
  exact ⟨p ∧ q, v, fun L k => ⟨fun hn => ⟨⟨hn.out.1, ((h L k).1 hn.out.2).1⟩, ((h L k).1 hn.out.2).2⟩, fun hn => Need.intro hn.1.1 ((h L k).2 ⟨hn.1.2, hn.2⟩)⟩⟩
theorem Pu.bif {b : Bool} {f : List Blk → (V → List Blk → Prop) → Prop} (h : Pu f) : Pu (fun L k => bif b then f L k else False) := by
  cases b
  · exact Pu.no
  · exact h
theorem Pu.br {t : Bool} {f : Bool → List Blk → (V → List Blk → Prop) → Prop} (h : ∀ b, Pu (f b)) : Pu (fun L k => Br t fun b => f b L k) := by
  obtain ⟨q, v, h⟩ := h t
  exact ⟨q, v, fun L k => ⟨fun hb => (h L k).1 hb.out, fun hb => Br.lit t rfl ((h L k).2 hb)⟩⟩

theorem vFieldAddr_pu (C : Ctx) (s : TypeId) (x : V) (f : Nat) : Pu (fun L k => vFieldAddr C s x f fun v => k v L) := by
  unfold vFieldAddr
  repeat' (first | exact Pu.no | exact Pu.ret _ | apply Pu.need | apply Pu.bif | (apply Pu.br; intro _) | split)
theorem vBin_pu (C : Ctx) (op : BinOp) (t : TypeId) (x y : V) : Pu (fun L k => vBin C op t x y fun v => k v L) := by
  unfold vBin intBin strBin
  repeat' (first | exact Pu.no | exact Pu.ret _ | apply Pu.need | apply Pu.bif | (apply Pu.br; intro _) | split)
theorem vUn_pu (op : UnOp) (x : V) : Pu (fun L k => vUn op x fun v => k v L) := by
  unfold vUn
  repeat' (first | exact Pu.no | exact Pu.ret _ | apply Pu.need | apply Pu.bif | (apply Pu.br; intro _) | split)
theorem vBuild_pu (C : Ctx) (t : TypeId) (ps : List (Nat × V)) : Pu (fun L k => vBuild C t ps fun v => k v L) := by
  unfold vBuild
  repeat' (first | exact Pu.no | exact Pu.ret _ | apply Pu.need | apply Pu.bif | (apply Pu.br; intro _) | split)

theorem vOp_pu (C : Ctx) (o : Oper) (fr : List (Nat × V)) (hc : isPure o.op = true) : Pu (fun L k => vOp C o fr L k) := by
  unfold vOp
  cases h : o.op
  all_goals first | (rw [h] at hc; cases hc; done) | skip
  case binOp op t x y u =>
    rw [h] at hc
    simp only [isPure, Bool.not_eq_true'] at hc
    dsimp only []
    rw [hc]
    exact vBin_pu _ _ _ _ _
  case makeFunc fn first caps =>
    cases fn <;> dsimp only []
    all_goals repeat' (first | exact Pu.no | exact Pu.ret _ | apply Pu.need | apply Pu.bif | (apply Pu.br; intro _) | split)
  all_goals try dsimp only []
  all_goals repeat' (first | exact Pu.no | exact Pu.ret _ | apply Pu.need | apply Pu.bif | (apply Pu.br; intro _) | exact vFieldAddr_pu _ _ _ _ | exact vBin_pu _ _ _ _ _ | exact vUn_pu _ _ | exact vBuild_pu _ _ _ | split)
end
theorem vPut_mono {n : Nat} {dst : Option Tmp} {fr : List (Nat × V)} {v : V} {K K' : List (Nat × V) → Prop} (h : vPut n dst fr v K) (hk : ∀ fr', K fr' → K' fr') : vPut n dst fr v K' := by
  unfold vPut at *
  simp only [V.force_eq] at *
  split at h
  · exact hk _ h
  · rename_i d
    cases hb : Nat.blt d n with
    | false => simp [hb] at h
    | true => simp only [hb, cond_true] at h ⊢; exact hk _ h

theorem vcOp1_mono {C : Ctx} {n : Nat} {all : List Oper} {o : Oper} {fr : List (Nat × V)} {L : List Blk} {K K' : List (Nat × V) → List Blk → Prop} (h : vcOp1 C n all o fr L K) (hk : ∀ fr' L', K fr' L' → K' fr' L') : vcOp1 C n all o fr L K' := by
  have ex : ∀ fr, (vOp C o fr L fun v L' => vPut n o.dst fr v fun fr' => K fr' L') → (vOp C o fr L fun v L' => vPut n o.dst fr v fun fr' => K' fr' L') := fun fr h => vOp_mono h fun v L' hp => vPut_mono hp fun fr' => hk fr' L'
  have sk : ∀ fr, (vPut n o.dst fr (.tup []) fun fr' => K fr' L) → (vPut n o.dst fr (.tup []) fun fr' => K' fr' L) := fun fr h => vPut_mono h fun fr' => hk fr' L
  unfold vcOp1 at *
  simp only [vOpF_eq] at *
  split at h
  · exact ex _ h
  · split at h
    · exact h.elim
    · split at h
      · split at h
        · exact ex _ h
        · exact sk _ h
      · split at h
        · exact ex _ h
        · exact sk _ h
      · rename_i t _
        have h := h.out
        refine Br.lit t rfl ?_
        split at h
        · exact ex _ h
        · exact ex _ h
        · exact sk _ h
        · exact sk _ h
      · exact sk _ h
      · exact h.elim
end Go.Tidy
