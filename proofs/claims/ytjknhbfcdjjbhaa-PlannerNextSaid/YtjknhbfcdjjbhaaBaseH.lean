import Derived.Test.YtjknhbfcdjjbhaaBaseG
/-
  The base layer: loops whose invariant is told apart from what it speaks of.
-/
namespace Go.Tidy
theorem LoopP.introI {k : Nat} {body : TS → (Exit → TS → Prop) → Prop} {σ : TS} {Q : Exit → TS → Prop} {α : Type} (I : α → Prop) (s : α → TS) (μ : α → Nat) (i0 : α) (hi0 : I i0) (h0 : Weak k σ (s i0))
    (h : ∀ i, I i → body (s i) fun e σ' => match e with
      | .normal => ∃ j, I j ∧ μ j < μ i ∧ Weak k σ' (s j)
      | e => Q e σ') (hb : ∀ σ R R', (∀ e σ', R e σ' → R' e σ') → body σ R → body σ R') : LoopP k body σ Q := by
  refine LoopP.intro (ι := { a : α // I a }) (fun a => s a.1) (fun a => μ a.1) ⟨i0, hi0⟩ h0 ?_
  intro a
  refine hb _ _ _ ?_ (h a.1 a.2)
  intro e σ' hr
  cases e with
  | normal => obtain ⟨j, hj, hm, hw⟩ := hr; exact ⟨⟨j, hj⟩, hm, hw⟩
  | _ => exact hr
theorem LoopP.inv {C : Ctx} {cut : Code → Bool} {c : Code} {k : Nat} {σ : TS} {Q : Exit → TS → Prop} {α : Type} (I : α → Prop) (s : α → TS) (μ : α → Nat) (i0 : α) (hi0 : I i0) (h0 : Weak k σ (s i0))
    (h : ∀ i, I i → vc C cut k c (s i) fun e σ' => match e with
      | .normal => ∃ j, I j ∧ μ j < μ i ∧ Weak k σ' (s j)
      | e => Q e σ') : LoopP k (vc C cut k c) σ Q :=
  LoopP.introI I s μ i0 hi0 h0 h fun σ R R' hr => vc_mono c σ R R' hr
end Go.Tidy
namespace Go.Tidy
section
variable {C : Ctx} {L L0 : List Blk}
theorem YieldP.embed [Quiet C] {b : Nat} {args : List V} {q k : V → List Blk → Prop} (bs : List Nat) (h : YieldP C b args L0 q) (hp : Part bs L0 L) (hb : b < L0.length) (ha : V.belL L0.length args = true)
    (hk : ∀ X L1, q X L1 → k (X.rn (rnI bs L.length)) (putB bs (rnB (rnI bs L.length) L1) L)) : YieldP C (rnI bs L.length b) (V.rnL (rnI bs L.length) args) L k := by
  rw [YieldP_q] at h ⊢
  intro g w vs l hg hv hy
  obtain ⟨f, tmps, assign, body, h1, h2⟩ := h _ w vs l (hp.good hg) ⟨by rw [← hv.1, V.rnL_len], fun j x v hx hvj => (hv.2 j (x.rn _) v (by rw [V.rnL_get, hx]; rfl) hvj).dn hp.emb x rfl (V.belL_get ha hx)⟩
    (hy.dn hp.emb (.yld b) rfl (by simpa [V.bel] using hb))
  refine ⟨f, tmps, assign, body, h1, RoundIn.mono h2 ?_⟩
  rintro e w' ⟨v, X, L1, g1, he, hX, hr, hg1, hpr⟩
  obtain ⟨h0, h1, h2⟩ := hp.fin hg hg1 hpr
  exact ⟨v, _, _, _, he, hk X L1 hX, hr.up h0, h1, h2⟩

theorem rnF_id {ρ : Nat → Nat} {k : Nat} (hρ : ∀ b, b < k → ρ b = b) : ∀ fr : List (Nat × V), belF k fr = true → rnF ρ fr = fr
  | [], _ => rfl
  | p :: r, h => by simp only [belF, Bool.and_eq_true] at h; simp only [rnF, V.rn_id hρ _ h.1, rnF_id hρ r h.2]
theorem rnM_id {ρ : Nat → Nat} {k : Nat} (hρ : ∀ b, b < k → ρ b = b) : ∀ fr : List (V × V), belM k fr = true → rnM ρ fr = fr
  | [], _ => rfl
  | p :: r, h => by simp only [belM, Bool.and_eq_true] at h; simp only [rnM, V.rn_id hρ _ h.1.1, V.rn_id hρ _ h.1.2, rnM_id hρ r h.2]
theorem rnR_id {ρ : Nat → Nat} {k : Nat} (hρ : ∀ b, b < k → ρ b = b) : ∀ fr : List (List V), belR k fr = true → rnR ρ fr = fr
  | [], _ => rfl
  | p :: r, h => by simp only [belR, Bool.and_eq_true] at h; simp only [rnR, V.rnL_id hρ _ h.1, rnR_id hρ r h.2]
theorem Blk.rn_id {ρ : Nat → Nat} {k : Nat} (hρ : ∀ b, b < k → ρ b = b) (x : Blk) (h : x.bel k = true) : x.rn ρ = x := by
  cases x with
  | cells cs => simp only [Blk.bel] at h; simp only [Blk.rn, V.rnL_id hρ _ h]
  | row g sz els => simp only [Blk.bel] at h; simp only [Blk.rn, rnR_id hρ _ h]
  | map es => simp only [Blk.bel] at h; simp only [Blk.rn, rnM_id hρ _ h]
  | loop l =>
    simp only [Blk.bel, Bool.and_eq_true, decide_eq_true_eq] at h
    simp only [Blk.rn, rnF_id hρ _ h.1, hρ _ h.2]
  | defr => rfl
  | dead => rfl
theorem rnB_id {ρ : Nat → Nat} {k : Nat} (hρ : ∀ b, b < k → ρ b = b) : ∀ l : List Blk, belB k l = true → rnB ρ l = l
  | [], _ => rfl
  | p :: r, h => by simp only [belB, Bool.and_eq_true] at h; simp only [rnB, Blk.rn_id hρ _ h.1, rnB_id hρ r h.2]
theorem rnI_range {n N b : Nat} (hb : b < n) : rnI (List.range n) N b = b := by
  unfold rnI; rw [List.getElem?_range hb]
theorem putB_seg : ∀ (A0 A B E : List Blk), A.length = B.length → putB (List.range' A0.length A.length) B (A0 ++ (A ++ E)) = A0 ++ (B ++ E)
  | A0, [], [], E, _ => by simp [putB]
  | A0, a :: A, b :: B, E, h => by
    simp only [List.length_cons, List.range'_succ, putB]
    have e1 : (A0 ++ (a :: A ++ E)).set A0.length b = (A0 ++ [b]) ++ (A ++ E) := by simp
    have e2 : A0.length + 1 = (A0 ++ [b]).length := by simp
    rw [e1, e2, putB_seg (A0 ++ [b]) A B E (by simpa using h)]
    simp
theorem putB_range {S B E : List Blk} (h : B.length = S.length) : putB (List.range S.length) B (S ++ E) = B ++ E := by
  rw [List.range_eq_range']
  simpa using putB_seg [] S B E h.symm
theorem Part.pre {S E : List Blk} (hb : belB S.length S = true) (hd : dfB S = true) : Part (List.range S.length) S (S ++ E) := by
  refine ⟨List.nodup_range, fun b hb => ?_, by simp, fun b c hc => ?_, hb, hd⟩
  · have := List.mem_range.1 hb; rw [List.length_append]; omega
  · have hlt := lt_of_get hc
    rw [List.length_range] at hlt
    rw [List.getElem?_range hlt] at hc
    cases hc
    rw [List.getElem?_append_left hlt, List.getElem?_eq_getElem hlt]
    simp only [Option.map_some]
    rw [Blk.rn_id (k := S.length) (fun c hc => rnI_range hc) _ (belB_get hb (List.getElem?_eq_getElem hlt))]
theorem YieldP.frame [Quiet C] {b : Nat} {args : List V} {S E : List Blk} {q k : V → List Blk → Prop} (h : YieldP C b args S q) (hS : belB S.length S = true) (hd : dfB S = true) (hb : b < S.length) (ha : V.belL S.length args = true)
    (hk : ∀ X L1, q X L1 → L1.length = S.length ∧ belB S.length L1 = true ∧ X.bel S.length = true ∧ k X (L1 ++ E)) : YieldP C b args (S ++ E) k := by
  have hρ : ∀ c, c < S.length → rnI (List.range S.length) (S ++ E).length c = c := fun c hc => rnI_range hc
  have := YieldP.embed (k := k) (List.range S.length) h (Part.pre (E := E) hS hd) hb ha fun X L1 hX => by
    obtain ⟨h1, h2, h3, h4⟩ := hk X L1 hX
    rw [V.rn_id hρ _ h3, rnB_id hρ _ h2, putB_range h1]
    exact h4
  rw [hρ b hb, V.rnL_id hρ _ ha] at this
  exact this

def YR (N : Nat) (k : V → List Blk → Prop) (P : Prop) (M : List Blk) (v : V) (M' : List Blk) : Prop :=
  (v = .d (.bool true) ∧ M' = M ∧ P) ∨ (v = .d (.bool false) ∧ M'.length = N ∧ belB N M' = true ∧ k (.tup []) M')
def IterP (C : Ctx) (f : FuncId) (caps : List D) (xs : List (List V)) : Prop :=
  ∀ (b N : Nat) (P : Nat → Prop) (S : Nat → List Blk) (k : V → List Blk → Prop), (∀ i, (S i).length = N) → (∀ i, belB N (S i) = true) → (∀ i, dfB (S i) = true) → b < N →
    (∀ (i : Nat) (hi : i < xs.length), P i → YieldP C b xs[i] (S i) (YR N k (P (i + 1)) (S (i + 1)))) → (P xs.length → k (.tup []) (S xs.length)) → P 0 → CallP C f (.yld b :: caps.map .d) (S 0) k
theorem YR.frame [Quiet C] {b N : Nat} {args : List V} {S S' E : List Blk} {P : Prop} {k k' : V → List Blk → Prop} (h : YieldP C b args S (YR N k P S')) (hN : S.length = N) (hN' : S'.length = N) (hS : belB N S = true) (hS' : belB N S' = true) (hd : dfB S = true) (hb : b < N) (ha : V.belL N args = true)
    (h1 : ∀ M, M = S' ++ E → P → k' (.d (.bool true)) M) (h2 : ∀ Z M, M = Z ++ E → Z.length = N → belB N Z = true → k (.tup []) Z → k' (.d (.bool false)) M) : YieldP C b args (S ++ E) k' := by
  subst hN
  refine h.frame hS hd hb ha fun X L1 hX => ?_
  rcases hX with ⟨rfl, rfl, hP⟩ | ⟨rfl, hl, hb', hk⟩
  · exact ⟨hN', hS', rfl, h1 _ rfl hP⟩
  · exact ⟨hl, hb', rfl, h2 _ _ rfl hl hb' hk⟩
theorem YieldP.conv {b : Nat} {args : List V} {L L' : List Blk} {k : V → List Blk → Prop} (hL : L = L') (h : YieldP C b args L' k) : YieldP C b args L k := by subst hL; exact h
end
end Go.Tidy

/-
  The base layer: a part of the memory, in contexts in which calls may end by a panic.
-/
namespace Go.Tidy
section
variable {C : Ctx} {L L0 : List Blk}
theorem PanS.embed {bs : List Nat} {L' : List Blk} {g g1 : Gh} {w w' : World} {v : Value} {X : V} (hp : Part bs L0 L) (hid : ∀ b, b < C.pn → rnI bs L.length b = b) (hg : Good g w L)
    (h : PanS C L0.length (g.small (rnI bs L.length)) w L0 v X L' g1 w') : PanS C L.length g w L v X L' g1 w' := by
  have up : ∀ r, owned (g.small (rnI bs L.length)) L0 r → owned g L r := fun r ⟨b, hl, hm⟩ => ⟨_, hp.lives hl, hm⟩
  have imm : ∀ r, g1.I r → g.I r ∨ w.heap.size ≤ r ∨ owned (g.small (rnI bs L.length)) L0 r := fun r hr => h.prog.imm r hr
  have hpl : C.pn ≤ L.length := by
    rcases Nat.eq_zero_or_pos C.pn with e | hpos
    · omega
    · obtain ⟨c, _, h2, h3⟩ := hp.rn (b := C.pn - 1) (by have := h.hpn; omega)
      rw [hid _ (by omega)] at h2
      omega
  have same : ∀ b, b < C.pn → ∀ k : Blk, L[b]? = some k → ∃ k0, L0[b]? = some k0 ∧ k = k0.rn (rnI bs L.length) := fun b hb k hk => by
    obtain ⟨c, h1, h2, _⟩ := hp.rn (b := b) (by have := h.hpn; omega)
    rw [hid b hb] at h2
    subst h2
    have := hp.get b b h1
    rw [hk] at this
    obtain ⟨k0, e1, e2⟩ := map_some this.symm
    exact ⟨k0, e1, e2.symm⟩
  have defr : ∀ k0 : Blk, Blk.defr = k0.rn (rnI bs L.length) → k0 = .defr := fun k0 e => by
    cases k0 <;> simp only [Blk.rn, reduceCtorEq] at e
    rfl
  refine ⟨h.pan, hpl, h.rv, h.good, ⟨h.prog.env, h.prog.size, fun r o ho hn => h.prog.kept r o ho fun hh => hn (up r hh), fun r hr hs => up r (h.prog.own r hr hs), fun r hr => ?_, h.prog.immk, fun x v hb hx => ?_, fun b r hb hL hm => ?_, fun _ => h.prog.len h.hpn⟩, fun b q hb hL hm => ?_⟩
  · rcases imm r hr with h1 | h1 | h1
    · exact .inl h1
    · exact .inr (.inl h1)
    · exact .inr (.inr (up r h1))
  · exact h.prog.mono x v hb (hx.dn hp.emb x (V.rn_id hid x hb).symm (V.bel_le h.hpn _ hb))
  · obtain ⟨k0, h1, h2⟩ := same b hb _ hL
    rw [defr k0 h2] at h1
    exact h.prog.defr b r hb h1 (by rw [show (g.small (rnI bs L.length)).m b = g.m (rnI bs L.length b) from rfl, hid b hb]; exact hm)
  · have hlive : live L b := ⟨_, hL, by simp⟩
    by_cases hin : b ∈ bs
    · obtain ⟨b0, hb0⟩ := List.mem_iff_getElem?.1 hin
      have e := hp.get b0 b hb0
      rw [hL] at e
      obtain ⟨k0, e1, e2⟩ := map_some e.symm
      rw [defr k0 e2.symm] at e1
      have hb0' : b0 < L0.length := lt_of_get e1
      obtain ⟨c, h1, h2, _⟩ := hp.rn hb0'
      rw [hb0] at h1; cases h1
      exact h.df b0 q hb0' e1 (by rw [show (g.small (rnI bs L.length)).m b0 = g.m (rnI bs L.length b0) from rfl, h2]; exact hm)
    · have hno : ¬ owned (g.small (rnI bs L.length)) L0 q := by
        rintro ⟨b0, hl0, hm0⟩
        have := hg.inj _ _ q (hp.lives hl0) hlive hm0 hm
        obtain ⟨k0, hk0, _⟩ := hl0
        obtain ⟨c, h1, h2, _⟩ := hp.rn (lt_of_get hk0)
        rw [h2] at this
        exact hin (this ▸ List.mem_of_getElem? h1)
      have hlt := hg.owned_lt ⟨b, hlive, hm⟩
      obtain ⟨q', h1, h2⟩ := hg.blk b _ hL
      rw [hm] at h1; cases h1
      refine ⟨h.prog.kept q _ h2 hno, fun hI => ?_, fun ho => hno (h.prog.own q ho hlt)⟩
      rcases imm q hI with h3 | h3 | h3
      · exact hg.dis q ⟨b, hlive, hm⟩ h3
      · omega
      · exact hno h3

theorem CallP.embedP {f : FuncId} {args : List V} {q k : V → List Blk → Prop} (bs : List Nat) (h : CallP C f args L0 q) (hp : Part bs L0 L) (hid : ∀ b, b < C.pn → rnI bs L.length b = b) (ha : V.belL L0.length args = true)
    (hk : ∀ X L1, q X L1 → k (X.rn (rnI bs L.length)) (putB bs (rnB (rnI bs L.length) L1) L)) : CallP C f (V.rnL (rnI bs L.length) args) L k := by
  unfold CallP at h ⊢
  refine ⟨h.1, fun g w vs hg hv => (h.2 _ w vs (hp.good hg) ⟨by rw [← hv.1, V.rnL_len], fun j x v hx hvj => ?_⟩).mono ?_⟩
  · exact (hv.2 j (x.rn _) v (by rw [V.rnL_get, hx]; rfl) hvj).dn hp.emb x rfl (V.belL_get ha hx)
  · rintro e w' (⟨v, X, L1, g1, he, hX, hr, hg1, hpr⟩ | ⟨v, X, L', g1, he, hS⟩)
    · obtain ⟨h0, h1, h2⟩ := hp.fin hg hg1 hpr
      exact .inl ⟨v, _, _, _, he, hk X L1 hX, hr.up h0, h1, h2⟩
    · exact .inr ⟨v, X, L', g1, he, hS.embed hp hid hg⟩
theorem YieldP.embedP {b : Nat} {args : List V} {q k : V → List Blk → Prop} (bs : List Nat) (h : YieldP C b args L0 q) (hp : Part bs L0 L) (hid : ∀ b, b < C.pn → rnI bs L.length b = b) (hb : b < L0.length) (ha : V.belL L0.length args = true)
    (hk : ∀ X L1, q X L1 → k (X.rn (rnI bs L.length)) (putB bs (rnB (rnI bs L.length) L1) L)) : YieldP C (rnI bs L.length b) (V.rnL (rnI bs L.length) args) L k := by
  unfold YieldP at h ⊢
  intro g w vs l hg hv hy
  obtain ⟨f, tmps, assign, body, h1, h2⟩ := h _ w vs l (hp.good hg) ⟨by rw [← hv.1, V.rnL_len], fun j x v hx hvj => (hv.2 j (x.rn _) v (by rw [V.rnL_get, hx]; rfl) hvj).dn hp.emb x rfl (V.belL_get ha hx)⟩
    (hy.dn hp.emb (.yld b) rfl (by simpa [V.bel] using hb))
  refine ⟨f, tmps, assign, body, h1, RoundIn.mono h2 ?_⟩
  rintro e w' (⟨v, X, L1, g1, he, hX, hr, hg1, hpr⟩ | ⟨v, X, L', g1, he, hS⟩)
  · obtain ⟨h0, h1, h2⟩ := hp.fin hg hg1 hpr
    exact .inl ⟨v, _, _, _, he, hk X L1 hX, hr.up h0, h1, h2⟩
  · exact .inr ⟨v, X, L', g1, he, hS.embed hp hid hg⟩
theorem YieldP.frameP {b : Nat} {args : List V} {S E : List Blk} {q k : V → List Blk → Prop} (hpn : C.pn ≤ S.length) (h : YieldP C b args S q) (hS : belB S.length S = true) (hd : dfB S = true) (hb : b < S.length) (ha : V.belL S.length args = true)
    (hk : ∀ X L1, q X L1 → L1.length = S.length ∧ belB S.length L1 = true ∧ X.bel S.length = true ∧ k X (L1 ++ E)) : YieldP C b args (S ++ E) k := by
  have hρ : ∀ c, c < S.length → rnI (List.range S.length) (S ++ E).length c = c := fun c hc => rnI_range hc
  have := YieldP.embedP (k := k) (List.range S.length) h (Part.pre (E := E) hS hd) (fun c hc => hρ c (by omega)) hb ha fun X L1 hX => by
    obtain ⟨h1, h2, h3, h4⟩ := hk X L1 hX
    rw [V.rn_id hρ _ h3, rnB_id hρ _ h2, putB_range h1]
    exact h4
  rw [hρ b hb, V.rnL_id hρ _ ha] at this
  exact this
theorem CallP.frameP {f : FuncId} {args : List V} {S E : List Blk} {q k : V → List Blk → Prop} (hpn : C.pn ≤ S.length) (h : CallP C f args S q) (hS : belB S.length S = true) (hd : dfB S = true) (ha : V.belL S.length args = true)
    (hk : ∀ X L1, q X L1 → L1.length = S.length ∧ belB S.length L1 = true ∧ X.bel S.length = true ∧ k X (L1 ++ E)) : CallP C f args (S ++ E) k := by
  have hρ : ∀ c, c < S.length → rnI (List.range S.length) (S ++ E).length c = c := fun c hc => rnI_range hc
  have := CallP.embedP (k := k) (List.range S.length) h (Part.pre (E := E) hS hd) (fun c hc => hρ c (by omega)) ha fun X L1 hX => by
    obtain ⟨h1, h2, h3, h4⟩ := hk X L1 hX
    rw [V.rn_id hρ _ h3, rnB_id hρ _ h2, putB_range h1]
    exact h4
  rw [V.rnL_id hρ _ ha] at this
  exact this
theorem YR.frameP {b N : Nat} {args : List V} {S S' E : List Blk} {P : Prop} {k k' : V → List Blk → Prop} (hpn : C.pn ≤ N) (h : YieldP C b args S (YR N k P S')) (hN : S.length = N) (hN' : S'.length = N) (hS : belB N S = true) (hS' : belB N S' = true) (hd : dfB S = true) (hb : b < N) (ha : V.belL N args = true)
    (h1 : ∀ M, M = S' ++ E → P → k' (.d (.bool true)) M) (h2 : ∀ Z M, M = Z ++ E → Z.length = N → belB N Z = true → k (.tup []) Z → k' (.d (.bool false)) M) : YieldP C b args (S ++ E) k' := by
  subst hN
  refine h.frameP hpn hS hd hb ha fun X L1 hX => ?_
  rcases hX with ⟨rfl, rfl, hP⟩ | ⟨rfl, hl, hb', hk⟩
  · exact ⟨hN', hS', rfl, h1 _ rfl hP⟩
  · exact ⟨hl, hb', rfl, h2 _ _ rfl hl hb' hk⟩
def IterQ (C : Ctx) (f : FuncId) (caps : List D) (xs : List (List V)) : Prop :=
  ∀ (b N : Nat) (P : Nat → Prop) (S : Nat → List Blk) (k : V → List Blk → Prop), C.pn ≤ N → (∀ i, (S i).length = N) → (∀ i, belB N (S i) = true) → (∀ i, dfB (S i) = true) → b < N →
    (∀ (i : Nat) (hi : i < xs.length), P i → YieldP C b xs[i] (S i) (YR N k (P (i + 1)) (S (i + 1)))) → (P xs.length → k (.tup []) (S xs.length)) → P 0 → CallP C f (.yld b :: caps.map .d) (S 0) k
theorem IterQ.p {f : FuncId} {caps : List D} {xs : List (List V)} (h : IterQ C f caps xs) (hn : C.pn = 0) : IterP C f caps xs :=
  fun b N P S k h1 h2 h3 h4 h5 h6 h7 => h b N P S k (by omega) h1 h2 h3 h4 h5 h6 h7
theorem Ctx.OK.wp (h : C.OK) (pn : Nat) (pan : V → List Blk → Prop) : (C.wp pn pan).OK := ⟨h.ty, h.fs, h.ex⟩
theorem pre_len (S X : List Blk) {N : Nat} (h : S.length = N) : (S ++ X).length = N + X.length := by rw [List.length_append, h]
theorem pre_get (S X : List Blk) {N : Nat} (h : S.length = N) (i : Nat) : (S ++ X)[N + i]? = X[i]? := by
  rw [List.getElem?_append_right (by omega)]; congr 1; omega
theorem pre_get0 (S X : List Blk) {N : Nat} (h : S.length = N) : (S ++ X)[N]? = X[0]? := pre_get S X h 0
theorem pre_set (S X : List Blk) {N : Nat} (h : S.length = N) (i : Nat) (y : Blk) : (S ++ X).set (N + i) y = S ++ X.set i y := by
  rw [List.set_append, if_neg (by omega)]; congr 2; omega
theorem pre_set0 (S X : List Blk) {N : Nat} (h : S.length = N) (y : Blk) : (S ++ X).set N y = S ++ X.set 0 y := pre_set S X h 0 y
theorem pre_take (S X : List Blk) {N : Nat} (h : S.length = N) (i : Nat) : (S ++ X).take (N + i) = S ++ X.take i := by
  subst h; rw [List.take_length_add_append]
end
end Go.Tidy
