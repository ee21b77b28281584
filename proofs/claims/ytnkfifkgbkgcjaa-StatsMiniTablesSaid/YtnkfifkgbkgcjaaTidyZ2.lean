/-
  The base layer: what is asked behind a piece of code may be weakened; a loop's round, walked as it stands.
-/
import Derived.Test.YtnkfifkgbkgcjaaTidyZ
namespace Go.Tidy

section
variable {C : Ctx} {cut : Code → Bool} {k : Nat}

theorem vcOps_mono {n : Nat} {all : List Oper} : ∀ (l : List Oper) (fr : List (Nat × V)) (L : List Blk) (K K' : List (Nat × V) → List Blk → Prop), vcOps C n all l fr L K → (∀ fr' L', K fr' L' → K' fr' L') → vcOps C n all l fr L K'
  | [], _fr, _L, _K, _K', h, hk => hk _ _ h
  | _o :: l, _fr, _L, K, K', h, hk => vcOp1_mono h fun fr' L' h' => vcOps_mono l fr' L' K K' h' hk

theorem vOpsC_mono {n : Nat} {all : List Oper} : ∀ (l : List Oper) (fr : List (Nat × V)) (L : List Blk) (K K' : List (Nat × V) → List Blk → Prop), vOpsC C n all l fr L K → (∀ fr' L', K fr' L' → K' fr' L') → vOpsC C n all l fr L K'
  | [], _fr, _L, _K, _K', ⟨fr1, h1, h2⟩, hk => ⟨fr1, h1, hk _ _ h2⟩
  | _o :: l, _fr, _L, K, K', ⟨fr1, h1, h2⟩, hk => ⟨fr1, h1, vcOp1_mono h2 fun fr' L' h' => vOpsC_mono l fr' L' K K' h' hk⟩

theorem DrawP.mono {n : Nat} {ops : Array Oper} {fr : List (Nat × V)} {L : List Blk} {K K' : List (Nat × V) → List Blk → Prop} (h : DrawP C n ops fr L K) (hk : ∀ fr' L', K fr' L' → K' fr' L') : DrawP C n ops fr L K' := by
  unfold DrawP at *
  exact fun t => vOpsC_mono _ _ _ _ _ (h t) hk

theorem cutIf_mono {b : Bool} {f f' : (Exit → TS → Prop) → Prop} {Q Q' : Exit → TS → Prop} (hf : ∀ R R' : Exit → TS → Prop, (∀ e σ, R e σ → R' e σ) → f R → f' R') (hq : ∀ e σ, Q e σ → Q' e σ) (h : cutIf b k f Q) : cutIf b k f' Q' := by
  cases b with
  | false => exact hf _ _ hq h
  | true =>
    unfold cutIf at *
    simp only at *
    unfold CutP at *
    obtain ⟨ι, s, h1, h2⟩ := h
    refine ⟨ι, s, hf _ _ (fun e σ hr => ?_) h1, fun i => hq _ _ (h2 i)⟩
    cases e <;> first | exact hr | exact hq _ _ hr

theorem vCallF_mono {f : V} {args : List V} {L : List Blk} {q q' : V → List Blk → Prop} (h : vCallF C f args L q) (hq : ∀ X L', q X L' → q' X L') : vCallF C f args L q' := by
  unfold vCallF at *
  split at h
  · exact h.mono hq
  · exact h.mono hq
  · exact h.elim

theorem vRange_mono {f : Operand} {ps : Array Tmp} {assign body : Code} {σ : TS} {Q Q' : Exit → TS → Prop} (hq : ∀ e σ, Q e σ → Q' e σ) (h : vRange C f ps assign body σ Q) : vRange C f ps assign body σ Q' := by
  unfold vRange at *
  split at h
  · refine vCallF_mono h fun X L' h' => ?_
    split at h'
    · split at h'
      · exact h'
      · exact hq _ _ h'
      · split at h'
        · exact hq _ _ h'
        · exact h'
    · exact h'
  · split at h
    · refine vCallF_mono h fun X L' h' => ?_
      split at h'
      · split at h'
        · exact h'
        · exact hq _ _ h'
        · split at h'
          · exact hq _ _ h'
          · exact h'
      · exact h'
    · exact h

theorem LoopP.mono {body body' : TS → (Exit → TS → Prop) → Prop} {σ : TS} {Q Q' : Exit → TS → Prop} (hb : ∀ σ R R', (∀ e σ', R e σ' → R' e σ') → body σ R → body' σ R') (hq : ∀ e σ', Q e σ' → Q' e σ') (h : LoopP k body σ Q) : LoopP k body' σ Q' := by
  unfold LoopP at *
  obtain ⟨ι, s, lt, i0, wf, h0, h1⟩ := h
  refine ⟨ι, s, lt, i0, wf, h0, fun i => hb _ _ _ (fun e σ' hr => ?_) (h1 i)⟩
  cases e <;> first | exact hr | exact hq _ _ hr

theorem vc_mono : ∀ (c : Code) (σ : TS) (Q Q' : Exit → TS → Prop), (∀ e σ', Q e σ' → Q' e σ') → vc C cut k c σ Q → vc C cut k c σ Q' := by
  intro c
  induction c with
  | skip => exact fun σ Q Q' hq h => hq _ _ h
  | label _ => exact fun σ Q Q' hq h => hq _ _ h
  | region id ops drawn =>
    intro σ Q Q' hq h
    cases drawn with
    | false => exact cutIf_mono (fun R R' hr h => vcOps_mono _ _ _ _ _ h fun fr' L' h' => hr _ _ h') hq h
    | true => exact cutIf_mono (fun R R' hr h => DrawP.mono h fun fr' L' h' => hr _ _ h') hq h
  | seq a b iha ihb =>
    intro σ Q Q' hq h
    refine cutIf_mono (fun R R' hr h => iha _ _ _ (fun e σ' h' => ?_) h) hq h
    cases e <;> first | exact ihb _ _ _ hr h' | exact hr _ _ h'
  | cond c x y ihx ihy =>
    intro σ Q Q' hq h
    refine cutIf_mono (fun R R' hr h => ?_) hq h
    split at h
    · exact ihx _ _ _ hr h
    · exact ihy _ _ _ hr h
    · rename_i t _
      have h := h.out
      refine Br.lit t rfl ?_
      split at h
      · exact ihx _ _ _ hr h
      · exact ihy _ _ _ hr h
    · exact h
  | block id c ih =>
    intro σ Q Q' hq h
    refine cutIf_mono (fun R R' hr h => ih _ _ _ (fun e σ' h' => ?_) h) hq h
    cases e <;> first | exact hr _ _ h' | skip
    rename_i id'
    cases hb : Nat.beq id' id <;> simp only [hb] at h' ⊢ <;> exact hr _ _ h'
  | loop c ih => exact fun σ Q Q' hq h => LoopP.mono (fun σ R R' hr h => ih σ R R' hr h) hq h
  | rangeFunc f ps assign body _ _ => exact fun σ Q Q' hq h => vRange_mono hq h
  | exit id => exact fun σ Q Q' hq h => hq _ _ h
  | ret => exact fun σ Q Q' hq h => hq _ _ h
  | _ => intro σ Q Q' hq h; exact h.elim

/-- One round. -/
theorem LoopP.unroll' {body : TS → (Exit → TS → Prop) → Prop} {σ : TS} {Q : Exit → TS → Prop} (hb : ∀ σ R R', (∀ e σ', R e σ' → R' e σ') → body σ R → body σ R')
    (h : body σ fun e σ' => match e with | .normal => LoopP k body σ' Q | e => Q e σ') : LoopP k body σ Q := by
  let X := { σ' : TS // LoopP k body σ' Q }
  have op : ∀ x : X, ∃ (ι : Type) (s : ι → TS) (lt : ι → ι → Prop) (i0 : ι), WellFounded lt ∧ Weak k x.1 (s i0) ∧ ∀ i, body (s i) fun e σ' => match e with
    | .normal => ∃ j, lt j i ∧ Weak k σ' (s j)
    | e => Q e σ' := fun x => by have := x.2; unfold LoopP at this; exact this
  let ι : X → Type := fun x => Classical.choose (op x)
  have o1 := fun x => Classical.choose_spec (op x)
  let s : (x : X) → ι x → TS := fun x => Classical.choose (o1 x)
  have o2 := fun x => Classical.choose_spec (o1 x)
  let lt : (x : X) → ι x → ι x → Prop := fun x => Classical.choose (o2 x)
  have o3 := fun x => Classical.choose_spec (o2 x)
  let i0 : (x : X) → ι x := fun x => Classical.choose (o3 x)
  have o4 : ∀ x : X, WellFounded (lt x) ∧ Weak k x.1 (s x (i0 x)) ∧ ∀ i, body (s x i) fun e σ' => match e with
    | .normal => ∃ j, lt x j i ∧ Weak k σ' (s x j)
    | e => Q e σ' := fun x => Classical.choose_spec (o3 x)
  unfold LoopP
  let J := Option (Σ x : X, ι x)
  let S : J → TS := fun | none => σ | some ⟨x, i⟩ => s x i
  let lt' : J → J → Prop := fun a b => match a, b with
    | some a, some b => ∃ x i j, a = ⟨x, i⟩ ∧ b = ⟨x, j⟩ ∧ lt x i j
    | some _, none => True
    | none, _ => False
  have acc1 : ∀ (x : X) (i : ι x), Acc lt' (some ⟨x, i⟩) := by
    intro x i
    induction i using (o4 x).1.induction with
    | _ i ih =>
      refine ⟨_, fun b hb => ?_⟩
      cases b with
      | none => exact hb.elim
      | some b =>
        obtain ⟨x', i', j', rfl, h2, h3⟩ := hb
        cases h2
        exact ih _ h3
  refine ⟨J, S, lt', none, ⟨fun a => ?_⟩, Weak.refl _ _, fun a => ?_⟩
  · cases a with
    | some a => exact acc1 a.1 a.2
    | none =>
      refine ⟨_, fun b hb => ?_⟩
      cases b with
      | none => exact hb.elim
      | some b => exact acc1 b.1 b.2
  · cases a with
    | none =>
      refine hb _ _ _ (fun e σ' hr => ?_) h
      cases e <;> first | exact hr | skip
      exact ⟨some ⟨⟨σ', hr⟩, i0 ⟨σ', hr⟩⟩, trivial, (o4 ⟨σ', hr⟩).2.1⟩
    | some a =>
      obtain ⟨x, i⟩ := a
      refine hb _ _ _ (fun e σ' hr => ?_) ((o4 x).2.2 i)
      cases e <;> first | exact hr | skip
      obtain ⟨j, h1, h2⟩ := hr
      exact ⟨some ⟨x, j⟩, ⟨x, j, i, rfl, rfl, h1⟩, h2⟩

theorem LoopP.unroll {c : Code} {σ : TS} {Q : Exit → TS → Prop} (h : vc C cut k c σ fun e σ' => match e with | .normal => LoopP k (vc C cut k c) σ' Q | e => Q e σ') : LoopP k (vc C cut k c) σ Q :=
  LoopP.unroll' (fun σ R R' hr h => vc_mono c σ R R' hr h) h
end
end Go.Tidy
namespace Go.Tidy
/-- From one state to another: what is known of the slots, and of the first n blocks, stays. -/
theorem Weak.to {k : Nat} {σ σ' : TS} (n : Nat) (hL : σ.L.take n = σ'.L) (hk : k ≤ n) (hn : n ≤ σ.L.length) (hfr : SubF σ.fr σ'.fr) (h1 : σ'.n = σ.n := by rfl) (h2 : σ'.df = σ.df := by rfl) (h3 : σ'.ro = σ.ro := by rfl) (hf : belF n σ'.fr = true := by rfl) (hB : belB n σ'.L = true := by rfl)
    (hdf : σ.df.all (fun b => decide (b < n)) = true := by rfl) (hro : (match σ.ro with | some b => decide (b < n) | none => true) = true := by rfl) : Weak k σ σ' := by
  rcases σ' with ⟨fr', n', L', df', ro'⟩
  simp only at h1 h2 h3
  subst h1 h2 h3
  exact Weak.fd hfr hL hk hn hf hB hdf hro
/-- The blocks stay. -/
theorem Weak.by {k : Nat} {σ σ' : TS} (hfr : SubF σ.fr σ'.fr) (hL : σ.L = σ'.L := by rfl) (h1 : σ'.n = σ.n := by rfl) (h2 : σ'.df = σ.df := by rfl) (h3 : σ'.ro = σ.ro := by rfl) : Weak k σ σ' := by
  rcases σ' with ⟨fr', n', L', df', ro'⟩
  simp only at h1 h2 h3 hL
  subst h1 h2 h3 hL
  exact Weak.forget hfr
end Go.Tidy
