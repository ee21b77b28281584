import Derived.Test.YtjknhbfcdjjbhaaBaseF
/-
  The base layer: branches read off; contracts of functions that are handed a pointer.
-/
namespace Go.Tidy

theorem Br.tt {k : Bool → Prop} (h : k true) : Br true k := Br.intro (fun _ => h) (fun e => by cases e)
theorem Br.ff {k : Bool → Prop} (h : k false) : Br false k := Br.intro (fun e => by cases e) (fun _ => h)
theorem Br.dec {p : Prop} {_ : Decidable p} {k : Bool → Prop} (h1 : p → k true) (h2 : ¬ p → k false) : Br (decide p) k :=
  Br.intro (fun h => h1 (of_decide_eq_true h)) (fun h => h2 (of_decide_eq_false h))
theorem Br.not {t : Bool} {k : Bool → Prop} (h : Br t fun b => k (!b)) : Br (!t) k := by
  have := h.out
  cases t
  · exact Br.tt this
  · exact Br.ff this
theorem Br.nn {t : Bool} {k : Bool → Prop} (h : Br t k) : Br (!!t) k := by
  rw [Bool.not_not]; exact h
theorem Br.yes {t : Bool} {k : Bool → Prop} (ht : t = true) (h : k true) : Br t k := by subst ht; exact Br.tt h
theorem Br.no {t : Bool} {k : Bool → Prop} (ht : t = false) (h : k false) : Br t k := by subst ht; exact Br.ff h
section
variable {C : Ctx} {L L0 : List Blk}

theorem Part.one {b : Nat} {k0 k1 : Blk} (hb : L[b]? = some k1) (hr : k0.rn (rnI [b] L.length) = k1) (hbel : k0.bel 1 = true) (hdf : dfB [k0] = true) : Part [b] [k0] L := by
  refine ⟨by simp, fun c hc => ?_, rfl, fun b' c h => ?_, by simp [belB, hbel], hdf⟩
  · simp at hc; subst hc; exact lt_of_get hb
  · cases b' with
    | zero => simp at h; subst h; rw [hb, ← hr]; rfl
    | succ b' => simp at h

theorem CallP.at1 [Quiet C] {f : FuncId} {args0 args : List V} {k : V → List Blk → Prop} {b : Nat} {k0 k1 k0' : Blk} {x x' : V} (h : CallP C f args0 [k0] fun X L1 => L1 = [k1] ∧ X = x) (hb : L[b]? = some k0') (hr : k0.rn (rnI [b] L.length) = k0')
    (ha : V.belL 1 args0 = true) (hargs : V.rnL (rnI [b] L.length) args0 = args) (hk : k x' (L.set b (k1.rn (rnI [b] L.length)))) (hx : x.rn (rnI [b] L.length) = x') (hbel : k0.bel 1 = true) (hdf : dfB [k0] = true) : CallP C f args L k := by
  subst hargs hx
  refine CallP.embed [b] h (Part.one hb hr hbel hdf) ha fun X L1 ⟨h1, h2⟩ => ?_
  subst h1 h2
  simpa [putB, rnB] using hk

theorem V.rnL_d (ρ : Nat → Nat) : ∀ ds : List D, V.rnL ρ (ds.map .d) = ds.map .d
  | [] => rfl
  | y :: ys => by simp [V.rnL, V.rn, V.rnL_d ρ ys]
theorem V.belL_d (n : Nat) : ∀ ds : List D, V.belL n (ds.map .d) = true
  | [] => rfl
  | y :: ys => by simp [V.belL, V.bel, V.belL_d n ys]
end
end Go.Tidy

/-
  The base layer: what is asked behind a piece of code may be weakened; a loop's round, walked as it stands.
-/
namespace Go.Tidy

section
variable {C : Ctx} {cut : Code → Bool} {k : Nat}

theorem vcOps_mono {n : Nat} {all : List Oper} : ∀ (l : List Oper) (fr : List (Nat × V)) (L : List Blk) (K K' : List (Nat × V) → List Blk → Prop), vcOps C n all l fr L K → (∀ fr' L', K fr' L' → K' fr' L') → vcOps C n all l fr L K'
  | [], _fr, _L, _K, _K', h, hk => hk _ _ h
  | _o :: l, _fr, _L, K, K', h, hk => vcOp1_mono h fun fr' L' h' => vcOps_mono l fr' L' K K' h' hk

theorem vOpsC_mono {n : Nat} {all : List Oper} : ∀ (l : List Oper) (fr : List (Nat × V)) (L : List Blk) (K K' : List (Nat × V) → List Blk → Prop), vOpsC C n all l fr L K → (∀ fr' L', K fr' L' → K' fr' L') → vOpsC C n all l fr L K'
  | [], _fr, _L, _K, _K', ⟨fr1, h1, h2⟩, hk => ⟨fr1, h1, hk _ _ h2⟩
  | _o :: l, _fr, _L, K, K', ⟨fr1, h1, h2⟩, hk => ⟨fr1, h1, vcOp1_mono h2 fun fr' L' h' => vOpsC_mono l fr' L' K K' h' hk⟩

theorem DrawP.mono {n : Nat} {ops : Array Oper} {fr : List (Nat × V)} {L : List Blk} {K K' : List (Nat × V) → List Blk → Prop} (h : DrawP C n ops fr L K) (hk : ∀ fr' L', K fr' L' → K' fr' L') : DrawP C n ops fr L K' := by
  unfold DrawP at *
  exact fun t => vOpsC_mono _ _ _ _ _ (h t) hk

theorem cutIf_mono {b : Bool} {f f' : (Exit → TS → Prop) → Prop} {Q Q' : Exit → TS → Prop} (hf : ∀ R R' : Exit → TS → Prop, (∀ e σ, R e σ → R' e σ) → f R → f' R') (hq : ∀ e σ, Q e σ → Q' e σ) (h : cutIf b k f Q) : cutIf b k f' Q' := by
  cases b with
  | false => exact hf _ _ hq h
  | true =>
    unfold cutIf at *
    simp only at *
    unfold CutP at *
    obtain ⟨ι, s, h1, h2⟩ := h
    refine ⟨ι, s, hf _ _ (fun e σ hr => ?_) h1, fun i => hq _ _ (h2 i)⟩
    cases e <;> first | exact hr | exact hq _ _ hr

theorem vCallF_mono {f : V} {args : List V} {L : List Blk} {q q' : V → List Blk → Prop} (h : vCallF C f args L q) (hq : ∀ X L', q X L' → q' X L') : vCallF C f args L q' := by
  unfold vCallF at *
  split at h
  · exact h.mono hq
  · exact h.mono hq
  · exact h.elim

theorem vRange_mono {f : Operand} {ps : Array Tmp} {assign body : Code} {σ : TS} {Q Q' : Exit → TS → Prop} (hq : ∀ e σ, Q e σ → Q' e σ) (h : vRange C f ps assign body σ Q) : vRange C f ps assign body σ Q' := by
  unfold vRange at *
  split at h
  · refine vCallF_mono h fun X L' h' => ?_
    split at h'
    · split at h'
      · exact h'
      · exact hq _ _ h'
      · split at h'
        · exact hq _ _ h'
        · exact h'
    · exact h'
  · split at h
    · refine vCallF_mono h fun X L' h' => ?_
      split at h'
      · split at h'
        · exact h'
        · exact hq _ _ h'
        · split at h'
          · exact hq _ _ h'
          · exact h'
      · exact h'
    · exact h

theorem LoopP.mono {body body' : TS → (Exit → TS → Prop) → Prop} {σ : TS} {Q Q' : Exit → TS → Prop} (hb : ∀ σ R R', (∀ e σ', R e σ' → R' e σ') → body σ R → body' σ R') (hq : ∀ e σ', Q e σ' → Q' e σ') (h : LoopP k body σ Q) : LoopP k body' σ Q' := by
  unfold LoopP at *
  obtain ⟨ι, s, lt, i0, wf, h0, h1⟩ := h
  refine ⟨ι, s, lt, i0, wf, h0, fun i => hb _ _ _ (fun e σ' hr => ?_) (h1 i)⟩
  cases e <;> first | exact hr | exact hq _ _ hr

theorem vc_mono : ∀ (c : Code) (σ : TS) (Q Q' : Exit → TS → Prop), (∀ e σ', Q e σ' → Q' e σ') → vc C cut k c σ Q → vc C cut k c σ Q' := by
  intro c
  induction c with
  | skip => exact fun σ Q Q' hq h => hq _ _ h
  | label _ => exact fun σ Q Q' hq h => hq _ _ h
  | region id ops drawn =>
    intro σ Q Q' hq h
    cases drawn with
    | false => exact cutIf_mono (fun R R' hr h => vcOps_mono _ _ _ _ _ h fun fr' L' h' => hr _ _ h') hq h
    | true => exact cutIf_mono (fun R R' hr h => DrawP.mono h fun fr' L' h' => hr _ _ h') hq h
  | seq a b iha ihb =>
    intro σ Q Q' hq h
    refine cutIf_mono (fun R R' hr h => iha _ _ _ (fun e σ' h' => ?_) h) hq h
    cases e <;> first | exact ihb _ _ _ hr h' | exact hr _ _ h'
  | cond c x y ihx ihy =>
    intro σ Q Q' hq h
    refine cutIf_mono (fun R R' hr h => ?_) hq h
    split at h
    · exact ihx _ _ _ hr h
    · exact ihy _ _ _ hr h
    · rename_i t _
      have h := h.out
      refine Br.lit t rfl ?_
      split at h
      · exact ihx _ _ _ hr h
      · exact ihy _ _ _ hr h
    · exact h
  | block id c ih =>
    intro σ Q Q' hq h
    refine cutIf_mono (fun R R' hr h => ih _ _ _ (fun e σ' h' => ?_) h) hq h
    cases e <;> first | exact hr _ _ h' | skip
    rename_i id'
    cases hb : Nat.beq id' id <;> simp only [hb] at h' ⊢ <;> exact hr _ _ h'
  | loop c ih => exact fun σ Q Q' hq h => LoopP.mono (fun σ R R' hr h => ih σ R R' hr h) hq h
  | rangeFunc f ps assign body _ _ => exact fun σ Q Q' hq h => vRange_mono hq h
  | exit id => exact fun σ Q Q' hq h => hq _ _ h
  | scope c ih =>
    intro σ Q Q' hq h
    refine cutIf_mono (fun R R' hr h => ih _ _ _ (fun e σ' h' => ?_) h) hq h
    cases e <;> first | exact hr _ _ h' | exact h'
  | ret => exact fun σ Q Q' hq h => hq _ _ h
  | _ => intro σ Q Q' hq h; exact h.elim

theorem LoopP.unroll' {body : TS → (Exit → TS → Prop) → Prop} {σ : TS} {Q : Exit → TS → Prop} (hb : ∀ σ R R', (∀ e σ', R e σ' → R' e σ') → body σ R → body σ R')
    (h : body σ fun e σ' => match e with | .normal => LoopP k body σ' Q | e => Q e σ') : LoopP k body σ Q := by
  let X := { σ' : TS // LoopP k body σ' Q }
  have op : ∀ x : X, ∃ (ι : Type) (s : ι → TS) (lt : ι → ι → Prop) (i0 : ι), WellFounded lt ∧ Weak k x.1 (s i0) ∧ ∀ i, body (s i) fun e σ' => match e with
    | .normal => ∃ j, lt j i ∧ Weak k σ' (s j)
    | e => Q e σ' := fun x => by have := x.2; unfold LoopP at this; exact this
  let ι : X → Type := fun x => Classical.choose (op x)
  have o1 := fun x => Classical.choose_spec (op x)
  let s : (x : X) → ι x → TS := fun x => Classical.choose (o1 x)
  have o2 := fun x => Classical.choose_spec (o1 x)
  let lt : (x : X) → ι x → ι x → Prop := fun x => Classical.choose (o2 x)
  have o3 := fun x => Classical.choose_spec (o2 x)
  let i0 : (x : X) → ι x := fun x => Classical.choose (o3 x)
  have o4 : ∀ x : X, WellFounded (lt x) ∧ Weak k x.1 (s x (i0 x)) ∧ ∀ i, body (s x i) fun e σ' => match e with
    | .normal => ∃ j, lt x j i ∧ Weak k σ' (s x j)
    | e => Q e σ' := fun x => Classical.choose_spec (o3 x)
  unfold LoopP
  let J := Option (Σ x : X, ι x)
  let S : J → TS := fun | none => σ | some ⟨x, i⟩ => s x i
  let lt' : J → J → Prop := fun a b => match a, b with
    | some a, some b => ∃ x i j, a = ⟨x, i⟩ ∧ b = ⟨x, j⟩ ∧ lt x i j
    | some _, none => True
    | none, _ => False
  have acc1 : ∀ (x : X) (i : ι x), Acc lt' (some ⟨x, i⟩) := by
    intro x i
    induction i using (o4 x).1.induction with
    | _ i ih =>
      refine ⟨_, fun b hb => ?_⟩
      cases b with
      | none => exact hb.elim
      | some b =>
        obtain ⟨x', i', j', rfl, h2, h3⟩ := hb
        cases h2
        exact ih _ h3
  refine ⟨J, S, lt', none, ⟨fun a => ?_⟩, Weak.refl _ _, fun a => ?_⟩
  · cases a with
    | some a => exact acc1 a.1 a.2
    | none =>
      refine ⟨_, fun b hb => ?_⟩
      cases b with
      | none => exact hb.elim
      | some b => exact acc1 b.1 b.2
  · cases a with
    | none =>
      refine hb _ _ _ (fun e σ' hr => ?_) h
      cases e <;> first | exact hr | skip
      exact ⟨some ⟨⟨σ', hr⟩, i0 ⟨σ', hr⟩⟩, trivial, (o4 ⟨σ', hr⟩).2.1⟩
    | some a =>
      obtain ⟨x, i⟩ := a
      refine hb _ _ _ (fun e σ' hr => ?_) ((o4 x).2.2 i)
      cases e <;> first | exact hr | skip
      obtain ⟨j, h1, h2⟩ := hr
      exact ⟨some ⟨x, j⟩, ⟨x, j, i, rfl, rfl, h1⟩, h2⟩

theorem LoopP.unroll {c : Code} {σ : TS} {Q : Exit → TS → Prop} (h : vc C cut k c σ fun e σ' => match e with | .normal => LoopP k (vc C cut k c) σ' Q | e => Q e σ') : LoopP k (vc C cut k c) σ Q :=
  LoopP.unroll' (fun σ R R' hr h => vc_mono c σ R R' hr h) h
end
end Go.Tidy
namespace Go.Tidy
theorem Weak.to {k : Nat} {σ σ' : TS} (n : Nat) (hL : σ.L.take n = σ'.L) (hk : k ≤ n) (hn : n ≤ σ.L.length) (hfr : SubF σ.fr σ'.fr) (h1 : σ'.n = σ.n := by rfl) (h2 : σ'.df = σ.df := by rfl) (h3 : σ'.ro = σ.ro := by rfl) (hf : belF n σ'.fr = true := by rfl) (hB : belB n σ'.L = true := by rfl)
    (hdf : σ.df.all (fun b => decide (b < n)) = true := by rfl) (hro : (match σ.ro with | some b => decide (b < n) | none => true) = true := by rfl) : Weak k σ σ' := by
  rcases σ' with ⟨fr', n', L', df', ro'⟩
  simp only at h1 h2 h3
  subst h1 h2 h3
  exact Weak.fd hfr hL hk hn hf hB hdf hro
theorem Weak.by {k : Nat} {σ σ' : TS} (hfr : SubF σ.fr σ'.fr) (hL : σ.L = σ'.L := by rfl) (h1 : σ'.n = σ.n := by rfl) (h2 : σ'.df = σ.df := by rfl) (h3 : σ'.ro = σ.ro := by rfl) : Weak k σ σ' := by
  rcases σ' with ⟨fr', n', L', df', ro'⟩
  simp only at h1 h2 h3 hL
  subst h1 h2 h3 hL
  exact Weak.forget hfr
end Go.Tidy

/-
  The base layer: blocks dropped and numbered anew.
-/
namespace Go.Tidy

mutual
theorem V.rn_id {ρ : Nat → Nat} {k : Nat} (hρ : ∀ b, b < k → ρ b = b) : ∀ x : V, x.bel k = true → x.rn ρ = x
  | .own b _ _ _, h | .ptr b _, h | .eptr b _ _ _, h | .map b, h | .yld b, h => by
    simp only [V.bel, decide_eq_true_eq] at h
    simp only [V.rn, hρ b h]
  | .fn _ caps, h => by simp only [V.bel] at h; simp only [V.rn, V.rnL_id hρ caps h]
  | .iface _ x, h => by simp only [V.bel] at h; simp only [V.rn, V.rn_id hρ x h]
  | .agg cs, h => by simp only [V.bel] at h; simp only [V.rn, V.rnL_id hρ cs h]
  | .tup cs, h => by simp only [V.bel] at h; simp only [V.rn, V.rnL_id hρ cs h]
  | .poison, _ | .tt, _ | .ff, _ | .d _, _ | .nil, _ | .glob _, _ => rfl
theorem V.rnL_id {ρ : Nat → Nat} {k : Nat} (hρ : ∀ b, b < k → ρ b = b) : ∀ cs : List V, V.belL k cs = true → V.rnL ρ cs = cs
  | [], _ => rfl
  | x :: r, h => by
    simp only [V.belL, Bool.and_eq_true] at h
    simp only [V.rnL, V.rn_id hρ x h.1, V.rnL_id hρ r h.2]
end

section
variable {g : Gh} {w : World} {L L' : List Blk} {bs : List Nat} {k : Nat}

theorem Part.below (h : Part bs L' L) (hk : ∀ b, b < k → bs[b]? = some b) : (∀ b, b < k → rnI bs L.length b = b) ∧ k ≤ L'.length := by
  refine ⟨fun b hb => by unfold rnI; rw [hk b hb], ?_⟩
  rw [← h.len]
  rcases Nat.lt_or_ge bs.length k with hlt | hge
  · have := hk bs.length hlt
    simp at this
  · exact hge

theorem Part.prog (h : Part bs L' L) (hk : ∀ b, b < k → bs[b]? = some b) : Prog k g w L (g.small (rnI bs L.length)) w L' := by
  obtain ⟨hρ, hlen⟩ := h.below hk
  refine ⟨⟨rfl, rfl, rfl⟩, Nat.le_refl _, fun _ _ ho _ => ho, fun r ho _ => h.owns ho, fun r hr => .inl hr, fun r hr => hr, fun x v hx hv => ?_, fun b r hb hL hm => ?_, fun _ => hlen⟩
  · exact hv.dn h.emb x (V.rn_id hρ x hx).symm (V.bel_le hlen x hx)
  · have := h.get b b (hk b hb)
    rw [hL] at this
    obtain ⟨k0, e1, e2⟩ := map_some this.symm
    refine ⟨?_, by show g.m (rnI bs L.length b) = _; rw [hρ b hb]; exact hm⟩
    cases k0 <;> simp only [Blk.rn, reduceCtorEq] at e2
    exact e1

theorem FinP.part {X X' : V} {q : V → List Blk → Prop} (bs : List Nat) (L' : List Blk) (h : Part bs L' L) (hk : ∀ b, b < k → bs[b]? = some b) (hX : X'.rn (rnI bs L.length) = X) (hb : X'.bel L'.length = true) (hq : q X' L') : FinP k X L q := by
  unfold FinP
  refine ⟨X', L', fun g w v hg _ hv => ⟨_, h.good hg, hv.dn h.emb X' hX.symm hb, h.prog hk⟩, hq⟩

theorem Weak.part {σ σ' : TS} (bs : List Nat) (h : Part bs σ'.L σ.L) (hk : ∀ b, b < k → bs[b]? = some b) (hfr : SubF σ.fr (rnF (rnI bs σ.L.length) σ'.fr)) (hn : σ'.n = σ.n) (hf : belF σ'.L.length σ'.fr = true)
    (hdf : σ.df = σ'.df.map (rnI bs σ.L.length)) (hdb : ∀ b ∈ σ'.df, b < σ'.L.length) (hro : σ.ro = σ'.ro.map (rnI bs σ.L.length)) (hrb : ∀ b, σ'.ro = some b → b < σ'.L.length) : Weak k σ σ' := by
  intro r g a w hs
  have e := h.emb (g := g)
  have dn : ∀ (x : V) (v : Value), x.bel σ'.L.length = true → RV g w σ.L (x.rn (rnI bs σ.L.length)) v → RV (g.small (rnI bs σ.L.length)) w σ'.L x v := fun x v hx hv => hv.dn e x rfl hx
  refine ⟨g.small (rnI bs σ.L.length), ⟨hs.n.trans hn.symm, fun i => ?_, h.good hs.good, (h.below hk).2, ?_, fun i b d hb hd => ?_, fun lb hlb => ?_, fun hn => hs.ro' (by rw [hro, hn]; rfl)⟩, h.prog hk⟩
  · refine dn _ _ (belF_look hf i) ?_
    rw [← rnF_look]
    rcases hfr.look i with h0 | h0
    · rw [h0]; exact .poison _
    · exact norm_eq h0 (hs.fr i)
  · rw [hs.df, hdf]; simp
  · have hbl := hdb b (List.mem_of_getElem? hb)
    obtain ⟨q, h1, h2, h3⟩ := hs.dfs i (rnI bs σ.L.length b) d (by rw [hdf, List.getElem?_map, hb]; rfl) hd
    refine ⟨q, h1, h2, ?_⟩
    obtain ⟨c, c1, c2, _⟩ := h.rn hbl
    rw [c2, h.get b c c1] at h3
    obtain ⟨k0, e1, e2⟩ := map_some h3
    cases k0 <;> simp only [Blk.rn, reduceCtorEq] at e2
    exact e1
  · obtain ⟨l, h1, h2⟩ := hs.ro (rnI bs σ.L.length lb) (by rw [hro, hlb]; rfl)
    exact ⟨l, h1, dn (.yld lb) _ (by simp [V.bel, hrb lb hlb]) h2⟩
end
end Go.Tidy
namespace Go.Tidy
theorem MapF.ints {kk : IntKind} {es : List (V × V)} {n : Int} {k : Option (Nat × V) → Prop} (ks : List Int) (hks : es.map (·.1) = ks.map fun m => .d (.int kk m))
    (h : (∃ i v, ks[i]? = some n ∧ (∀ j, j < i → ks[j]? ≠ some n) ∧ es[i]? = some (.d (.int kk n), v) ∧ k (some (i, v))) ∨ (n ∉ ks ∧ k none)) : MapF (.int kk) es (.d (.int kk n)) k := by
  have hkey : ∀ j : Nat, (es[j]?).map (·.1) = (ks[j]?).map fun m => V.d (.int kk m) := fun j => by
    rw [← List.getElem?_map, ← List.getElem?_map, hks]
  have hok : ∀ kv ∈ es, keyV (.int kk) kv.1 = true := by
    intro kv hkv
    have : kv.1 ∈ es.map (·.1) := List.mem_map_of_mem hkv
    rw [hks] at this
    obtain ⟨m, _, hm⟩ := List.mem_map.1 this
    rw [← hm]
    cases kk <;> rfl
  rcases h with ⟨i, v, h1, h2, h3, h4⟩ | ⟨h1, h2⟩
  · refine MapF.hit i v hok h3 (fun j kv hj hkv he => ?_) h4
    have := hkey j
    rw [hkv] at this
    obtain ⟨m, e1, e2⟩ := map_some this.symm
    simp only [he] at e2
    cases e2
    exact h2 j hj e1
  · refine MapF.miss hok (fun kv hkv he => ?_) h2
    obtain ⟨j, hj⟩ := List.mem_iff_getElem?.1 hkv
    have := hkey j
    rw [hj] at this
    obtain ⟨m, e1, e2⟩ := map_some this.symm
    simp only [he] at e2
    cases e2
    exact h1 (List.mem_of_getElem? e1)
def firstAt (n : Int) : List Int → Nat → Bool
  | [], _ => false
  | m :: _, 0 => m == n
  | m :: r, i + 1 => m != n && firstAt n r i
theorem firstAt_ok {n : Int} : ∀ {ks : List Int} {i : Nat}, firstAt n ks i = true → ks[i]? = some n ∧ ∀ j, j < i → ks[j]? ≠ some n
  | [], _, h => by simp [firstAt] at h
  | m :: r, 0, h => by simp [firstAt] at h; subst h; exact ⟨rfl, fun j hj => by omega⟩
  | m :: r, i + 1, h => by
    simp [firstAt] at h
    obtain ⟨h1, h2⟩ := firstAt_ok h.2
    refine ⟨by simpa using h1, fun j hj => ?_⟩
    cases j with
    | zero => simpa using h.1
    | succ j => simpa using h2 j (by omega)
theorem MapF.at {kk : IntKind} {es : List (V × V)} {n : Int} {k : Option (Nat × V) → Prop} (ks : List Int) (i : Nat) (v : V) (hks : es.map (·.1) = ks.map fun m => .d (.int kk m)) (hi : firstAt n ks i = true) (hv : es[i]? = some (.d (.int kk n), v)) (h : k (some (i, v))) :
    MapF (.int kk) es (.d (.int kk n)) k :=
  MapF.ints ks hks (.inl ⟨i, v, (firstAt_ok hi).1, (firstAt_ok hi).2, hv, h⟩)
theorem MapF.no {kk : IntKind} {es : List (V × V)} {n : Int} {k : Option (Nat × V) → Prop} (ks : List Int) (hks : es.map (·.1) = ks.map fun m => .d (.int kk m)) (hn : n ∉ ks) (h : k none) : MapF (.int kk) es (.d (.int kk n)) k :=
  MapF.ints ks hks (.inr ⟨hn, h⟩)
end Go.Tidy
namespace Go.Tidy
theorem DrawP.go {C : Ctx} {n : Nat} {ops : Array Oper} {fr : List (Nat × V)} {L : List Blk} {K : List (Nat × V) → List Blk → Prop} (hm : C.P.follows .mixedOrders = true) (hst : stableB ops.toList (tblGo ops.toList []) = true)
    (h : qOps C n ops.toList ops.toList fr L K) : DrawP C n ops fr L K := DrawP.quiet hm _ hst h
end Go.Tidy
namespace Go.Tidy
theorem Weak.nilCell {k : Nat} {σ : TS} (b j sz : Nat) (cs : List V) (hb : σ.L[b]? = some (.cells cs)) (hj : cs[j]? = some .nil) (hsz : 0 < sz) :
    Weak k σ { σ with L := (σ.L ++ [Blk.row 0 sz []]).set b (.cells (cs.set j (.own σ.L.length 0 0 0))) } := by
  intro r g a w hs
  have hp := add_prog hs.good (Ext.refl w) (.row 0 sz []) none (fun q h => by cases h) 0
  have hg := add_good (k' := .row 0 sz []) hs.good (Ext.refl w) none (fun q h => by cases h) 0 ⟨hsz, by simp, .inl ⟨by simp [Gh.add], rfl⟩⟩
  have hbl := lt_of_get hb
  have hb1 : (σ.L ++ [Blk.row 0 sz []])[b]? = some (.cells cs) := by rw [List.getElem?_append_left hbl]; exact hb
  have S : Step (g.add σ.L.length none 0) w (σ.L ++ [Blk.row 0 sz []]) b (.cells (cs.set j (.own σ.L.length 0 0 0))) (g.add σ.L.length none 0) w := by
    refine ⟨hg, ⟨_, hb1, by simp⟩, by rw [hb1]; simp, ⟨rfl, rfl, rfl⟩, Nat.le_refl _, rfl, fun _ _ => rfl, fun _ _ => rfl, fun p o' hp hne => hp, fun r hr => .inl hr, ?_⟩
    exact ⟨fun cs0 e => .inr ⟨_, List.getElem?_set_self (by simp; omega), rfl⟩, fun gen sz els e => (by rw [hb1] at e; cases e), fun es e => (by rw [hb1] at e; cases e), fun l0 e => (by rw [hb1] at e; cases e), fun e => (by rw [hb1] at e; cases e)⟩
  have hrow : ((σ.L ++ [Blk.row 0 sz []]).set b (.cells (cs.set j (.own σ.L.length 0 0 0))))[σ.L.length]? = some (.row 0 sz []) := by
    rw [List.getElem?_set_ne (by omega), List.getElem?_append_right (Nat.le_refl _), Nat.sub_self]; rfl
  obtain ⟨q, cur, T, h1, h2, h3, h4, h5⟩ := hg.blk b _ hb1
  have hg2 := S.good' ⟨q, cur, T, h1, h2, by simpa using h3, h4, fun i x v hx hv => by
    rw [List.getElem?_set] at hx
    by_cases e : j = i
    · subst e
      rw [if_pos rfl] at hx
      split at hx
      · cases hx
        have hv' := h5 j .nil v hj hv
        cases hv' with
        | nil => exact .ownN _ _ sz [] hrow (by simp [Gh.add])
      · cases hx
    · rw [if_neg e] at hx
      exact S.mono (h5 i x v hx hv)⟩
  have hs' := (hs.prog hp hg).prog (L' := (σ.L ++ [Blk.row 0 sz []]).set b (.cells (cs.set j (.own σ.L.length 0 0 0)))) S.prog hg2
  exact ⟨_, hs', (hp.le hs.k (Nat.le_refl _)).trans (S.prog.le (by simp; exact Nat.le_succ_of_le hs.k) (Nat.le_refl _))⟩
end Go.Tidy
namespace Go.Tidy
theorem Weak.nilCellTo {k : Nat} {σ σ' : TS} (b j sz : Nat) (cs : List V) (hb : σ.L[b]? = some (.cells cs)) (hj : cs[j]? = some .nil) (hsz : 0 < sz) (hL : (σ.L ++ [Blk.row 0 sz []]).set b (.cells (cs.set j (.own σ.L.length 0 0 0))) = σ'.L)
    (hfr : SubF σ.fr σ'.fr) (h1 : σ'.n = σ.n := by rfl) (h2 : σ'.df = σ.df := by rfl) (h3 : σ'.ro = σ.ro := by rfl) : Weak k σ σ' := by
  have h := Weak.nilCell (k := k) (σ := σ) b j sz cs hb hj hsz
  rw [hL] at h
  refine h.trans (Weak.by hfr rfl h1 h2 h3)
theorem Cw.pair {S : Nat → Prop} {L : List Blk} {x x' y y' : V} (hx : Cw S L x x') (hy : Cw S L y y') : Cw S L (.tup [x, y]) (.tup [x', y']) := by
  refine .tup [x, y] [x', y'] rfl fun j a b ha hb => ?_
  match j with
  | 0 => simp at ha hb; subst ha hb; exact hx
  | 1 => simp at ha hb; subst ha hb; exact hy
  | j + 2 => simp at ha
theorem Cw.triple {S : Nat → Prop} {L : List Blk} {x x' y y' z z' : V} (hx : Cw S L x x') (hy : Cw S L y y') (hz : Cw S L z z') : Cw S L (.tup [x, y, z]) (.tup [x', y', z']) := by
  refine .tup [x, y, z] [x', y', z'] rfl fun j a b ha hb => ?_
  match j with
  | 0 => simp at ha hb; subst ha hb; exact hx
  | 1 => simp at ha hb; subst ha hb; exact hy
  | 2 => simp at ha hb; subst ha hb; exact hz
  | j + 3 => simp at ha
end Go.Tidy

/-
  The base layer: what data of a type look like.
-/
namespace Go.Tidy
section
variable {P : Program} {t : TypeId} {xs : List D}
theorem TyI.intI {k : IntKind} (h : TyI P t xs) (hu : P.underlying t = some (.int k)) : ∃ n : Int, xs = [.int k n] ∧ (Lit.int k n).wf = true := by
  cases h with
  | int h n hw => rw [hu] at h; cases h; exact ⟨n, rfl, hw⟩
  | bool h | str h | sl h | struct h => rw [hu] at h; cases h
theorem TyI.boolI (h : TyI P t xs) (hu : P.underlying t = some .bool) : ∃ b : Bool, xs = [.bool b] := by
  cases h with
  | bool h b => exact ⟨b, rfl⟩
  | int h | str h | sl h | struct h => rw [hu] at h; cases h
theorem TyI.strI (h : TyI P t xs) (hu : P.underlying t = some .string) : ∃ s : ByteArray, xs = [.str s] ∧ s.size ≤ maxLen := by
  cases h with
  | str h s hs => exact ⟨s, rfl, hs⟩
  | int h | bool h | sl h | struct h => rw [hu] at h; cases h
theorem TyI.slI {e : TypeId} (h : TyI P t xs) (hu : P.underlying t = some (.slice e)) : ∃ els : List (List D), xs = [.sl els] ∧ els.length ≤ maxLen ∧ ∀ y ∈ els, TyI P e y := by
  cases h with
  | sl h els hl hsz he => rw [hu] at h; cases h; exact ⟨els, rfl, hl, he⟩
  | int h | bool h | str h | struct h => rw [hu] at h; cases h
theorem TyI.structI {fs : Array Field} (h : TyI P t xs) (hu : P.underlying t = some (.struct fs)) : xs.length = P.cellsOf t ∧ ∀ f ∈ fs.toList, TyI P f.type ((xs.drop f.offset).take (P.cellsOf f.type)) := by
  cases h with
  | struct h xs hl hf => rw [hu] at h; cases h; exact ⟨hl, hf⟩
  | int h | bool h | str h | sl h => rw [hu] at h; cases h
theorem map_of {α β : Type} {f : α → β} : ∀ {l : List β}, (∀ y ∈ l, ∃ x, y = f x) → ∃ l' : List α, l = l'.map f
  | [], _ => ⟨[], rfl⟩
  | y :: l, h => by
    obtain ⟨x, rfl⟩ := h y (by simp)
    obtain ⟨l', rfl⟩ := map_of (l := l) fun z hz => h z (by simp [hz])
    exact ⟨x :: l', rfl⟩
theorem cat_parts {xs : List D} {n : Nat} : xs = xs.take n ++ xs.drop n := (List.take_append_drop n xs).symm
theorem wf_i64 {n : Int} (h : (Lit.int .i64 n).wf = true) : -9223372036854775808 ≤ n ∧ n ≤ 9223372036854775807 := by
  simp only [Lit.wf, Bool.and_eq_true, decide_eq_true_eq] at h
  exact h
end
end Go.Tidy

/-
  The base layer: a drawn region by some of its orders: what looks at no memory of the activation's own may go ahead of what writes there.
-/
namespace Go.Tidy
section
variable {C : Ctx} {n : Nat} {all : List Oper}

theorem vLoad_far {t : TypeId} {x : V} {k : V → Prop} (h : vLoad C t x [] k) (L : List Blk) : vLoad C t x L k := by
  unfold vLoad at h ⊢
  repeat' (first | exact h | (exfalso; exact h) | (split at h) )
  all_goals simp_all
theorem vIndexAddr_far {t : TypeId} {x i : V} {k : V → Prop} (h : vIndexAddr C t x i k []) (L : List Blk) : vIndexAddr C t x i k L := by
  unfold vIndexAddr at h ⊢
  repeat' (first | exact h | (exfalso; exact h) | (split at h) )
  all_goals simp_all
theorem vSlice_far {t : TypeId} {x : V} {lo hi mx : Option V} {k : V → Prop} (h : vSlice C t x lo hi mx [] k) (L : List Blk) : vSlice C t x lo hi mx L k := by
  unfold vSlice at h ⊢
  repeat' (first | exact h | (exfalso; exact h) | (split at h) )
  all_goals simp_all
theorem vLookup_far {t : TypeId} {x i : V} {ok : Bool} {k : V → Prop} (h : vLookup C t x i ok [] k) (L : List Blk) : vLookup C t x i ok L k := by
  unfold vLookup at h ⊢
  repeat' (first | exact h | (exfalso; exact h) | (split at h) )
  all_goals simp_all
theorem vLenL_far {t : TypeId} {x : V} {k : V → Prop} (h : vLenL C t x [] k) (L : List Blk) : vLenL C t x L k := by
  cases x with
  | own b gen lo len => unfold vLenL at h; simp at h
  | _ => exact h

def MapEq (L L2 : List Blk) : Prop := ∀ b : Nat, L[b]? = none ∨ L2[b]? = L[b]? ∨ ∃ es es' : List (V × V), L[b]? = some (.map es) ∧ L2[b]? = some (.map es')
theorem MapEq.refl (L : List Blk) : MapEq L L := fun _ => .inr (.inl rfl)
theorem MapEq.trans {L L2 L3 : List Blk} (h : MapEq L L2) (h' : MapEq L2 L3) : MapEq L L3 := fun b => by
  rcases h b with e | e | ⟨es, es', e1, e2⟩ <;> rcases h' b with e' | e' | ⟨fs, fs', e3, e4⟩
  · exact .inl e
  · exact .inl e
  · exact .inl e
  · exact .inl (e ▸ e')
  · exact .inr (.inl (e'.trans e))
  · exact .inr (.inr ⟨fs, fs', e ▸ e3, e4⟩)
  · rw [e2] at e'; cases e'
  · exact .inr (.inr ⟨es, es', e1, e'.trans e2⟩)
  · exact .inr (.inr ⟨es, fs', e1, e4⟩)
theorem MapEq.cells {L L2 : List Blk} (h : MapEq L L2) {b : Nat} {cs : List V} (hb : L[b]? = some (.cells cs)) : L2[b]? = some (.cells cs) := by
  rcases h b with e | e | ⟨es, es', e1, _⟩
  · rw [hb] at e; cases e
  · exact e.trans hb
  · rw [hb] at e1; cases e1
theorem MapEq.row {L L2 : List Blk} (h : MapEq L L2) {b g sz : Nat} {els : List (List V)} (hb : L[b]? = some (.row g sz els)) : L2[b]? = some (.row g sz els) := by
  rcases h b with e | e | ⟨es, es', e1, _⟩
  · rw [hb] at e; cases e
  · exact e.trans hb
  · rw [hb] at e1; cases e1
theorem MapEq.set {L : List Blk} {b : Nat} {es es' : List (V × V)} (hb : L[b]? = some (.map es)) : MapEq L (L.set b (.map es')) := fun c => by
  by_cases e : b = c
  · subst e
    exact .inr (.inr ⟨es, es', hb, by rw [List.getElem?_set_self (lt_of_get hb)]⟩)
  · exact .inr (.inl (List.getElem?_set_ne e))
theorem MapEq.push (L : List Blk) (x : Blk) : MapEq L (L ++ [x]) := fun c => by
  rcases Nat.lt_or_ge c L.length with h | h
  · exact .inr (.inl (List.getElem?_append_left h))
  · exact .inl (List.getElem?_eq_none h)
def CellEq (L L2 : List Blk) : Prop := ∀ (b : Nat) (cs : List V), L[b]? = some (.cells cs) → L2[b]? = some (.cells cs)
theorem CellEq.refl (L : List Blk) : CellEq L L := fun _ _ h => h
theorem CellEq.trans {L L2 L3 : List Blk} (h : CellEq L L2) (h' : CellEq L2 L3) : CellEq L L3 := fun b cs hb => h' b cs (h b cs hb)
theorem MapEq.cellEq {L L2 : List Blk} (h : MapEq L L2) : CellEq L L2 := fun _ _ hb => h.cells hb
theorem CellEq.set {L : List Blk} {b g sz : Nat} {els : List (List V)} {x : Blk} (hb : L[b]? = some (.row g sz els)) : CellEq L (L.set b x) := fun c cs hc => by
  by_cases e : b = c
  · subst e; rw [hb] at hc; cases hc
  · rw [List.getElem?_set_ne e]; exact hc
def vLoadC (C : Ctx) (t : TypeId) (x : V) (L : List Blk) (k : V → Prop) : Prop := match x with
  | .eptr .. => False
  | x => vLoad C t x L k
theorem vLoadC_load {t : TypeId} {x : V} {k : V → Prop} {L : List Blk} (h : vLoadC C t x L k) : vLoad C t x L k := by
  cases x <;> first | exact h | exact h.elim
theorem vLoadC_cellEq {t : TypeId} {x : V} {k : V → Prop} {L L2 : List Blk} (he : CellEq L L2) (h : vLoadC C t x L k) : vLoad C t x L2 k := by
  have h0 := vLoadC_load h
  unfold vLoadC at h
  unfold vLoad at h0 ⊢
  split at h0
  · exact h0
  · split at h0
    · split at h0
      · rename_i hb; simp only [he _ _ hb]; exact h0
      · exact h0.elim
    · exact h.elim
    · exact h0
    · exact h0.elim
theorem vLoad_mapEq {t : TypeId} {x : V} {k : V → Prop} {L L2 : List Blk} (he : MapEq L L2) (h : vLoad C t x L k) : vLoad C t x L2 k := by
  unfold vLoad at h ⊢
  split at h
  · exact h
  · split at h
    · split at h
      · rename_i hb; simp only [he.cells hb]; exact h
      · exact h.elim
    · split at h
      · rename_i hb; simp only [he.row hb]; exact h
      · exact h.elim
    · exact h
    · exact h.elim
theorem vIndexAddr_mapEq {t : TypeId} {x i : V} {k : V → Prop} {L L2 : List Blk} (he : MapEq L L2) (h : vIndexAddr C t x i k L) : vIndexAddr C t x i k L2 := by
  unfold vIndexAddr at h ⊢
  repeat' (first | exact h | (exfalso; exact h) | (split at h) )
  all_goals first | (rename_i hb; simp_all [he.row hb]; done) | simp_all
theorem vLenL_mapEq {t : TypeId} {x : V} {k : V → Prop} {L L2 : List Blk} (he : MapEq L L2) (h : vLenL C t x L k) : vLenL C t x L2 k := by
  cases x with
  | own b gen lo len =>
    unfold vLenL at h ⊢
    simp only at h ⊢
    split at h
    · rename_i hb; rw [he.row hb]; exact h
    · exact h.elim
  | _ => exact h
def isMapW : Op → Bool
  | .mapUpdate .. | .insert .. | .buildSlice .. => true
  | _ => false
def isCellK : Op → Bool
  | .mapUpdate .. | .insert .. | .buildSlice .. => true
  | .call c => match c.callee with | .builtin .append => true | _ => false
  | _ => false
theorem bif_out {b : Bool} {p : Prop} (h : bif b then p else False) : p := by cases b; exact h.elim; exact h
theorem vBuildSlice_mapEq {t : TypeId} {len : Nat} {ps : List (Nat × V)} {L L' : List Blk} {v : V} (h : vBuildSlice C t len ps L fun x M => x = v ∧ M = L') : MapEq L L' := by
  unfold vBuildSlice at h
  split at h
  · split at h
    · split at h
      · have h := bif_out h
        split at h
        · exact h.2 ▸ MapEq.push L _
        · exact h.elim
      · exact h.elim
    · exact h.elim
  · exact h.elim
theorem vSrc_out {sz : Nat} {x : V} {L : List Blk} {k : List (List V) → Prop} (h : vSrc L sz x k) : ∃ news, k news := by
  unfold vSrc at h
  split at h
  · exact ⟨_, h⟩
  · exact ⟨_, h.out.2⟩
  · split at h
    · exact ⟨_, bif_out h⟩
    · exact h.elim
  · exact h.elim
theorem vAppend_cellEq {t : TypeId} {s x : V} {L L' : List Blk} {v : V} (h : vAppend C t s x L fun x M => x = v ∧ M = L') : CellEq L L' := by
  unfold vAppend at h
  split at h
  · split at h
    · split at h
      · obtain ⟨news, h⟩ := vSrc_out (bif_out h)
        split at h
        · exact h.out.2.2 ▸ (MapEq.push L _).cellEq
        · split at h
          · rename_i hL
            have h := bif_out h
            exact h.out.2.2 ▸ CellEq.set hL
          · exact h.elim
        · exact h.elim
      · exact h.elim
    · exact h.elim
  · exact h.elim
theorem vMapUpdate_mapEq {t : TypeId} {m key x : V} {L L' : List Blk} (h : vMapUpdate C t m key x L fun M => M = L') : MapEq L L' := by
  unfold vMapUpdate at h
  split at h
  · split at h
    · split at h
      · rename_i ki _
        cases hb : keyV (keyTK C ki) key with
        | false => rw [hb] at h; exact h.elim
        | true =>
          simp only [hb, cond_true] at h
          split at h
          · rename_i b
            split at h
            · rename_i es hL
              unfold MapF at h
              rcases h with ⟨_, ⟨i, v, _, _, h⟩ | ⟨_, h⟩⟩
              · exact h ▸ MapEq.set hL
              · exact h ▸ MapEq.set hL
            · exact h.elim
          · exact h.elim
      · exact h.elim
    · exact h.elim
  · exact h.elim
theorem vOp_mapEq {o : Oper} {fr : List (Nat × V)} {L L' : List Blk} {v : V} (hm : isMapW o.op = true) (h : vOp C o fr L fun x M => x = v ∧ M = L') : MapEq L L' := by
  unfold vOp at h
  have key : ∀ (t : TypeId) (m key x : V), (vMapUpdate C t m key x L fun M => V.poison = v ∧ M = L') → MapEq L L' := fun t m key x h => by
    have h2 : vMapUpdate C t m key x L fun M => M = L' := by
      obtain ⟨p, u, N, hd⟩ := vMapUpdate_det C t m key x L
      have := (hd fun x M => x = v ∧ M = L').1 h
      exact (hd fun _ M => M = L').2 ⟨this.1, this.2.2⟩
    exact vMapUpdate_mapEq h2
  cases hop : o.op <;> rw [hop] at hm <;> first | (cases hm; done) | skip
  all_goals
    simp only [hop] at h
    first | exact key _ _ _ _ h | exact vBuildSlice_mapEq h
theorem vOp_cellEq {o : Oper} {fr : List (Nat × V)} {L L' : List Blk} {v : V} (hm : isCellK o.op = true) (h : vOp C o fr L fun x M => x = v ∧ M = L') : CellEq L L' := by
  cases hw : isMapW o.op with
  | true => exact (vOp_mapEq hw h).cellEq
  | false =>
    unfold vOp at h
    cases hop : o.op <;> rw [hop] at hm hw <;> first | (cases hm; done) | (cases hw; done) | skip
    rename_i c
    obtain ⟨cal, args, tys⟩ := c
    simp only [hop] at h
    simp only [isCellK] at hm
    cases cal with
    | value f => cases hm
    | invoke r m => cases hm
    | builtin b =>
      cases b <;> first | (cases hm; done) | skip
      simp only at h
      split at h
      · exact vAppend_cellEq (bif_out h)
      · exact h.elim

@[irreducible] def QCallW (f : (V → List Blk → Prop) → Prop) (k : V → List Blk → Prop) : Prop := ∃ v M, f (fun x N => x = v ∧ N = M) ∧ k v M
theorem QCallW.intro {f : (V → List Blk → Prop) → Prop} {k : V → List Blk → Prop} (v : V) (M : List Blk) (h : f fun x N => x = v ∧ N = M) (hk : k v M) : QCallW f k := by
  unfold QCallW; exact ⟨v, M, h, hk⟩
@[irreducible] def QCallK (f : (V → List Blk → Prop) → Prop) (L : List Blk) (k : V → List Blk → Prop) : Prop := ∃ v M, f (fun x N => x = v ∧ N = M) ∧ CellEq L M ∧ k v M
theorem QCallK.intro {f : (V → List Blk → Prop) → Prop} {L : List Blk} {k : V → List Blk → Prop} (v : V) (M : List Blk) (h : f fun x N => x = v ∧ N = M) (hc : CellEq L M) (hk : k v M) : QCallK f L k := by
  unfold QCallK; exact ⟨v, M, h, hc, hk⟩
def qOpL (C : Ctx) (md : Nat) (o : Oper) (fr : List (Nat × V)) (L : List Blk) (k : V → List Blk → Prop) : Prop :=
  match md with
  | 0 => qOp C o fr L k
  | 2 => QCallW (fun k => vOpF C o fr L k) k
  | 5 => QCallK (fun k => vOpF C o fr L k) L k
  | 1 => match o.op with
    | .call c => match c.callee with
      | .value f => match ev fr f with
        | .fn _ [] => Need (V.belL 0 (c.args.toList.map (ev fr)) = true) (QCall (fun k => vOpF C o fr [] k) [] fun v _ => Need (v.bel 0 = true) (k v L))
        | _ => False
      | .builtin .len => vOpF C o fr [] fun v _ => k v L
      | _ => False
    | .load _ _ => vOpF C o fr [] fun v _ => k v L
    | .indexAddr _ _ _ => vOpF C o fr [] fun v _ => k v L
    | .slice _ _ _ _ none => vOpF C o fr [] fun v _ => k v L
    | .lookup _ _ _ _ => vOpF C o fr [] fun v _ => k v L
    | _ => False
  | 3 => match o.op with
    | .call c => match c.callee with
      | .builtin .len => vOpF C o fr L k
      | _ => False
    | .load _ _ => vOpF C o fr L k
    | .indexAddr _ _ _ => vOpF C o fr L k
    | _ => False
  | 4 => match o.op with
    | .load _ a => match ev fr a with
      | .eptr .. => False
      | _ => vOpF C o fr L k
    | _ => False
  | _ => False
def MdEq (md : Nat) (L L2 : List Blk) : Prop := match md with | 3 => MapEq L L2 | 4 => CellEq L L2 | _ => L2 = L
theorem MdEq.refl (md : Nat) (L : List Blk) : MdEq md L L := by
  unfold MdEq; split
  · exact MapEq.refl L
  · exact CellEq.refl L
  · rfl
theorem MdEq.trans {md : Nat} {L L2 L3 : List Blk} (h : MdEq md L L2) (h' : MdEq md L2 L3) : MdEq md L L3 := by
  unfold MdEq at h h' ⊢
  split at h
  · exact MapEq.trans h h'
  · exact CellEq.trans h h'
  · split at h'
    · exact absurd rfl (by assumption)
    · exact absurd rfl (by assumption)
    · exact h ▸ h'
def mdW (md b : Nat) (op : Op) : Bool := match md with | 3 => isMapW op | 4 => isCellK op || Nat.beq b 5 | _ => false
theorem vOp_mdEq {md b : Nat} {o : Oper} {fr : List (Nat × V)} {L L' : List Blk} {v : V} (hm : mdW md b o.op = true) (hb : b ≠ 5) (h : vOp C o fr L fun x M => x = v ∧ M = L') : MdEq md L L' := by
  unfold mdW at hm
  split at hm
  · exact vOp_mapEq hm h
  · rw [Bool.or_eq_true] at hm
    exact vOp_cellEq (hm.resolve_right fun e => hb (Nat.eq_of_beq_eq_true e)) h
  · cases hm
mutual
theorem V.sh0 (n : Nat) : ∀ x : V, x.bel 0 = true → x.sh n = x
  | .own .., h | .ptr .., h | .eptr .., h | .map _, h | .yld _, h => by simp [V.bel] at h
  | .fn f caps, h => by simp only [V.bel] at h; simp only [V.sh, V.shL0 n caps h]
  | .iface t x, h => by simp only [V.bel] at h; simp only [V.sh, V.sh0 n x h]
  | .agg cs, h => by simp only [V.bel] at h; simp only [V.sh, V.shL0 n cs h]
  | .tup cs, h => by simp only [V.bel] at h; simp only [V.sh, V.shL0 n cs h]
  | .poison, _ | .tt, _ | .ff, _ | .d _, _ | .nil, _ | .glob _, _ => rfl
theorem V.shL0 (n : Nat) : ∀ cs : List V, V.belL 0 cs = true → V.shL n cs = cs
  | [], _ => rfl
  | x :: r, h => by
    simp only [V.belL, Bool.and_eq_true] at h
    simp only [V.shL, V.sh0 n x h.1, V.shL0 n r h.2]
end
theorem qOpL_out {md : Nat} {o : Oper} {fr : List (Nat × V)} {L : List Blk} {k : V → List Blk → Prop} (h : qOpL C md o fr L k) :
    ∃ v L', vOp C o fr L (fun x M => x = v ∧ M = L') ∧ k v L' ∧ (md ≠ 2 → md ≠ 5 → isWriter o.op = false → L' = L) ∧ (md = 5 → CellEq L L') ∧ (md = 1 → isWriter o.op = false ∧ ∀ L2, vOp C o fr L2 (fun x M => x = v ∧ M = L2)) ∧
      (md = 3 ∨ md = 4 → isWriter o.op = false ∧ ∀ L2, MdEq md L L2 → vOp C o fr L2 (fun x M => x = v ∧ M = L2)) := by
  unfold qOpL at h
  split at h
  · obtain ⟨v, L', h1, h2, h3⟩ := qOp_out h
    exact ⟨v, L', h1, h2, fun _ _ => h3, fun e => (by cases e), fun e => (by cases e), fun e => by rcases e with e | e <;> cases e⟩
  · unfold QCallW at h
    obtain ⟨v, M, h1, h2⟩ := h
    simp only [vOpF_eq] at h1
    exact ⟨v, M, h1, h2, fun e => absurd rfl e, fun e => (by cases e), fun e => (by cases e), fun e => by rcases e with e | e <;> cases e⟩
  · unfold QCallK at h
    obtain ⟨v, M, h1, h3, h2⟩ := h
    simp only [vOpF_eq] at h1
    exact ⟨v, M, h1, h2, fun _ e => absurd rfl e, fun _ => h3, fun e => (by cases e), fun e => by rcases e with e | e <;> cases e⟩
  · -- at no memory
    suffices hs : ∃ v L', vOp C o fr L (fun x M => x = v ∧ M = L') ∧ k v L' ∧ (1 ≠ 2 → isWriter o.op = false → L' = L) ∧ (1 = 1 → isWriter o.op = false ∧ ∀ L2, vOp C o fr L2 (fun x M => x = v ∧ M = L2)) by
      obtain ⟨v, L', h1, h2, h3, h4⟩ := hs
      exact ⟨v, L', h1, h2, fun e _ => h3 e, fun e => (by cases e), h4, fun e => by rcases e with e | e <;> cases e⟩
    simp only [vOpF_eq] at h
    have rd : isRead o.op = true → (∀ (v : V), vOp C o fr [] (fun x _ => x = v) → ∀ L2, vOp C o fr L2 (fun x M => x = v ∧ M = L2)) → vOp C o fr [] (fun v _ => k v L) → ∃ v L', vOp C o fr L (fun x M => x = v ∧ M = L') ∧ k v L' ∧ (1 ≠ 2 → isWriter o.op = false → L' = L) ∧ (1 = 1 → isWriter o.op = false ∧ ∀ L2, vOp C o fr L2 (fun x M => x = v ∧ M = L2)) := by
      intro hr far h
      obtain ⟨p, v, hd⟩ := vOp_rd C o fr [] (.inr hr)
      obtain ⟨h1, h2⟩ := (hd _).1 h
      have h3 : vOp C o fr [] fun x _ => x = v := (hd _).2 ⟨h1, rfl⟩
      exact ⟨v, L, far v h3 L, h2, fun _ _ => rfl, fun _ => ⟨by simp [isWriter, hr], far v h3⟩⟩
    split at h
    · rename_i c hop
      split at h
      · rename_i f hcal
        split at h
        · rename_i g hf
          obtain ⟨hb, h⟩ := h.out
          unfold QCall at h
          obtain ⟨v, h1, h2⟩ := h
          obtain ⟨h3, h4⟩ := h2.out
          have far : ∀ L2, vOp C o fr L2 (fun x M => x = v ∧ M = L2) := fun L2 => by
            unfold vOp at h1 ⊢
            simp only [hop, hcal, hf, vCallV, vCallF, List.append_nil] at h1 ⊢
            refine h1.frame hb fun X L' hX => ?_
            obtain ⟨rfl, rfl⟩ := hX
            exact ⟨V.sh0 _ _ h3, by simp [shB]⟩
          exact ⟨v, L, far L, h4, fun _ _ => rfl, fun _ => ⟨by simp [isWriter, hop, isCall, hcal], far⟩⟩
        · exact h.elim
      · rename_i hcal
        refine rd (by rw [hop]; simp [isRead, hcal]) (fun v h L2 => ?_) h
        unfold vOp at h ⊢
        simp only [hop, hcal] at h ⊢
        split at h
        · simp only [and_true]
          exact vLenL_far h L2
        · exact h.elim
      · exact h.elim
    · rename_i t a hop
      refine rd (by rw [hop]; rfl) (fun v h L2 => ?_) h
      unfold vOp at h ⊢
      simp only [hop, and_true] at h ⊢
      exact vLoad_far h L2
    · rename_i t x i hop
      refine rd (by rw [hop]; rfl) (fun v h L2 => ?_) h
      unfold vOp at h ⊢
      simp only [hop, and_true] at h ⊢
      exact vIndexAddr_far h L2
    · rename_i t x l1 l2 hop
      refine rd (by rw [hop]; rfl) (fun v h L2 => ?_) h
      unfold vOp at h ⊢
      simp only [hop] at h ⊢
      have h' := vSlice_far (lo := l1.map (ev fr)) (hi := l2.map (ev fr)) (mx := none) (k := fun x => x = v) h L2
      show vSlice C t (ev fr x) (l1.map (ev fr)) (l2.map (ev fr)) none L2 fun x => x = v ∧ L2 = L2
      simp only [and_true]
      exact h'
    · rename_i t x i ok hop
      refine rd (by rw [hop]; rfl) (fun v h L2 => ?_) h
      unfold vOp at h ⊢
      simp only [hop, and_true] at h ⊢
      exact vLookup_far h L2
    · exact h.elim
  · -- at no map
    simp only [vOpF_eq] at h
    have rd : isRead o.op = true → (∀ (v : V), vOp C o fr L (fun x _ => x = v) → ∀ L2, MapEq L L2 → vOp C o fr L2 (fun x M => x = v ∧ M = L2)) → vOp C o fr L k → ∃ v L', vOp C o fr L (fun x M => x = v ∧ M = L') ∧ k v L' ∧ (3 ≠ 2 → 3 ≠ 5 → isWriter o.op = false → L' = L) ∧ (3 = 5 → CellEq L L') ∧
        (3 = 1 → isWriter o.op = false ∧ ∀ L2, vOp C o fr L2 (fun x M => x = v ∧ M = L2)) ∧ (3 = 3 ∨ 3 = 4 → isWriter o.op = false ∧ ∀ L2, MdEq 3 L L2 → vOp C o fr L2 (fun x M => x = v ∧ M = L2)) := by
      intro hr far h
      obtain ⟨p, v, hd⟩ := vOp_rd C o fr L (.inr hr)
      obtain ⟨h1, h2⟩ := (hd _).1 h
      have h3 : vOp C o fr L fun x _ => x = v := (hd _).2 ⟨h1, rfl⟩
      exact ⟨v, L, far v h3 L (MapEq.refl L), h2, fun _ _ _ => rfl, fun e => (by cases e), fun e => (by cases e), fun _ => ⟨by simp [isWriter, hr], far v h3⟩⟩
    split at h
    · rename_i c hop
      split at h
      · rename_i hcal
        refine rd (by rw [hop]; simp [isRead, hcal]) (fun v h L2 he => ?_) h
        unfold vOp at h ⊢
        simp only [hop, hcal] at h ⊢
        split at h
        · simp only [and_true]
          exact vLenL_mapEq he h
        · exact h.elim
      · exact h.elim
    · rename_i t a hop
      refine rd (by rw [hop]; rfl) (fun v h L2 he => ?_) h
      unfold vOp at h ⊢
      simp only [hop, and_true] at h ⊢
      exact vLoad_mapEq he h
    · rename_i t x i hop
      refine rd (by rw [hop]; rfl) (fun v h L2 he => ?_) h
      unfold vOp at h ⊢
      simp only [hop, and_true] at h ⊢
      exact vIndexAddr_mapEq he h
    · exact h.elim
  · -- a load out of cells
    simp only [vOpF_eq] at h
    split at h
    · rename_i t a hop
      split at h
      · exact h.elim
      · rename_i hne
        obtain ⟨p, v, hd⟩ := vOp_rd C o fr L (.inr (by rw [hop]; rfl))
        obtain ⟨h1, h2⟩ := (hd _).1 h
        have h3 : vOp C o fr L fun x _ => x = v := (hd _).2 ⟨h1, rfl⟩
        refine ⟨v, L, (hd _).2 ⟨h1, rfl, rfl⟩, h2, fun _ _ _ => rfl, fun e => (by cases e), fun e => (by cases e), fun _ => ⟨by rw [hop]; rfl, fun L2 he => ?_⟩⟩
        unfold vOp at h3 ⊢
        simp only [hop, and_true] at h3 ⊢
        refine vLoadC_cellEq he ?_
        unfold vLoadC
        split
        · rename_i e; exact absurd e (by simpa using hne _ _ _ _)
        · exact h3
    · exact h.elim
  · exact h.elim
end
end Go.Tidy

/-
  The base layer: a drawn region by some of its orders: runs and their exchanges.
-/
namespace Go.Tidy
section
variable {C : Ctx} {n : Nat} {all : List Oper} {o : Oper} {fr : List (Nat × V)} {L : List Blk} {K : List (Nat × V) → List Blk → Prop}

def qOp1L (C : Ctx) (n : Nat) (all : List Oper) (md : Nat) (o : Oper) (fr : List (Nat × V)) (L : List Blk) (K : List (Nat × V) → List Blk → Prop) : Prop :=
  match o.guard with
  | none => qOpL C md o fr L fun v L' => vPut n o.dst fr v fun fr' => K fr' L'
  | some (j, want) =>
    match dstAt all j with
    | none => False
    | some d => match look fr d with
      | .tt => match want with
        | true => qOpL C md o fr L fun v L' => vPut n o.dst fr v fun fr' => K fr' L'
        | false => vPut n o.dst fr (.tup []) fun fr' => K fr' L
      | .ff => match want with
        | false => qOpL C md o fr L fun v L' => vPut n o.dst fr v fun fr' => K fr' L'
        | true => vPut n o.dst fr (.tup []) fun fr' => K fr' L
      | .d (.bool t) => Br t fun b => match b, want with
        | true, true => qOpL C md o ((d, .tt) :: fr) L fun v L' => vPut n o.dst ((d, .tt) :: fr) v fun fr' => K fr' L'
        | false, false => qOpL C md o ((d, .ff) :: fr) L fun v L' => vPut n o.dst ((d, .ff) :: fr) v fun fr' => K fr' L'
        | true, false => vPut n o.dst ((d, .tt) :: fr) (.tup []) fun fr' => K fr' L
        | false, true => vPut n o.dst ((d, .ff) :: fr) (.tup []) fun fr' => K fr' L
      | .tup [] => vPut n o.dst fr (.tup []) fun fr' => K fr' L
      | _ => False

structure PlX (C : Ctx) (n : Nat) (all : List Oper) (o : Oper) (fr : List (Nat × V)) (L : List Blk) (v : V) (ex : Bool) (L' : List Blk) : Prop where
  run : ex = true → vOp C o fr L fun x M => x = v ∧ M = L'
  skip : ex = false → v = .tup [] ∧ L' = L
  guard : match o.guard with | none => ex = true | some (j, want) => ∃ d, dstAt all j = some d ∧ (look fr d = (if ex == want then .tt else .ff) ∨ (look fr d = .tup [] ∧ ex = false))
  dst : ∀ d, o.dst = some d → Nat.blt d n = true
def isW (md : Nat) (op : Op) : Bool := Nat.beq md 2 || Nat.beq md 5 || isWriter op
def FarO (C : Ctx) (n : Nat) (all : List Oper) (o : Oper) (fr : List (Nat × V)) (v : V) (ex : Bool) : Prop := ∀ L, PlX C n all o fr L v ex L

def FarM (C : Ctx) (n : Nat) (all : List Oper) (md : Nat) (o : Oper) (fr : List (Nat × V)) (L : List Blk) (v : V) (ex : Bool) : Prop := ∀ L2, MdEq md L L2 → PlX C n all o fr L2 v ex L2
def FarK (C : Ctx) (n : Nat) (all : List Oper) (md : Nat) (o : Oper) (fr : List (Nat × V)) (L : List Blk) (v : V) (ex : Bool) (L' : List Blk) : Prop := (md = 3 ∨ md = 4 → FarM C n all md o fr L v ex) ∧ (md = 5 → CellEq L L')
theorem PlX.mdEq {v : V} {ex : Bool} {md b : Nat} {L' : List Blk} (h : PlX C n all o fr L v ex L') (hm : mdW md b o.op = true) (hb : b = 5 → CellEq L L') (ha : md = 3 ∨ md = 4) : MdEq md L L' := by
  by_cases b5 : b = 5
  · rcases ha with rfl | rfl
    · cases ex with
      | true => exact vOp_mapEq hm (h.run rfl)
      | false => rw [(h.skip rfl).2]; exact MdEq.refl 3 L
    · exact hb b5
  cases ex with
  | true => exact vOp_mdEq hm b5 (h.run rfl)
  | false => rw [(h.skip rfl).2]; exact MdEq.refl md L
theorem qOp1L_out {md : Nat} (h : qOp1L C n all md o fr L K) : ∃ fr1 v ex L', Eqv fr1 fr ∧ PlX C n all o fr1 L v ex L' ∧ (md = 1 → FarO C n all o fr1 v ex) ∧ FarK C n all md o fr1 L v ex L' ∧ (isW md o.op = false → L' = L) ∧ K (putF o.dst v fr1) L' := by
  unfold qOp1L at h
  have exec : ∀ fr1, Eqv fr1 fr → (match o.guard with | none => True | some (j, want) => ∃ d, dstAt all j = some d ∧ (look fr1 d = (if true == want then .tt else .ff) ∨ (look fr1 d = .tup [] ∧ true = false))) →
      (qOpL C md o fr1 L fun v L' => vPut n o.dst fr1 v fun fr' => K fr' L') → ∃ fr1 v ex L', Eqv fr1 fr ∧ PlX C n all o fr1 L v ex L' ∧ (md = 1 → FarO C n all o fr1 v ex) ∧ FarK C n all md o fr1 L v ex L' ∧ (isW md o.op = false → L' = L) ∧ K (putF o.dst v fr1) L' := by
    intro fr1 he hg h
    obtain ⟨v, L', h1, h2, h3, h8, h6, h7⟩ := qOpL_out h
    obtain ⟨h4, h5⟩ := vPut_out h2
    have hgd : match o.guard with | none => true = true | some (j, want) => ∃ d, dstAt all j = some d ∧ (look fr1 d = (if true == want then .tt else .ff) ∨ (look fr1 d = .tup [] ∧ true = false)) := by
      split
      · rfl
      · rename_i hgd; rw [hgd] at hg; exact hg
    refine ⟨fr1, v, true, L', he, ⟨fun _ => h1, fun h => (by cases h), hgd, h5⟩, fun hlo L2 => ⟨fun _ => (h6 hlo).2 L2, fun h => (by cases h), hgd, h5⟩, ⟨fun hlo L2 he => ⟨fun _ => (h7 hlo).2 L2 he, fun h => (by cases h), hgd, h5⟩, h8⟩, fun hw => ?_, h4⟩
    unfold isW at hw
    simp only [Bool.or_eq_false_iff] at hw
    exact h3 (fun e => by rw [e] at hw; cases hw.1.1) (fun e => by rw [e] at hw; cases hw.1.2) hw.2
  have skip : ∀ fr1, Eqv fr1 fr → (∃ j want, o.guard = some (j, want) ∧ ∃ d, dstAt all j = some d ∧ (look fr1 d = (if false == want then .tt else .ff) ∨ (look fr1 d = .tup [] ∧ false = false))) →
      (vPut n o.dst fr1 (.tup []) fun fr' => K fr' L) → ∃ fr1 v ex L', Eqv fr1 fr ∧ PlX C n all o fr1 L v ex L' ∧ (md = 1 → FarO C n all o fr1 v ex) ∧ FarK C n all md o fr1 L v ex L' ∧ (isW md o.op = false → L' = L) ∧ K (putF o.dst v fr1) L' := by
    rintro fr1 he ⟨j, want, hg, hd⟩ h
    obtain ⟨h4, h5⟩ := vPut_out h
    have hgd : match o.guard with | none => false = true | some (j, want) => ∃ d, dstAt all j = some d ∧ (look fr1 d = (if false == want then .tt else .ff) ∨ (look fr1 d = .tup [] ∧ false = false)) := by
      rw [hg]; exact hd
    exact ⟨fr1, .tup [], false, L, he, ⟨fun h => (by cases h), fun _ => ⟨rfl, rfl⟩, hgd, h5⟩, fun _ L2 => ⟨fun h => (by cases h), fun _ => ⟨rfl, rfl⟩, hgd, h5⟩, ⟨fun _ L2 _ => ⟨fun h => (by cases h), fun _ => ⟨rfl, rfl⟩, hgd, h5⟩, fun _ => CellEq.refl L⟩, fun _ => rfl, h4⟩
  cases hgd : o.guard with
  | none =>
    simp only [hgd] at h
    exact exec fr (Eqv.refl _) (by rw [hgd]; trivial) h
  | some jw =>
    obtain ⟨j, want⟩ := jw
    simp only [hgd] at h
    cases hd : dstAt all j with
    | none => simp [hd] at h
    | some d =>
      simp only [hd] at h
      split at h
      · rename_i hl
        cases want with
        | true => exact exec fr (Eqv.refl _) (by rw [hgd]; exact ⟨d, hd, .inl hl⟩) h
        | false => exact skip fr (Eqv.refl _) ⟨j, false, hgd, d, hd, .inl hl⟩ h
      · rename_i hl
        cases want with
        | false => exact exec fr (Eqv.refl _) (by rw [hgd]; exact ⟨d, hd, .inl hl⟩) h
        | true => exact skip fr (Eqv.refl _) ⟨j, true, hgd, d, hd, .inl hl⟩ h
      · rename_i t hl
        have h := h.out
        cases t with
        | true =>
          have he : Eqv ((d, .tt) :: fr) fr := fun s => by
            rw [look_cons]
            by_cases e : d = s
            · subst e; rw [if_pos rfl, hl]; exact VEq.tt.symm
            · rw [if_neg e]; exact VEq.refl _
          have hl' : look ((d, V.tt) :: fr) d = .tt := by rw [look_cons, if_pos rfl]
          cases want with
          | true => exact exec _ he (by rw [hgd]; exact ⟨d, hd, .inl hl'⟩) h
          | false => exact skip _ he ⟨j, false, hgd, d, hd, .inl hl'⟩ h
        | false =>
          have he : Eqv ((d, .ff) :: fr) fr := fun s => by
            rw [look_cons]
            by_cases e : d = s
            · subst e; rw [if_pos rfl, hl]; exact VEq.ff.symm
            · rw [if_neg e]; exact VEq.refl _
          have hl' : look ((d, V.ff) :: fr) d = .ff := by rw [look_cons, if_pos rfl]
          cases want with
          | false => exact exec _ he (by rw [hgd]; exact ⟨d, hd, .inl hl'⟩) h
          | true => exact skip _ he ⟨j, true, hgd, d, hd, .inl hl'⟩ h
      · rename_i hl
        exact skip fr (Eqv.refl _) ⟨j, want, hgd, d, hd, .inr ⟨hl, rfl⟩⟩ h
      · exact h.elim

def Runs (C : Ctx) (n : Nat) (all : List Oper) : List (Nat × Nat) → List (Nat × V) → List Blk → (List (Nat × V) → List Blk → Prop) → Prop
  | [], fr, L, K => ∃ fr1, Eqv fr1 fr ∧ K fr1 L
  | (i, md) :: r, fr, L, K => ∃ o fr1 v ex L', all[i]? = some o ∧ Eqv fr1 fr ∧ PlX C n all o fr1 L v ex L' ∧ (md = 1 → FarO C n all o fr1 v ex) ∧ FarK C n all md o fr1 L v ex L' ∧ (isW md o.op = false → L' = L) ∧ Runs C n all r (putF o.dst v fr1) L' K
def qOrd (C : Ctx) (n : Nat) (all : List Oper) : List (Nat × Nat) → List (Nat × V) → List Blk → (List (Nat × V) → List Blk → Prop) → Prop
  | [], fr, L, K => K fr L
  | (i, md) :: r, fr, L, K => match all[i]? with
    | some o => qOp1L C n all md o fr L fun fr' L' => qOrd C n all r fr' L' K
    | none => False
theorem qOrd_runs : ∀ (l : List (Nat × Nat)) (fr : List (Nat × V)) (L : List Blk), qOrd C n all l fr L K → Runs C n all l fr L K
  | [], fr, L, h => ⟨fr, Eqv.refl _, h⟩
  | (i, md) :: r, fr, L, h => by
    unfold qOrd at h
    cases ho : all[i]? with
    | none => simp [ho] at h
    | some o =>
      simp only [ho] at h
      obtain ⟨fr1, v, ex, L', h1, h2, h3, h6, h5, h4⟩ := qOp1L_out h
      exact ⟨o, fr1, v, ex, L', ho, h1, h2, h3, h6, h5, qOrd_runs r _ _ h4⟩
theorem Eqv.symm {a b : List (Nat × V)} (h : Eqv a b) : Eqv b a := fun s => (h s).symm
theorem Runs.eqv : ∀ {l : List (Nat × Nat)} {fr fr' : List (Nat × V)} {L : List Blk}, Runs C n all l fr L K → Eqv fr fr' → Runs C n all l fr' L K
  | [], _, _, _, ⟨fr1, h1, h2⟩, he => ⟨fr1, h1.trans he, h2⟩
  | (_, _) :: _, _, _, _, ⟨o, fr1, v, ex, L', h0, h1, h2, h3, h6, h5, h4⟩, he => ⟨o, fr1, v, ex, L', h0, h1.trans he, h2, h3, h6, h5, h4⟩
theorem PlX.frame {v : V} {ex : Bool} {L' : List Blk} {fr' : List (Nat × V)} (h : PlX C n all o fr L v ex L') (hl : ∀ s ∈ looks all o, look fr' s = look fr s) : PlX C n all o fr' L v ex L' := by
  refine ⟨fun he => ?_, h.skip, ?_, h.dst⟩
  · rw [vOp_congr (fr := fr') (fr' := fr) fun t ht => hl t (looks_op ht)]
    exact h.run he
  · have hg := h.guard
    cases hgd : o.guard with
    | none => rw [hgd] at hg; exact hg
    | some jw =>
      obtain ⟨j, want⟩ := jw
      rw [hgd] at hg
      obtain ⟨d, hd, hh⟩ := hg
      refine ⟨d, hd, ?_⟩
      rw [hl d (looks_guard hgd hd)]
      exact hh
theorem FarO.frame {v : V} {ex : Bool} {fr' : List (Nat × V)} (h : FarO C n all o fr v ex) (hl : ∀ s ∈ looks all o, look fr' s = look fr s) : FarO C n all o fr' v ex := fun L => (h L).frame hl
theorem FarM.frame {v : V} {md : Nat} {ex : Bool} {fr' : List (Nat × V)} (h : FarM C n all md o fr L v ex) (hl : ∀ s ∈ looks all o, look fr' s = look fr s) : FarM C n all md o fr' L v ex := fun L2 he => (h L2 he).frame hl
theorem PlX.pure {v : V} {ex : Bool} {L' : List Blk} (h : PlX C n all o fr L v ex L') (hp : isPure o.op = true) (L2 : List Blk) : PlX C n all o fr L2 v ex L2 := by
  refine ⟨fun he => ?_, fun he => ⟨(h.skip he).1, rfl⟩, h.guard, h.dst⟩
  obtain ⟨p, u, hd⟩ := vOp_pu C o fr hp
  obtain ⟨h1, h2, _⟩ := (hd L _).1 (h.run he)
  exact (hd L2 _).2 ⟨h1, h2, rfl⟩

structure Indep (all : List Oper) (a b : Nat) (p q : Oper) : Prop where
  dst : ∀ d, p.dst = some d → q.dst ≠ some d ∧ d ∉ looks all q
  dst' : ∀ d, q.dst = some d → d ∉ looks all p
  mem : (isPure p.op = true ∧ isW a p.op = false) ∨ (isPure q.op = true ∧ isW b q.op = false) ∨ (isW a p.op = false ∧ (a = 1 ∨ ((a = 3 ∨ a = 4) ∧ mdW a b q.op = true) ∨ isW b q.op = false))

theorem Runs.swap {i j a b : Nat} {r : List (Nat × Nat)} (hin : ∀ p q, all[i]? = some p → all[j]? = some q → Indep all a b p q) (h : Runs C n all ((i, a) :: (j, b) :: r) fr L K) : Runs C n all ((j, b) :: (i, a) :: r) fr L K := by
  obtain ⟨p, fr1, v, ex, L1, hp, he1, hpl1, hfar1, hm1, hq1, q, fr2, u, ex2, L2, hq, he2, hpl2, hfar2, hm2, hq2, hr⟩ := h
  obtain ⟨hd, hd', hm⟩ := hin p q hp hq
  have keep1 : ∀ t ∈ looks all q, VEq (look fr2 t) (look fr t) := fun t ht => by
    refine (he2 t).trans ?_
    rw [putF_look, if_neg fun e => (hd t e).2 ht]
    exact he1 t
  let fr2' := (looks all q).map (fun t => (t, look fr2 t)) ++ fr
  have l2 : ∀ s, look fr2' s = if s ∈ looks all q then look fr2 s else look fr s := fun s => look_pre _ _ _ _
  have e2' : Eqv fr2' fr := fun s => by
    rw [l2]
    split
    · rename_i h; exact keep1 s h
    · exact VEq.refl _
  let fr1' := (looks all p).map (fun t => (t, look fr1 t)) ++ putF q.dst u fr2'
  have l1 : ∀ s, look fr1' s = if s ∈ looks all p then look fr1 s else look (putF q.dst u fr2') s := fun s => look_pre _ _ _ _
  have e1' : Eqv fr1' (putF q.dst u fr2') := fun s => by
    rw [l1]
    split
    · rename_i h
      rw [putF_look, if_neg fun e => hd' s e h]
      exact (he1 s).trans (e2' s).symm
    · exact VEq.refl _
  have heq : Eqv (putF q.dst u fr2) (putF p.dst v fr1') := fun s => by
    rw [putF_look, putF_look]
    by_cases ep : p.dst = some s
    · rw [if_neg (hd s ep).1, if_pos ep]
      refine (he2 s).trans ?_
      rw [putF_look, if_pos ep]
      exact VEq.refl _
    · rw [if_neg ep]
      refine VEq.symm ((e1' s).trans ?_)
      rw [putF_look]
      by_cases eq : q.dst = some s
      · rw [if_pos eq, if_pos eq]; exact VEq.refl _
      · rw [if_neg eq, if_neg eq]
        refine (e2' s).trans ((he2 s).trans ?_).symm
        rw [putF_look, if_neg ep]
        exact he1 s
  have f2 : ∀ s ∈ looks all q, look fr2' s = look fr2 s := fun s hs => by rw [l2, if_pos hs]
  have f1 : ∀ s ∈ looks all p, look fr1' s = look fr1 s := fun s hs => by rw [l1, if_pos hs]
  have fin : ∀ M, PlX C n all q fr2 L u ex2 M → FarK C n all b q fr2 L u ex2 M → (isW b q.op = false → M = L) → PlX C n all p fr1 M v ex L2 → FarK C n all a p fr1 M v ex L2 → (isW a p.op = false → L2 = M) → Runs C n all ((j, b) :: (i, a) :: r) fr L K := by
    intro M h1 m1 h1' h2 m2 h2'
    exact ⟨q, fr2', u, ex2, M, hq, e2', h1.frame f2, fun x => (hfar2 x).frame f2, ⟨fun x => (m1.1 x).frame f2, m1.2⟩, h1', p, fr1', v, ex, L2, hp, e1', h2.frame f1, fun x => (hfar1 x).frame f1, ⟨fun x => (m2.1 x).frame f1, m2.2⟩, h2', hr.eqv heq⟩
  rcases hm with ⟨h, hw⟩ | ⟨h, hw⟩ | ⟨hw, h | ⟨ha, h⟩ | h⟩
  · have e : L1 = L := hq1 hw
    subst e
    exact fin L2 hpl2 hm2 hq2 (hpl1.pure h L2) ⟨fun _ L3 _ => hpl1.pure h L3, fun _ => CellEq.refl L2⟩ fun _ => rfl
  · have e : L2 = L1 := hq2 hw
    subst e
    exact fin L (hpl2.pure h L) ⟨fun _ L3 _ => hpl2.pure h L3, fun _ => CellEq.refl L⟩ (fun _ => rfl) hpl1 hm1 hq1
  · have e : L1 = L := hq1 hw
    subst e
    exact fin L2 hpl2 hm2 hq2 (hfar1 h L2) ⟨fun _ L3 _ => hfar1 h L3, fun _ => CellEq.refl L2⟩ fun _ => rfl
  · have e : L1 = L := hq1 hw
    subst e
    have he := hpl2.mdEq h hm2.2 ha
    exact fin L2 hpl2 hm2 hq2 (hm1.1 ha L2 he) ⟨fun _ L3 he3 => hm1.1 ha L3 (he.trans he3), fun _ => CellEq.refl L2⟩ fun _ => rfl
  · have e : L1 = L := hq1 hw
    subst e
    have e : L2 = L1 := hq2 h
    subst e
    exact fin L2 hpl2 hm2 hq2 hpl1 hm1 hq1

theorem PlX.vc {v : V} {ex : Bool} {L' : List Blk} (h : PlX C n all o fr L v ex L') (hK : K (putF o.dst v fr) L') : vcOp1 C n all o fr L K := by
  have put : ∀ (u : V) (M : List Blk), K (putF o.dst u fr) M → (∀ d, o.dst = some d → Nat.blt d n = true) → vPut n o.dst fr u fun fr' => K fr' M := by
    intro u M hk hd
    unfold vPut
    simp only [V.force_eq]
    unfold putF at hk
    cases hdst : o.dst with
    | none => rw [hdst] at hk; exact hk
    | some d => rw [hdst] at hk; simp only [hd d hdst, cond_true]; exact hk
  have run : ex = true → vOp C o fr L fun v L' => vPut n o.dst fr v fun fr' => K fr' L' := fun he => vOp_mono (h.run he) fun x N hx => by
    obtain ⟨rfl, rfl⟩ := hx
    exact put _ _ hK h.dst
  have skip : ex = false → vPut n o.dst fr (.tup []) fun fr' => K fr' L := fun he => by
    obtain ⟨rfl, rfl⟩ := h.skip he
    exact put _ _ hK h.dst
  have hg := h.guard
  unfold vcOp1
  simp only [vOpF_eq]
  cases hgd : o.guard with
  | none => rw [hgd] at hg; exact run hg
  | some jw =>
    obtain ⟨j, want⟩ := jw
    rw [hgd] at hg
    obtain ⟨d, hd, hlk⟩ := hg
    rcases hlk with hlk | ⟨hlk, hex⟩
    · simp only [hd, hlk]
      cases hex : ex <;> cases want <;> simp <;> first | exact run hex | exact skip hex
    · simp only [hd, hlk]
      exact skip hex
theorem Runs.vc : ∀ {l : List (Nat × Nat)} {fr : List (Nat × V)} {L : List Blk}, Runs C n all l fr L K → vOpsC C n all ((l.map (·.1)).filterMap fun i => all[i]?) fr L K
  | [], _, _, ⟨fr1, h1, h2⟩ => ⟨fr1, fun s => (h1 s).2, h2⟩
  | (i, md) :: r, fr, L, ⟨o, fr1, v, ex, L', h0, h1, h2, h3, h6, h5, h4⟩ => by
    simp only [List.map_cons, List.filterMap_cons, h0]
    exact ⟨fr1, fun s => (h1 s).2, h2.vc (Runs.vc h4)⟩
end
end Go.Tidy

/-
  The base layer: a drawn region by some of its orders: which orders are enough.
-/
namespace Go.Tidy

def Lin (all : List Oper) : List Nat → List Nat → Prop
  | _, [] => True
  | done, x :: l => (∀ (o : Oper) (e : Edge), all[x]? = some o → e ∈ o.after.toList → Region.binds .any e = true → e.on ∈ done) ∧ Lin all (x :: done) l
theorem Lin.mono {all : List Oper} : ∀ {l done done' : List Nat}, (∀ x ∈ done, x ∈ done') → Lin all done l → Lin all done' l
  | [], _, _, _, _ => trivial
  | x :: l, done, done', h, ⟨h1, h2⟩ => ⟨fun o e ho he hb => h _ (h1 o e ho he hb), Lin.mono (fun y hy => by
      rcases List.mem_cons.1 hy with rfl | hy
      · exact List.mem_cons_self
      · exact List.mem_cons_of_mem _ (h y hy)) h2⟩
theorem Lin.skip {all : List Oper} {i : Nat} : ∀ {l1 l2 done : List Nat}, Lin all done (l1 ++ i :: l2) → Lin all (i :: done) (l1 ++ l2)
  | [], l2, done, ⟨_, h⟩ => h
  | x :: l1, l2, done, ⟨h1, h2⟩ => ⟨fun o e ho he hb => List.mem_cons_of_mem _ (h1 o e ho he hb), Lin.mono (fun y hy => by
      rcases List.mem_cons.1 hy with rfl | hy
      · simp
      · rcases List.mem_cons.1 hy with rfl | hy <;> simp [*]) (Lin.skip h2)⟩
theorem Lin.down {all : List Oper} : ∀ {l1 l2 done : List Nat}, Down all (· ∈ done) → Lin all done (l1 ++ l2) → Down all (fun x => x ∈ done ∨ x ∈ l1)
  | [], _, done, h, _ => fun i o e hi ho he hb => .inl (h i o e (hi.resolve_right (by simp)) ho he hb)
  | x :: l1, l2, done, h, ⟨h1, h2⟩ => by
    have hd : Down all (· ∈ x :: done) := fun i o e hi ho he hb => by
      rcases List.mem_cons.1 hi with rfl | hi
      · exact List.mem_cons_of_mem _ (h1 o e ho he hb)
      · exact List.mem_cons_of_mem _ (h i o e hi ho he hb)
    have := Lin.down hd h2
    intro i o e hi ho he hb
    have := this i o e (by
      rcases hi with hi | hi
      · exact .inl (List.mem_cons_of_mem _ hi)
      · rcases List.mem_cons.1 hi with rfl | hi
        · exact .inl List.mem_cons_self
        · exact .inr hi) ho he hb
    rcases this with h3 | h3
    · rcases List.mem_cons.1 h3 with h4 | h4
      · exact .inr (h4 ▸ List.mem_cons_self)
      · exact .inl h4
    · exact .inr (List.mem_cons_of_mem _ h3)

theorem lin_go {ops : Array Oper} (hedge : ∀ (i : Nat) (o : Oper) (e : Edge), ops.toList[i]? = some o → e ∈ o.after.toList → Region.binds .any e = true → e.on < i) : ∀ (f t : Nat) (listed : Array Bool) (acc : List Nat), listed.size = ops.size →
    (∀ i, listed.getD i false = true ↔ i ∈ acc) → acc.Nodup → (∀ i ∈ acc, i < ops.size) → cnt ops listed ≤ f →
    ∃ rest, Region.linearise.go .any ops f t listed acc = acc.reverse ++ rest ∧ Lin ops.toList acc rest ∧ (acc ++ rest).Nodup ∧ ∀ i, i < ops.size ↔ (i ∈ acc ∨ i ∈ rest)
  | 0, t, listed, acc, hsz, hl, hnd, hlt, hc => by
    refine ⟨[], by simp [Region.linearise.go], trivial, by simpa using hnd, fun i => ⟨fun hi => .inl ?_, fun h => by simpa using h.elim (hlt i) (by simp)⟩⟩
    have hnil : (List.range ops.size).filter (fun i => !listed.getD i true) = [] := List.eq_nil_of_length_eq_zero (Nat.le_zero.1 hc)
    rw [List.filter_eq_nil_iff] at hnil
    have := hnil i (by simpa using hi)
    rw [← hl, getD_of_lt (by rw [hsz]; exact hi) false true]
    simpa using this
  | f + 1, t, listed, acc, hsz, hl, hnd, hlt, hc => by
    simp only [Region.linearise.go]
    show ∃ rest, (match (Region.ready .any ops listed)[t % (Region.ready .any ops listed).length]? with
      | some i => Region.linearise.go .any ops f (t / (Region.ready .any ops listed).length) (listed.setIfInBounds i true) (i :: acc)
      | none => acc.reverse) = acc.reverse ++ rest ∧ Lin ops.toList acc rest ∧ (acc ++ rest).Nodup ∧ ∀ i, i < ops.size ↔ (i ∈ acc ∨ i ∈ rest)
    cases hr : (Region.ready .any ops listed)[t % (Region.ready .any ops listed).length]? with
    | none =>
      have hnil : Region.ready .any ops listed = [] := by
        cases hr' : Region.ready .any ops listed with
        | nil => rfl
        | cons x xs =>
          rw [hr'] at hr
          have hlt : t % (x :: xs).length < (x :: xs).length := Nat.mod_lt _ (by simp)
          simp at hr
          simp at hlt
          omega
      refine ⟨[], by simp, trivial, by simpa using hnd, fun i => ⟨fun hi => .inl ?_, fun h => by simpa using h.elim (hlt i) (by simp)⟩⟩
      rw [← hl]
      induction i using Nat.strongRecOn with
      | _ i ih =>
        refine Classical.byContradiction fun hn => ?_
        have : i ∈ Region.ready .any ops listed := by
          unfold Region.ready
          rw [List.mem_filter]
          refine ⟨by simpa using hi, ?_⟩
          rw [getD_of_lt (by rw [hsz]; exact hi) true false]
          simp only [Bool.not_eq_true] at hn
          rw [hn]
          rw [Array.getElem?_eq_getElem hi]
          simp only [Option.map_some, Option.getD_some, Bool.not_false, Bool.true_and]
          rw [← Array.all_toList, List.all_eq_true]
          intro e he
          cases hb : Region.binds .any e with
          | false => simp
          | true =>
            have hlt' := hedge i ops[i] e (by simp [hi]) he hb
            simp only [Bool.not_true, Bool.false_or]
            exact ih e.on hlt' (by omega)
        rw [hnil] at this
        cases this
    | some i =>
      have hmem := List.mem_of_getElem? hr
      unfold Region.ready at hmem
      rw [List.mem_filter] at hmem
      have hi : i < ops.size := by simpa using hmem.1
      have hi' : i < listed.size := by rw [hsz]; exact hi
      have ho : ops[i]? = some ops[i] := Array.getElem?_eq_getElem hi
      have h2 := hmem.2
      rw [ho] at h2
      simp only [Option.map_some, Option.getD_some, Bool.and_eq_true, Bool.not_eq_true'] at h2
      obtain ⟨h2a, h2b⟩ := h2
      rw [← Array.all_toList, List.all_eq_true] at h2b
      have hni : i ∉ acc := fun h => by
        have := (hl i).2 h
        rw [getD_of_lt hi' false true] at this
        rw [this] at h2a; cases h2a
      obtain ⟨rest, r1, r2, r3, r4⟩ := lin_go hedge f (t / (Region.ready .any ops listed).length) (listed.setIfInBounds i true) (i :: acc) (by simp [hsz]) (fun j => by
          simp only [Array.getD_eq_getD_getElem?, List.mem_cons]
          by_cases e : i = j
          · subst e
            rw [Array.getElem?_setIfInBounds_self_of_lt hi']
            simp
          · rw [Array.getElem?_setIfInBounds_ne e]
            have := hl j
            simp only [Array.getD_eq_getD_getElem?] at this
            simp [Ne.symm e, this]) (by simpa using ⟨hni, hnd⟩) (fun j hj => by
          rcases List.mem_cons.1 hj with rfl | hj
          · exact hi
          · exact hlt j hj) (by
          have : cnt ops (listed.setIfInBounds i true) < cnt ops listed := by
            unfold cnt
            refine filter_lt (fun x hx hp => ?_) ⟨i, by simpa using hi, ?_, by simp [h2a]⟩
            · by_cases e : i = x
              · subst e; simp [h2a]
              · simp only [Array.getD_eq_getD_getElem?, Array.getElem?_setIfInBounds_ne e] at hp
                simpa [Array.getD_eq_getD_getElem?] using hp
            · simp only [Array.getD_eq_getD_getElem?, Array.getElem?_setIfInBounds_self_of_lt hi']
              rfl
          omega)
      refine ⟨i :: rest, ?_, ⟨fun o e ho' he hb => ?_, r2⟩, ?_, fun j => ?_⟩
      · simp only [r1]; simp
      · have ho2 : ops.toList[i]? = some ops[i] := by simp [hi]
        rw [ho2] at ho'; cases ho'
        have := h2b e he
        rw [hb] at this
        exact (hl _).1 (by simpa using this)
      · rw [List.nodup_append] at r3 ⊢
        simp only [List.nodup_cons, List.mem_cons] at r3 ⊢
        obtain ⟨⟨a1, a2⟩, a3, a4⟩ := r3
        refine ⟨a2, ⟨fun h => (a4 i (.inl rfl) i h) rfl, a3⟩, fun a ha b hb => ?_⟩
        rcases hb with rfl | hb
        · rintro rfl; exact a1 ha
        · exact a4 a (.inr ha) b hb
      · rw [r4 j]; simp only [List.mem_cons]; rw [or_comm (a := j = i), or_assoc]

def rdyB (all : List Oper) (done : List Nat) (i : Nat) : Bool := match all[i]? with | some o => o.after.toList.all fun e => !Region.binds .any e || done.contains e.on | none => false
def md0 (ws : List Nat) (i : Nat) : Nat := bif ws.contains i then 2 else (bif ws.contains (i + 1000) then 5 else 0)
def indepB (all : List Oper) (ws : List Nat) (i j : Nat) : Bool := match all[i]?, all[j]? with
  | some p, some q => (match p.dst with | some d => !(q.dst == some d) && !(looks all q).contains d | none => true) && (match q.dst with | some d => !(looks all p).contains d | none => true) &&
      ((isPure p.op && !isW (md0 ws i) p.op) || (isPure q.op && !isW (md0 ws j) q.op) || !isW (md0 ws i) p.op)
  | _, _ => true
def eligB (all : List Oper) (T ws : List Nat) (rest : List Nat) (i : Nat) : Bool := rest.all fun j => i == j || (T.getD j 0).testBit i || indepB all ws i j
def cellR : Op → Bool
  | .load .. | .indexAddr .. => true
  | .call c => match c.callee with | .builtin .len => true | _ => false
  | _ => false
def wayB (all : List Oper) (T ws : List Nat) (i j : Nat) : Bool := !(i == j) && !(T.getD j 0).testBit i && (match all[j]? with | some q => isW (md0 ws j) q.op | none => true)
def mapB (all : List Oper) (j : Nat) : Bool := match all[j]? with | some q => isMapW q.op | none => false
def cellB (all : List Oper) (ws : List Nat) (j : Nat) : Bool := match all[j]? with | some q => isCellK q.op || Nat.beq (md0 ws j) 5 | none => false
def loadB : Op → Bool
  | .load .. => true
  | _ => false
def looseB (all : List Oper) (T ws : List Nat) (rest : List Nat) (i : Nat) : Nat := match all[i]? with
  | some p => bif !isPure p.op && !isW (md0 ws i) p.op && rest.any (wayB all T ws i) then (bif cellR p.op && rest.all (fun j => !wayB all T ws i j || mapB all j) then 3 else (bif loadB p.op && rest.all (fun j => !wayB all T ws i j || cellB all ws j) then 4 else 1)) else md0 ws i
  | none => 0
def por (all : List Oper) (T ws : List Nat) : Nat → List Nat → List Nat → List (List (Nat × Nat))
  | 0, _, _ => [[]]
  | f + 1, done, rest =>
    match rest.find? fun i => rdyB all done i && eligB all T ws rest i with
    | some i => (por all T ws f (i :: done) (rest.erase i)).map fun l => (i, looseB all T ws rest i) :: l
    | none => match rest with
      | [] => [[]]
      | _ => (rest.filter (rdyB all done)).flatMap fun i => (por all T ws f (i :: done) (rest.erase i)).map fun l => (i, md0 ws i) :: l

section
variable {C : Ctx} {n : Nat} {all : List Oper} {T ws : List Nat} {K : List (Nat × V) → List Blk → Prop}
theorem rdy_of {done : List Nat} {i : Nat} (h : rdyB all done i = true) : ∀ (o : Oper) (e : Edge), all[i]? = some o → e ∈ o.after.toList → Region.binds .any e = true → e.on ∈ done := fun o e ho he hb => by
  unfold rdyB at h
  rw [ho] at h
  have := List.all_eq_true.1 h e he
  rw [hb] at this
  simpa using this
def okMd (ws : List Nat) (i a : Nat) : Prop := a = md0 ws i ∨ ((a = 1 ∨ a = 3 ∨ a = 4) ∧ md0 ws i = 0)
theorem okMd.isW {ws : List Nat} {i a : Nat} (h : okMd ws i a) (op : Op) : isW a op = isW (md0 ws i) op := by
  rcases h with rfl | ⟨rfl | rfl | rfl, h⟩
  · rfl
  · rw [h]; rfl
  · rw [h]; rfl
  · rw [h]; rfl
theorem indep_of {i j : Nat} {a b : Nat} (ha : okMd ws i a) (hb : okMd ws j b) (h : indepB all ws i j = true) (hlo : ∀ p q, all[i]? = some p → all[j]? = some q → isPure p.op = false → isW (md0 ws i) p.op = false → isW (md0 ws j) q.op = true → a = 1 ∨ ((a = 3 ∨ a = 4) ∧ mdW a b q.op = true)) : ∀ p q, all[i]? = some p → all[j]? = some q → Indep all a b p q := by
  intro p q hp hq
  unfold indepB at h
  rw [hp, hq] at h
  simp only [Bool.and_eq_true] at h
  obtain ⟨⟨h1, h2⟩, h3⟩ := h
  refine ⟨fun d hd => ?_, fun d hd => ?_, ?_⟩
  · rw [hd] at h1
    simp only [Bool.and_eq_true, Bool.not_eq_true', beq_eq_false_iff_ne, ne_eq] at h1
    exact ⟨h1.1, by simpa using h1.2⟩
  · rw [hd] at h2; simpa using h2
  · rw [ha.isW, hb.isW]
    simp only [Bool.or_eq_true, Bool.and_eq_true, Bool.not_eq_true'] at h3
    rcases h3 with (h3 | h3) | h3
    · exact .inl h3
    · exact .inr (.inl h3)
    · cases hp' : isPure p.op with
      | true => exact .inl ⟨rfl, h3⟩
      | false =>
        cases hw : Go.Tidy.isW (md0 ws j) q.op with
        | false => exact .inr (.inr ⟨h3, .inr (.inr rfl)⟩)
        | true => exact .inr (.inr ⟨h3, (hlo p q hp hq hp' h3 hw).elim .inl fun h => .inr (.inl h)⟩)
theorem Runs.past {i a : Nat} : ∀ {l1 l2 : List (Nat × Nat)} {fr : List (Nat × V)} {L : List Blk}, (∀ j ∈ l1, ∀ p q, all[i]? = some p → all[j.1]? = some q → Indep all a j.2 p q) → Runs C n all ((i, a) :: (l1 ++ l2)) fr L K → Runs C n all (l1 ++ (i, a) :: l2) fr L K
  | [], _, _, _, _, h => h
  | (j, b) :: l1, l2, fr, L, hin, h => by
    obtain ⟨o, fr1, v, ex, L', h0, h1, h2, h3, h6, h5, h4⟩ := Runs.swap (hin (j, b) (by simp)) h
    exact ⟨o, fr1, v, ex, L', h0, h1, h2, h3, h6, h5, Runs.past (l1 := l1) (l2 := l2) (fun j hj => hin j (List.mem_cons_of_mem _ hj)) h4⟩
theorem Runs.cons {i a : Nat} {l l' : List (Nat × Nat)} {fr : List (Nat × V)} {L : List Blk} (h : Runs C n all ((i, a) :: l) fr L K) (hl : ∀ fr L, Runs C n all l fr L K → Runs C n all l' fr L K) : Runs C n all ((i, a) :: l') fr L K := by
  obtain ⟨o, fr1, v, ex, L', h0, h1, h2, h3, h6, h5, h4⟩ := h
  exact ⟨o, fr1, v, ex, L', h0, h1, h2, h3, h6, h5, hl _ _ h4⟩
theorem looseB_ok {rest : List Nat} {i : Nat} (hi : i < all.length) : okMd ws i (looseB all T ws rest i) := by
  unfold looseB
  rw [List.getElem?_eq_getElem hi]
  simp only []
  cases hb : (!isPure all[i].op && !Go.Tidy.isW (md0 ws i) all[i].op && rest.any (wayB all T ws i)) with
  | false => exact .inl rfl
  | true =>
    have h0 : ∀ b c : Bool, (bif b then 3 else (bif c then 4 else 1)) = 1 ∨ (bif b then 3 else (bif c then 4 else 1)) = 3 ∨ (bif b then 3 else (bif c then 4 else 1)) = 4 := fun b c => by cases b <;> cases c <;> simp
    refine .inr ⟨h0 _ _, ?_⟩
    simp only [Bool.and_eq_true, Bool.not_eq_true'] at hb
    have := hb.1.2
    unfold Go.Tidy.isW at this
    simp only [Bool.or_eq_false_iff] at this
    unfold md0 at this ⊢
    cases hc : ws.contains i with
    | false =>
      rw [hc] at this
      cases hd : ws.contains (i + 1000) with
      | false => rfl
      | true => rw [hd] at this; cases this.1.2
    | true => rw [hc] at this; cases this.1.1

theorem por_ok (hs : ∀ (S : Nat → Prop), Down all S → ∀ (i j : Nat), i < all.length → (T.getD i 0).testBit j = true → S i → S j) : ∀ (f : Nat) (done rest l : List Nat), rest.length ≤ f → Down all (· ∈ done) → Lin all done l → l.Nodup → (∀ x, x ∈ l ↔ x ∈ rest) → rest.Nodup → (∀ x ∈ rest, x < all.length) → (∀ x ∈ rest, x ∉ done) →
    ∃ ord ∈ por all T ws f done rest, ∃ l' : List (Nat × Nat), l'.map (·.1) = l ∧ (∀ x ∈ l', okMd ws x.1 x.2) ∧ ∀ fr L, Runs C n all ord fr L K → Runs C n all l' fr L K
  | 0, done, rest, l, hf, _, _, _, hm, _, _, _ => by
    have : rest = [] := List.eq_nil_of_length_eq_zero (by omega)
    subst this
    have : l = [] := List.eq_nil_iff_forall_not_mem.2 fun x hx => by simpa using (hm x).1 hx
    subst this
    exact ⟨[], by simp [por], [], rfl, fun _ h => (by cases h), fun _ _ h => h⟩
  | f + 1, done, rest, l, hf, hd, hlin, hnd, hm, hrn, hlt, hdis => by
    have step : ∀ i, i ∈ rest → rdyB all done i = true → ∀ l1 l2, l = l1 ++ i :: l2 → ∃ ord ∈ por all T ws f (i :: done) (rest.erase i), ∃ l' : List (Nat × Nat), l'.map (·.1) = l1 ++ l2 ∧ (∀ x ∈ l', okMd ws x.1 x.2) ∧ ∀ fr L, Runs C n all ord fr L K → Runs C n all l' fr L K := by
      rintro i hi hrd l1 l2 rfl
      have hlen : (rest.erase i).length < rest.length := by rw [List.length_erase_of_mem hi]; have := List.length_pos_of_mem hi; omega
      rw [List.nodup_append] at hnd
      simp only [List.nodup_cons, List.mem_cons] at hnd
      obtain ⟨n1, ⟨n2, n3⟩, n4⟩ := hnd
      refine por_ok hs f (i :: done) (rest.erase i) (l1 ++ l2) (by omega) (fun x o e hx ho he hb => ?_) hlin.skip ?_ (fun x => ?_) (hrn.erase _) (fun x hx => hlt x (List.mem_of_mem_erase hx)) (fun x hx => ?_)
      · rcases List.mem_cons.1 hx with rfl | hx
        · exact List.mem_cons_of_mem _ (rdy_of hrd o e ho he hb)
        · exact List.mem_cons_of_mem _ (hd x o e hx ho he hb)
      · rw [List.nodup_append]
        exact ⟨n1, n3, fun a ha b hb => n4 a ha b (.inr hb)⟩
      · rw [hrn.mem_erase_iff, ← hm x]
        simp only [List.mem_append, List.mem_cons]
        constructor
        · rintro (h | h)
          · exact ⟨fun e => (n4 x h i (.inl rfl)) e, .inl h⟩
          · exact ⟨fun e => n2 (e ▸ h), .inr (.inr h)⟩
        · rintro ⟨h1, h | h | h⟩
          · exact .inl h
          · exact absurd h h1
          · exact .inr h
      · have := (hrn.mem_erase_iff).1 hx
        simp only [List.mem_cons, not_or]
        exact ⟨this.1, hdis x this.2⟩
    unfold por
    cases hfi : rest.find? fun i => rdyB all done i && eligB all T ws rest i with
    | some i =>
      have hp := List.find?_some hfi
      have hi := List.mem_of_find?_eq_some hfi
      simp only [Bool.and_eq_true] at hp
      obtain ⟨l1, l2, hl⟩ := List.append_of_mem ((hm i).2 hi)
      obtain ⟨ord, ho, l', e, hmd, hr⟩ := step i hi hp.1 l1 l2 hl
      obtain ⟨a, b, rfl, ha, hb⟩ := List.map_eq_append_iff.1 e
      refine ⟨(i, looseB all T ws rest i) :: ord, List.mem_map.2 ⟨ord, ho, rfl⟩, a ++ (i, looseB all T ws rest i) :: b, by rw [hl, List.map_append, List.map_cons, ha, hb], fun x hx => ?_, fun fr L h => ?_⟩
      · rcases List.mem_append.1 hx with hx | hx
        · exact hmd x (List.mem_append_left _ hx)
        · rcases List.mem_cons.1 hx with rfl | hx
          · exact looseB_ok (hlt i hi)
          · exact hmd x (List.mem_append_right _ hx)
      refine Runs.past (fun jb hjb => ?_) (h.cons hr)
      obtain ⟨j, bb⟩ := jb
      have hj : j ∈ l1 := ha ▸ List.mem_map_of_mem (f := (·.1)) hjb
      have hjl : j ∈ l := by rw [hl]; simp [hj]
      have hjr := (hm j).1 hjl
      have hij : i ≠ j := by
        rintro rfl
        rw [hl, List.nodup_append] at hnd
        exact hnd.2.2 _ hj _ (by simp) rfl
      have hna : (T.getD j 0).testBit i = false := by
        cases hb : (T.getD j 0).testBit i with
        | false => rfl
        | true =>
          have hdn := Lin.down (l1 := l1) (l2 := i :: l2) hd (hl ▸ hlin)
          rcases hs _ hdn j i (hlt j hjr) hb (.inr hj) with h | h
          · exact absurd h (hdis i hi)
          · rw [hl, List.nodup_append] at hnd
            exact absurd rfl (hnd.2.2 i h i (by simp))
      have hel := List.all_eq_true.1 hp.2 j hjr
      rw [hna] at hel
      simp only [Bool.or_false, Bool.or_eq_true, beq_iff_eq] at hel
      refine indep_of (looseB_ok (hlt i hi)) (hmd (j, bb) (List.mem_append_left _ hjb)) (hel.resolve_left hij) fun p q hp' hq' a1 a2 a3 => ?_
      unfold looseB
      rw [hp']
      simp only [a1, a2, Bool.not_false, Bool.true_and]
      have hway : wayB all T ws i j = true := by unfold wayB; rw [hna, hq']; simp [hij, a3]
      have : rest.any (wayB all T ws i) = true := List.any_eq_true.2 ⟨j, hjr, hway⟩
      rw [this]
      simp only [cond_true]
      cases hc : (cellR p.op && rest.all fun j => !wayB all T ws i j || mapB all j) with
      | false =>
        simp only [cond_false]
        cases hc : (loadB p.op && rest.all fun j => !wayB all T ws i j || cellB all ws j) with
        | false => exact .inl rfl
        | true =>
          refine .inr ⟨.inr rfl, ?_⟩
          rw [Bool.and_eq_true] at hc
          have := List.all_eq_true.1 hc.2 j hjr
          rw [hway] at this
          simp only [Bool.not_true, Bool.false_or, cellB, hq', Bool.or_eq_true] at this
          show (isCellK q.op || Nat.beq bb 5) = true
          rw [Bool.or_eq_true]
          refine this.imp id fun e => ?_
          rcases hmd (j, bb) (List.mem_append_left _ hjb) with e2 | ⟨_, e2⟩
          · simp only at e2; rw [e2]; exact e
          · simp only at e2; rw [e2] at e; cases e
      | true =>
        refine .inr ⟨.inl rfl, ?_⟩
        rw [Bool.and_eq_true] at hc
        have := List.all_eq_true.1 hc.2 j hjr
        rw [hway] at this
        simp only [Bool.not_true, Bool.false_or, mapB, hq'] at this
        exact this
    | none =>
      cases rest with
      | nil =>
        have : l = [] := List.eq_nil_iff_forall_not_mem.2 fun x hx => by simpa using (hm x).1 hx
        subst this
        exact ⟨[], by simp, [], rfl, fun _ h => (by cases h), fun _ _ h => h⟩
      | cons r0 rs =>
        cases l with
        | nil => exact absurd ((hm r0).2 (by simp)) (by simp)
        | cons x l2 =>
          have hx := (hm x).1 (by simp)
          have hrd : rdyB all done x = true := by
            unfold rdyB
            rw [List.getElem?_eq_getElem (hlt x hx)]
            simp only [List.all_eq_true]
            intro e he
            cases hb : Region.binds .any e with
            | false => simp
            | true => simpa using hlin.1 _ e (List.getElem?_eq_getElem (hlt x hx)) he hb
          obtain ⟨ord, ho, l', e, hmd, hr⟩ := step x hx hrd [] l2 rfl
          refine ⟨(x, md0 ws x) :: ord, List.mem_flatMap.2 ⟨x, List.mem_filter.2 ⟨hx, hrd⟩, List.mem_map.2 ⟨ord, ho, rfl⟩⟩, (x, md0 ws x) :: l', by rw [List.map_cons, e]; rfl, fun y hy => ?_, fun fr L h => h.cons hr⟩
          rcases List.mem_cons.1 hy with rfl | hy
          · exact .inl rfl
          · exact hmd y hy

def qAll (C : Ctx) (n : Nat) (all : List Oper) : List (List (Nat × Nat)) → List (Nat × V) → List Blk → (List (Nat × V) → List Blk → Prop) → Prop
  | [], _, _, _ => True
  | [o], fr, L, K => qOrd C n all o fr L K
  | o :: os, fr, L, K => qOrd C n all o fr L K ∧ qAll C n all os fr L K
theorem qAll_mem : ∀ {os : List (List (Nat × Nat))} {fr : List (Nat × V)} {L : List Blk}, qAll C n all os fr L K → ∀ o ∈ os, qOrd C n all o fr L K
  | [], _, _, _, o, ho => by cases ho
  | [o], _, _, h, o', ho => by
    have : o' = o := by simpa using ho
    exact this ▸ h
  | o :: o2 :: os, _, _, ⟨h1, h2⟩, o', ho => by
    rcases List.mem_cons.1 ho with rfl | ho
    · exact h1
    · exact qAll_mem h2 o' ho
end
def porB (all : List Oper) : Bool :=
  let T := tblGo all []
  all.zipIdx.all fun p => (p.1.after.toList.all fun e => !Region.binds .any e || Nat.blt e.on p.2) && Nat.beq (maskOf T p.1 ||| T.getD p.2 0) (maskOf T p.1)
def porOf (ops : Array Oper) (ws : List Nat) : List (List (Nat × Nat)) := por ops.toList (tblGo ops.toList []) ws ops.size [] (List.range ops.size)
theorem DrawP.por {C : Ctx} {n : Nat} {ops : Array Oper} {fr : List (Nat × V)} {L : List Blk} {K : List (Nat × V) → List Blk → Prop} (hm : C.P.follows .mixedOrders = true) (ws : List Nat) (os : List (List (Nat × Nat))) (hst : (porB ops.toList && decide (porOf ops ws = os)) = true)
    (h : qAll C n ops.toList os fr L K) : DrawP C n ops fr L K := by
  rw [Bool.and_eq_true] at hst
  obtain ⟨hst, hos⟩ := hst
  have hos := of_decide_eq_true hos
  subst hos
  unfold porB at hst
  simp only [List.all_eq_true, Bool.and_eq_true] at hst
  have mem : ∀ (i : Nat) (o : Oper), ops.toList[i]? = some o → (o, i) ∈ ops.toList.zipIdx := fun i o ho => by
    rw [List.mem_zipIdx_iff_getElem?]; exact ho
  have hedge : ∀ (i : Nat) (o : Oper) (e : Edge), ops.toList[i]? = some o → e ∈ o.after.toList → Region.binds .any e = true → e.on < i := fun i o e ho he hb => by
    have := (hst (o, i) (mem i o ho)).1 e he
    simpa [hb, Nat.blt_eq] using this
  have htbl : ∀ (i : Nat) (o : Oper) (j : Nat), ops.toList[i]? = some o → ((tblGo ops.toList []).getD i 0).testBit j = true → ∃ e ∈ o.after.toList, Region.binds .any e = true ∧ (j = e.on ∨ ((tblGo ops.toList []).getD e.on 0).testBit j = true) := fun i o j ho hj => by
    have heq := Nat.eq_of_beq_eq_true (hst (o, i) (mem i o ho)).2
    have hm : (maskOf (tblGo ops.toList []) o).testBit j = true := by
      rw [← heq, Nat.testBit_or, hj, Bool.or_true]
    unfold maskOf at hm
    rcases maskGo_bit _ _ hm with h0 | h1
    · simp at h0
    · exact h1
  have anc : ∀ (S : Nat → Prop), Down ops.toList S → ∀ (i j : Nat), i < ops.toList.length → ((tblGo ops.toList []).getD i 0).testBit j = true → S i → S j := by
    intro S hd i
    induction i using Nat.strongRecOn with
    | _ i ih =>
      intro j hi hj hS
      obtain ⟨e, he, hb, hh⟩ := htbl i ops.toList[i] j (List.getElem?_eq_getElem hi) hj
      have hlt := hedge i ops.toList[i] e (List.getElem?_eq_getElem hi) he hb
      have hSe := hd i _ e hS (List.getElem?_eq_getElem hi) he hb
      rcases hh with rfl | hh
      · exact hSe
      · exact ih e.on hlt j (by omega) hh hSe
  unfold DrawP
  intro t
  simp only [Region.schedule, hm, Bool.true_or, if_true, Region.linearise]
  have hz : ∀ j, (Array.replicate ops.size false).getD j false = false := fun j => by
    simp only [Array.getD_eq_getD_getElem?, Array.getElem?_replicate]
    split <;> rfl
  obtain ⟨rest, r1, r2, r3, r4⟩ := lin_go hedge ops.size t (Array.replicate ops.size false) [] (by simp) (fun j => by rw [hz]; simp) (by simp) (by simp) (by
    unfold cnt
    exact Nat.le_trans (List.length_filter_le _ _) (by simp))
  simp only [List.reverse_nil, List.nil_append] at r1 r3
  rw [r1]
  obtain ⟨ord, ho, l', e, _, hr⟩ := por_ok (ws := ws) (C := C) (n := n) (K := K) anc ops.size [] (List.range ops.size) rest (by simp) (fun i o e hi => by cases hi) r2 r3 (fun x => by rw [List.mem_range, r4 x]; simp) List.nodup_range (fun x hx => by simpa using hx) (fun x _ => by simp)
  have := (hr fr L (qOrd_runs _ _ _ (qAll_mem h ord ho))).vc
  rw [e] at this
  simpa using this
end Go.Tidy

/-
  The base layer: a nil slice that is returned, as an empty row of the caller's own.
-/
namespace Go.Tidy
theorem FinP.nilOwn {k0 sz gen : Nat} {L : List Blk} {k : V → List Blk → Prop} (hsz : 0 < sz) (h : k (.own L.length gen 0 0) (L ++ [.row gen sz []])) : FinP k0 .nil L k := by
  unfold FinP
  refine ⟨.own L.length gen 0 0, L ++ [.row gen sz []], fun g w v hg hk0 hv => ?_, h⟩
  cases hv with
  | nil =>
    have hp := add_prog hg (Ext.refl w) (.row gen sz []) none (fun q h => by cases h) 0
    exact ⟨g.add L.length none 0, add_good hg (Ext.refl w) none (fun q h => by cases h) 0 ⟨hsz, by simp, .inl ⟨by simp [Gh.add], rfl⟩⟩, .ownN _ _ sz [] (by simp) (by simp [Gh.add]), hp.le hk0 (Nat.le_refl _)⟩
end Go.Tidy
namespace Go.Tidy
inductive CvLL (S : Nat → Prop) (L : List Blk) : List (List V) → List (List D) → Prop
  | nil : CvLL S L [] []
  | cons {x : List V} {y : List D} {xs : List (List V)} {ys : List (List D)} (h : CvL S L x y) (hs : CvLL S L xs ys) : CvLL S L (x :: xs) (y :: ys)
theorem CvLL.get {S : Nat → Prop} {L : List Blk} : ∀ {xs : List (List V)} {ys : List (List D)}, CvLL S L xs ys → xs.length = ys.length ∧ ∀ (i j : Nat) (x : V) (y : D), (xs[i]?).bind (fun e => e[j]?) = some x → (ys[i]?).bind (fun e => e[j]?) = some y → Cv S L x y
  | _, _, .nil => ⟨rfl, fun i j x y hx => by simp at hx⟩
  | _, _, .cons h hs => by
    obtain ⟨h1, h2⟩ := hs.get
    refine ⟨by simp [h1], fun i j x y hx hy => ?_⟩
    cases i with
    | zero => exact h.get.2 j x y (by simpa using hx) (by simpa using hy)
    | succ i => exact h2 i j x y (by simpa using hx) (by simpa using hy)
theorem Cv.rowL {S : Nat → Prop} {L : List Blk} {b gen lo len sz : Nat} {els : List (List V)} {ds : List (List D)} (hb : S b) (hL : L[b]? = some (.row gen sz els)) (h : CvLL S L ((els.drop lo).take len) ds) (hl : len = ds.length) (hrow : ∀ e ∈ ds, e.length = sz) :
    Cv S L (.own b gen lo len) (.sl ds) := .own b gen lo len sz els ds hb hL h.get.1 hl hrow h.get.2
end Go.Tidy
namespace Go.Tidy
theorem Weak.re {σ σ' : TS} (bs : List Nat) (hfr : SubF σ.fr (rnF (rnI bs σ.L.length) σ'.fr)) (hget : bs.map (fun c => σ.L[c]?) = σ'.L.map (fun x => some (x.rn (rnI bs σ.L.length)))) (hnd : bs.Nodup) (hlt : bs.all (fun b => decide (b < σ.L.length)) = true)
    (hbel : belB σ'.L.length σ'.L = true := by rfl) (hdfB : dfB σ'.L = true := by rfl) (hf : belF σ'.L.length σ'.fr = true := by rfl) (hn : σ'.n = σ.n := by rfl) (h2 : σ.df = [] := by rfl) (h2' : σ'.df = [] := by rfl) (h3 : σ.ro = none := by rfl) (h3' : σ'.ro = none := by rfl) : Weak 0 σ σ' := by
  have hlen : bs.length = σ'.L.length := by simpa using congrArg List.length hget
  refine Weak.part bs ⟨hnd, fun b hb => of_decide_eq_true (List.all_eq_true.1 hlt b hb), hlen, fun b c hb => ?_, hbel, hdfB⟩ (fun b hb => absurd hb (Nat.not_lt_zero b)) hfr hn hf (by rw [h2, h2']; rfl) (by rw [h2']; intro b hb; cases hb) (by rw [h3, h3']; rfl) (by rw [h3']; intro b hb; cases hb)
  have h1 : (bs.map (fun c => σ.L[c]?))[b]? = some (σ.L[c]?) := by rw [List.getElem?_map, hb]; rfl
  rw [hget, List.getElem?_map] at h1
  cases hx : σ'.L[b]? with
  | none => rw [hx] at h1; cases h1
  | some x => rw [hx] at h1; simpa using h1.symm
end Go.Tidy
namespace Go.Tidy
def VC (n : Nat) (L : List Blk) (x y : V) : Prop := (x = y ∧ x.bel n = true) ∨ Cw (fun b => n ≤ b) L x y
def BC (n : Nat) (L : List Blk) (x y : Blk) : Prop :=
  (x = y ∧ x.bel n = true) ∨
  (∃ gen sz els els', x = .row gen sz els ∧ y = .row gen sz els' ∧ els.length = els'.length ∧ (∀ e ∈ els', e.length = sz) ∧ ∀ (i j : Nat) (e e' : List V) (u v : V), els[i]? = some e → els'[i]? = some e' → e[j]? = some u → e'[j]? = some v → VC n L u v) ∨
  (∃ cs cs', x = .cells cs ∧ y = .cells cs' ∧ cs.length = cs'.length ∧ ∀ (j : Nat) (u v : V), cs[j]? = some u → cs'[j]? = some v → VC n L u v)
def FC (n : Nat) (L : List Blk) (fr : List (Nat × V)) : List (Nat × V) → Prop
  | [] => True
  | p :: q => (norm (look fr p.1) = norm p.2 ∧ p.2.bel n = true ∨ Cw (fun b => n ≤ b) L (look fr p.1) p.2) ∧ FC n L fr q
theorem FC.look {n : Nat} {L : List Blk} {fr : List (Nat × V)} : ∀ {fr' : List (Nat × V)}, FC n L fr fr' → ∀ i, Tidy.look fr' i = .poison ∨ (norm (Tidy.look fr i) = norm (Tidy.look fr' i) ∧ (Tidy.look fr' i).bel n = true) ∨ Cw (fun b => n ≤ b) L (Tidy.look fr i) (Tidy.look fr' i)
  | [], _, i => .inl rfl
  | (d, v) :: q, h, i => by
    rw [look_cons]
    split
    · rename_i e; subst e; exact .inr h.1
    · exact FC.look h.2 i
theorem BC.live {n : Nat} {L : List Blk} {x y : Blk} (h : BC n L x y) : y ≠ .dead → x ≠ .dead := by
  rcases h with ⟨rfl, _⟩ | ⟨_, _, _, _, rfl, rfl, _⟩ | ⟨_, _, rfl, rfl, _⟩
  · exact id
  · intro _ h; cases h
  · intro _ h; cases h
theorem Weak.thaw {k : Nat} {σ σ' : TS} (n : Nat) (hk : k ≤ n) (hn : n ≤ σ.L.length) (hlen : σ'.L.length = n) (hfr : FC n σ.L σ.fr σ'.fr) (hB : ∀ (b : Nat) (x y : Blk), σ.L[b]? = some x → σ'.L[b]? = some y → BC n σ.L x y)
    (h1 : σ'.n = σ.n := by rfl) (h2 : σ.df = [] := by rfl) (h2' : σ'.df = [] := by rfl) (h3 : σ'.ro = σ.ro := by rfl) (h3' : ∀ lb, σ.ro = some lb → lb < n := by intro _ h; cases h) : Weak k σ σ' := by
  intro r g a w hs
  have hg := hs.good
  let g' : Gh := { g with I := fun q => g.I q ∨ ∃ b, n ≤ b ∧ live σ.L b ∧ g.m b = some q }
  have ex : ∀ b, b < n → ∃ x y, σ.L[b]? = some x ∧ σ'.L[b]? = some y ∧ BC n σ.L x y := fun b hb =>
    ⟨σ.L[b]'(by omega), σ'.L[b]'(by omega), List.getElem?_eq_getElem _, List.getElem?_eq_getElem _, hB b _ _ (List.getElem?_eq_getElem _) (List.getElem?_eq_getElem _)⟩
  have hkeep : ∀ b, b < n → Keep g σ.L g' σ'.L b := by
    intro b hb
    obtain ⟨x, y, hx, hy, ⟨rfl, _⟩ | ⟨gen, sz, els, els', rfl, rfl, hl, _⟩ | ⟨cs, cs', rfl, rfl, _⟩⟩ := ex b hb
    · exact Keep.same (hy.trans hx.symm) rfl rfl
    · refine ⟨fun cs h => ?_, fun gen' sz' els0 h => ?_, fun es h => ?_, fun l h => ?_, fun h => ?_⟩ <;> rw [hx] at h <;> cases h
      exact .inr ⟨gen, sz, els', hy, .inr ⟨rfl, rfl, rfl, rfl, hl.symm⟩⟩
    · refine ⟨fun cs0 h => ?_, fun gen' sz' els0 h => ?_, fun es h => ?_, fun l h => ?_, fun h => ?_⟩ <;> rw [hx] at h <;> cases h
      exact .inr ⟨cs', hy, rfl⟩
  have hmono : ∀ (x : V) (v : Value), x.bel n = true → RV g w σ.L x v → RV g' w σ'.L x v := fun x v hx h =>
    RV.mono (g := g) (g' := g') (fun q hq => .inl hq) (fun a v _ h => h) hkeep hx h
  have hcw : ∀ (x y : V) (v : Value), Cw (fun b => n ≤ b) σ.L x y → RV g w σ.L x v → RV g' w σ'.L y v := fun x y v h hv =>
    h.rv hg (g' := g') (fun q hq => .inl hq) (fun b q hb hl hm => .inr ⟨b, hb, hl, hm⟩) hv
  have hvc : ∀ (x y : V) (v : Value), VC n σ.L x y → RV g w σ.L x v → RV g' w σ'.L y v := by
    rintro x y v (⟨rfl, hb⟩ | h) hv
    · exact hmono x v hb hv
    · exact hcw x y v h hv
  have hlive : ∀ b, live σ'.L b → b < n ∧ live σ.L b := by
    rintro b ⟨y, hy, hd⟩
    have hb : b < n := by have := lt_of_get hy; omega
    obtain ⟨x, y', hx, hy', hbc⟩ := ex b hb
    rw [hy] at hy'; cases hy'
    exact ⟨hb, x, hx, hbc.live hd⟩
  have hgood : Good g' w σ'.L := by
    refine ⟨fun b b' q l1 l2 m1 m2 => hg.inj b b' q (hlive b l1).2 (hlive b' l2).2 m1 m2, ?_, ?_, fun b y hy => ?_, hg.gl.mono (fun q hq => .inl hq) (fun a v _ h => h)⟩
    · rintro q ⟨b, hl, hm⟩ hI
      obtain ⟨hb, hl'⟩ := hlive b hl
      rcases hI with hI | ⟨b', hb', hl2, hm2⟩
      · exact hg.dis q ⟨b, hl', hm⟩ hI
      · have := hg.inj b b' q hl' hl2 hm hm2; omega
    · rintro q (hI | ⟨b', _, hl2, hm2⟩)
      · exact hg.lt q hI
      · exact hg.owned_lt ⟨b', hl2, hm2⟩
    · have hb : b < n := by have := lt_of_get hy; omega
      obtain ⟨x, y', hx, hy', hbc⟩ := ex b hb
      rw [hy] at hy'; cases hy'
      have hR := hg.blk b x hx
      rcases hbc with ⟨rfl, hbel⟩ | ⟨gen, sz, els, els', rfl, rfl, hl, hsz, hv⟩ | ⟨cs, cs', rfl, rfl, hl, hv⟩
      · refine RB.mono_bel hbel hmono rfl rfl (fun _ _ _ h => h) (fun l hl => ⟨rfl, fun h => ?_⟩) hR
        subst hl
        simp only [Blk.bel, Bool.and_eq_true, decide_eq_true_eq] at hbel
        obtain ⟨x0, y0, hx0, hy0, hbc0⟩ := ex _ hbel.2
        rw [h] at hx0; cases hx0
        rcases hbc0 with ⟨rfl, _⟩ | ⟨_, _, _, _, e, _⟩ | ⟨_, _, e, _⟩
        · exact hy0
        · cases e
        · cases e
      · obtain ⟨hs0, hels, hrow⟩ := hR
        refine ⟨hs0, hsz, ?_⟩
        rcases hrow with ⟨hm, he⟩ | ⟨q, cur, T, hm, hh, hcap, hbig, hone, hrc⟩
        · left
          subst he
          exact ⟨hm, List.eq_nil_of_length_eq_zero (by simpa using hl.symm)⟩
        · right
          refine ⟨q, cur, T, hm, hh, hcap, by rw [← hl]; exact hbig, hone, fun i j v u hu hcur => ?_⟩
          cases e' : els'[i]? with
          | none => rw [e'] at hu; simp at hu
          | some E' =>
          have hi := lt_of_get e'
          have e1 : els[i]? = some (els[i]'(by omega)) := List.getElem?_eq_getElem _
          rw [e'] at hu
          simp only [Option.bind_some] at hu
          have hj := lt_of_get hu
          have hE' := hsz E' (List.mem_of_getElem? e')
          have hE := hels _ (List.getElem_mem (show i < els.length by omega))
          have e2 : (els[i]'(by omega))[j]? = some ((els[i]'(by omega))[j]'(by omega)) := List.getElem?_eq_getElem _
          refine hvc _ _ _ (hv i j _ _ _ _ e1 e' e2 hu) (hrc i j _ u ?_ hcur)
          rw [e1]; exact e2
      · obtain ⟨q, cur, T, hm, hh, hsz, hone, hrc⟩ := hR
        refine ⟨q, cur, T, hm, hh, by omega, hone, fun i v u hu hcur => ?_⟩
        have hi := lt_of_get hu
        have e1 : cs[i]? = some (cs[i]'(by omega)) := List.getElem?_eq_getElem _
        exact hvc _ _ _ (hv i _ _ e1 hu) (hrc i _ u e1 hcur)
  refine ⟨g', ⟨hs.n.trans h1.symm, fun i => ?_, hgood, by omega, by rw [hs.df, h2, h2'], fun i b d hb _ => ?_, fun lb hlb => ?_, fun h => hs.ro' (h3.symm.trans h)⟩, ⟨rfl, rfl, rfl⟩, Nat.le_refl _, fun _ _ h _ => h, ?_, ?_, fun q hq => .inl hq, fun x v hx h => hmono x v (V.bel_le hk x hx) h, fun b q hb hL hm => ?_, fun _ => by omega⟩
  · rcases hfr.look i with h | ⟨h, hb⟩ | h
    · rw [h]; exact .poison _
    · exact hmono _ _ hb (norm_eq h (hs.fr i))
    · exact hcw _ _ _ h (hs.fr i)
  · rw [h2'] at hb; simp at hb
  · rw [h3] at hlb
    obtain ⟨l, y1, y2⟩ := hs.ro lb hlb
    exact ⟨l, y1, hmono _ _ (by simpa [V.bel] using h3' lb hlb) y2⟩
  · rintro q ⟨b, hl, hm⟩ _
    exact ⟨b, (hlive b hl).2, hm⟩
  · rintro q (hI | ⟨b, _, hl, hm⟩)
    · exact .inl hI
    · exact .inr (.inr ⟨b, hl, hm⟩)
  · obtain ⟨x, y, hx, hy, hbc⟩ := ex b (by omega)
    rw [hL] at hx; cases hx
    rcases hbc with ⟨rfl, _⟩ | ⟨_, _, _, _, e, _⟩ | ⟨_, _, e, _⟩
    · exact ⟨hy, hm⟩
    · cases e
    · cases e
end Go.Tidy
