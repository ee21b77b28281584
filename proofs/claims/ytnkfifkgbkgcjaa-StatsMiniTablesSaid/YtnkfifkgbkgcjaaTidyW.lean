/-
  The base layer: a round of a loop over a function.
-/
import Derived.Test.YtnkfifkgbkgcjaaTidyV
namespace Go.Tidy

def zipF : List Tmp → List V → List (Nat × V) → List (Nat × V)
  | p :: ps, x :: xs, fr => zipF ps xs ((p, x) :: fr)
  | _, _, fr => fr

def vRoundEnd (b k0 : Nat) (k : V → List Blk → Prop) (e : Exit) (σ : TS) : Prop :=
  match σ.L[b]? with
  | some (.loop r) => match e with
    | .normal => setB σ.L b (.loop { r with st := .ready, pend := none }) fun L => FinP k0 (.d (.bool true)) L k
    | .ret => setB σ.L b (.loop { r with st := .done, pend := some .ret }) fun L => FinP k0 (.d (.bool false)) L k
    | .exit id => setB σ.L b (.loop { r with st := .done, pend := some (.exit id) }) fun L => FinP k0 (.d (.bool false)) L k
    | _ => False
  | _ => False
def vRound (C : Ctx) (cut : Code → Bool) (b : Nat) (args : List V) (L : List Blk) (k : V → List Blk → Prop) : Prop :=
  match L[b]? with
  | some (.loop r) => match r.st with
    | .ready => bif Nat.beq r.ps.length args.length && r.ps.all (fun p => Nat.blt p r.n) then
        vc C cut L.length r.assign ⟨zipF r.ps args r.fr, r.n, L, [], some b⟩ fun e σ => match e with
          | .normal => match σ.L[b]? with
            | some (.loop r1) => match r1.st with
              | .ready => setB σ.L b (.loop { r1 with st := .busy }) fun L1 => vc C cut L.length r.body { σ with L := L1 } (vRoundEnd b L.length k)
              | _ => False
            | _ => False
          | _ => False
      else False
    | _ => False
  | _ => False

section
variable {C : Ctx} {g : Gh} {w : World} {L : List Blk}

theorem zip_frame : ∀ (ps : List Tmp) (xs : List V) (vs : List Value) (fr : List (Nat × V)) (tmps : Array Value), ps.length = xs.length → xs.length = vs.length → (∀ p ∈ ps, p < tmps.size) →
    (∀ (j : Nat) (x : V) (v : Value), xs[j]? = some x → vs[j]? = some v → RV g w L x v) → (∀ i, RV g w L (look fr i) (tmps.getD i undef)) →
    ((ps.zip vs).foldl (fun tmps ta => tmps.setIfInBounds ta.1 ta.2) tmps).size = tmps.size ∧ ∀ i, RV g w L (look (zipF ps xs fr) i) (((ps.zip vs).foldl (fun tmps ta => tmps.setIfInBounds ta.1 ta.2) tmps).getD i undef)
  | [], [], [], fr, tmps, _, _, _, _, h => ⟨rfl, h⟩
  | p :: ps, x :: xs, v :: vs, fr, tmps, h1, h2, h3, h4, h => by
    have ih := zip_frame ps xs vs ((p, x) :: fr) (tmps.setIfInBounds p v) (by simpa using h1) (by simpa using h2) (fun q hq => by simpa using h3 q (by simp [hq]))
      (fun j x v hx hv => h4 (j + 1) x v (by simpa using hx) (by simpa using hv)) (fun i => by
        rw [look_cons]
        have hp := h3 p (by simp)
        by_cases e : p = i
        · subst e
          rw [if_pos rfl]
          simp [Array.getD, hp]
          exact h4 0 x v rfl rfl
        · rw [if_neg e]
          have : (tmps.setIfInBounds p v).getD i undef = tmps.getD i undef := by
            simp only [Array.getD_eq_getD_getElem?, Array.getElem?_setIfInBounds_ne e]
          rw [this]
          exact h i)
    refine ⟨?_, ?_⟩
    · simpa using ih.1
    · simpa [zipF] using ih.2
  | [], _ :: _, _, _, _, h1, _, _, _, _ => by simp at h1
  | _ :: _, [], _, _, _, h1, _, _, _, _ => by simp at h1
  | [], [], _ :: _, _, _, _, h2, _, _, _ => by simp at h2
  | _ :: _, _ :: _, [], _, _, _, h2, _, _, _ => by simp at h2

/-- The record's state is turned. -/
theorem loop_step (hg : Good g w L) {b q : Nat} {l : LoopR} {rec : Loop} (hL : L[b]? = some (.loop l)) (hm : g.m b = some q) (hh : w.heap[q]? = some (.loop rec)) (st : LoopState) (pd : Option Code) :
    Good g (w.putObj q (.loop { rec with state := st, pending := pd })) (L.set b (.loop { l with st := st, pend := pd })) ∧
    Prog L.length g w L g (w.putObj q (.loop { rec with state := st, pending := pd })) (L.set b (.loop { l with st := st, pend := pd })) := by
  have hbl := lt_of_get hL
  have hql : q < w.heap.size := (Array.getElem?_eq_some_iff.1 hh).1
  have S : Step g w L b (.loop { l with st := st, pend := pd }) g (w.putObj q (.loop { rec with state := st, pending := pd })) := by
    refine ⟨hg, ⟨_, hL, by simp⟩, by rw [hL]; simp, ⟨rfl, rfl, rfl⟩, by simp, rfl, fun _ _ => rfl, fun _ _ => rfl, fun p o' hp hne => putObj_ext p o' hp (by rw [← hm]; exact hne), fun r hr => .inl hr, ?_⟩
    exact ⟨fun cs e => (by rw [hL] at e; cases e), fun gen sz els e => (by rw [hL] at e; cases e), fun es e => (by rw [hL] at e; cases e), fun l0 _ => .inr ⟨_, List.getElem?_set_self hbl, rfl⟩, fun e => (by rw [hL] at e; cases e)⟩
  obtain ⟨q', rec', h1, h2, h3, h4, h5, h6, h7, h8, h9, h10, h11⟩ := hg.blk b _ hL
  rw [hm] at h1; cases h1
  rw [hh] at h2; cases h2
  have hne : l.df ≠ b := fun e => by rw [e, hL] at h11; cases h11
  refine ⟨S.good' ⟨q, _, hm, World.putObj_heap_same hql, rfl, rfl, h5, h6, h7, h8, fun i => S.mono (h9 i), h10, ?_⟩, S.prog⟩
  rw [List.getElem?_set_ne (Ne.symm hne)]; exact h11

theorem yld_at {b q l : Nat} {r : LoopR} (hL : L[b]? = some (.loop r)) (hm : g.m b = some q) (h : RV g w L (.yld b) (.func (.yield l) #[] #[])) : q = l := by
  generalize hv : Value.func (.yield l) #[] #[] = v at h
  cases h with
  | yld _ r' _ hL' hm' => rw [hm] at hm'; cases hm'; cases hv; rfl
  | yldX _ r' hL' => rw [hL] at hL'; cases hL'

theorem YieldP.round (hC : C.OK) (cut : Code → Bool) {b : Nat} {args : List V} {k : V → List Blk → Prop} (h : vRound C cut b args L k) : YieldP C b args L k := by
  unfold YieldP
  intro g w vs l hg hvs hy
  unfold vRound at h
  split at h
  case h_2 => exact h.elim
  rename_i r hL
  split at h
  case h_2 => exact h.elim
  rename_i hst
  cases hcond : (Nat.beq r.ps.length args.length && r.ps.all (fun p => Nat.blt p r.n)) with
  | false => simp only [hcond, cond_false] at h
  | true =>
  simp only [hcond, cond_true] at h
  rw [Bool.and_eq_true] at hcond
  have hpl := Nat.eq_of_beq_eq_true hcond.1
  obtain ⟨q, rec, h1, h2, h3, h4, h5, h6, h7, h8, h9, h10, h11⟩ := hg.blk b _ hL
  have hq : q = l := yld_at hL h1 hy
  subst hq
  have hps : ∀ p ∈ r.ps, p < rec.tmps.size := fun p hp => by
    have := List.all_eq_true.1 hcond.2 p hp
    rw [h8]; simpa [Nat.blt_eq] using this
  have hsz : vs.size = rec.params.size := by rw [h5]; simp; have := hvs.1; omega
  have hz := zip_frame (g := g) (w := w) (L := L) r.ps args vs.toList r.fr rec.tmps hpl (by simpa using hvs.1) hps (fun j x v hx hv => hvs.2 j x v hx (by simpa using hv)) h9
  have hfold : (rec.params.zip vs).foldl (fun tmps ta => tmps.setIfInBounds ta.1 ta.2) rec.tmps = (r.ps.zip vs.toList).foldl (fun tmps ta => tmps.setIfInBounds ta.1 ta.2) rec.tmps := by
    rw [← Array.foldl_toList]
    rw [h5]
    simp
  refine ⟨_, _, _, _, run_yield h2 hsz, ?_⟩
  rw [h6, h7]
  refine roundIn_of_wpIn trivial ?_
  have hE : (Fence.wide.inRound q) = Fx (some q) := rfl
  rw [hE]
  have hs0 : St L.length (some q) g ⟨zipF r.ps args r.fr, r.n, L, [], some b⟩ { tmps := (rec.params.zip vs).foldl (fun tmps x => match x with | (t, a) => tmps.setIfInBounds t a) rec.tmps, defers := [] } w := by
    have hf' : (rec.params.zip vs).foldl (fun tmps x => match x with | (t, a) => tmps.setIfInBounds t a) rec.tmps = (r.ps.zip vs.toList).foldl (fun tmps ta => tmps.setIfInBounds ta.1 ta.2) rec.tmps := hfold
    refine ⟨by rw [hf']; exact hz.1.trans h8, fun i => by rw [hf']; exact hz.2 i, hg, Nat.le_refl _, rfl, fun i b d hb => by simp at hb, fun lb hlb => ?_, fun h => by cases h⟩
    cases hlb
    exact ⟨q, rfl, .yld _ _ _ hL h1⟩
  refine wpIn_mono (vc_ok hC _ _ _ g _ w h hs0) ?_
  rintro e a1 w1 ⟨σ1, g1, hq1, hs1, hp1⟩
  cases e
  case normal =>
    simp only [] at hq1
    split at hq1
    case h_2 => exact hq1.elim
    rename_i r1 hL1
    split at hq1
    case h_2 => exact hq1.elim
    rename_i hst1
    rw [setB_eq] at hq1
    obtain ⟨q1, rec1, m1, m2, m3, m4⟩ := RB.loop_of hs1.good hL1
    have hy1 : RV g1 w1 σ1.L (.yld b) (.func (.yield q) #[] #[]) := hp1.mono _ _ hy.bel hy
    have e1 : q1 = q := yld_at hL1 m1 hy1
    subst e1
    obtain ⟨s1, s2⟩ := loop_step hs1.good hL1 m1 m2 .busy rec1.pending
    rw [m4] at s1 s2
    have hb : (Instr.beginRound q1).run C.P w1 = .ok () (w1.putObj q1 (.loop { rec1 with state := .busy, pending := r1.pend })) := by
      rw [run_beginRound m2 (m3.trans hst1), ← m4]
    refine ⟨_, hb, ?_⟩
    have hs2 : St L.length (some q1) g1 { σ1 with L := σ1.L.set b (.loop { r1 with st := .busy }) } a1 (w1.putObj q1 (.loop { rec1 with state := .busy, pending := r1.pend })) :=
      hs1.of_at ⟨hs1.n, fun i => s2.mono _ _ (hs1.fr i).bel (hs1.fr i), s1⟩ rfl s2
    refine wpIn_mono (vc_ok hC _ _ _ g1 a1 _ hq1 hs2) ?_
    rintro e a2 w2 ⟨σ2, g2, hq2, hs2', hp2⟩
    have hp02 : Prog L.length g w L g2 w2 σ2.L := hp1.trans ((s2.le hs1.k (Nat.le_refl _)).trans hp2)
    unfold vRoundEnd at hq2
    split at hq2
    case h_2 => exact hq2.elim
    rename_i r2 hL2
    obtain ⟨q2, rec2, n1, n2, n3, n4⟩ := RB.loop_of hs2'.good hL2
    have hy2 : RV g2 w2 σ2.L (.yld b) (.func (.yield q1) #[] #[]) := hp02.mono _ _ hy.bel hy
    have e2 : q2 = q1 := yld_at hL2 n1 hy2
    subst e2
    have fin : ∀ (jump : Option Code) (st : LoopState), st = (if jump.isNone then .ready else .done) → FinP L.length (.d (.bool jump.isNone)) (σ2.L.set b (.loop { r2 with st := st, pend := jump })) k →
        ∃ v w', (Instr.endRound q2 jump).run C.P w2 = .ok v w' ∧ ∃ v' X L' g', Ending.returned v = .returned v' ∧ k X L' ∧ RV g' w' L' X v' ∧ Good g' w' L' ∧ Prog L.length g w L g' w' L' := by
      intro jump st hst hF
      unfold FinP at hF
      obtain ⟨X', L', hret, hk⟩ := hF
      obtain ⟨t1, t2⟩ := loop_step hs2'.good hL2 n1 n2 st jump
      have hlen := hs2'.k
      obtain ⟨g', c1, c2, c3⟩ := hret g2 _ (.bool jump.isNone) t1 (by simpa using hlen) (.d _ _ (.bool _))
      refine ⟨_, _, run_endRound jump n2, _, X', L', g', rfl, hk, ?_⟩
      rw [← hst]
      exact ⟨c2, c1, hp02.trans ((t2.le hlen (Nat.le_refl _)).trans c3)⟩
    cases e
    case normal =>
      simp only [setB_eq] at hq2
      exact fin none .ready rfl hq2
    case ret =>
      simp only [setB_eq] at hq2
      exact fin (some .ret) .done rfl hq2
    case exit id =>
      simp only [setB_eq] at hq2
      exact fin (some (.exit id)) .done rfl hq2
    all_goals exact hq2.elim
  all_goals exact hq1.elim
end
end Go.Tidy
