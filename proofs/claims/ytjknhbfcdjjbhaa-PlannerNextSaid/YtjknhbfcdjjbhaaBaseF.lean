import Derived.Test.YtjknhbfcdjjbhaaBaseE
/-
  The base layer: small laws for the contracts' proofs.
-/
namespace Go.Tidy
abbrev I (n : Int) : V := .d (.int .i64 n)
abbrev B (b : Bool) : V := .d (.bool b)
abbrev DI (n : Int) : D := .int .i64 n

theorem wrap_id {n : Int} (h1 : -9223372036854775808 ≤ n) (h2 : n ≤ 9223372036854775807) : IntKind.i64.wrap n = n := by
  simp only [IntKind.wrap, IntKind.bits, IntKind.signed]
  simp
  split <;> omega

theorem Idx.map {α β : Type} {f : α → β} {l : List α} {i : Int} {k : Nat → β → Prop} (n : Nat) (hi : i = n) (h : n < l.length) (hk : k n (f l[n])) : Idx (l.map f) i k :=
  Idx.intro n (f l[n]) hi (by rw [List.getElem?_map, List.getElem?_eq_getElem h]; rfl) hk
end Go.Tidy

/-
  The base layer: a round of a loop over a function.
-/
namespace Go.Tidy

def zipF : List Tmp → List V → List (Nat × V) → List (Nat × V)
  | p :: ps, x :: xs, fr => zipF ps xs ((p, x) :: fr)
  | _, _, fr => fr

def vRoundEnd (b k0 : Nat) (k : V → List Blk → Prop) (e : Exit) (σ : TS) : Prop :=
  match σ.L[b]? with
  | some (.loop r) => match e with
    | .normal => setB σ.L b (.loop { r with st := .ready, pend := none }) fun L => FinP k0 (.d (.bool true)) L k
    | .ret => setB σ.L b (.loop { r with st := .done, pend := some .ret }) fun L => FinP k0 (.d (.bool false)) L k
    | .exit id => setB σ.L b (.loop { r with st := .done, pend := some (.exit id) }) fun L => FinP k0 (.d (.bool false)) L k
    | _ => False
  | _ => False
def vRound (C : Ctx) (cut : Code → Bool) (b : Nat) (args : List V) (L : List Blk) (k : V → List Blk → Prop) : Prop :=
  match L[b]? with
  | some (.loop r) => match r.st with
    | .ready => bif Nat.beq r.ps.length args.length && r.ps.all (fun p => Nat.blt p r.n) then
        vc C cut L.length r.assign ⟨zipF r.ps args r.fr, r.n, L, [], some b⟩ fun e σ => match e with
          | .normal => match σ.L[b]? with
            | some (.loop r1) => match r1.st with
              | .ready => setB σ.L b (.loop { r1 with st := .busy }) fun L1 => vc C cut L.length r.body { σ with L := L1 } (vRoundEnd b L.length k)
              | _ => False
            | _ => False
          | _ => False
      else False
    | _ => False
  | _ => False

section
variable {C : Ctx} {g : Gh} {w : World} {L : List Blk}

theorem zip_frame : ∀ (ps : List Tmp) (xs : List V) (vs : List Value) (fr : List (Nat × V)) (tmps : Array Value), ps.length = xs.length → xs.length = vs.length → (∀ p ∈ ps, p < tmps.size) →
    (∀ (j : Nat) (x : V) (v : Value), xs[j]? = some x → vs[j]? = some v → RV g w L x v) → (∀ i, RV g w L (look fr i) (tmps.getD i undef)) →
    ((ps.zip vs).foldl (fun tmps ta => tmps.setIfInBounds ta.1 ta.2) tmps).size = tmps.size ∧ ∀ i, RV g w L (look (zipF ps xs fr) i) (((ps.zip vs).foldl (fun tmps ta => tmps.setIfInBounds ta.1 ta.2) tmps).getD i undef)
  | [], [], [], fr, tmps, _, _, _, _, h => ⟨rfl, h⟩
  | p :: ps, x :: xs, v :: vs, fr, tmps, h1, h2, h3, h4, h => by
    have ih := zip_frame ps xs vs ((p, x) :: fr) (tmps.setIfInBounds p v) (by simpa using h1) (by simpa using h2) (fun q hq => by simpa using h3 q (by simp [hq]))
      (fun j x v hx hv => h4 (j + 1) x v (by simpa using hx) (by simpa using hv)) (fun i => by
        rw [look_cons]
        have hp := h3 p (by simp)
        by_cases e : p = i
        · subst e
          rw [if_pos rfl]
          simp [Array.getD, hp]
          exact h4 0 x v rfl rfl
        · rw [if_neg e]
          have : (tmps.setIfInBounds p v).getD i undef = tmps.getD i undef := by
            simp only [Array.getD_eq_getD_getElem?, Array.getElem?_setIfInBounds_ne e]
          rw [this]
          exact h i)
    refine ⟨?_, ?_⟩
    · simpa using ih.1
    · simpa [zipF] using ih.2
  | [], _ :: _, _, _, _, h1, _, _, _, _ => by simp at h1
  | _ :: _, [], _, _, _, h1, _, _, _, _ => by simp at h1
  | [], [], _ :: _, _, _, _, h2, _, _, _ => by simp at h2
  | _ :: _, _ :: _, [], _, _, _, h2, _, _, _ => by simp at h2

theorem loop_step (hg : Good g w L) {b q : Nat} {l : LoopR} {rec : Loop} (hL : L[b]? = some (.loop l)) (hm : g.m b = some q) (hh : w.heap[q]? = some (.loop rec)) (st : LoopState) (pd : Option Code) :
    Good g (w.putObj q (.loop { rec with state := st, pending := pd })) (L.set b (.loop { l with st := st, pend := pd })) ∧
    Prog L.length g w L g (w.putObj q (.loop { rec with state := st, pending := pd })) (L.set b (.loop { l with st := st, pend := pd })) := by
  have hbl := lt_of_get hL
  have hql : q < w.heap.size := (Array.getElem?_eq_some_iff.1 hh).1
  have S : Step g w L b (.loop { l with st := st, pend := pd }) g (w.putObj q (.loop { rec with state := st, pending := pd })) := by
    refine ⟨hg, ⟨_, hL, by simp⟩, by rw [hL]; simp, ⟨rfl, rfl, rfl⟩, by simp, rfl, fun _ _ => rfl, fun _ _ => rfl, fun p o' hp hne => putObj_ext p o' hp (by rw [← hm]; exact hne), fun r hr => .inl hr, ?_⟩
    exact ⟨fun cs e => (by rw [hL] at e; cases e), fun gen sz els e => (by rw [hL] at e; cases e), fun es e => (by rw [hL] at e; cases e), fun l0 _ => .inr ⟨_, List.getElem?_set_self hbl, rfl⟩, fun e => (by rw [hL] at e; cases e)⟩
  obtain ⟨q', rec', h1, h2, h3, h4, h5, h6, h7, h8, h9, h10, h11⟩ := hg.blk b _ hL
  rw [hm] at h1; cases h1
  rw [hh] at h2; cases h2
  have hne : l.df ≠ b := fun e => by have h11 := h11.1; rw [e, hL] at h11; cases h11
  refine ⟨S.good' ⟨q, _, hm, World.putObj_heap_same hql, rfl, rfl, h5, h6, h7, h8, fun i => S.mono (h9 i), h10, ?_, h11.2⟩, S.prog⟩
  rw [List.getElem?_set_ne (Ne.symm hne)]; exact h11.1

theorem yld_at {b q l : Nat} {r : LoopR} (hL : L[b]? = some (.loop r)) (hm : g.m b = some q) (h : RV g w L (.yld b) (.func (.yield l) #[] #[])) : q = l := by
  generalize hv : Value.func (.yield l) #[] #[] = v at h
  cases h with
  | yld _ r' _ hL' hm' => rw [hm] at hm'; cases hm'; cases hv; rfl
  | yldX _ r' hL' => rw [hL] at hL'; cases hL'

def RoundPan (P : Program) (fn : Func) (R : Ending → World → Prop) (e : Exit) (a : Act) (w : World) : Prop :=
  ∃ ch, e = .panic ch ∧ LeavesInM Fence.wide 0 P fn a.tmps (fun e w => (∃ ch, e = .panicked ch) ∧ R e w) a.defers (.panicking ch) w

theorem roundIn_of_wpV {P : Program} {l : Nat} {f : FuncId} {tmps : Array Value} {assign body : Code} {w : World} {R : Ending → World → Prop} {fn : Func} (hf : P.funcs[f]? = some fn)
    (h : wpV (some l) P assign (fun e a1 w1 => (e = .normal ∧ ∃ w2, (Instr.beginRound l).run P w1 = .ok () w2 ∧ wpV (some l) P body (fun e a w => roundPost P l R e a w ∨ RoundPan P fn R e a w) a1 w2) ∨ RoundPan P fn R e a1 w1) { tmps := tmps, defers := [] } w) :
    RoundIn Fence.wide 0 P l f tmps assign body w R := by
  refine ⟨trivial, fun c cs _ => ?_⟩
  obtain ⟨b, hbd⟩ : ∃ b : Frame, b = { (default : Frame) with fn := f, kind := .normal, roundOf := some l } := ⟨_, rfl⟩
  have hbf : b.fn = f := by rw [hbd]
  have hbk : b.kind = .normal := by rw [hbd]
  have hbr : b.roundOf = some l := by rw [hbd]
  have hb0 : Frame.round l f tmps assign body .normal = b.atR { tmps := tmps, defers := [] } [.code assign, .beginRound, .code body] := by
    rw [hbd]; simp [Frame.round, Frame.atR]
  have hv : ∃ fn, P.funcs[b.fn]? = some fn := ⟨fn, by rw [hbf]; exact hf⟩
  have pan : ∀ (a : Act) (todo : List Item) (w1 : World) (ch : List PanicEntry), StepsIn (Machine.fenced P (Fx (some l))) P (lone (Frame.round l f tmps assign body .normal) (c :: cs) w) (lone { b.atR a todo with mode := .panicking ch } (c :: cs) w1) →
      LeavesInM Fence.wide 0 P fn a.tmps (fun e w => (∃ ch, e = .panicked ch) ∧ R e w) a.defers (.panicking ch) w1 →
      ∃ e w', R e w' ∧ ComesIn (Machine.fenced P Fence.wide) P (lone (Frame.round l f tmps assign body .normal) (c :: cs) w)
        (match e with
         | .returned v => lone (c.finish v) cs w'
         | .panicked chain => lone (c.raise chain) cs w'
         | .outgrown => lone c cs w') e := by
    intro a todo w1 ch s hl
    obtain ⟨e2, w2, fr2, ⟨⟨ch2, rfl⟩, hR⟩, hs2, hfn, hlv⟩ := leaves_stepsInM a.defers (.panicking ch) w1 { b.atR a todo with mode := .panicking ch } (c :: cs) rfl rfl rfl (by simpa [Frame.atR, hbf] using hf) (by simpa [Frame.atR] using hbk) trivial (room_wide _) hl
    have hs3 : StepsIn (Machine.fenced P Fence.wide) P _ _ := hs2
    exact ⟨.panicked ch2, w2, hR, (stepsIn_wide.2 s.steps).trans (hs3.trans (.one (fenced_wide _ _) (step_leave_panicked hlv)))⟩
  obtain ⟨e, a1, w1, hq, s1⟩ := h b [.beginRound, .code body] (c :: cs) hbr hv
  rw [← hb0] at s1
  rcases hq with ⟨rfl, w2, hbr2, hbody⟩ | ⟨ch, rfl, hl⟩
  rotate_left
  · obtain ⟨todo, s⟩ := s1; exact pan a1 todo w1 ch s hl
  have s2 := StepsIn.trans s1 (.one (fenced_Fx P _) (stepR_beginRound hbr hbr2))
  obtain ⟨e2, a2, w3, hq2, s3⟩ := hbody b [] (c :: cs) hbr hv
  have wide : ∀ {m m' : Machine}, StepsIn (Machine.fenced P (Fx (some l))) P m m' → StepsIn (Machine.fenced P Fence.wide) P m m' := fun s => stepsIn_wide.2 s.steps
  rcases hq2 with hq2 | ⟨ch, rfl, hl⟩
  rotate_left
  · obtain ⟨todo, s⟩ := s3; exact pan a2 todo w3 ch (s2.trans s) hl
  cases e2 with
  | normal =>
    obtain ⟨v, w4, hend, hR⟩ := hq2
    exact ⟨.returned v, w4, hR, wide ((s2.trans s3).trans (.one (fenced_Fx P _) (stepR_round_end hbr (by simpa using hbk) hend)))⟩
  | ret =>
    obtain ⟨v, w4, hend, hR⟩ := hq2
    obtain ⟨k1, s⟩ := s3.2 (by rw [hbr]; rfl)
    exact ⟨.returned v, w4, hR, wide ((s2.trans s).trans (.one (fenced_Fx P _) (stepR_round_ret hbr (by simpa using hbk) hend)))⟩
  | exit id =>
    obtain ⟨v, w4, hend, hR⟩ := hq2
    obtain ⟨k1, hk, s⟩ := s3.2 (by rw [hbr]; rfl) rfl
    exact ⟨.returned v, w4, hR, wide ((s2.trans s).trans (.one (fenced_Fx P _) (stepR_round_exit hbr (by simpa using hbk) hk hend)))⟩
  | goto t =>
    obtain ⟨v, w4, hend, hR⟩ := hq2
    obtain ⟨k1, hk, s⟩ := s3.2 (by rw [hbr]; rfl) rfl
    exact ⟨.returned v, w4, hR, wide ((s2.trans s).trans (.one (fenced_Fx P _) (stepR_round_goto hbr (by simpa using hbk) hk hend)))⟩
  | panic chain => exact hq2.elim
  | outgrown => exact hq2.elim

theorem YieldP.round (hC : C.OK) (cut : Code → Bool) {b : Nat} {args : List V} {k : V → List Blk → Prop} (h : vRound C cut b args L k) (hpn : C.pn ≤ L.length := by exact Nat.zero_le _) : YieldP C b args L k := by
  unfold YieldP
  intro g w vs l hg hvs hy
  unfold vRound at h
  split at h
  case h_2 => exact h.elim
  rename_i r hL
  split at h
  case h_2 => exact h.elim
  rename_i hst
  cases hcond : (Nat.beq r.ps.length args.length && r.ps.all (fun p => Nat.blt p r.n)) with
  | false => simp only [hcond, cond_false] at h
  | true =>
  simp only [hcond, cond_true] at h
  rw [Bool.and_eq_true] at hcond
  have hpl := Nat.eq_of_beq_eq_true hcond.1
  obtain ⟨q, rec, h1, h2, h3, h4, h5, h6, h7, h8, h9, h10, h11, hvf⟩ := hg.blk b _ hL
  obtain ⟨fn, hfn⟩ := hC.ex _ hvf
  have hq : q = l := yld_at hL h1 hy
  subst hq
  have hps : ∀ p ∈ r.ps, p < rec.tmps.size := fun p hp => by
    have := List.all_eq_true.1 hcond.2 p hp
    rw [h8]; simpa [Nat.blt_eq] using this
  have hsz : vs.size = rec.params.size := by rw [h5]; simp; have := hvs.1; omega
  have hz := zip_frame (g := g) (w := w) (L := L) r.ps args vs.toList r.fr rec.tmps hpl (by simpa using hvs.1) hps (fun j x v hx hv => hvs.2 j x v hx (by simpa using hv)) h9
  have hfold : (rec.params.zip vs).foldl (fun tmps ta => tmps.setIfInBounds ta.1 ta.2) rec.tmps = (r.ps.zip vs.toList).foldl (fun tmps ta => tmps.setIfInBounds ta.1 ta.2) rec.tmps := by
    rw [← Array.foldl_toList]
    rw [h5]
    simp
  refine ⟨_, _, _, _, run_yield h2 hsz, ?_⟩
  rw [h6, h7]
  refine roundIn_of_wpV hfn ?_
  have hs0 : St L.length (some q) g ⟨zipF r.ps args r.fr, r.n, L, [], some b⟩ { tmps := (rec.params.zip vs).foldl (fun tmps x => match x with | (t, a) => tmps.setIfInBounds t a) rec.tmps, defers := [] } w := by
    have hf' : (rec.params.zip vs).foldl (fun tmps x => match x with | (t, a) => tmps.setIfInBounds t a) rec.tmps = (r.ps.zip vs.toList).foldl (fun tmps ta => tmps.setIfInBounds ta.1 ta.2) rec.tmps := hfold
    refine ⟨by rw [hf']; exact hz.1.trans h8, fun i => by rw [hf']; exact hz.2 i, hg, Nat.le_refl _, rfl, fun i b d hb => by simp at hb, fun lb hlb => ?_, fun h => by cases h⟩
    cases hlb
    exact ⟨q, rfl, .yld _ _ _ hL h1⟩
  have pan : ∀ {Q : Exit → TS → Prop} {e : Exit} {a' : Act} {w' : World}, PostP C L.length g w L e a' w' → NewD { tmps := (rec.params.zip vs).foldl (fun tmps x => match x with | (t, a) => tmps.setIfInBounds t a) rec.tmps, defers := [] } w a' →
      RoundPan C.P fn (fun e w' => (∃ v X L' g', e = .returned v ∧ k X L' ∧ RV g' w' L' X v ∧ Good g' w' L' ∧ Prog L.length g w L g' w' L') ∨ PanO C g w L e w') e a' w' := by
    rintro Q e a' w' ⟨v, X, L', g', rfl, hS, hi⟩ hnew
    refine ⟨_, rfl, marks_pan a'.defers w' (hnew.2 List.nodup_nil) (fun d hd => ?_) hg hS (fun w2 hS2 => ⟨⟨_, rfl⟩, .inr ⟨v, X, L', g', rfl, hS2⟩⟩)⟩
    obtain ⟨q, h1, h2, h3, h4⟩ := hi d hd
    refine ⟨q, h1, h2, h3, h4, ?_⟩
    rcases hnew.1 d hd with h5 | ⟨q', h5, h6⟩
    · simp at h5
    · rw [h1] at h5; cases h5; exact h6
  refine wpV_mono (vc_ok hC hpn _ _ _ g _ w h hs0) ?_
  rintro e a1 w1 ⟨⟨σ1, g1, hq1, hs1, hp1⟩ | hpp, hn1, -⟩
  rotate_left
  · exact .inr (pan (Q := fun _ _ => False) hpp hn1)
  refine .inl ?_
  cases e
  case normal =>
    simp only [] at hq1
    split at hq1
    case h_2 => exact hq1.elim
    rename_i r1 hL1
    split at hq1
    case h_2 => exact hq1.elim
    rename_i hst1
    rw [setB_eq] at hq1
    obtain ⟨q1, rec1, m1, m2, m3, m4⟩ := RB.loop_of hs1.good hL1
    have hy1 : RV g1 w1 σ1.L (.yld b) (.func (.yield q) #[] #[]) := hp1.mono _ _ hy.bel hy
    have e1 : q1 = q := yld_at hL1 m1 hy1
    subst e1
    obtain ⟨s1, s2⟩ := loop_step hs1.good hL1 m1 m2 .busy rec1.pending
    rw [m4] at s1 s2
    have hb : (Instr.beginRound q1).run C.P w1 = .ok () (w1.putObj q1 (.loop { rec1 with state := .busy, pending := r1.pend })) := by
      rw [run_beginRound m2 (m3.trans hst1), ← m4]
    refine ⟨rfl, _, hb, ?_⟩
    have hs2 : St L.length (some q1) g1 { σ1 with L := σ1.L.set b (.loop { r1 with st := .busy }) } a1 (w1.putObj q1 (.loop { rec1 with state := .busy, pending := r1.pend })) :=
      hs1.of_at ⟨hs1.n, fun i => s2.mono _ _ (hs1.fr i).bel (hs1.fr i), s1⟩ rfl s2
    refine wpV_mono (vc_ok hC hpn _ _ _ g1 a1 _ hq1 hs2) ?_
    intro e a2 w2 hpost
    have hp12 := hp1.trans (s2.le hs1.k (Nat.le_refl _))
    obtain ⟨⟨σ2, g2, hq2, hs2', hp02⟩ | hpp, hn2, -⟩ := Post.later (Nat.le_refl _) hp12 hn1 hpost
    rotate_left
    · exact .inr (pan (Q := fun _ _ => False) hpp hn2)
    refine .inl ?_
    unfold vRoundEnd at hq2
    split at hq2
    case h_2 => exact hq2.elim
    rename_i r2 hL2
    obtain ⟨q2, rec2, n1, n2, n3, n4⟩ := RB.loop_of hs2'.good hL2
    have hy2 : RV g2 w2 σ2.L (.yld b) (.func (.yield q1) #[] #[]) := hp02.mono _ _ hy.bel hy
    have e2 : q2 = q1 := yld_at hL2 n1 hy2
    subst e2
    have fin : ∀ (jump : Option Code) (st : LoopState), st = (if jump.isNone then .ready else .done) → FinP L.length (.d (.bool jump.isNone)) (σ2.L.set b (.loop { r2 with st := st, pend := jump })) k →
        ∃ v w', (Instr.endRound q2 jump).run C.P w2 = .ok v w' ∧ ((∃ v' X L' g', Ending.returned v = .returned v' ∧ k X L' ∧ RV g' w' L' X v' ∧ Good g' w' L' ∧ Prog L.length g w L g' w' L') ∨ PanO C g w L (.returned v) w') := by
      intro jump st hst hF
      unfold FinP at hF
      obtain ⟨X', L', hret, hk⟩ := hF
      obtain ⟨t1, t2⟩ := loop_step hs2'.good hL2 n1 n2 st jump
      have hlen := hs2'.k
      obtain ⟨g', c1, c2, c3⟩ := hret g2 _ (.bool jump.isNone) t1 (by simpa using hlen) (.d _ _ (.bool _))
      refine ⟨_, _, run_endRound jump n2, .inl ⟨_, X', L', g', rfl, hk, ?_⟩⟩
      rw [← hst]
      exact ⟨c2, c1, hp02.trans ((t2.le hlen (Nat.le_refl _)).trans c3)⟩
    cases e
    case normal =>
      simp only [setB_eq] at hq2
      exact fin none .ready rfl hq2
    case ret =>
      simp only [setB_eq] at hq2
      exact fin (some .ret) .done rfl hq2
    case exit id =>
      simp only [setB_eq] at hq2
      exact fin (some (.exit id)) .done rfl hq2
    all_goals exact hq2.elim
  all_goals exact hq1.elim
end
end Go.Tidy

/-
  The base layer: what a function owns, handed to a contract that speaks of data.
-/
namespace Go.Tidy

inductive CwL (S : Nat → Prop) (L : List Blk) : List V → List V → Prop
  | nil : CwL S L [] []
  | keep {x : V} {xs ys : List V} (h : CwL S L xs ys) : CwL S L (x :: xs) (x :: ys)
  | cv {x y : V} {xs ys : List V} (h : Cw S L x y) (hs : CwL S L xs ys) : CwL S L (x :: xs) (y :: ys)

section
variable {C : Ctx} {g : Gh} {w : World} {L : List Blk}

theorem CwL.len {S : Nat → Prop} {xs ys : List V} (h : CwL S L xs ys) : xs.length = ys.length := by
  induction h with
  | nil => rfl
  | keep _ ih => simp [ih]
  | cv _ _ ih => simp [ih]

theorem CwL.rvs {S : Nat → Prop} (hg : Good g w L) {g' : Gh} {L' : List Blk} {xs ys : List V} (h : CwL S L xs ys) (hI : ∀ q, g.I q → g'.I q) (hI' : ∀ b q, S b → live L b → g.m b = some q → g'.I q)
    (hkeep : ∀ (x : V) (v : Value), x ∈ ys → RV g w L x v → RV g' w L' x v) : ∀ (vs : List Value), (∀ (j : Nat) (x : V) (v : Value), xs[j]? = some x → vs[j]? = some v → RV g w L x v) →
    ∀ (j : Nat) (y : V) (v : Value), ys[j]? = some y → vs[j]? = some v → RV g' w L' y v := by
  induction h with
  | nil => intro vs _ j y v hy; simp at hy
  | keep h ih =>
    intro vs hr j y v hy hv
    cases vs with
    | nil => simp at hv
    | cons u us =>
      cases j with
      | zero => simp at hy hv; subst hy hv; exact hkeep _ _ (by simp) (hr 0 _ _ rfl rfl)
      | succ j => exact ih (fun x v hx => hkeep x v (by simp [hx])) us (fun j x v hx hv => hr (j + 1) x v (by simpa using hx) (by simpa using hv)) j y v (by simpa using hy) (by simpa using hv)
  | cv hc h ih =>
    intro vs hr j y v hy hv
    cases vs with
    | nil => simp at hv
    | cons u us =>
      cases j with
      | zero => simp at hy hv; subst hy hv; exact hc.rv hg hI hI' (hr 0 _ _ rfl rfl)
      | succ j => exact ih (fun x v hx => hkeep x v (by simp [hx])) us (fun j x v hx hv => hr (j + 1) x v (by simpa using hx) (by simpa using hv)) j y v (by simpa using hy) (by simpa using hv)

def D.scalar : D → Bool
  | .bool _ | .int _ _ | .str _ | .nilptr | .nilfn | .niliface | .nilmap => true
  | .sl els => els.isEmpty
  | .fn _ caps => caps.isEmpty
  | _ => false
mutual
def V.scalar : V → Bool
  | .d x => x.scalar
  | .poison | .tt | .ff | .nil | .glob _ => true
  | .agg cs => V.scalarL cs
  | .tup cs => V.scalarL cs
  | .fn _ cs => V.scalarL cs
  | _ => false
def V.scalarL : List V → Bool
  | [] => true
  | x :: r => V.scalar x && V.scalarL r
end
theorem V.scalarL_get : ∀ {cs : List V} {j : Nat} {x : V}, V.scalarL cs = true → cs[j]? = some x → x.scalar = true
  | [], j, x, _, h => by simp at h
  | c :: r, 0, x, hb, h => by simp only [V.scalarL, Bool.and_eq_true] at hb; simp at h; exact h ▸ hb.1
  | c :: r, j + 1, x, hb, h => by simp only [V.scalarL, Bool.and_eq_true] at hb; exact V.scalarL_get hb.2 (by simpa using h)

theorem RV.scalar {g' : Gh} {w' : World} {L' : List Blk} {x : V} {v : Value} (h : RV g w L x v) : x.scalar = true → RV g' w' L' x v := by
  induction h with
  | poison v => exact fun _ => .poison v
  | tt => exact fun _ => .tt
  | ff => exact fun _ => .ff
  | nil => exact fun _ => .nil
  | glob k => exact fun _ => .glob k
  | d x v h =>
    intro hs
    refine .d _ _ ?_
    cases h with
    | bool b => exact .bool b
    | int k n => exact .int k n
    | str s => exact .str s
    | nilptr => exact .nilptr
    | nilfn => exact .nilfn
    | niliface => exact .niliface
    | nilmap => exact .nilmap
    | slNil a c => exact .slNil a c
    | sl els ad c sz cs hsz hcell hi hlc hrec =>
      have : els = [] := by simpa [V.scalar, D.scalar] using hs
      subst this
      exact .slNil _ _
    | fn f caps vs hlen hrec =>
      have : caps = [] := by simpa [V.scalar, D.scalar] using hs
      subst this
      exact .fn f [] vs hlen (fun j x v hx => by simp at hx)
    | rptr | ifaceA | ifaceL => simp [V.scalar, D.scalar] at hs
  | agg cs vs hlen hone _ ih => exact fun hs => .agg cs vs hlen hone fun j x v hx hv => ih j x v hx hv (V.scalarL_get (by simpa [V.scalar] using hs) hx)
  | tup cs vs hlen _ ih => exact fun hs => .tup cs vs hlen fun j x v hx hv => ih j x v hx hv (V.scalarL_get (by simpa [V.scalar] using hs) hx)
  | fn f cs vs hlen _ ih => exact fun hs => .fn f cs vs hlen fun j x v hx hv => ih j x v hx hv (V.scalarL_get (by simpa [V.scalar] using hs) hx)
  | _ => intro hs; simp [V.scalar] at hs

theorem CallP.borrow [Quiet C] {f : FuncId} {args dargs : List V} {q k : V → List Blk → Prop} (h : CallP C f dargs [] q) (hc : CwL (fun _ => True) L args dargs) (ha : V.belL 0 dargs = true)
    (hk : ∀ X L', q X L' → L' = [] ∧ X.scalar = true ∧ k X L) : CallP C f args L k := by
  rw [CallP_q] at h ⊢
  have hbel : ∀ x ∈ dargs, x.bel 0 = true := fun x hx => by
    obtain ⟨j, hj⟩ := List.mem_iff_getElem?.1 hx
    exact V.belL_get ha hj
  refine ⟨h.1, fun g w vs hg hv => (h.2 { I := fun r => r < w.heap.size, m := fun _ => none, cap := fun _ => 0 } w vs ⟨?_, ?_, ?_, ?_, hg.gl.mono (fun r h => hg.lt r h) (fun a v _ h => h)⟩ ?_).mono ?_⟩
  · rintro b b' r ⟨k, hk, _⟩; simp at hk
  · rintro r ⟨b, ⟨k, hk, _⟩, _⟩; simp at hk
  · exact fun r h => h
  · intro b k hk; simp at hk
  · refine ⟨hc.len ▸ hv.1, fun j y v hy hvj => ?_⟩
    refine hc.rvs hg (g' := { I := fun r => r < w.heap.size, m := fun _ => none, cap := fun _ => 0 }) (L' := []) (fun r hr => hg.lt r hr) (fun b r _ hl hm => hg.owned_lt ⟨b, hl, hm⟩) (fun x u hx hu => ?_) vs.toList
      (fun j x v hx hv' => hv.2 j x v hx (by simpa using hv')) j y v hy (by simpa using hvj)
    exact RV.mono (g := g) (g' := { I := fun r => r < w.heap.size, m := fun _ => none, cap := fun _ => 0 }) (L := L) (k := 0) (fun r h => hg.lt r h) (fun a v _ h => h) (fun b hb => absurd hb (Nat.not_lt_zero _)) (hbel x hx) hu
  · rintro e w' ⟨v, X, L1, g1, he, hX, hr, hg1, hp⟩
    obtain ⟨rfl, hsc, hkX⟩ := hk X L1 hX
    have no : ∀ (g' : Gh) q, ¬ owned g' ([] : List Blk) q := fun g' q ⟨b, ⟨k, hk, _⟩, _⟩ => by simp at hk
    have heap : ∀ (q : Nat) (o : Obj), w.heap[q]? = some o → w'.heap[q]? = some o := fun q o h => hp.kept q o h (no _ q)
    have cells : ∀ (a : Addr) (v : Value), g.I a.block → w.cell? a = some v → w'.cell? a = some v := by
      intro a v hI hc
      have hlt := hg.lt _ hI
      have hh := heap a.block (w.heap[a.block]) (Array.getElem?_eq_getElem hlt)
      rw [World.cell?_of_block (w := w) (w' := w') (by rw [hh, Array.getElem?_eq_getElem hlt])]
      exact hc
    have mono : ∀ (x : V) (v : Value), RV g w L x v → RV g w' L x v := fun x v h =>
      RV.mono (g := g) (g' := g) (L := L) (L' := L) (k := L.length) (fun q hq => hq) cells (fun b _ => Keep.refl g L b) h.bel h
    refine ⟨v, X, L, g, he, hkX, hr.scalar hsc, ⟨hg.inj, hg.dis, fun q hq => Nat.lt_of_lt_of_le (hg.lt q hq) hp.size, fun b k hk => ?_, hg.gl.mono (fun q hq => hq) cells⟩,
      ⟨hp.env, hp.size, fun q o h _ => heap q o h, fun q h _ => h, fun q h => .inl h, fun q h => h, fun x v _ h => mono x v h, fun b r _ h1 h2 => ⟨h1, h2⟩, fun h => h⟩⟩
    exact RB.mono' mono rfl rfl (fun q o _ ho => heap q o ho) (fun l _ => ⟨rfl, fun h => h⟩) (hg.blk b k hk)

def plainBlk (L : List Blk) (bs : List Nat) : Bool := bs.all fun b => match L[b]? with | some (.row ..) => true | some (.cells _) => true | _ => false
def killB : List Nat → List Blk → List Blk
  | [], L => L
  | b :: r, L => killB r (L.set b .dead)
theorem killB_len : ∀ (bs : List Nat) (L : List Blk), (killB bs L).length = L.length
  | [], L => rfl
  | b :: r, L => by simp [killB, killB_len r]
theorem killB_out : ∀ (bs : List Nat) (L : List Blk) (b : Nat), b ∉ bs → (killB bs L)[b]? = L[b]?
  | [], L, b, _ => rfl
  | c :: r, L, b, h => by
    simp at h
    rw [killB, killB_out r _ b h.2, List.getElem?_set_ne (fun e => h.1 e.symm)]
theorem killB_in : ∀ (bs : List Nat) (L : List Blk) (b : Nat), b ∈ bs → b < L.length → (killB bs L)[b]? = some .dead
  | [], L, b, h, _ => by simp at h
  | c :: r, L, b, h, hl => by
    by_cases hr : b ∈ r
    · exact killB_in r _ b hr (by simpa using hl)
    · have : b = c := by simpa [hr] using h
      subst this
      rw [killB, killB_out r _ b hr, List.getElem?_set_self hl]

theorem CallP.freeze [Quiet C] {f : FuncId} {args dargs : List V} {L' : List Blk} {k : V → List Blk → Prop} (bs : List Nat) (hL : killB bs L = L') (hbs : plainBlk L bs = true) (hc : CwL (· ∈ bs) L args dargs) (h : CallP C f dargs L' k) : CallP C f args L k := by
  subst hL
  rw [CallP_q] at h ⊢
  refine ⟨h.1, fun g w vs hg hv => ?_⟩
  have hp : ∀ b ∈ bs, ∃ k0, L[b]? = some k0 ∧ k0 ≠ .defr ∧ b < L.length := fun b hb => by
    have := List.all_eq_true.1 hbs b hb
    split at this
    · rename_i e; exact ⟨_, e, by simp, lt_of_get e⟩
    · rename_i e; exact ⟨_, e, by simp, lt_of_get e⟩
    · cases this
  let g' : Gh := { g with I := fun q => g.I q ∨ ∃ b ∈ bs, live L b ∧ g.m b = some q }
  have hkeep : ∀ b, Keep g L g' (killB bs L) b := by
    intro b
    by_cases hb : b ∈ bs
    · obtain ⟨_, _, _, hlt⟩ := hp b hb
      have hd := killB_in bs L b hb hlt
      exact ⟨fun _ _ => .inl hd, fun _ _ _ _ => .inl hd, fun _ _ => .inl hd, fun _ _ => .inl hd, fun _ => hd⟩
    · exact Keep.same (killB_out bs L b hb) rfl rfl
  have mono : ∀ (x : V) (v : Value), RV g w L x v → RV g' w (killB bs L) x v := fun x v hx => RV.mono (g := g) (g' := g') (k := L.length) (fun q hq => .inl hq) (fun a v _ h => h) (fun b _ => hkeep b) hx.bel hx
  have lv : ∀ b, live (killB bs L) b → b ∉ bs ∧ live L b := by
    rintro b ⟨k0, hk0, hd⟩
    by_cases hb : b ∈ bs
    · obtain ⟨_, _, _, hlt⟩ := hp b hb
      rw [killB_in bs L b hb hlt] at hk0
      exact absurd (by cases hk0; rfl) hd
    · rw [killB_out bs L b hb] at hk0
      exact ⟨hb, k0, hk0, hd⟩
  have hgood : Good g' w (killB bs L) := by
    refine ⟨fun b b' r h1 h2 m1 m2 => hg.inj b b' r (lv b h1).2 (lv b' h2).2 m1 m2, ?_, ?_, fun b k0 hk0 => ?_, hg.gl.mono (fun q hq => .inl hq) (fun a v _ h => h)⟩
    · rintro r ⟨b, hl, hm⟩ hI
      obtain ⟨hb, hl'⟩ := lv b hl
      rcases hI with hI | ⟨b', hb', hl2, hm2⟩
      · exact hg.dis r ⟨b, hl', hm⟩ hI
      · exact hb (hg.inj b b' r hl' hl2 hm hm2 ▸ hb')
    · rintro r (hI | ⟨b', _, hl2, hm2⟩)
      · exact hg.lt r hI
      · exact hg.owned_lt ⟨b', hl2, hm2⟩
    · by_cases hb : b ∈ bs
      · obtain ⟨_, _, _, hlt⟩ := hp b hb
        rw [killB_in bs L b hb hlt] at hk0
        cases hk0; trivial
      · rw [killB_out bs L b hb] at hk0
        refine RB.mono' mono rfl rfl (fun _ _ _ h => h) (fun l hl => ⟨rfl, fun h => ?_⟩) (hg.blk b k0 hk0)
        by_cases hd : l.df ∈ bs
        · obtain ⟨k1, e1, e2, _⟩ := hp _ hd
          rw [h] at e1; cases e1; exact absurd rfl e2
        · rw [killB_out bs L _ hd]; exact h
  have hprog : Prog L.length g w L g' w (killB bs L) := by
    refine ⟨⟨rfl, rfl, rfl⟩, Nat.le_refl _, fun _ _ h _ => h, fun r ⟨b, hl, hm⟩ _ => ⟨b, (lv b hl).2, hm⟩, ?_, fun _ h => .inl h, fun x v _ h => mono x v h, fun b r _ h1 h2 => ⟨?_, h2⟩, fun _ => by rw [killB_len]; exact Nat.le_refl _⟩
    · rintro r (hI | ⟨b', _, hl2, hm2⟩)
      · exact .inl hI
      · exact .inr (.inr ⟨b', hl2, hm2⟩)
    · by_cases hd : b ∈ bs
      · obtain ⟨k1, e1, e2, _⟩ := hp _ hd
        rw [h1] at e1; cases e1; exact absurd rfl e2
      · rw [killB_out bs L _ hd]; exact h1
  refine (h.2 g' w vs hgood ⟨hc.len ▸ hv.1, fun j y v hy hvj => ?_⟩).mono ?_
  · exact hc.rvs hg (g' := g') (L' := killB bs L) (fun r hr => .inl hr) (fun b r hb hl hm => .inr ⟨b, hb, hl, hm⟩) (fun x u _ hu => mono x u hu) vs.toList
      (fun j x v hx hv' => hv.2 j x v hx (by simpa using hv')) j y v hy (by simpa using hvj)
  · rintro e w' ⟨v, X, L1, g1, he, hX, hr, hg1, hp1⟩
    exact ⟨v, X, L1, g1, he, hX, hr, hg1, hprog.trans (hp1.le (by rw [killB_len]; exact Nat.le_refl _) (Nat.le_refl _))⟩
end
end Go.Tidy

/-
  The base layer: contracts, as the callers use them.
-/
namespace Go.Tidy

theorem CallP.pure {C : Ctx} [Quiet C] {f : FuncId} {args : List V} {x : V} (h : CallP C f args [] fun X L => L = [] ∧ X = x) (ha : V.belL 0 args = true) (hx : ∀ n, x.sh n = x) {L : List Blk} {k : V → List Blk → Prop} (hk : k x L) : CallP C f args L k :=
  h.frame ha fun X L' ⟨h1, h2⟩ => by subst h1 h2; rw [hx]; simpa [shB] using hk

theorem CallP.lent {C : Ctx} [Quiet C] {f : FuncId} {args dargs : List V} {x : V} {L : List Blk} {k : V → List Blk → Prop} (h : CallP C f dargs [] fun X L => L = [] ∧ X = x) (hc : CwL (fun _ => True) L args dargs) (ha : V.belL 0 dargs = true) (hx : x.scalar = true)
    (hk : k x L) : CallP C f args L k :=
  h.borrow hc ha fun X L' ⟨h1, h2⟩ => by subst h1 h2; exact ⟨rfl, hx, hk⟩

inductive CvL (S : Nat → Prop) (L : List Blk) : List V → List D → Prop
  | nil : CvL S L [] []
  | cons {x : V} {y : D} {xs : List V} {ys : List D} (h : Cv S L x y) (hs : CvL S L xs ys) : CvL S L (x :: xs) (y :: ys)
theorem CvL.get {S : Nat → Prop} {L : List Blk} {xs : List V} {ys : List D} (h : CvL S L xs ys) : xs.length = ys.length ∧ ∀ (j : Nat) (x : V) (y : D), xs[j]? = some x → ys[j]? = some y → Cv S L x y := by
  induction h with
  | nil => exact ⟨rfl, fun j x y hx => by simp at hx⟩
  | cons h hs ih =>
    refine ⟨by simp [ih.1], fun j x y hx hy => ?_⟩
    cases j with
    | zero => simp at hx hy; subst hx hy; exact h
    | succ j => exact ih.2 j x y (by simpa using hx) (by simpa using hy)
theorem CvL.data {S : Nat → Prop} {L : List Blk} : ∀ ds : List D, CvL S L (ds.map .d) ds
  | [] => .nil
  | d :: ds => .cons (.d d) (CvL.data ds)
theorem Cv.fnL {S : Nat → Prop} {L : List Blk} {f : FuncId} {xs : List V} {ys : List D} (h : CvL S L xs ys) : Cv S L (.fn f xs) (.fn f ys) := .fn f xs ys h.get.1 h.get.2
theorem Cv.ptrL {S : Nat → Prop} {L : List Blk} {b off : Nat} {cs : List V} {ys : List D} (hb : S b) (hL : L[b]? = some (.cells cs)) (h : CvL S L (cs.drop off) ys) : Cv S L (.ptr b off) (.rptr ys) := .ptr b off cs ys hb hL h.get.1 h.get.2
theorem Cw.aggL {S : Nat → Prop} {L : List Blk} {xs : List V} {ys : List D} (h : CvL S L xs ys) : Cw S L (.agg xs) (.agg (ys.map .d)) := .agg xs ys h.get.1 h.get.2
end Go.Tidy

/-
  The base layer: searching lists.
-/
namespace Go.Tidy

def ints (l : List Int) : D := .sl (l.map fun n => [DI n])
def findI {α : Type} (p : α → Bool) (l : List α) : Int := match l.findIdx? p with | some i => i | none => -1

theorem findI_hit {α : Type} {p : α → Bool} {l : List α} {i : Nat} (h : i < l.length) (hp : p l[i] = true) (hb : ∀ (j : Nat) (hj : j < l.length), j < i → p l[j] = false) : findI p l = i := by
  have : l.findIdx? p = some i := by
    rw [List.findIdx?_eq_some_iff_getElem]
    exact ⟨h, hp, fun j hj => by simp [hb j (by omega) hj]⟩
  simp [findI, this]
theorem findI_miss {α : Type} {p : α → Bool} {l : List α} (hb : ∀ (j : Nat) (hj : j < l.length), p l[j] = false) : findI p l = -1 := by
  have : l.findIdx? p = none := by
    rw [List.findIdx?_eq_none_iff]
    intro x hx
    obtain ⟨j, hj, rfl⟩ := List.getElem_of_mem hx
    exact hb j hj
  simp [findI, this]
theorem findI_any {α : Type} (p : α → Bool) (l : List α) : decide (0 ≤ findI p l) = l.any p := by
  unfold findI
  cases h : l.findIdx? p with
  | none =>
    rw [List.findIdx?_eq_none_iff] at h
    have : l.any p = false := by rw [List.any_eq_false]; intro x hx; simp [h x hx]
    simp [this]
  | some i =>
    rw [List.findIdx?_eq_some_iff_getElem] at h
    obtain ⟨hi, hp, _⟩ := h
    have : l.any p = true := List.any_eq_true.2 ⟨l[i], List.getElem_mem hi, hp⟩
    simp [this]

structure Far {α : Type} (p : α → Bool) (l : List α) where
  i : Nat
  le : i ≤ l.length
  no : ∀ (j : Nat) (hj : j < l.length), j < i → p l[j] = false
def Far.zero {α : Type} (p : α → Bool) (l : List α) : Far p l := ⟨0, Nat.zero_le _, fun j _ h => absurd h (Nat.not_lt_zero j)⟩
def Far.next {α : Type} {p : α → Bool} {l : List α} (s : Far p l) (h : s.i < l.length) (hp : p l[s.i] = false) : Far p l :=
  ⟨s.i + 1, h, fun j hj hji => by
    by_cases e : j = s.i
    · subst e; exact hp
    · exact s.no j hj (by omega)⟩
end Go.Tidy

/-
  The base layer: a call's contract under a small memory holds wherever that memory is a part, under other numbers, of a greater one.
-/
namespace Go.Tidy

mutual
def V.rn (ρ : Nat → Nat) : V → V
  | .own b g lo len => .own (ρ b) g lo len
  | .ptr b off => .ptr (ρ b) off
  | .eptr b g i off => .eptr (ρ b) g i off
  | .map b => .map (ρ b)
  | .yld b => .yld (ρ b)
  | .fn f caps => .fn f (V.rnL ρ caps)
  | .iface t x => .iface t (V.rn ρ x)
  | .agg cs => .agg (V.rnL ρ cs)
  | .tup cs => .tup (V.rnL ρ cs)
  | .poison => .poison
  | .tt => .tt
  | .ff => .ff
  | .d x => .d x
  | .nil => .nil
  | .glob k => .glob k
def V.rnL (ρ : Nat → Nat) : List V → List V
  | [] => []
  | x :: r => V.rn ρ x :: V.rnL ρ r
end
def rnF (ρ : Nat → Nat) : List (Nat × V) → List (Nat × V)
  | [] => []
  | p :: r => (p.1, p.2.rn ρ) :: rnF ρ r
def rnM (ρ : Nat → Nat) : List (V × V) → List (V × V)
  | [] => []
  | p :: r => (p.1.rn ρ, p.2.rn ρ) :: rnM ρ r
def rnR (ρ : Nat → Nat) : List (List V) → List (List V)
  | [] => []
  | p :: r => V.rnL ρ p :: rnR ρ r
def Blk.rn (ρ : Nat → Nat) : Blk → Blk
  | .cells cs => .cells (V.rnL ρ cs)
  | .row g sz els => .row g sz (rnR ρ els)
  | .map es => .map (rnM ρ es)
  | .loop l => .loop { l with fr := rnF ρ l.fr, df := ρ l.df }
  | .defr => .defr
  | .dead => .dead
def rnB (ρ : Nat → Nat) : List Blk → List Blk
  | [] => []
  | p :: r => p.rn ρ :: rnB ρ r

section
variable (ρ : Nat → Nat)
theorem V.rnL_get : ∀ (cs : List V) (j : Nat), (V.rnL ρ cs)[j]? = (cs[j]?).map (V.rn ρ)
  | [], j => by simp [V.rnL]
  | x :: r, 0 => by simp [V.rnL]
  | x :: r, j + 1 => by simp [V.rnL, V.rnL_get r j]
theorem V.rnL_len : ∀ (cs : List V), (V.rnL ρ cs).length = cs.length
  | [] => rfl
  | x :: r => by simp [V.rnL, V.rnL_len r]
theorem rnB_get : ∀ (cs : List Blk) (j : Nat), (rnB ρ cs)[j]? = (cs[j]?).map (Blk.rn ρ)
  | [], j => by simp [rnB]
  | x :: r, 0 => by simp [rnB]
  | x :: r, j + 1 => by simp [rnB, rnB_get r j]
theorem rnB_len : ∀ (cs : List Blk), (rnB ρ cs).length = cs.length
  | [] => rfl
  | x :: r => by simp [rnB, rnB_len r]
theorem rnM_get : ∀ (cs : List (V × V)) (j : Nat), (rnM ρ cs)[j]? = (cs[j]?).map fun p => (p.1.rn ρ, p.2.rn ρ)
  | [], j => by simp [rnM]
  | x :: r, 0 => by simp [rnM]
  | x :: r, j + 1 => by simp [rnM, rnM_get r j]
theorem rnM_len : ∀ (cs : List (V × V)), (rnM ρ cs).length = cs.length
  | [] => rfl
  | x :: r => by simp [rnM, rnM_len r]
theorem rnR_get : ∀ (cs : List (List V)) (j : Nat), (rnR ρ cs)[j]? = (cs[j]?).map (V.rnL ρ)
  | [], j => by simp [rnR]
  | x :: r, 0 => by simp [rnR]
  | x :: r, j + 1 => by simp [rnR, rnR_get r j]
theorem rnR_len : ∀ (cs : List (List V)), (rnR ρ cs).length = cs.length
  | [] => rfl
  | x :: r => by simp [rnR, rnR_len r]
theorem rnF_look : ∀ (fr : List (Nat × V)) (i : Nat), look (rnF ρ fr) i = (look fr i).rn ρ
  | [], i => by simp [rnF, look, V.rn]
  | p :: r, i => by
    simp only [rnF, look]
    cases Nat.beq p.1 i
    · simpa using rnF_look r i
    · rfl
end

theorem map_some {α β : Type} {f : α → β} {o : Option α} {y : β} (h : o.map f = some y) : ∃ x, o = some x ∧ f x = y := by
  cases o with
  | none => cases h
  | some x => exact ⟨x, rfl, by simpa using h⟩

structure Emb (ρ : Nat → Nat) (n0 : Nat) (g : Gh) (L : List Blk) (g0 : Gh) (L0 : List Blk) : Prop where
  len : L0.length = n0
  get : ∀ b, b < n0 → L[ρ b]? = (L0[b]?).map (Blk.rn ρ)
  m : ∀ b, b < n0 → g0.m b = g.m (ρ b)
  cap : ∀ b, b < n0 → g0.cap b = g.cap (ρ b)
  I : ∀ r, g.I r → g0.I r

section
variable {ρ : Nat → Nat} {n0 : Nat} {g g0 : Gh} {L L0 : List Blk} {w : World}

theorem Emb.at (e : Emb ρ n0 g L g0 L0) {b : Nat} (hb : b < n0) {k : Blk} (h : L[ρ b]? = some k) : ∃ k0, L0[b]? = some k0 ∧ k0.rn ρ = k := by
  rw [e.get b hb] at h
  exact map_some h

theorem RV.dn (e : Emb ρ n0 g L g0 L0) {y : V} {v : Value} (h : RV g w L y v) : ∀ x : V, y = x.rn ρ → x.bel n0 = true → RV g0 w L0 x v := by
  induction h with
  | poison v => intro x hx _; cases x <;> simp only [V.rn, reduceCtorEq] at hx; exact .poison v
  | tt => intro x hx _; cases x <;> simp only [V.rn, reduceCtorEq] at hx; exact .tt
  | ff => intro x hx _; cases x <;> simp only [V.rn, reduceCtorEq] at hx; exact .ff
  | d y v h =>
    intro x hx _
    cases x <;> simp only [V.rn, reduceCtorEq, V.d.injEq] at hx
    subst hx; exact .d _ v (h.mono e.I fun _ _ _ h => h)
  | nil => intro x hx _; cases x <;> simp only [V.rn, reduceCtorEq] at hx; exact .nil
  | ptr b off r cs hL hm =>
    intro x hx hb
    cases x <;> simp only [V.rn, reduceCtorEq, V.ptr.injEq] at hx
    obtain ⟨rfl, rfl⟩ := hx
    simp only [V.bel, decide_eq_true_eq] at hb
    obtain ⟨k0, h1, h2⟩ := e.at hb hL
    cases k0 <;> simp only [Blk.rn, reduceCtorEq] at h2
    exact .ptr _ _ r _ h1 ((e.m _ hb).trans hm)
  | ptrX b off a hL =>
    intro x hx hb
    cases x <;> simp only [V.rn, reduceCtorEq, V.ptr.injEq] at hx
    obtain ⟨rfl, rfl⟩ := hx
    simp only [V.bel, decide_eq_true_eq] at hb
    obtain ⟨k0, h1, h2⟩ := e.at hb hL
    cases k0 <;> simp only [Blk.rn, reduceCtorEq] at h2
    exact .ptrX _ _ a h1
  | own b gen lo len sz r o c els hL hm ho hc hlc hle =>
    intro x hx hb
    cases x <;> simp only [V.rn, reduceCtorEq, V.own.injEq] at hx
    obtain ⟨rfl, rfl, rfl, rfl⟩ := hx
    simp only [V.bel, decide_eq_true_eq] at hb
    obtain ⟨k0, h1, h2⟩ := e.at hb hL
    cases k0 <;> simp only [Blk.rn, reduceCtorEq, Blk.row.injEq] at h2
    obtain ⟨rfl, rfl, rfl⟩ := h2
    exact .own _ _ _ _ _ r o c _ h1 ((e.m _ hb).trans hm) ho (by rw [e.cap _ hb]; exact hc) hlc (by rwa [rnR_len] at hle)
  | ownN b gen sz els hL hm =>
    intro x hx hb
    cases x <;> simp only [V.rn, reduceCtorEq, V.own.injEq] at hx
    obtain ⟨rfl, rfl, rfl, rfl⟩ := hx
    simp only [V.bel, decide_eq_true_eq] at hb
    obtain ⟨k0, h1, h2⟩ := e.at hb hL
    cases k0 <;> simp only [Blk.rn, reduceCtorEq, Blk.row.injEq] at h2
    obtain ⟨rfl, rfl, rfl⟩ := h2
    exact .ownN _ _ _ _ h1 ((e.m _ hb).trans hm)
  | ownO b gen gen' sz lo len els a n c hL hg =>
    intro x hx hb
    cases x <;> simp only [V.rn, reduceCtorEq, V.own.injEq] at hx
    obtain ⟨rfl, rfl, rfl, rfl⟩ := hx
    simp only [V.bel, decide_eq_true_eq] at hb
    obtain ⟨k0, h1, h2⟩ := e.at hb hL
    cases k0 <;> simp only [Blk.rn, reduceCtorEq, Blk.row.injEq] at h2
    obtain ⟨rfl, rfl, rfl⟩ := h2
    exact .ownO _ _ _ _ _ _ _ _ _ _ h1 hg
  | ownX b gen lo len a n c hL =>
    intro x hx hb
    cases x <;> simp only [V.rn, reduceCtorEq, V.own.injEq] at hx
    obtain ⟨rfl, rfl, rfl, rfl⟩ := hx
    simp only [V.bel, decide_eq_true_eq] at hb
    obtain ⟨k0, h1, h2⟩ := e.at hb hL
    cases k0 <;> simp only [Blk.rn, reduceCtorEq] at h2
    exact .ownX _ _ _ _ a n c h1
  | eptr b gen i off sz r els hL hm =>
    intro x hx hb
    cases x <;> simp only [V.rn, reduceCtorEq, V.eptr.injEq] at hx
    obtain ⟨rfl, rfl, rfl, rfl⟩ := hx
    simp only [V.bel, decide_eq_true_eq] at hb
    obtain ⟨k0, h1, h2⟩ := e.at hb hL
    cases k0 <;> simp only [Blk.rn, reduceCtorEq, Blk.row.injEq] at h2
    obtain ⟨rfl, rfl, rfl⟩ := h2
    exact .eptr _ _ _ _ _ r _ h1 ((e.m _ hb).trans hm)
  | eptrO b gen gen' sz i off els a hL hg =>
    intro x hx hb
    cases x <;> simp only [V.rn, reduceCtorEq, V.eptr.injEq] at hx
    obtain ⟨rfl, rfl, rfl, rfl⟩ := hx
    simp only [V.bel, decide_eq_true_eq] at hb
    obtain ⟨k0, h1, h2⟩ := e.at hb hL
    cases k0 <;> simp only [Blk.rn, reduceCtorEq, Blk.row.injEq] at h2
    obtain ⟨rfl, rfl, rfl⟩ := h2
    exact .eptrO _ _ _ _ _ _ _ a h1 hg
  | eptrX b gen i off a hL =>
    intro x hx hb
    cases x <;> simp only [V.rn, reduceCtorEq, V.eptr.injEq] at hx
    obtain ⟨rfl, rfl, rfl, rfl⟩ := hx
    simp only [V.bel, decide_eq_true_eq] at hb
    obtain ⟨k0, h1, h2⟩ := e.at hb hL
    cases k0 <;> simp only [Blk.rn, reduceCtorEq] at h2
    exact .eptrX _ _ _ _ a h1
  | map b r es hL hm =>
    intro x hx hb
    cases x <;> simp only [V.rn, reduceCtorEq, V.map.injEq] at hx
    subst hx
    simp only [V.bel, decide_eq_true_eq] at hb
    obtain ⟨k0, h1, h2⟩ := e.at hb hL
    cases k0 <;> simp only [Blk.rn, reduceCtorEq] at h2
    exact .map _ r _ h1 ((e.m _ hb).trans hm)
  | mapX b a hL =>
    intro x hx hb
    cases x <;> simp only [V.rn, reduceCtorEq, V.map.injEq] at hx
    subst hx
    simp only [V.bel, decide_eq_true_eq] at hb
    obtain ⟨k0, h1, h2⟩ := e.at hb hL
    cases k0 <;> simp only [Blk.rn, reduceCtorEq] at h2
    exact .mapX _ a h1
  | yld b r l hL hm =>
    intro x hx hb
    cases x <;> simp only [V.rn, reduceCtorEq, V.yld.injEq] at hx
    subst hx
    simp only [V.bel, decide_eq_true_eq] at hb
    obtain ⟨k0, h1, h2⟩ := e.at hb hL
    cases k0 <;> simp only [Blk.rn, reduceCtorEq] at h2
    exact .yld _ r _ h1 ((e.m _ hb).trans hm)
  | yldX b r hL =>
    intro x hx hb
    cases x <;> simp only [V.rn, reduceCtorEq, V.yld.injEq] at hx
    subst hx
    simp only [V.bel, decide_eq_true_eq] at hb
    obtain ⟨k0, h1, h2⟩ := e.at hb hL
    cases k0 <;> simp only [Blk.rn, reduceCtorEq] at h2
    exact .yldX _ r h1
  | fn f caps vs hlen _ ih =>
    intro x hx hb
    cases x <;> simp only [V.rn, reduceCtorEq, V.fn.injEq] at hx
    rename_i f' xs
    obtain ⟨rfl, rfl⟩ := hx
    rw [V.rnL_len] at hlen
    refine .fn _ xs vs hlen fun j y u hy hu => ih j (y.rn ρ) u (by rw [V.rnL_get, hy]; rfl) hu y rfl (V.belL_get (by simpa [V.bel] using hb) hy)
  | iface t y v _ ih =>
    intro x hx hb
    cases x <;> simp only [V.rn, reduceCtorEq, V.iface.injEq] at hx
    obtain ⟨rfl, rfl⟩ := hx
    exact .iface _ _ v (ih _ rfl (by simpa [V.bel] using hb))
  | agg cs vs hlen hone _ ih =>
    intro x hx hb
    cases x <;> simp only [V.rn, reduceCtorEq, V.agg.injEq] at hx
    rename_i xs
    subst hx
    rw [V.rnL_len] at hlen
    refine .agg xs vs hlen hone fun j y u hy hu => ih j (y.rn ρ) u (by rw [V.rnL_get, hy]; rfl) hu y rfl (V.belL_get (by simpa [V.bel] using hb) hy)
  | tup cs vs hlen _ ih =>
    intro x hx hb
    cases x <;> simp only [V.rn, reduceCtorEq, V.tup.injEq] at hx
    rename_i xs
    subst hx
    rw [V.rnL_len] at hlen
    refine .tup xs vs hlen fun j y u hy hu => ih j (y.rn ρ) u (by rw [V.rnL_get, hy]; rfl) hu y rfl (V.belL_get (by simpa [V.bel] using hb) hy)
  | glob k => intro x hx _; cases x <;> simp only [V.rn, reduceCtorEq, V.glob.injEq] at hx; subst hx; exact .glob _

theorem RB.dn (e : Emb ρ n0 g L g0 L0) {b : Nat} (hb : b < n0) {k : Blk} (hk : k.bel n0 = true) (hdf : ∀ l, k = .loop l → L0[l.df]? = some .defr) (h : RB g w L (ρ b) (k.rn ρ)) : RB g0 w L0 b k := by
  cases k with
  | cells cs =>
    obtain ⟨r, cur, T, h1, h2, h3, h4, h5⟩ := h
    rw [V.rnL_len] at h3
    exact ⟨r, cur, T, (e.m b hb).trans h1, h2, h3, h4, fun i x v hx hv => (h5 i (x.rn ρ) v (by rw [V.rnL_get, hx]; rfl) hv).dn e x rfl (V.belL_get hk hx)⟩
  | row gen sz els =>
    obtain ⟨h0, h1, hh⟩ := h
    refine ⟨h0, fun el hel => ?_, ?_⟩
    · obtain ⟨i, hi⟩ := List.mem_iff_getElem?.1 hel
      have := h1 (V.rnL ρ el) (List.mem_of_getElem? (i := i) (by rw [rnR_get, hi]; rfl))
      rwa [V.rnL_len] at this
    · rcases hh with ⟨h2, h3⟩ | ⟨r, cur, T, h2, h3, h4, h5, h6, h7⟩
      · refine .inl ⟨(e.m b hb).trans h2, ?_⟩
        cases els with
        | nil => rfl
        | cons a l => simp [rnR] at h3
      · rw [rnR_len] at h5
        refine .inr ⟨r, cur, T, (e.m b hb).trans h2, h3, by rw [e.cap b hb]; exact h4, h5, h6, fun i j x v hx hv => ?_⟩
        refine (h7 i j (x.rn ρ) v ?_ hv).dn e x rfl (belR_get hk hx)
        rw [rnR_get]
        cases e1 : els[i]? with
        | none => rw [e1] at hx; cases hx
        | some y =>
          rw [e1] at hx
          simp only [Option.map_some, Option.bind_some] at hx ⊢
          rw [V.rnL_get, hx]; rfl
  | map es =>
    obtain ⟨r, ents, clock, h1, h2, h3, h4⟩ := h
    rw [rnM_len] at h3
    refine ⟨r, ents, clock, (e.m b hb).trans h1, h2, h3, fun i x en hx he => ?_⟩
    obtain ⟨b1, b2⟩ := belM_get hk hx
    obtain ⟨c1, c2⟩ := h4 i (x.1.rn ρ, x.2.rn ρ) en (by rw [rnM_get, hx]; rfl) he
    exact ⟨c1.dn e _ rfl b1, c2.dn e _ rfl b2⟩
  | loop l =>
    obtain ⟨r, rec, h1, h2, h3, h4, h5, h6, h7, h8, h9, h10, h11⟩ := h
    simp only [Blk.bel, Bool.and_eq_true, decide_eq_true_eq] at hk
    exact ⟨r, rec, (e.m b hb).trans h1, h2, h3, h4, h5, h6, h7, h8, fun i => (h9 i).dn e _ (rnF_look ρ _ i) (belF_look hk.1 i), (e.m _ hk.2).trans h10, hdf l rfl, h11.2⟩
  | defr =>
    obtain ⟨r, h1, h2⟩ := h
    exact ⟨r, (e.m b hb).trans h1, h2⟩
  | dead => trivial
end

structure Emu (ρ : Nat → Nat) (g1 : Gh) (L1 : List Blk) (g : Gh) (L : List Blk) : Prop where
  get : ∀ b k, L1[b]? = some k → L[ρ b]? = some (k.rn ρ)
  m : ∀ b, b < L1.length → g.m (ρ b) = g1.m b
  cap : ∀ b, b < L1.length → g.cap (ρ b) = g1.cap b
  I : ∀ r, g1.I r → g.I r

section
variable {ρ : Nat → Nat} {g g1 : Gh} {L L1 : List Blk} {w : World}
theorem RV.up (e : Emu ρ g1 L1 g L) {x : V} {v : Value} (h : RV g1 w L1 x v) : RV g w L (x.rn ρ) v := by
  induction h with
  | poison v => exact .poison v
  | tt => exact .tt
  | ff => exact .ff
  | d x v h => exact .d x v (h.mono e.I fun _ _ _ h => h)
  | nil => exact .nil
  | ptr b off r cs hL hm => exact .ptr _ off r _ (e.get _ _ hL) ((e.m b (lt_of_get hL)).trans hm)
  | ptrX b off a hL => exact .ptrX _ off a (e.get _ _ hL)
  | own b gen lo len sz r o c els hL hm ho hcap hlc hle =>
    exact .own _ gen lo len sz r o c _ (e.get _ _ hL) ((e.m b (lt_of_get hL)).trans hm) ho (by rw [e.cap b (lt_of_get hL)]; exact hcap) hlc (by rw [rnR_len]; exact hle)
  | ownN b gen sz els hL hm => exact .ownN _ gen sz _ (e.get _ _ hL) ((e.m b (lt_of_get hL)).trans hm)
  | ownO b gen gen1 sz lo len els a n c hL hg0 => exact .ownO _ gen gen1 sz lo len _ _ _ _ (e.get _ _ hL) hg0
  | ownX b gen lo len a n c hL => exact .ownX _ gen lo len a n c (e.get _ _ hL)
  | eptr b gen i off sz r els hL hm => exact .eptr _ gen i off sz r _ (e.get _ _ hL) ((e.m b (lt_of_get hL)).trans hm)
  | eptrO b gen gen1 sz i off els a hL hg0 => exact .eptrO _ gen gen1 sz i off _ _ (e.get _ _ hL) hg0
  | eptrX b gen i off a hL => exact .eptrX _ gen i off a (e.get _ _ hL)
  | map b r es hL hm => exact .map _ r _ (e.get _ _ hL) ((e.m b (lt_of_get hL)).trans hm)
  | mapX b a hL => exact .mapX _ a (e.get _ _ hL)
  | yld b r l hL hm => exact .yld _ r _ (e.get _ _ hL) ((e.m b (lt_of_get hL)).trans hm)
  | yldX b r hL => exact .yldX _ r (e.get _ _ hL)
  | fn f caps vs hlen _ ih =>
    refine .fn f _ vs (by rw [V.rnL_len]; exact hlen) fun j x v h1 h2 => ?_
    rw [V.rnL_get] at h1
    obtain ⟨y, h3, rfl⟩ := map_some h1
    exact ih j y v h3 h2
  | iface t x v _ ih => exact .iface t _ v ih
  | agg cs vs hlen hone _ ih =>
    refine .agg _ vs (by rw [V.rnL_len]; exact hlen) hone fun j x v h1 h2 => ?_
    rw [V.rnL_get] at h1
    obtain ⟨y, h3, rfl⟩ := map_some h1
    exact ih j y v h3 h2
  | tup cs vs hlen _ ih =>
    refine .tup _ vs (by rw [V.rnL_len]; exact hlen) fun j x v h1 h2 => ?_
    rw [V.rnL_get] at h1
    obtain ⟨y, h3, rfl⟩ := map_some h1
    exact ih j y v h3 h2
  | glob k => exact .glob k

theorem RB.up (e : Emu ρ g1 L1 g L) {b : Nat} (hb : b < L1.length) {k : Blk} (h : RB g1 w L1 b k) : RB g w L (ρ b) (k.rn ρ) := by
  cases k with
  | cells cs =>
    obtain ⟨r, cur, T, h1, h2, h3, h4, h5⟩ := h
    refine ⟨r, cur, T, (e.m b hb).trans h1, h2, by rw [V.rnL_len]; exact h3, h4, fun i x v hx hv => ?_⟩
    rw [V.rnL_get] at hx
    obtain ⟨y, h6, rfl⟩ := map_some hx
    exact (h5 i y v h6 hv).up e
  | row gen sz els =>
    obtain ⟨h0, h1, hh⟩ := h
    refine ⟨h0, fun el he => ?_, ?_⟩
    · obtain ⟨i, hi⟩ := List.mem_iff_getElem?.1 he
      rw [rnR_get] at hi
      obtain ⟨y, h6, rfl⟩ := map_some hi
      rw [V.rnL_len]; exact h1 y (List.mem_of_getElem? h6)
    · rcases hh with ⟨h2, h3⟩ | ⟨r, cur, T, h2, h3, h4, h5, h6, h7⟩
      · exact .inl ⟨(e.m b hb).trans h2, by rw [h3]; rfl⟩
      · refine .inr ⟨r, cur, T, (e.m b hb).trans h2, h3, by rw [e.cap b hb]; exact h4, by rw [rnR_len]; exact h5, h6, fun i j x v hx hv => ?_⟩
        rw [rnR_get] at hx
        cases e1 : els[i]? with
        | none => rw [e1] at hx; cases hx
        | some y =>
          rw [e1] at hx
          simp only [Option.map_some, Option.bind_some] at hx
          rw [V.rnL_get] at hx
          obtain ⟨z, e2, rfl⟩ := map_some hx
          exact (h7 i j z v (by rw [e1]; exact e2) hv).up e
  | map es =>
    obtain ⟨r, ents, clock, h1, h2, h3, h4⟩ := h
    refine ⟨r, ents, clock, (e.m b hb).trans h1, h2, by rw [rnM_len]; exact h3, fun i x en hx he => ?_⟩
    rw [rnM_get] at hx
    obtain ⟨y, e1, rfl⟩ := map_some hx
    exact ⟨(h4 i y en e1 he).1.up e, (h4 i y en e1 he).2.up e⟩
  | loop l =>
    obtain ⟨r, rec, h1, h2, h3, h4, h5, h6, h7, h8, h9, h10, h11⟩ := h
    exact ⟨r, rec, (e.m b hb).trans h1, h2, h3, h4, h5, h6, h7, h8, fun i => by rw [show (LoopR.fr _) = rnF ρ l.fr from rfl, rnF_look]; exact (h9 i).up e, (e.m _ (lt_of_get h11.1)).trans h10, e.get _ _ h11.1, h11.2⟩
  | defr =>
    obtain ⟨r, h1, h2⟩ := h
    exact ⟨r, (e.m b hb).trans h1, h2⟩
  | dead => trivial
end

def rnI (bs : List Nat) (N : Nat) (b : Nat) : Nat := match bs[b]? with | some c => c | none => b - bs.length + N
def inI (bs : List Nat) (N : Nat) (c : Nat) : Option Nat := match Nat.blt c N with | true => bs.findIdx? (Nat.beq c) | false => some (c - N + bs.length)
def putB : List Nat → List Blk → List Blk → List Blk
  | b :: bs, k :: ks, L => putB bs ks (L.set b k)
  | [], ks, L => L ++ ks
  | _ :: _, [], L => L

theorem blt_of {a b : Nat} (h : a < b) : Nat.blt a b = true := by rw [Nat.blt_eq]; exact h
theorem inI_some {bs : List Nat} {N c b : Nat} (_hlt : ∀ b ∈ bs, b < N) (h : inI bs N c = some b) : rnI bs N b = c := by
  unfold inI at h
  cases hc : Nat.blt c N with
  | true =>
    rw [hc] at h
    simp only at h
    rw [List.findIdx?_eq_some_iff_getElem] at h
    obtain ⟨h1, h2, _⟩ := h
    unfold rnI
    rw [List.getElem?_eq_getElem h1]
    exact (Nat.eq_of_beq_eq_true h2).symm
  | false =>
    rw [hc] at h
    simp only [Option.some.injEq] at h
    have : N ≤ c := by
      rcases Nat.lt_or_ge c N with h' | h'
      · rw [← Nat.blt_eq] at h'; rw [h'] at hc; cases hc
      · exact h'
    unfold rnI
    rw [List.getElem?_eq_none (by omega)]
    simp only; omega
theorem inI_none {bs : List Nat} {N c : Nat} (h : inI bs N c = none) : c < N ∧ c ∉ bs := by
  unfold inI at h
  cases hc : Nat.blt c N with
  | true =>
    rw [hc] at h
    simp only at h
    rw [List.findIdx?_eq_none_iff] at h
    refine ⟨by rwa [Nat.blt_eq] at hc, fun hm => ?_⟩
    have := h c hm
    rw [Nat.beq_refl] at this; cases this
  | false => rw [hc] at h; cases h
theorem inI_rn {bs : List Nat} {N b : Nat} (hnd : bs.Nodup) (hlt : ∀ b ∈ bs, b < N) : inI bs N (rnI bs N b) = some b := by
  unfold rnI inI
  cases e : bs[b]? with
  | some c =>
    have hb := lt_of_get e
    have hc : c < N := hlt c (List.mem_of_getElem? e)
    simp only [blt_of hc]
    rw [List.findIdx?_eq_some_iff_getElem]
    rw [List.getElem?_eq_getElem hb] at e
    cases e
    refine ⟨hb, Nat.beq_refl _, fun j hj => ?_⟩
    intro hh
    have := Nat.eq_of_beq_eq_true hh
    have := (List.getElem_inj hnd).1 this
    omega
  | none =>
    have hb : bs.length ≤ b := by
      rcases Nat.lt_or_ge b bs.length with h | h
      · rw [List.getElem?_eq_getElem h] at e; cases e
      · exact h
    have : Nat.blt (b - bs.length + N) N = false := by
      cases h : Nat.blt (b - bs.length + N) N with
      | false => rfl
      | true => rw [Nat.blt_eq] at h; omega
    simp only [this]
    congr 1; omega

theorem putB_len : ∀ (bs : List Nat) (ks L : List Blk), bs.length ≤ ks.length → (putB bs ks L).length = L.length + (ks.length - bs.length)
  | b :: bs, k :: ks, L, h => by
    simp only [putB]
    rw [putB_len bs ks _ (by simpa using h)]
    simp
  | [], ks, L, _ => by simp [putB]
  | _ :: _, [], L, h => by simp at h
theorem putB_out : ∀ (bs : List Nat) (ks L : List Blk) (c : Nat), c < L.length → c ∉ bs → (putB bs ks L)[c]? = L[c]?
  | b :: bs, k :: ks, L, c, h, hc => by
    simp only [List.mem_cons, not_or] at hc
    rw [putB, putB_out bs ks _ c (by simpa using h) hc.2, List.getElem?_set_ne (fun e => hc.1 e.symm)]
  | [], ks, L, c, h, _ => by rw [putB, List.getElem?_append_left h]
  | _ :: _, [], L, c, _, _ => rfl
theorem putB_in : ∀ (bs : List Nat) (ks L : List Blk), bs.Nodup → (∀ b ∈ bs, b < L.length) → bs.length ≤ ks.length → ∀ (b : Nat) (k : Blk), ks[b]? = some k → (putB bs ks L)[rnI bs L.length b]? = some k
  | c :: bs, k0 :: ks, L, hnd, hlt, hle, b, k, h => by
    rw [List.nodup_cons] at hnd
    rw [putB]
    have hl : (L.set c k0).length = L.length := by simp
    cases b with
    | zero =>
      simp at h; subst h
      show (putB bs ks (L.set c k0))[c]? = _
      rw [putB_out bs ks _ c (by rw [hl]; exact hlt c (by simp)) hnd.1, List.getElem?_set_self (hlt c (by simp))]
    | succ b =>
      have := putB_in bs ks (L.set c k0) hnd.2 (fun x hx => by rw [hl]; exact hlt x (by simp [hx])) (by simpa using hle) b k (by simpa using h)
      rw [hl] at this
      have e : rnI (c :: bs) L.length (b + 1) = rnI bs L.length b := by
        unfold rnI
        rw [List.getElem?_cons_succ]
        cases bs[b]? with
        | none => simp
        | some _ => rfl
      rw [e]; exact this
  | [], ks, L, _, _, _, b, k, h => by
    have : rnI [] L.length b = L.length + b := by simp [rnI, Nat.add_comm]
    rw [this, putB, List.getElem?_append_right (by omega)]
    simpa using h
  | _ :: _, [], L, _, _, h, _, _, _ => by simp at h

def Gh.small (g : Gh) (ρ : Nat → Nat) : Gh := { I := g.I, m := fun b => g.m (ρ b), cap := fun b => g.cap (ρ b) }
def Gh.great (g : Gh) (bs : List Nat) (N : Nat) (g1 : Gh) : Gh :=
  { I := g1.I, m := fun c => match inI bs N c with | some b => g1.m b | none => g.m c, cap := fun c => match inI bs N c with | some b => g1.cap b | none => g.cap c }

theorem map_bel_lt {L0 : List Blk} {b : Nat} {k : Blk} (h : L0[b]? = some k) : b < L0.length := lt_of_get h

def dfB (L : List Blk) : Bool := L.all fun k => match k with | .loop l => (match L[l.df]? with | some .defr => true | _ => false) | _ => true

section
variable {C : Ctx} {g g1 : Gh} {w0 w : World} {L L0 L1 : List Blk} {bs : List Nat}

structure Part (bs : List Nat) (L0 L : List Blk) : Prop where
  nd : bs.Nodup
  lt : ∀ b ∈ bs, b < L.length
  len : bs.length = L0.length
  get : ∀ b c : Nat, bs[b]? = some c → L[c]? = (L0[b]?).map (Blk.rn (rnI bs L.length))
  bel : belB L0.length L0 = true
  df : dfB L0 = true

theorem Part.rn (h : Part bs L0 L) {b : Nat} (hb : b < L0.length) : ∃ c, bs[b]? = some c ∧ rnI bs L.length b = c ∧ c < L.length := by
  have : b < bs.length := by rw [h.len]; exact hb
  exact ⟨bs[b], List.getElem?_eq_getElem this, by unfold rnI; rw [List.getElem?_eq_getElem this], h.lt _ (List.getElem_mem this)⟩

theorem Part.emb (h : Part bs L0 L) : Emb (rnI bs L.length) L0.length g L (g.small (rnI bs L.length)) L0 :=
  ⟨rfl, fun b hb => by obtain ⟨c, h1, h2, _⟩ := h.rn hb; rw [h2]; exact h.get b c h1, fun _ _ => rfl, fun _ _ => rfl, fun _ h => h⟩

theorem Part.lives (h : Part bs L0 L) {b : Nat} (hl : live L0 b) : live L (rnI bs L.length b) := by
  obtain ⟨k, hk, hd⟩ := hl
  obtain ⟨c, h1, h2, _⟩ := h.rn (lt_of_get hk)
  refine ⟨k.rn _, by rw [h2, h.get b c h1, hk]; rfl, fun e => hd ?_⟩
  cases k <;> simp only [Blk.rn, reduceCtorEq] at e
  rfl

theorem Part.good (h : Part bs L0 L) (hg : Good g w L) : Good (g.small (rnI bs L.length)) w L0 := by
  refine ⟨fun b b' r h1 h2 m1 m2 => ?_, ?_, hg.lt, fun b k hk => ?_, hg.gl⟩
  · have := hg.inj _ _ r (h.lives h1) (h.lives h2) m1 m2
    have e1 := inI_rn (N := L.length) (b := b) h.nd h.lt
    have e2 := inI_rn (N := L.length) (b := b') h.nd h.lt
    rw [this, e2] at e1
    cases e1; rfl
  · rintro r ⟨b, hl, hm⟩
    exact hg.dis r ⟨_, h.lives hl, hm⟩
  · obtain ⟨c, h1, h2, _⟩ := h.rn (lt_of_get hk)
    refine RB.dn h.emb (lt_of_get hk) (belB_get h.bel hk) (fun l hl => ?_) ?_
    · subst hl
      have := List.all_eq_true.1 h.df _ (List.mem_of_getElem? hk)
      simp only at this
      split at this
      · assumption
      · cases this
    · exact hg.blk _ _ (by rw [h2, h.get b c h1, hk]; rfl)

theorem Part.owns (h : Part bs L0 L) {r : Nat} (ho : owned (g.small (rnI bs L.length)) L0 r) : owned g L r := by
  obtain ⟨b, hl, hm⟩ := ho
  exact ⟨_, h.lives hl, hm⟩

theorem Part.other (h : Part bs L0 L) (hg : Good g w0 L) {c r : Nat} (hc : c ∉ bs) (hl : live L c) (hm : g.m c = some r) : ¬ owned (g.small (rnI bs L.length)) L0 r := by
  rintro ⟨b, hb, hm'⟩
  have := hg.inj _ _ r (h.lives hb) hl hm' hm
  obtain ⟨k, hk, _⟩ := hb
  obtain ⟨c', h1, h2, _⟩ := h.rn (lt_of_get hk)
  exact hc (this ▸ h2 ▸ List.mem_of_getElem? h1)

theorem Part.fin (h : Part bs L0 L) (hg : Good g w0 L) (hg1 : Good g1 w L1) (hp : Prog L0.length (g.small (rnI bs L.length)) w0 L0 g1 w L1) :
    let ρ := rnI bs L.length
    Emu ρ g1 L1 (g.great bs L.length g1) (putB bs (rnB ρ L1) L) ∧ Good (g.great bs L.length g1) w (putB bs (rnB ρ L1) L) ∧ Prog L.length g w0 L (g.great bs L.length g1) w (putB bs (rnB ρ L1) L) := by
  intro ρ
  have hle : bs.length ≤ (rnB ρ L1).length := by rw [rnB_len, h.len]; exact hp.len (Nat.le_refl _)
  have mem : ∀ b, (g.great bs L.length g1).m (ρ b) = g1.m b := fun b => by simp only [Gh.great, ρ, inI_rn h.nd h.lt]
  have cap : ∀ b, (g.great bs L.length g1).cap (ρ b) = g1.cap b := fun b => by simp only [Gh.great, ρ, inI_rn h.nd h.lt]
  have up : Emu ρ g1 L1 (g.great bs L.length g1) (putB bs (rnB ρ L1) L) :=
    ⟨fun b k hk => putB_in bs _ L h.nd h.lt hle b _ (by rw [rnB_get, hk]; rfl), fun b _ => mem b, fun b _ => cap b, fun _ h => h⟩
  have oldm : ∀ c, c < L.length → c ∉ bs → (g.great bs L.length g1).m c = g.m c ∧ (g.great bs L.length g1).cap c = g.cap c := fun c hc hb => by
    have : inI bs L.length c = none := by
      cases e : inI bs L.length c with
      | none => rfl
      | some b =>
        exfalso
        have hr := inI_some h.lt e
        unfold inI at e
        rw [blt_of hc] at e
        simp only at e
        rw [List.findIdx?_eq_some_iff_getElem] at e
        obtain ⟨e1, e2, _⟩ := e
        have := Nat.eq_of_beq_eq_true e2
        exact hb (this ▸ List.getElem_mem e1)
    simp only [Gh.great, this, and_self]
  have oldL : ∀ c, c < L.length → c ∉ bs → (putB bs (rnB ρ L1) L)[c]? = L[c]? := fun c hc hb => putB_out bs _ L c hc hb
  -- what a block of the great memory is
  have look : ∀ c k, (putB bs (rnB ρ L1) L)[c]? = some k → (c < L.length ∧ c ∉ bs ∧ L[c]? = some k) ∨ ∃ b k1, c = ρ b ∧ L1[b]? = some k1 ∧ k = k1.rn ρ := by
    intro c k hk
    cases e : inI bs L.length c with
    | none =>
      obtain ⟨h1, h2⟩ := inI_none e
      rw [oldL c h1 h2] at hk
      exact .inl ⟨h1, h2, hk⟩
    | some b =>
      have hr : ρ b = c := inI_some h.lt e
      cases e1 : L1[b]? with
      | some k1 =>
        have := up.get b k1 e1
        rw [hr, hk] at this
        cases this
        exact .inr ⟨b, k1, hr.symm, e1, rfl⟩
      | none =>
        exfalso
        have hb : L1.length ≤ b := by
          rcases Nat.lt_or_ge b L1.length with h' | h'
          · rw [List.getElem?_eq_getElem h'] at e1; cases e1
          · exact h'
        have hl1 := hp.len (Nat.le_refl _)
        have hc := lt_of_get hk
        rw [putB_len bs _ L hle, rnB_len] at hc
        have : ρ b = b - bs.length + L.length := by
          show rnI bs L.length b = _
          unfold rnI
          rw [List.getElem?_eq_none (by rw [h.len]; omega)]
        rw [← hr, this] at hc
        omega
  have kept : ∀ (q : Nat) (o : Obj), w0.heap[q]? = some o → ¬ owned (g.small ρ) L0 q → w.heap[q]? = some o := fun q o ho hn => hp.kept q o ho hn
  have cells : ∀ (a : Addr) (v : Value), g.I a.block → w0.cell? a = some v → w.cell? a = some v := by
    intro a v hI hc
    have hlt := hg.lt _ hI
    have hh := kept a.block (w0.heap[a.block]) (Array.getElem?_eq_getElem hlt) fun ho => hg.dis _ (h.owns ho) hI
    rw [World.cell?_of_block (w := w0) (w' := w) (by rw [hh, Array.getElem?_eq_getElem hlt])]
    exact hc
  have small : ∀ (x : V) (v : Value), x.bel L0.length = true → RV g w0 L (x.rn ρ) v → RV (g.great bs L.length g1) w (putB bs (rnB ρ L1) L) (x.rn ρ) v := fun x v hx hv =>
    (hp.mono x v hx (hv.dn h.emb x rfl hx)).up up
  have inbs : ∀ c, c ∈ bs → ∃ b, b < L0.length ∧ ρ b = c := fun c hc => by
    obtain ⟨b, hb⟩ := List.mem_iff_getElem?.1 hc
    refine ⟨b, by rw [← h.len]; exact lt_of_get hb, ?_⟩
    show rnI bs L.length b = c
    unfold rnI; rw [hb]
  have mono : ∀ (x : V) (v : Value), RV g w0 L x v → RV (g.great bs L.length g1) w (putB bs (rnB ρ L1) L) x v := by
    intro x v hx
    induction hx with
    | poison v => exact .poison v
    | tt => exact .tt
    | ff => exact .ff
    | d x v h => exact .d x v (h.mono (fun r hr => hp.immk r hr) cells)
    | nil => exact .nil
    | ptr b off r cs hL hm =>
      by_cases hb : b ∈ bs
      · obtain ⟨b0, h1, rfl⟩ := inbs b hb
        exact small (.ptr b0 off) _ (by simp [V.bel, h1]) (.ptr _ off r cs hL hm)
      · have := lt_of_get hL
        exact .ptr b off r cs ((oldL b this hb).trans hL) ((oldm b this hb).1.trans hm)
    | ptrX b off a hL =>
      by_cases hb : b ∈ bs
      · obtain ⟨b0, h1, rfl⟩ := inbs b hb
        exact small (.ptr b0 off) _ (by simp [V.bel, h1]) (.ptrX _ off a hL)
      · exact .ptrX b off a ((oldL b (lt_of_get hL) hb).trans hL)
    | own b gen lo len sz r o c els hL hm ho hc hlc hle' =>
      by_cases hb : b ∈ bs
      · obtain ⟨b0, h1, rfl⟩ := inbs b hb
        exact small (.own b0 gen lo len) _ (by simp [V.bel, h1]) (.own _ gen lo len sz r o c els hL hm ho hc hlc hle')
      · have := lt_of_get hL
        exact .own b gen lo len sz r o c els ((oldL b this hb).trans hL) ((oldm b this hb).1.trans hm) ho (by rw [(oldm b this hb).2]; exact hc) hlc hle'
    | ownN b gen sz els hL hm =>
      by_cases hb : b ∈ bs
      · obtain ⟨b0, h1, rfl⟩ := inbs b hb
        exact small (.own b0 gen 0 0) _ (by simp [V.bel, h1]) (.ownN _ gen sz els hL hm)
      · have := lt_of_get hL
        exact .ownN b gen sz els ((oldL b this hb).trans hL) ((oldm b this hb).1.trans hm)
    | ownO b gen gen' sz lo len els a n c hL hg' =>
      by_cases hb : b ∈ bs
      · obtain ⟨b0, h1, rfl⟩ := inbs b hb
        exact small (.own b0 gen lo len) _ (by simp [V.bel, h1]) (.ownO _ gen gen' sz lo len els a n c hL hg')
      · exact .ownO b gen gen' sz lo len els a n c ((oldL b (lt_of_get hL) hb).trans hL) hg'
    | ownX b gen lo len a n c hL =>
      by_cases hb : b ∈ bs
      · obtain ⟨b0, h1, rfl⟩ := inbs b hb
        exact small (.own b0 gen lo len) _ (by simp [V.bel, h1]) (.ownX _ gen lo len a n c hL)
      · exact .ownX b gen lo len a n c ((oldL b (lt_of_get hL) hb).trans hL)
    | eptr b gen i off sz r els hL hm =>
      by_cases hb : b ∈ bs
      · obtain ⟨b0, h1, rfl⟩ := inbs b hb
        exact small (.eptr b0 gen i off) _ (by simp [V.bel, h1]) (.eptr _ gen i off sz r els hL hm)
      · have := lt_of_get hL
        exact .eptr b gen i off sz r els ((oldL b this hb).trans hL) ((oldm b this hb).1.trans hm)
    | eptrO b gen gen' sz i off els a hL hg' =>
      by_cases hb : b ∈ bs
      · obtain ⟨b0, h1, rfl⟩ := inbs b hb
        exact small (.eptr b0 gen i off) _ (by simp [V.bel, h1]) (.eptrO _ gen gen' sz i off els a hL hg')
      · exact .eptrO b gen gen' sz i off els a ((oldL b (lt_of_get hL) hb).trans hL) hg'
    | eptrX b gen i off a hL =>
      by_cases hb : b ∈ bs
      · obtain ⟨b0, h1, rfl⟩ := inbs b hb
        exact small (.eptr b0 gen i off) _ (by simp [V.bel, h1]) (.eptrX _ gen i off a hL)
      · exact .eptrX b gen i off a ((oldL b (lt_of_get hL) hb).trans hL)
    | map b r es hL hm =>
      by_cases hb : b ∈ bs
      · obtain ⟨b0, h1, rfl⟩ := inbs b hb
        exact small (.map b0) _ (by simp [V.bel, h1]) (.map _ r es hL hm)
      · have := lt_of_get hL
        exact .map b r es ((oldL b this hb).trans hL) ((oldm b this hb).1.trans hm)
    | mapX b a hL =>
      by_cases hb : b ∈ bs
      · obtain ⟨b0, h1, rfl⟩ := inbs b hb
        exact small (.map b0) _ (by simp [V.bel, h1]) (.mapX _ a hL)
      · exact .mapX b a ((oldL b (lt_of_get hL) hb).trans hL)
    | yld b r l hL hm =>
      by_cases hb : b ∈ bs
      · obtain ⟨b0, h1, rfl⟩ := inbs b hb
        exact small (.yld b0) _ (by simp [V.bel, h1]) (.yld _ r l hL hm)
      · have := lt_of_get hL
        exact .yld b r l ((oldL b this hb).trans hL) ((oldm b this hb).1.trans hm)
    | yldX b r hL =>
      by_cases hb : b ∈ bs
      · obtain ⟨b0, h1, rfl⟩ := inbs b hb
        exact small (.yld b0) _ (by simp [V.bel, h1]) (.yldX _ r hL)
      · exact .yldX b r ((oldL b (lt_of_get hL) hb).trans hL)
    | fn f caps vs hlen _ ih => exact .fn f caps vs hlen ih
    | iface t x v _ ih => exact .iface t x v ih
    | agg cs vs hlen hone _ ih => exact .agg cs vs hlen hone ih
    | tup cs vs hlen _ ih => exact .tup cs vs hlen ih
    | glob k => exact .glob k
  have lives : ∀ c q, live (putB bs (rnB ρ L1) L) c → (g.great bs L.length g1).m c = some q → (c < L.length ∧ c ∉ bs ∧ live L c ∧ g.m c = some q) ∨ ∃ b, c = ρ b ∧ live L1 b ∧ g1.m b = some q := by
    rintro c q ⟨k, hk, hd⟩ hm
    rcases look c k hk with ⟨h1, h2, h3⟩ | ⟨b, k1, rfl, h3, rfl⟩
    · exact .inl ⟨h1, h2, ⟨k, h3, hd⟩, (oldm c h1 h2).1 ▸ hm⟩
    · refine .inr ⟨b, rfl, ⟨k1, h3, fun e => hd (by subst e; rfl)⟩, by rw [← mem]; exact hm⟩
  have cross : ∀ c b q, c ∉ bs → live L c → g.m c = some q → live L1 b → g1.m b = some q → False := by
    intro c b q hc hl hm hl1 hm1
    have hq := hg.owned_lt ⟨c, hl, hm⟩
    exact h.other hg hc hl hm (hp.own q ⟨b, hl1, hm1⟩ hq)
  refine ⟨up, ⟨?_, ?_, ?_, ?_, hg1.gl⟩, ⟨hp.env, hp.size, fun q o ho hn => kept q o ho fun hs => hn (h.owns hs), ?_, ?_, hp.immk, fun x v _ hx => mono x v hx, ?_, fun _ => by rw [putB_len bs _ L hle]; omega⟩⟩
  · intro c c' q h1 h2 m1 m2
    rcases lives c q h1 m1 with ⟨a1, a2, a3, a4⟩ | ⟨b, rfl, a3, a4⟩ <;> rcases lives c' q h2 m2 with ⟨d1, d2, d3, d4⟩ | ⟨b', rfl, d3, d4⟩
    · exact hg.inj c c' q a3 d3 a4 d4
    · exact (cross c b' q a2 a3 a4 d3 d4).elim
    · exact (cross c' b q d2 d3 d4 a3 a4).elim
    · rw [hg1.inj b b' q a3 d3 a4 d4]
  · rintro q ⟨c, hl, hm⟩ hq
    rcases lives c q hl hm with ⟨a1, a2, a3, a4⟩ | ⟨b, rfl, a3, a4⟩
    · rcases hp.imm q hq with h1 | h1 | h1
      · exact hg.dis q ⟨c, a3, a4⟩ h1
      · have := hg.owned_lt ⟨c, a3, a4⟩; omega
      · exact h.other hg a2 a3 a4 h1
    · exact hg1.dis q ⟨b, a3, a4⟩ hq
  · exact hg1.lt
  · intro c k hk
    rcases look c k hk with ⟨h1, h2, h3⟩ | ⟨b, k1, rfl, h3, rfl⟩
    · by_cases hdead : k = .dead
      · subst hdead; trivial
      refine RB.mono' mono (oldm c h1 h2).1 (oldm c h1 h2).2 (fun q o hq ho => kept q o ho ?_) (fun l hl => ?_) (hg.blk c k h3)
      · exact h.other hg h2 ⟨k, h3, hdead⟩ hq
      · subst hl
        obtain ⟨_, _, _, _, _, _, _, _, _, _, _, h10, h11, _⟩ := hg.blk c _ h3
        by_cases hd : l.df ∈ bs
        · obtain ⟨b0, e1, e2⟩ := inbs _ hd
          have hL0 : L0[b0]? = some .defr := by
            have := h.emb (g := g).get b0 e1
            rw [show rnI bs L.length b0 = l.df from e2, h11] at this
            obtain ⟨k0, e3, e4⟩ := map_some this.symm
            cases k0 <;> simp only [Blk.rn, reduceCtorEq] at e4
            exact e3
          obtain ⟨d1, d2⟩ := hp.defr b0 _ e1 hL0 (show (g.small (rnI bs L.length)).m b0 = _ by rw [show (g.small (rnI bs L.length)).m b0 = g.m (ρ b0) from rfl, e2]; exact h10)
          refine ⟨?_, fun _ => ?_⟩
          · rw [← e2, mem, d2, e2, h10]
          · rw [← e2]; exact up.get b0 _ d1
        · have := lt_of_get h11
          exact ⟨(oldm _ this hd).1, fun hh => (oldL _ this hd).trans hh⟩
    · exact (hg1.blk b k1 h3).up up (lt_of_get h3)
  · rintro q ⟨c, hl, hm⟩ hlt
    rcases lives c q hl hm with ⟨a1, a2, a3, a4⟩ | ⟨b, rfl, a3, a4⟩
    · exact ⟨c, a3, a4⟩
    · exact h.owns (hp.own q ⟨b, a3, a4⟩ hlt)
  · intro q hq
    exact (hp.imm q hq).imp_right fun h1 => h1.imp_right fun h2 => h.owns h2
  · intro b q hb hL hm
    by_cases hd : b ∈ bs
    · obtain ⟨b0, e1, rfl⟩ := inbs b hd
      have hL0 : L0[b0]? = some .defr := by
        have := h.emb (g := g).get b0 e1
        rw [show L[rnI bs L.length b0]? = some .defr from hL] at this
        obtain ⟨k0, e3, e4⟩ := map_some this.symm
        cases k0 <;> simp only [Blk.rn, reduceCtorEq] at e4
        exact e3
      obtain ⟨d1, d2⟩ := hp.defr b0 q e1 hL0 hm
      exact ⟨up.get b0 _ d1, by rw [mem]; exact d2⟩
    · exact ⟨(oldL b hb hd).trans hL, (oldm b hb hd).1.trans hm⟩

theorem CallP.embed [Quiet C] {f : FuncId} {args : List V} {q k : V → List Blk → Prop} (bs : List Nat) (h : CallP C f args L0 q) (hp : Part bs L0 L) (ha : V.belL L0.length args = true)
    (hk : ∀ X L1, q X L1 → k (X.rn (rnI bs L.length)) (putB bs (rnB (rnI bs L.length) L1) L)) : CallP C f (V.rnL (rnI bs L.length) args) L k := by
  rw [CallP_q] at h ⊢
  refine ⟨h.1, fun g w vs hg hv => (h.2 _ w vs (hp.good hg) ⟨by rw [← hv.1, V.rnL_len], fun j x v hx hvj => ?_⟩).mono ?_⟩
  · exact (hv.2 j (x.rn _) v (by rw [V.rnL_get, hx]; rfl) hvj).dn hp.emb x rfl (V.belL_get ha hx)
  · rintro e w' ⟨v, X, L1, g1, he, hX, hr, hg1, hpr⟩
    obtain ⟨h0, h1, h2⟩ := hp.fin hg hg1 hpr
    exact ⟨v, _, _, _, he, hk X L1 hX, hr.up h0, h1, h2⟩
end
end Go.Tidy
