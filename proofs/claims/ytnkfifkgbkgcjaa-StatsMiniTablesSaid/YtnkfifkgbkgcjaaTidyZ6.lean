/-
  The base layer: a drawn region by some of its orders: runs and their exchanges.
-/
import Derived.Test.YtnkfifkgbkgcjaaTidyZ5
namespace Go.Tidy
section
variable {C : Ctx} {n : Nat} {all : List Oper} {o : Oper} {fr : List (Nat × V)} {L : List Blk} {K : List (Nat × V) → List Blk → Prop}

def qOp1L (C : Ctx) (n : Nat) (all : List Oper) (md : Nat) (o : Oper) (fr : List (Nat × V)) (L : List Blk) (K : List (Nat × V) → List Blk → Prop) : Prop :=
  match o.guard with
  | none => qOpL C md o fr L fun v L' => vPut n o.dst fr v fun fr' => K fr' L'
  | some (j, want) =>
    match dstAt all j with
    | none => False
    | some d => match look fr d with
      | .tt => match want with
        | true => qOpL C md o fr L fun v L' => vPut n o.dst fr v fun fr' => K fr' L'
        | false => vPut n o.dst fr (.tup []) fun fr' => K fr' L
      | .ff => match want with
        | false => qOpL C md o fr L fun v L' => vPut n o.dst fr v fun fr' => K fr' L'
        | true => vPut n o.dst fr (.tup []) fun fr' => K fr' L
      | .d (.bool t) => Br t fun b => match b, want with
        | true, true => qOpL C md o ((d, .tt) :: fr) L fun v L' => vPut n o.dst ((d, .tt) :: fr) v fun fr' => K fr' L'
        | false, false => qOpL C md o ((d, .ff) :: fr) L fun v L' => vPut n o.dst ((d, .ff) :: fr) v fun fr' => K fr' L'
        | true, false => vPut n o.dst ((d, .tt) :: fr) (.tup []) fun fr' => K fr' L
        | false, true => vPut n o.dst ((d, .ff) :: fr) (.tup []) fun fr' => K fr' L
      | .tup [] => vPut n o.dst fr (.tup []) fun fr' => K fr' L
      | _ => False

/-- What one operation does. -/
structure PlX (C : Ctx) (n : Nat) (all : List Oper) (o : Oper) (fr : List (Nat × V)) (L : List Blk) (v : V) (ex : Bool) (L' : List Blk) : Prop where
  run : ex = true → vOp C o fr L fun x M => x = v ∧ M = L'
  skip : ex = false → v = .tup [] ∧ L' = L
  guard : match o.guard with | none => ex = true | some (j, want) => ∃ d, dstAt all j = some d ∧ (look fr d = (if ex == want then .tt else .ff) ∨ (look fr d = .tup [] ∧ ex = false))
  dst : ∀ d, o.dst = some d → Nat.blt d n = true
def isW (md : Nat) (op : Op) : Bool := Nat.beq md 2 || isWriter op
/-- An operation whose outcome does not hang on the memory. -/
def FarO (C : Ctx) (n : Nat) (all : List Oper) (o : Oper) (fr : List (Nat × V)) (v : V) (ex : Bool) : Prop := ∀ L, PlX C n all o fr L v ex L

theorem qOp1L_out {md : Nat} (h : qOp1L C n all md o fr L K) : ∃ fr1 v ex L', Eqv fr1 fr ∧ PlX C n all o fr1 L v ex L' ∧ (md = 1 → FarO C n all o fr1 v ex) ∧ (isW md o.op = false → L' = L) ∧ K (putF o.dst v fr1) L' := by
  unfold qOp1L at h
  have exec : ∀ fr1, Eqv fr1 fr → (match o.guard with | none => True | some (j, want) => ∃ d, dstAt all j = some d ∧ (look fr1 d = (if true == want then .tt else .ff) ∨ (look fr1 d = .tup [] ∧ true = false))) →
      (qOpL C md o fr1 L fun v L' => vPut n o.dst fr1 v fun fr' => K fr' L') → ∃ fr1 v ex L', Eqv fr1 fr ∧ PlX C n all o fr1 L v ex L' ∧ (md = 1 → FarO C n all o fr1 v ex) ∧ (isW md o.op = false → L' = L) ∧ K (putF o.dst v fr1) L' := by
    intro fr1 he hg h
    obtain ⟨v, L', h1, h2, h3, h6⟩ := qOpL_out h
    obtain ⟨h4, h5⟩ := vPut_out h2
    have hgd : match o.guard with | none => true = true | some (j, want) => ∃ d, dstAt all j = some d ∧ (look fr1 d = (if true == want then .tt else .ff) ∨ (look fr1 d = .tup [] ∧ true = false)) := by
      split
      · rfl
      · rename_i hgd; rw [hgd] at hg; exact hg
    refine ⟨fr1, v, true, L', he, ⟨fun _ => h1, fun h => (by cases h), hgd, h5⟩, fun hlo L2 => ⟨fun _ => (h6 hlo).2 L2, fun h => (by cases h), hgd, h5⟩, fun hw => ?_, h4⟩
    unfold isW at hw
    simp only [Bool.or_eq_false_iff] at hw
    exact h3 (fun e => by rw [e] at hw; cases hw.1) hw.2
  have skip : ∀ fr1, Eqv fr1 fr → (∃ j want, o.guard = some (j, want) ∧ ∃ d, dstAt all j = some d ∧ (look fr1 d = (if false == want then .tt else .ff) ∨ (look fr1 d = .tup [] ∧ false = false))) →
      (vPut n o.dst fr1 (.tup []) fun fr' => K fr' L) → ∃ fr1 v ex L', Eqv fr1 fr ∧ PlX C n all o fr1 L v ex L' ∧ (md = 1 → FarO C n all o fr1 v ex) ∧ (isW md o.op = false → L' = L) ∧ K (putF o.dst v fr1) L' := by
    rintro fr1 he ⟨j, want, hg, hd⟩ h
    obtain ⟨h4, h5⟩ := vPut_out h
    have hgd : match o.guard with | none => false = true | some (j, want) => ∃ d, dstAt all j = some d ∧ (look fr1 d = (if false == want then .tt else .ff) ∨ (look fr1 d = .tup [] ∧ false = false)) := by
      rw [hg]; exact hd
    exact ⟨fr1, .tup [], false, L, he, ⟨fun h => (by cases h), fun _ => ⟨rfl, rfl⟩, hgd, h5⟩, fun _ L2 => ⟨fun h => (by cases h), fun _ => ⟨rfl, rfl⟩, hgd, h5⟩, fun _ => rfl, h4⟩
  cases hgd : o.guard with
  | none =>
    simp only [hgd] at h
    exact exec fr (Eqv.refl _) (by rw [hgd]; trivial) h
  | some jw =>
    obtain ⟨j, want⟩ := jw
    simp only [hgd] at h
    cases hd : dstAt all j with
    | none => simp [hd] at h
    | some d =>
      simp only [hd] at h
      split at h
      · rename_i hl
        cases want with
        | true => exact exec fr (Eqv.refl _) (by rw [hgd]; exact ⟨d, hd, .inl hl⟩) h
        | false => exact skip fr (Eqv.refl _) ⟨j, false, hgd, d, hd, .inl hl⟩ h
      · rename_i hl
        cases want with
        | false => exact exec fr (Eqv.refl _) (by rw [hgd]; exact ⟨d, hd, .inl hl⟩) h
        | true => exact skip fr (Eqv.refl _) ⟨j, true, hgd, d, hd, .inl hl⟩ h
      · rename_i t hl
        have h := h.out
        cases t with
        | true =>
          have he : Eqv ((d, .tt) :: fr) fr := fun s => by
            rw [look_cons]
            by_cases e : d = s
            · subst e; rw [if_pos rfl, hl]; exact VEq.tt.symm
            · rw [if_neg e]; exact VEq.refl _
          have hl' : look ((d, V.tt) :: fr) d = .tt := by rw [look_cons, if_pos rfl]
          cases want with
          | true => exact exec _ he (by rw [hgd]; exact ⟨d, hd, .inl hl'⟩) h
          | false => exact skip _ he ⟨j, false, hgd, d, hd, .inl hl'⟩ h
        | false =>
          have he : Eqv ((d, .ff) :: fr) fr := fun s => by
            rw [look_cons]
            by_cases e : d = s
            · subst e; rw [if_pos rfl, hl]; exact VEq.ff.symm
            · rw [if_neg e]; exact VEq.refl _
          have hl' : look ((d, V.ff) :: fr) d = .ff := by rw [look_cons, if_pos rfl]
          cases want with
          | false => exact exec _ he (by rw [hgd]; exact ⟨d, hd, .inl hl'⟩) h
          | true => exact skip _ he ⟨j, true, hgd, d, hd, .inl hl'⟩ h
      · rename_i hl
        exact skip fr (Eqv.refl _) ⟨j, want, hgd, d, hd, .inr ⟨hl, rfl⟩⟩ h
      · exact h.elim

/-! ### Runs -/
def Runs (C : Ctx) (n : Nat) (all : List Oper) : List (Nat × Nat) → List (Nat × V) → List Blk → (List (Nat × V) → List Blk → Prop) → Prop
  | [], fr, L, K => ∃ fr1, Eqv fr1 fr ∧ K fr1 L
  | (i, md) :: r, fr, L, K => ∃ o fr1 v ex L', all[i]? = some o ∧ Eqv fr1 fr ∧ PlX C n all o fr1 L v ex L' ∧ (md = 1 → FarO C n all o fr1 v ex) ∧ (isW md o.op = false → L' = L) ∧ Runs C n all r (putF o.dst v fr1) L' K
/-- The walk along one order. -/
def qOrd (C : Ctx) (n : Nat) (all : List Oper) : List (Nat × Nat) → List (Nat × V) → List Blk → (List (Nat × V) → List Blk → Prop) → Prop
  | [], fr, L, K => K fr L
  | (i, md) :: r, fr, L, K => match all[i]? with
    | some o => qOp1L C n all md o fr L fun fr' L' => qOrd C n all r fr' L' K
    | none => False
theorem qOrd_runs : ∀ (l : List (Nat × Nat)) (fr : List (Nat × V)) (L : List Blk), qOrd C n all l fr L K → Runs C n all l fr L K
  | [], fr, L, h => ⟨fr, Eqv.refl _, h⟩
  | (i, md) :: r, fr, L, h => by
    unfold qOrd at h
    cases ho : all[i]? with
    | none => simp [ho] at h
    | some o =>
      simp only [ho] at h
      obtain ⟨fr1, v, ex, L', h1, h2, h3, h5, h4⟩ := qOp1L_out h
      exact ⟨o, fr1, v, ex, L', ho, h1, h2, h3, h5, qOrd_runs r _ _ h4⟩
theorem Eqv.symm {a b : List (Nat × V)} (h : Eqv a b) : Eqv b a := fun s => (h s).symm
theorem Runs.eqv : ∀ {l : List (Nat × Nat)} {fr fr' : List (Nat × V)} {L : List Blk}, Runs C n all l fr L K → Eqv fr fr' → Runs C n all l fr' L K
  | [], _, _, _, ⟨fr1, h1, h2⟩, he => ⟨fr1, h1.trans he, h2⟩
  | (_, _) :: _, _, _, _, ⟨o, fr1, v, ex, L', h0, h1, h2, h3, h5, h4⟩, he => ⟨o, fr1, v, ex, L', h0, h1.trans he, h2, h3, h5, h4⟩
theorem PlX.frame {v : V} {ex : Bool} {L' : List Blk} {fr' : List (Nat × V)} (h : PlX C n all o fr L v ex L') (hl : ∀ s ∈ looks all o, look fr' s = look fr s) : PlX C n all o fr' L v ex L' := by
  refine ⟨fun he => ?_, h.skip, ?_, h.dst⟩
  · rw [vOp_congr (fr := fr') (fr' := fr) fun t ht => hl t (looks_op ht)]
    exact h.run he
  · have hg := h.guard
    cases hgd : o.guard with
    | none => rw [hgd] at hg; exact hg
    | some jw =>
      obtain ⟨j, want⟩ := jw
      rw [hgd] at hg
      obtain ⟨d, hd, hh⟩ := hg
      refine ⟨d, hd, ?_⟩
      rw [hl d (looks_guard hgd hd)]
      exact hh
theorem FarO.frame {v : V} {ex : Bool} {fr' : List (Nat × V)} (h : FarO C n all o fr v ex) (hl : ∀ s ∈ looks all o, look fr' s = look fr s) : FarO C n all o fr' v ex := fun L => (h L).frame hl
theorem PlX.pure {v : V} {ex : Bool} {L' : List Blk} (h : PlX C n all o fr L v ex L') (hp : isPure o.op = true) (L2 : List Blk) : PlX C n all o fr L2 v ex L2 := by
  refine ⟨fun he => ?_, fun he => ⟨(h.skip he).1, rfl⟩, h.guard, h.dst⟩
  obtain ⟨p, u, hd⟩ := vOp_pu C o fr hp
  obtain ⟨h1, h2, _⟩ := (hd L _).1 (h.run he)
  exact (hd L2 _).2 ⟨h1, h2, rfl⟩

/-- Two operations that may change places. -/
structure Indep (all : List Oper) (a b : Nat) (p q : Oper) : Prop where
  dst : ∀ d, p.dst = some d → q.dst ≠ some d ∧ d ∉ looks all q
  dst' : ∀ d, q.dst = some d → d ∉ looks all p
  mem : (isPure p.op = true ∧ isW a p.op = false) ∨ (isPure q.op = true ∧ isW b q.op = false) ∨ (isW a p.op = false ∧ (a = 1 ∨ isW b q.op = false))

theorem Runs.swap {i j a b : Nat} {r : List (Nat × Nat)} (hin : ∀ p q, all[i]? = some p → all[j]? = some q → Indep all a b p q) (h : Runs C n all ((i, a) :: (j, b) :: r) fr L K) : Runs C n all ((j, b) :: (i, a) :: r) fr L K := by
  obtain ⟨p, fr1, v, ex, L1, hp, he1, hpl1, hfar1, hq1, q, fr2, u, ex2, L2, hq, he2, hpl2, hfar2, hq2, hr⟩ := h
  obtain ⟨hd, hd', hm⟩ := hin p q hp hq
  have keep1 : ∀ t ∈ looks all q, VEq (look fr2 t) (look fr t) := fun t ht => by
    refine (he2 t).trans ?_
    rw [putF_look, if_neg fun e => (hd t e).2 ht]
    exact he1 t
  let fr2' := (looks all q).map (fun t => (t, look fr2 t)) ++ fr
  have l2 : ∀ s, look fr2' s = if s ∈ looks all q then look fr2 s else look fr s := fun s => look_pre _ _ _ _
  have e2' : Eqv fr2' fr := fun s => by
    rw [l2]
    split
    · rename_i h; exact keep1 s h
    · exact VEq.refl _
  let fr1' := (looks all p).map (fun t => (t, look fr1 t)) ++ putF q.dst u fr2'
  have l1 : ∀ s, look fr1' s = if s ∈ looks all p then look fr1 s else look (putF q.dst u fr2') s := fun s => look_pre _ _ _ _
  have e1' : Eqv fr1' (putF q.dst u fr2') := fun s => by
    rw [l1]
    split
    · rename_i h
      rw [putF_look, if_neg fun e => hd' s e h]
      exact (he1 s).trans (e2' s).symm
    · exact VEq.refl _
  have heq : Eqv (putF q.dst u fr2) (putF p.dst v fr1') := fun s => by
    rw [putF_look, putF_look]
    by_cases ep : p.dst = some s
    · rw [if_neg (hd s ep).1, if_pos ep]
      refine (he2 s).trans ?_
      rw [putF_look, if_pos ep]
      exact VEq.refl _
    · rw [if_neg ep]
      refine VEq.symm ((e1' s).trans ?_)
      rw [putF_look]
      by_cases eq : q.dst = some s
      · rw [if_pos eq, if_pos eq]; exact VEq.refl _
      · rw [if_neg eq, if_neg eq]
        refine (e2' s).trans ((he2 s).trans ?_).symm
        rw [putF_look, if_neg ep]
        exact he1 s
  have f2 : ∀ s ∈ looks all q, look fr2' s = look fr2 s := fun s hs => by rw [l2, if_pos hs]
  have f1 : ∀ s ∈ looks all p, look fr1' s = look fr1 s := fun s hs => by rw [l1, if_pos hs]
  have fin : ∀ M, PlX C n all q fr2 L u ex2 M → (isW b q.op = false → M = L) → PlX C n all p fr1 M v ex L2 → (isW a p.op = false → L2 = M) → Runs C n all ((j, b) :: (i, a) :: r) fr L K := by
    intro M h1 h1' h2 h2'
    exact ⟨q, fr2', u, ex2, M, hq, e2', h1.frame f2, fun x => (hfar2 x).frame f2, h1', p, fr1', v, ex, L2, hp, e1', h2.frame f1, fun x => (hfar1 x).frame f1, h2', hr.eqv heq⟩
  rcases hm with ⟨h, hw⟩ | ⟨h, hw⟩ | ⟨hw, h | h⟩
  · have e : L1 = L := hq1 hw
    subst e
    exact fin L2 hpl2 hq2 (hpl1.pure h L2) fun _ => rfl
  · have e : L2 = L1 := hq2 hw
    subst e
    exact fin L (hpl2.pure h L) (fun _ => rfl) hpl1 hq1
  · have e : L1 = L := hq1 hw
    subst e
    exact fin L2 hpl2 hq2 (hfar1 h L2) fun _ => rfl
  · have e : L1 = L := hq1 hw
    subst e
    have e : L2 = L1 := hq2 h
    subst e
    exact fin L2 hpl2 hq2 hpl1 hq1

/-- Along a run. -/
theorem PlX.vc {v : V} {ex : Bool} {L' : List Blk} (h : PlX C n all o fr L v ex L') (hK : K (putF o.dst v fr) L') : vcOp1 C n all o fr L K := by
  have put : ∀ (u : V) (M : List Blk), K (putF o.dst u fr) M → (∀ d, o.dst = some d → Nat.blt d n = true) → vPut n o.dst fr u fun fr' => K fr' M := by
    intro u M hk hd
    unfold vPut
    simp only [V.force_eq]
    unfold putF at hk
    cases hdst : o.dst with
    | none => rw [hdst] at hk; exact hk
    | some d => rw [hdst] at hk; simp only [hd d hdst, cond_true]; exact hk
  have run : ex = true → vOp C o fr L fun v L' => vPut n o.dst fr v fun fr' => K fr' L' := fun he => vOp_mono (h.run he) fun x N hx => by
    obtain ⟨rfl, rfl⟩ := hx
    exact put _ _ hK h.dst
  have skip : ex = false → vPut n o.dst fr (.tup []) fun fr' => K fr' L := fun he => by
    obtain ⟨rfl, rfl⟩ := h.skip he
    exact put _ _ hK h.dst
  have hg := h.guard
  unfold vcOp1
  simp only [vOpF_eq]
  cases hgd : o.guard with
  | none => rw [hgd] at hg; exact run hg
  | some jw =>
    obtain ⟨j, want⟩ := jw
    rw [hgd] at hg
    obtain ⟨d, hd, hlk⟩ := hg
    rcases hlk with hlk | ⟨hlk, hex⟩
    · simp only [hd, hlk]
      cases hex : ex <;> cases want <;> simp <;> first | exact run hex | exact skip hex
    · simp only [hd, hlk]
      exact skip hex
theorem Runs.vc : ∀ {l : List (Nat × Nat)} {fr : List (Nat × V)} {L : List Blk}, Runs C n all l fr L K → vOpsC C n all ((l.map (·.1)).filterMap fun i => all[i]?) fr L K
  | [], _, _, ⟨fr1, h1, h2⟩ => ⟨fr1, fun s => (h1 s).2, h2⟩
  | (i, md) :: r, fr, L, ⟨o, fr1, v, ex, L', h0, h1, h2, h3, h5, h4⟩ => by
    simp only [List.map_cons, List.filterMap_cons, h0]
    exact ⟨fr1, fun s => (h1 s).2, h2.vc (Runs.vc h4)⟩
end
end Go.Tidy
