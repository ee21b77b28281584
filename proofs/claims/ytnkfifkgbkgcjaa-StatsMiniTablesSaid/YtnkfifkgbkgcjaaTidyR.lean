/-
  The base layer: a drawn region whose every order comes to the same.
-/
import Derived.Test.YtnkfifkgbkgcjaaTidyQ
namespace Go.Tidy

/-! ### The order of a region's operations -/
def maskGo (T : List Nat) : List Edge → Nat → Nat
  | [], s => s
  | e :: r, s => maskGo T r (bif Region.binds .any e then s ||| (1 <<< e.on) ||| T.getD e.on 0 else s)
def maskOf (T : List Nat) (o : Oper) : Nat := maskGo T o.after.toList 0
def tblGo : List Oper → List Nat → List Nat
  | [], T => T
  | o :: r, T => tblGo r (T ++ [maskOf T o])
def looks (all : List Oper) (o : Oper) : List Nat :=
  (o.op.operands.toList.filterMap fun | .tmp t => some t | _ => none) ++ (match o.guard with | some (j, _) => (dstAt all j).toList | none => [])
def apartB (all : List Oper) (T : List Nat) (p q : Oper × Nat) : Bool :=
  Nat.beq p.2 q.2 || ((match q.1.dst with | some d => !(p.1.dst == some d) | none => true) &&
    ((T.getD p.2 0).testBit q.2 || (T.getD q.2 0).testBit p.2 ||
      ((match q.1.dst with | some d => !(looks all p.1).contains d | none => true) && (isPure p.1.op || !isWriter q.1.op))))
def stableB (all : List Oper) (T : List Nat) : Bool :=
  all.zipIdx.all fun p =>
    (p.1.after.toList.all fun e => !Region.binds .any e || Nat.blt e.on p.2) &&
    Nat.beq (maskOf T p.1 ||| T.getD p.2 0) (maskOf T p.1) &&
    all.zipIdx.all fun q => apartB all T p q

theorem maskGo_bit {T : List Nat} {j : Nat} : ∀ (l : List Edge) (s : Nat), (maskGo T l s).testBit j = true → s.testBit j = true ∨ ∃ e ∈ l, Region.binds .any e = true ∧ (j = e.on ∨ (T.getD e.on 0).testBit j = true)
  | [], s, h => .inl h
  | e :: r, s, h => by
    simp only [maskGo] at h
    rcases maskGo_bit r _ h with h1 | ⟨e', he', h2⟩
    · cases hb : Region.binds .any e with
      | false => rw [hb] at h1; exact .inl h1
      | true =>
        rw [hb] at h1
        simp only [cond_true, Nat.testBit_or, Bool.or_eq_true, Nat.one_shiftLeft, Nat.testBit_two_pow, decide_eq_true_eq] at h1
        rcases h1 with (h1 | h1) | h1
        · exact .inl h1
        · exact .inr ⟨e, by simp, hb, .inl h1.symm⟩
        · exact .inr ⟨e, by simp, hb, .inr h1⟩
    · exact .inr ⟨e', by simp [he'], h2⟩

section
variable {C : Ctx} {n : Nat} {all : List Oper} {T : List Nat}

structure Stab (all : List Oper) (T : List Nat) : Prop where
  edge : ∀ (i : Nat) (o : Oper) (e : Edge), all[i]? = some o → e ∈ o.after.toList → Region.binds .any e = true → e.on < i
  tbl : ∀ (i : Nat) (o : Oper) (j : Nat), all[i]? = some o → (T.getD i 0).testBit j = true → ∃ e ∈ o.after.toList, Region.binds .any e = true ∧ (j = e.on ∨ (T.getD e.on 0).testBit j = true)
  apart : ∀ (i j : Nat) (o q : Oper), all[i]? = some o → all[j]? = some q → i ≠ j → (∀ d, q.dst = some d → o.dst ≠ some d) ∧
    ((T.getD i 0).testBit j = true ∨ (T.getD j 0).testBit i = true ∨ ((∀ d, q.dst = some d → d ∉ looks all o) ∧ (isPure o.op = true ∨ isWriter q.op = false)))

theorem stab_of (h : stableB all T = true) : Stab all T := by
  unfold stableB at h
  rw [List.all_eq_true] at h
  have mem : ∀ (i : Nat) (o : Oper), all[i]? = some o → (o, i) ∈ all.zipIdx := fun i o ho => by
    rw [List.mem_zipIdx_iff_getElem?]; exact ho
  have h : ∀ (i : Nat) (o : Oper), all[i]? = some o → _ := fun i o ho => h (o, i) (mem i o ho)
  simp only [Bool.and_eq_true] at h
  refine ⟨fun i o e ho he hb => ?_, fun i o j ho hj => ?_, fun i j o q ho hq hij => ?_⟩
  · have := (h i o ho).1.1
    rw [List.all_eq_true] at this
    have := this e he
    simpa [hb, Nat.blt_eq] using this
  · have := (h i o ho).1.2
    have heq := Nat.eq_of_beq_eq_true this
    have hm : (maskOf T o).testBit j = true := by
      rw [← heq, Nat.testBit_or, hj, Bool.or_true]
    unfold maskOf at hm
    rcases maskGo_bit _ _ hm with h0 | h1
    · simp at h0
    · exact h1
  · have := (h i o ho).2
    rw [List.all_eq_true] at this
    have := this (q, j) (mem j q hq)
    unfold apartB at this
    simp only [Bool.or_eq_true, Bool.and_eq_true] at this
    rcases this with hh | ⟨hd, hh⟩
    · exact absurd (Nat.eq_of_beq_eq_true hh) hij
    · refine ⟨fun d hqd => ?_, ?_⟩
      · rw [hqd] at hd
        simp only [Bool.not_eq_true', beq_eq_false_iff_ne, ne_eq] at hd
        exact hd
      · rcases hh with (hh | hh) | ⟨h1, h2⟩
        · exact .inl hh
        · exact .inr (.inl hh)
        · refine .inr (.inr ⟨fun d hqd => ?_, ?_⟩)
          · rw [hqd] at h1
            simpa using h1
          · rcases h2 with h2 | h2
            · exact .inl h2
            · exact .inr (by simpa using h2)

/-- Closed towards what goes before. -/
def Down (all : List Oper) (S : Nat → Prop) : Prop := ∀ (i : Nat) (o : Oper) (e : Edge), S i → all[i]? = some o → e ∈ o.after.toList → Region.binds .any e = true → S e.on

theorem Stab.anc (hs : Stab all T) {S : Nat → Prop} (hd : Down all S) : ∀ (i j : Nat), i < all.length → (T.getD i 0).testBit j = true → (S i → S j) ∧ j < i := by
  intro i
  induction i using Nat.strongRecOn with
  | _ i ih =>
    intro j hi hj
    obtain ⟨e, he, hb, hh⟩ := hs.tbl i all[i] j (List.getElem?_eq_getElem hi) hj
    have hlt := hs.edge i all[i] e (List.getElem?_eq_getElem hi) he hb
    rcases hh with rfl | hh
    · exact ⟨fun h => hd i _ e h (List.getElem?_eq_getElem hi) he hb, hlt⟩
    · obtain ⟨h1, h2⟩ := ih e.on hlt j (by omega) hh
      exact ⟨fun h => h1 (hd i _ e h (List.getElem?_eq_getElem hi) he hb), by omega⟩

/-- All that goes before i stands done (and i does not). -/
theorem Stab.before (hs : Stab all T) {S : Nat → Prop} (hd : Down all S) {i : Nat} (hi : i < all.length) (hr : ∀ (o : Oper) (e : Edge), all[i]? = some o → e ∈ o.after.toList → Region.binds .any e = true → S e.on) {j : Nat}
    (hj : (T.getD i 0).testBit j = true) : S j ∧ j < i := by
  obtain ⟨e, he, hb, hh⟩ := hs.tbl i all[i] j (List.getElem?_eq_getElem hi) hj
  have hlt := hs.edge i all[i] e (List.getElem?_eq_getElem hi) he hb
  have hS := hr _ e (List.getElem?_eq_getElem hi) he hb
  rcases hh with rfl | hh
  · exact ⟨hS, hlt⟩
  · obtain ⟨h1, h2⟩ := hs.anc hd e.on j (by omega) hh
    exact ⟨h1 hS, by omega⟩

/-- The plan of the whole region. -/
structure Plan (C : Ctx) (n : Nat) (all : List Oper) (F : Nat → List (Nat × V)) (M : Nat → List Blk) (val : Nat → V) (ex : Nat → Bool) : Prop where
  op : ∀ (i : Nat) (o : Oper), all[i]? = some o → PlO C n all o (F i) (M i) (val i) (ex i) (M (i + 1))
  nxt : ∀ (i : Nat) (o : Oper), all[i]? = some o → Eqv (F (i + 1)) (putF o.dst (val i) (F i))

def Wrote (all : List Oper) (i s : Nat) : Prop := ∃ o : Oper, all[i]? = some o ∧ o.dst = some s

theorem putF_look {dst : Option Tmp} {v : V} {fr : List (Nat × V)} (s : Nat) : look (putF dst v fr) s = if dst = some s then v else look fr s := by
  unfold putF
  cases dst with
  | none => simp
  | some d => simp only [look_cons, Option.some.injEq]

variable {F : Nat → List (Nat × V)} {M : Nat → List Blk} {val : Nat → V} {ex : Nat → Bool}

theorem Plan.text (hp : Plan C n all F M val ex) (hs : Stab all T) : ∀ (i : Nat), i ≤ all.length → ∀ s, (∀ j, j < i → Wrote all j s → VEq (look (F i) s) (val j)) ∧ ((∀ j, j < i → ¬ Wrote all j s) → VEq (look (F i) s) (look (F 0) s))
  | 0, _, s => ⟨fun j hj => absurd hj (Nat.not_lt_zero j), fun _ => VEq.refl _⟩
  | i + 1, hi, s => by
    obtain ⟨h1, h2⟩ := hp.text hs i (by omega) s
    have ho : all[i]? = some all[i] := List.getElem?_eq_getElem (by omega)
    have hn := hp.nxt i _ ho s
    rw [putF_look] at hn
    refine ⟨fun j hj hw => ?_, fun hw => ?_⟩
    · by_cases e : j = i
      · subst e
        obtain ⟨o, ho', hd⟩ := hw
        rw [ho] at ho'; cases ho'
        rw [if_pos hd] at hn
        exact hn
      · have hji : j < i := by omega
        by_cases hd : (all[i]).dst = some s
        · obtain ⟨q, hq, hqd⟩ := hw
          exact absurd hd ((hs.apart i j _ q ho hq (Ne.symm e)).1 s hqd)
        · rw [if_neg hd] at hn
          exact hn.trans (h1 j hji hw)
    · have hd : ¬ (all[i]).dst = some s := fun hd => hw i (by omega) ⟨_, ho, hd⟩
      rw [if_neg hd] at hn
      exact hn.trans (h2 fun j hj => hw j (by omega))

theorem Plan.mem (hp : Plan C n all F M val ex) : ∀ (a b : Nat), a ≤ b → b ≤ all.length → (∀ j (o : Oper), a ≤ j → j < b → all[j]? = some o → isWriter o.op = false) → M b = M a := by
  intro a b hab
  induction b with
  | zero => intro _ _; rw [show a = 0 by omega]
  | succ b ih =>
    intro hb hw
    by_cases e : a = b + 1
    · rw [e]
    · have ho : all[b]? = some all[b] := List.getElem?_eq_getElem (by omega)
      rw [(hp.op b _ ho).quiet (hw b _ (by omega) (by omega) ho)]
      exact ih (by omega) (by omega) fun j o h1 h2 => hw j o h1 (by omega)

/-- Where some order stands. -/
structure Inv (all : List Oper) (F : Nat → List (Nat × V)) (M : Nat → List Blk) (val : Nat → V) (S : Nat → Prop) (fr : List (Nat × V)) (L : List Blk) : Prop where
  down : Down all S
  val : ∀ j s, S j → Wrote all j s → VEq (look fr s) (val j)
  old : ∀ s, (∀ j, S j → ¬ Wrote all j s) → VEq (look fr s) (look (F 0) s)
  mem : ∃ m, m ≤ all.length ∧ L = M m ∧ ∀ j (o : Oper), all[j]? = some o → isWriter o.op = true → (S j ↔ j < m)

theorem Plan.at (hp : Plan C n all F M val ex) (hs : Stab all T) {S : Nat → Prop} {fr : List (Nat × V)} {L : List Blk} (hi : Inv all F M val S fr L) {i : Nat} {o : Oper} (ho : all[i]? = some o) (hS : ¬ S i)
    (hr : ∀ (e : Edge), e ∈ o.after.toList → Region.binds .any e = true → S e.on) :
    (∀ s, s ∈ looks all o → VEq (look fr s) (look (F i) s)) ∧ (isPure o.op = false → L = M i) ∧ ∃ m, m ≤ all.length ∧ L = M m ∧ (isWriter o.op = true → m ≤ i) ∧ ∀ j (q : Oper), all[j]? = some q → isWriter q.op = true → (S j ↔ j < m) := by
  have hlt : i < all.length := lt_of_get ho
  have hr' : ∀ (o' : Oper) (e : Edge), all[i]? = some o' → e ∈ o'.after.toList → Region.binds .any e = true → S e.on := fun o' e ho' => by rw [ho] at ho'; cases ho'; exact hr e
  have cmp : ∀ j, (T.getD i 0).testBit j = true → S j ∧ j < i := fun j hj => hs.before hi.down hlt hr' hj
  have cmp' : ∀ j, j < all.length → (T.getD j 0).testBit i = true → ¬ S j ∧ i < j := fun j hj hb =>
    ⟨fun h => hS ((hs.anc hi.down j i hj hb).1 h), (hs.anc hi.down j i hj hb).2⟩
  refine ⟨fun s hsl => ?_, fun hpu => ?_, ?_⟩
  · obtain ⟨h1, h2⟩ := hp.text hs i (by omega) s
    by_cases hw : ∃ j, j ≠ i ∧ Wrote all j s
    · obtain ⟨j, hji, hw⟩ := hw
      have hw' := hw
      obtain ⟨q, hq, hqd⟩ := hw
      have hjl := lt_of_get hq
      have uniq : ∀ j', Wrote all j' s → j' = j := by
        rintro j' ⟨q', hq', hqd'⟩
        by_cases e : j' = j
        · exact e
        · exact absurd hqd' ((hs.apart j' j q' q hq' hq e).1 s hqd)
      rcases (hs.apart i j o q ho hq (Ne.symm hji)).2 with h | h | h
      · obtain ⟨a, b⟩ := cmp j h
        exact (hi.val j s a hw').trans (h1 j b hw').symm
      · obtain ⟨a, b⟩ := cmp' j hjl h
        exact (hi.old s fun j' hj' hwj => a (uniq j' hwj ▸ hj')).trans (h2 fun j' hj' hwj => by have := uniq j' hwj; omega).symm
      · exact absurd hsl (h.1 s hqd)
    · have hno : ∀ j, Wrote all j s → j = i := fun j hj => Classical.byContradiction fun e => hw ⟨j, e, hj⟩
      exact (hi.old s fun j hj hwj => hS (hno j hwj ▸ hj)).trans (h2 fun j hj hwj => by have := hno j hwj; omega).symm
  · obtain ⟨m, hm, hL, hmw⟩ := hi.mem
    have key : ∀ j (q : Oper), j ≠ i → all[j]? = some q → isWriter q.op = true → (j < m ↔ j < i) := by
      intro j q hji hq hw
      rcases (hs.apart i j o q ho hq (Ne.symm hji)).2 with h | h | h
      · obtain ⟨a, b⟩ := cmp j h
        exact ⟨fun _ => b, fun _ => (hmw j q hq hw).1 a⟩
      · obtain ⟨a, b⟩ := cmp' j (lt_of_get hq) h
        exact ⟨fun h => absurd ((hmw j q hq hw).2 h) a, fun h => by omega⟩
      · rcases h.2 with h | h
        · rw [hpu] at h; cases h
        · rw [hw] at h; cases h
    rw [hL]
    rcases Nat.le_total m i with h | h
    · refine (hp.mem m i h (by omega) fun j q h1 h2 hq => ?_).symm
      cases hw : isWriter q.op with
      | false => rfl
      | true => have := (key j q (by omega) hq hw).2 h2; omega
    · refine hp.mem i m h hm fun j q h1 h2 hq => ?_
      cases hw : isWriter q.op with
      | false => rfl
      | true =>
        by_cases e : j = i
        · subst e; exact absurd ((hmw j q hq hw).2 h2) hS
        · have := (key j q e hq hw).1 h2; omega
  · obtain ⟨m, hm, hL, hmw⟩ := hi.mem
    refine ⟨m, hm, hL, fun hw => ?_, hmw⟩
    exact Nat.le_of_not_lt fun h => hS ((hmw i o ho hw).2 h)
end
end Go.Tidy
