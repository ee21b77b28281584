/-
  planner: the code's choices are the reference's.
-/
import Derived.Test.YtjknhbfcdjjbhaaPlaK
import Derived.Test.YtjknhbfcdjjbhaaPlaL
namespace Go.Proofs.Ytjknhbfcdjjbhaa
open Go.Tidy
set_option linter.unusedSimpArgs false
set_option linter.unusedVariables false
/-! ### The choices as a filter -/
theorem firstM_lt {a b : Int} (h : a < b) : firstM ⟨a, b⟩ = a ∧ firstM ⟨b, a⟩ = a := by unfold firstM; constructor <;> (simp only; split <;> omega)
theorem prIn_mem {c : Int} {m : Mt} : ∀ {os : List Int}, m ∈ prIn c os ↔ ∃ o ∈ os, m = ⟨c, o⟩ ∨ m = ⟨o, c⟩
  | [] => by simp [prIn]
  | o :: os => by
    simp only [prIn, List.mem_cons, prIn_mem (os := os)]
    constructor
    · rintro (h | h | ⟨x, hx, h⟩)
      · exact ⟨o, .inl rfl, .inl h⟩
      · exact ⟨o, .inl rfl, .inr h⟩
      · exact ⟨x, .inr hx, h⟩
    · rintro ⟨x, rfl | hx, h⟩
      · exact h.elim .inl fun h => .inr (.inl h)
      · exact .inr (.inr ⟨x, hx, h⟩)
/-- Pairs of a growing list: the lesser one is the first of both. -/
theorem prs_mem {m : Mt} : ∀ {cs : List Int}, cs.Pairwise (· < ·) → m ∈ prs cs → ∃ a b, a ∈ cs ∧ b ∈ cs ∧ a < b ∧ firstM m = a ∧ (m = ⟨a, b⟩ ∨ m = ⟨b, a⟩)
  | [], _, h => by simp [prs] at h
  | c :: cs, hp, h => by
    obtain ⟨hc, hp⟩ := List.pairwise_cons.1 hp
    rw [prs, List.mem_append] at h
    rcases h with h | h
    · obtain ⟨o, ho, h⟩ := prIn_mem.1 h
      refine ⟨c, o, by simp, by simp [ho], hc o ho, ?_, h⟩
      rcases h with rfl | rfl
      · exact (firstM_lt (hc o ho)).1
      · exact (firstM_lt (hc o ho)).2
    · obtain ⟨a, b, h1, h2, h3⟩ := prs_mem hp h
      exact ⟨a, b, by simp [h1], by simp [h2], h3⟩
theorem mem_prs {a b : Int} : ∀ {cs : List Int}, cs.Pairwise (· < ·) → a ∈ cs → b ∈ cs → a < b → (⟨a, b⟩ : Mt) ∈ prs cs ∧ (⟨b, a⟩ : Mt) ∈ prs cs
  | [], _, h, _, _ => by simp at h
  | c :: cs, hp, ha, hb, hab => by
    obtain ⟨hc, hp⟩ := List.pairwise_cons.1 hp
    rw [prs]
    rcases List.mem_cons.1 ha with rfl | ha'
    · rcases List.mem_cons.1 hb with rfl | hb
      · omega
      · exact ⟨List.mem_append_left _ (prIn_mem.2 ⟨b, hb, .inl rfl⟩), List.mem_append_left _ (prIn_mem.2 ⟨b, hb, .inr rfl⟩)⟩
    · rcases List.mem_cons.1 hb with rfl | hb
      · have := hc a ha'; omega
      · have := mem_prs hp ha' hb hab
        exact ⟨List.mem_append_right _ this.1, List.mem_append_right _ this.2⟩
def cntF (bz : List Int) (x : Int) (cs : List Int) : Nat := cs.countP fun c => decide (c < x) && decide (c ∉ bz)
def Pch (bz : List Int) (tk : List Mt) (least : Int) (cs : List Int) (may : Nat) (m : Mt) : Bool := decide (m.home ∉ bz ∧ m.away ∉ bz ∧ m ∉ tk ∧ least < firstM m ∧ cntF bz (firstM m) cs ≤ may)
theorem chIn_eq (bz : List Int) (tk : List Mt) (c : Int) (f : Mt → Bool) : ∀ os : List Int, (∀ o ∈ os, f ⟨c, o⟩ = decide (o ∉ bz ∧ (⟨c, o⟩ : Mt) ∉ tk) ∧ f ⟨o, c⟩ = decide (o ∉ bz ∧ (⟨o, c⟩ : Mt) ∉ tk)) → (prIn c os).filter f = chIn bz tk c os
  | [], _ => rfl
  | o :: os, h => by
    obtain ⟨h1, h2⟩ := h o (by simp)
    have ih := chIn_eq bz tk c f os fun x hx => h x (by simp [hx])
    rw [prIn, chIn, ← ih]
    by_cases hb : o ∈ bz
    · rw [if_pos hb, List.filter_cons_of_neg (by rw [h1]; simp [hb]), List.filter_cons_of_neg (by rw [h2]; simp [hb])]
    · rw [if_neg hb]
      simp only [List.filter_cons, h1, h2, hb, not_false_eq_true, true_and, List.filter_nil]
      split <;> split <;> simp
theorem cntF_zero {bz : List Int} {x : Int} {cs : List Int} (h : ∀ c ∈ cs, x ≤ c) : cntF bz x cs = 0 := by
  unfold cntF
  rw [List.countP_eq_zero]
  intro c hc
  have := h c hc
  rw [decide_eq_false (by omega)]; simp
theorem chOut_eq (bz : List Int) (tk : List Mt) (least : Int) : ∀ (cs : List Int) (may : Nat), cs.Pairwise (· < ·) → chOut bz tk least may cs = (prs cs).filter (Pch bz tk least cs may)
  | [], _, _ => rfl
  | c :: cs, may, hp => by
    obtain ⟨hc, hp'⟩ := List.pairwise_cons.1 hp
    rw [chOut_cons, prs, List.filter_append]
    have hcnt0 : cntF bz c (c :: cs) = 0 := cntF_zero fun x hx => by
      rcases List.mem_cons.1 hx with rfl | hx
      · exact Int.le_refl _
      · have := hc x hx; omega
    have hrest : ∀ m ∈ prs cs, cntF bz (firstM m) (c :: cs) = cntF bz (firstM m) cs + (if c ∈ bz then 0 else 1) := fun m hm => by
      obtain ⟨a, b, ha, _, _, he, _⟩ := prs_mem hp' hm
      have hca := hc a ha
      unfold cntF
      rw [List.countP_cons, he, decide_eq_true (by omega : c < a)]
      by_cases hb : c ∈ bz <;> simp [hb]
    by_cases hb : c ∈ bz
    · rw [if_pos hb, chOut_eq bz tk least cs may hp']
      have e1 : (prIn c cs).filter (Pch bz tk least (c :: cs) may) = [] := by
        rw [List.filter_eq_nil_iff]
        intro m hm
        obtain ⟨o, ho, h⟩ := prIn_mem.1 hm
        rcases h with rfl | rfl <;> simp [Pch, hb]
      rw [e1, List.nil_append]
      refine List.filter_congr fun m hm => ?_
      unfold Pch
      rw [hrest m hm, if_pos hb, Nat.add_zero]
    · rw [if_neg hb]
      have e1 : (prIn c cs).filter (Pch bz tk least (c :: cs) may) = if least < c then chIn bz tk c cs else [] := by
        split
        · rename_i hl
          refine chIn_eq bz tk c _ cs fun o ho => ?_
          obtain ⟨f1, f2⟩ := firstM_lt (hc o ho)
          unfold Pch
          rw [f1, f2, hcnt0]
          refine ⟨decide_eq_decide.2 ⟨fun h => ⟨h.2.1, h.2.2.1⟩, fun h => ⟨hb, h.1, h.2, hl, Nat.zero_le _⟩⟩, decide_eq_decide.2 ⟨fun h => ⟨h.1, h.2.2.1⟩, fun h => ⟨h.1, hb, h.2, hl, Nat.zero_le _⟩⟩⟩
        · rename_i hl
          rw [List.filter_eq_nil_iff]
          intro m hm
          obtain ⟨o, ho, h⟩ := prIn_mem.1 hm
          obtain ⟨f1, f2⟩ := firstM_lt (hc o ho)
          rcases h with rfl | rfl
          · unfold Pch; rw [f1]; simp [hl]
          · unfold Pch; rw [f2]; simp [hl]
      rw [e1]
      congr 1
      by_cases hm0 : may = 0
      · rw [if_pos hm0]
        symm
        rw [List.filter_eq_nil_iff]
        intro m hm
        unfold Pch
        rw [hrest m hm, if_neg hb, hm0]; simp
      · rw [if_neg hm0, chOut_eq bz tk least cs (may - 1) hp']
        refine List.filter_congr fun m hm => ?_
        unfold Pch
        rw [hrest m hm, if_neg hb]
        exact decide_eq_decide.2 ⟨fun h => ⟨h.1, h.2.1, h.2.2.1, h.2.2.2.1, by omega⟩, fun h => ⟨h.1, h.2.1, h.2.2.1, h.2.2.2.1, by omega⟩⟩
/-! ### One more match -/
theorem snoc_all {α : Type} {P : Nat → List α → α → Prop} (l : List α) (m : α) : (∀ (k : Nat) (hk : k < (l ++ [m]).length), P k ((l ++ [m]).take k) (l ++ [m])[k]) ↔ (∀ (k : Nat) (hk : k < l.length), P k (l.take k) l[k]) ∧ P l.length l m := by
  constructor
  · intro h
    refine ⟨fun k hk => ?_, ?_⟩
    · have := h k (by simp; omega)
      rwa [List.getElem_append_left hk, List.take_append_of_le_length (Nat.le_of_lt hk)] at this
    · have := h l.length (by simp)
      rw [List.getElem_append_right (Nat.le_refl _), List.take_left' rfl] at this
      simpa using this
  · rintro ⟨h1, h2⟩ k hk
    by_cases h : k < l.length
    · rw [List.getElem_append_left h, List.take_append_of_le_length (Nat.le_of_lt h)]; exact h1 k h
    · have e : k = l.length := by simp at hk; omega
      subst e
      rw [List.getElem_append_right (Nat.le_refl _), List.take_left' rfl]
      simpa using h2
def OkQ (p : Pl) (met t : List Mt) (m : Mt) : Prop := m.home ≠ m.away ∧ m.home ∈ p.clubs ∧ m.away ∈ p.clubs ∧ m.home ∉ busyL t ∧ m.away ∉ busyL t ∧ m ∉ met ++ t ∧ (p.double = false → (⟨m.away, m.home⟩ : Mt) ∉ met ++ t) ∧ ∀ x, t.getLast? = some x → firstM x < firstM m
theorem OkI_Q {p : Pl} {met r : List Mt} {k : Nat} (hk : k < r.length) : OkI p met r k hk ↔ OkQ p met (r.take k) r[k] := by
  unfold OkI OkQ
  have e : (0 < k → firstM (r[k - 1]'(by omega)) < firstM r[k]) ↔ ∀ x, (r.take k).getLast? = some x → firstM x < firstM r[k] := by
    rw [List.getLast?_eq_getElem?, List.length_take, Nat.min_eq_left (Nat.le_of_lt hk)]
    by_cases h0 : 0 < k
    · rw [List.getElem?_take_of_lt (by omega), List.getElem?_eq_getElem (by omega)]
      exact ⟨fun h x hx => by cases hx; exact h h0, fun h _ => h _ rfl⟩
    · have : k = 0 := by omega
      subst this
      simp
  rw [e]
def RQ (p : Pl) (row : List Mt) (met : List Mt) (more : Prop) : Prop := row.length ≠ 0 ∧ row.length ≤ halfN p ∧ (more → halfN p ≤ row.length) ∧ (∀ (k : Nat) (hk : k < row.length), OkQ p met (row.take k) row[k]) ∧ leftGo (p.clubs.length % 2) (lastM row) (busyL row) p.clubs 0 = true
theorem RoundP_Q {l : List (List Mt)} {p : Pl} {i : Nat} (hi : i < l.length) : RoundP l p i hi ↔ RQ p l[i] (l.take i).flatten (i + 1 < l.length) := by
  unfold RoundP RQ
  exact and_congr_right fun _ => and_congr_right fun _ => and_congr_right fun _ => and_congr_left fun _ => forall_congr' fun k => forall_congr' fun hk => OkI_Q hk
theorem PartP_snoc {bf : Lst} {w : List Mt} {p : Pl} : PartP (bf ++ [w]) p ↔ bf.length + 1 ≤ roundsN p ∧ (∀ (i : Nat) (hi : i < bf.length), RQ p bf[i] (bf.take i).flatten True) ∧ RQ p w bf.flatten False := by
  unfold PartP
  have e1 : (bf ++ [w]).length = bf.length + 1 := by simp
  have e2 : (∀ (i : Nat) (hi : i < (bf ++ [w]).length), RoundP (bf ++ [w]) p i hi) ↔ ∀ (i : Nat) (hi : i < (bf ++ [w]).length), RQ p (bf ++ [w])[i] ((bf ++ [w]).take i).flatten (i + 1 < bf.length + 1) :=
    forall_congr' fun i => forall_congr' fun hi => by rw [RoundP_Q, e1]
  rw [e2, snoc_all (P := fun i t row => RQ p row t.flatten (i + 1 < bf.length + 1)), e1]
  refine and_congr_right fun _ => and_congr ?_ ?_
  · refine forall_congr' fun i => forall_congr' fun hi => ?_
    unfold RQ
    have : (i + 1 < bf.length + 1) ↔ True := iff_true_intro (by omega)
    rw [this]
  · unfold RQ
    have : (bf.length + 1 < bf.length + 1) ↔ False := iff_false_intro (by omega)
    rw [this]
theorem lastM_snoc (rd : List Mt) (m : Mt) : lastM (rd ++ [m]) = firstM m := by unfold lastM; rw [List.getLast?_concat]
theorem firstM_le {m : Mt} {c : Int} (h : m.home = c ∨ m.away = c) : firstM m ≤ c := by unfold firstM; split <;> rcases h with h | h <;> omega
theorem part_snoc {bf : Lst} {rd : List Mt} {p : Pl} (m : Mt) (hinc : p.clubs.Pairwise (· < ·)) (hb : ∀ (i : Nat) (hi : i < bf.length), RQ p bf[i] (bf.take i).flatten True) (hn : bf.length + 1 ≤ roundsN p) (hr : rd.length < halfN p)
    (hk : ∀ (k : Nat) (hk : k < rd.length), OkQ p bf.flatten (rd.take k) rd[k]) : PartP (bf ++ [rd ++ [m]]) p ↔ OkQ p bf.flatten rd m ∧ cntF (busyL rd) (firstM m) p.clubs ≤ p.clubs.length % 2 := by
  rw [PartP_snoc]
  have e : RQ p (rd ++ [m]) bf.flatten False ↔ OkQ p bf.flatten rd m ∧ cntF (busyL rd) (firstM m) p.clubs ≤ p.clubs.length % 2 := by
    unfold RQ
    have e0 : leftGo (p.clubs.length % 2) (lastM (rd ++ [m])) (busyL (rd ++ [m])) p.clubs 0 = true ↔ cntF (busyL rd) (firstM m) p.clubs ≤ p.clubs.length % 2 := by
      rw [leftGo_eq hinc (Nat.zero_le _), Nat.zero_add, decide_eq_true_eq, lastM_snoc]
      unfold cntF
      have : p.clubs.countP (fun c => decide (c < firstM m) && !busyB (rd ++ [m]) c) = p.clubs.countP fun c => decide (c < firstM m) && decide (c ∉ busyL rd) := by
        refine List.countP_congr fun c _ => ?_
        simp only [Bool.and_eq_true, decide_eq_true_eq, Bool.not_eq_true', ← Bool.not_eq_true, busyB_iff, busyL_append, List.mem_append, not_or]
        refine and_congr_right fun hc => ⟨fun h => h.1, fun h => ⟨h, fun h' => ?_⟩⟩
        obtain ⟨x, hx, he⟩ := mem_busyL.1 h'
        rw [List.mem_singleton.1 hx] at he
        have := firstM_le he
        omega
      rw [this]
    rw [e0, snoc_all (P := fun k t x => OkQ p bf.flatten t x)]
    have l1 : (rd ++ [m]).length = rd.length + 1 := by simp
    rw [l1]
    exact ⟨fun h => ⟨h.2.2.2.1.2, h.2.2.2.2⟩, fun h => ⟨by omega, by omega, False.elim, ⟨hk, h.1⟩, h.2⟩⟩
  rw [e]
  exact ⟨fun h => h.2.2, fun h => ⟨hn, hb, h⟩⟩
/-- What a list that can go on looks like. -/
theorem open_of {l : Lst} {p : Pl} (hh : 0 < halfN p) (hP : PartP l p) (hx : (nxR l p).2.2 = true) :
    (∀ (i : Nat) (hi : i < (nxR l p).2.1.length), RQ p (nxR l p).2.1[i] ((nxR l p).2.1.take i).flatten True) ∧ (nxR l p).2.1.length + 1 ≤ roundsN p ∧ (nxR l p).1.length < halfN p ∧ (∀ (k : Nat) (hk : k < (nxR l p).1.length), OkQ p (nxR l p).2.1.flatten ((nxR l p).1.take k) (nxR l p).1[k]) ∧
    (nxR l p).1 = (openR l p).1 ∧ (nxR l p).2.1.flatten ++ (nxR l p).1 = l.flatten := by
  rcases openR_spec l p with ⟨h1, h2⟩ | ⟨h1, r, h2, h3, h4, h5⟩
  · have hlt : l.length < roundsN p := by
      unfold nxR at hx
      rw [h1] at hx
      simp only [Bool.true_eq_false, if_false] at hx
      split at hx
      · assumption
      · cases hx
    have e : nxR l p = ([], l, true) := by unfold nxR; rw [h1]; simp only [Bool.true_eq_false, if_false, if_pos hlt]
    rw [e]
    refine ⟨fun i hi => ?_, hlt, hh, fun k hk => absurd hk (Nat.not_lt_zero k), h2.symm, by simp⟩
    replace hi : i < l.length := hi
    have hR := (RoundP_Q hi).1 (hP.2 i hi)
    show RQ p l[i] (l.take i).flatten True
    refine ⟨hR.1, hR.2.1, fun _ => ?_, hR.2.2.2⟩
    by_cases hl : i + 1 < l.length
    · exact hR.2.2.1 hl
    · have hi' : i = l.length - 1 := by omega
      have hla := last_of (l := l) (by omega)
      unfold openR at h1
      rw [hla] at h1
      simp only at h1
      split at h1
      · cases h1
      · rename_i hge
        subst hi'
        exact Nat.le_of_not_lt hge
  · have e : nxR l p = (r, l.dropLast, true) := by unfold nxR; rw [if_pos h1, h3]
    rw [e]
    rw [h5] at hP
    obtain ⟨q1, q2, q3⟩ := PartP_snoc.1 hP
    exact ⟨q2, q1, h4, q3.2.2.2.1, h3.symm, by conv => { rhs; rw [h5] }; simp⟩
theorem nx_open {l : Lst} {p : Pl} : (nxR l p).2.2 = (openR l p).2.2 := by
  unfold nxR openR
  cases l.getLast? with
  | none => simp only [Bool.true_eq_false, if_false]; by_cases h : l.length < roundsN p <;> simp [h]
  | some r =>
    simp only
    by_cases h : r.length < halfN p
    · rw [if_pos h]; simp
    · rw [if_neg h]; simp only [Bool.true_eq_false, if_false]; by_cases h : l.length < roundsN p <;> simp [h]
theorem mem_taken {p : Pl} {l : Lst} {m : Mt} : m ∉ takenOf l p ↔ m ∉ l.flatten ∧ (p.double = false → (⟨m.away, m.home⟩ : Mt) ∉ l.flatten) := by
  unfold takenOf tkM
  rw [List.mem_flatMap]
  cases hd : p.double with
  | true => simp
  | false =>
    simp only [Bool.false_eq_true, if_false, List.mem_cons, List.not_mem_nil, or_false, not_exists, not_and, forall_const]
    constructor
    · intro h
      refine ⟨fun hm => h m hm (.inl rfl), fun hm => h _ hm (.inr rfl)⟩
    · rintro ⟨h1, h2⟩ x hx (rfl | rfl)
      · exact h1 hx
      · exact h2 hx
theorem chs_eq {l : Lst} {p : Pl} (h0 : checkP p = 0) (hP : PartP l p) : chs l p = rchs l p := by
  have hp := checkP_field h0
  have hp' := hp
  simp only [fieldOk, Bool.and_eq_true, decide_eq_true_eq] at hp'
  have hinc : p.clubs.Pairwise (· < ·) := incr_lt hp'.1.1
  have hnn : ∀ c ∈ p.clubs, (0 : Int) ≤ c := fun c hc => by
    obtain ⟨j, hj, rfl⟩ := List.getElem_of_mem hc
    exact ((okAt_at hj).1 ((incr_iff p.clubs).1 hp'.1.1 j)).1.1
  have hh : 0 < halfN p := by unfold halfN; have := hp'.1.2; omega
  unfold chs rchs
  rw [nx_open]
  by_cases hx : (openR l p).2.2 = true
  · rw [if_pos hx, if_pos hx]
    rw [← nx_open] at hx
    obtain ⟨a1, a2, a3, a4, a5, a6⟩ := open_of hh hP hx
    rw [chOut_eq _ _ _ _ _ hinc]
    refine List.filter_congr fun m hm => ?_
    obtain ⟨a, b, ha, hb, hab, hf, hm'⟩ := prs_mem hinc hm
    unfold Pch extR
    rw [decide_eq_decide, ← PartP_iff _ _ hp, part_snoc m hinc a1 a2 a3 a4, ← a5]
    unfold OkQ
    rw [a6, mem_taken]
    have hm1 : m.home ≠ m.away ∧ m.home ∈ p.clubs ∧ m.away ∈ p.clubs := by
      rcases hm' with rfl | rfl
      · exact ⟨by show a ≠ b; omega, ha, hb⟩
      · exact ⟨by show b ≠ a; omega, hb, ha⟩
    have hle : leastOf (nxR l p).1 < firstM m ↔ ∀ x, (nxR l p).1.getLast? = some x → firstM x < firstM m := by
      unfold leastOf
      cases (nxR l p).1.getLast? with
      | none =>
        have := hnn a ha
        simp only [reduceCtorEq, false_implies, implies_true, iff_true]
        omega
      | some x =>
        simp only [Option.some.injEq, forall_eq']
        unfold firstM
        split <;> omega
    rw [hle]
    show (m.home ∉ busyL (nxR l p).1 ∧ m.away ∉ busyL (nxR l p).1 ∧ _ ∧ _ ∧ cntF (busyL (nxR l p).1) _ _ ≤ _) ↔ _
    exact ⟨fun h => ⟨⟨hm1.1, hm1.2.1, hm1.2.2, h.1, h.2.1, h.2.2.1.1, h.2.2.1.2, h.2.2.2.1⟩, h.2.2.2.2⟩, fun ⟨⟨_, _, _, q1, q2, q3, q4, q5⟩, q6⟩ => ⟨q1, q2, ⟨q3, q4⟩, q5, q6⟩⟩
  · rw [if_neg hx, if_neg hx]
end Go.Proofs.Ytjknhbfcdjjbhaa