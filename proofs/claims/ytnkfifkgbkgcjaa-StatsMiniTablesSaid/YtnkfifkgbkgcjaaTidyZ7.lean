/-
  The base layer: a drawn region by some of its orders: which orders are enough.
-/
import Derived.Test.YtnkfifkgbkgcjaaTidyZ6
namespace Go.Tidy

/-! ### Orders that the edges allow -/
def Lin (all : List Oper) : List Nat → List Nat → Prop
  | _, [] => True
  | done, x :: l => (∀ (o : Oper) (e : Edge), all[x]? = some o → e ∈ o.after.toList → Region.binds .any e = true → e.on ∈ done) ∧ Lin all (x :: done) l
theorem Lin.mono {all : List Oper} : ∀ {l done done' : List Nat}, (∀ x ∈ done, x ∈ done') → Lin all done l → Lin all done' l
  | [], _, _, _, _ => trivial
  | x :: l, done, done', h, ⟨h1, h2⟩ => ⟨fun o e ho he hb => h _ (h1 o e ho he hb), Lin.mono (fun y hy => by
      rcases List.mem_cons.1 hy with rfl | hy
      · exact List.mem_cons_self
      · exact List.mem_cons_of_mem _ (h y hy)) h2⟩
theorem Lin.skip {all : List Oper} {i : Nat} : ∀ {l1 l2 done : List Nat}, Lin all done (l1 ++ i :: l2) → Lin all (i :: done) (l1 ++ l2)
  | [], l2, done, ⟨_, h⟩ => h
  | x :: l1, l2, done, ⟨h1, h2⟩ => ⟨fun o e ho he hb => List.mem_cons_of_mem _ (h1 o e ho he hb), Lin.mono (fun y hy => by
      rcases List.mem_cons.1 hy with rfl | hy
      · simp
      · rcases List.mem_cons.1 hy with rfl | hy <;> simp [*]) (Lin.skip h2)⟩
theorem Lin.down {all : List Oper} : ∀ {l1 l2 done : List Nat}, Down all (· ∈ done) → Lin all done (l1 ++ l2) → Down all (fun x => x ∈ done ∨ x ∈ l1)
  | [], _, done, h, _ => fun i o e hi ho he hb => .inl (h i o e (hi.resolve_right (by simp)) ho he hb)
  | x :: l1, l2, done, h, ⟨h1, h2⟩ => by
    have hd : Down all (· ∈ x :: done) := fun i o e hi ho he hb => by
      rcases List.mem_cons.1 hi with rfl | hi
      · exact List.mem_cons_of_mem _ (h1 o e ho he hb)
      · exact List.mem_cons_of_mem _ (h i o e hi ho he hb)
    have := Lin.down hd h2
    intro i o e hi ho he hb
    have := this i o e (by
      rcases hi with hi | hi
      · exact .inl (List.mem_cons_of_mem _ hi)
      · rcases List.mem_cons.1 hi with rfl | hi
        · exact .inl List.mem_cons_self
        · exact .inr hi) ho he hb
    rcases this with h3 | h3
    · rcases List.mem_cons.1 h3 with h4 | h4
      · exact .inr (h4 ▸ List.mem_cons_self)
      · exact .inl h4
    · exact .inr (List.mem_cons_of_mem _ h3)

theorem lin_go {ops : Array Oper} (hedge : ∀ (i : Nat) (o : Oper) (e : Edge), ops.toList[i]? = some o → e ∈ o.after.toList → Region.binds .any e = true → e.on < i) : ∀ (f t : Nat) (listed : Array Bool) (acc : List Nat), listed.size = ops.size →
    (∀ i, listed.getD i false = true ↔ i ∈ acc) → acc.Nodup → (∀ i ∈ acc, i < ops.size) → cnt ops listed ≤ f →
    ∃ rest, Region.linearise.go .any ops f t listed acc = acc.reverse ++ rest ∧ Lin ops.toList acc rest ∧ (acc ++ rest).Nodup ∧ ∀ i, i < ops.size ↔ (i ∈ acc ∨ i ∈ rest)
  | 0, t, listed, acc, hsz, hl, hnd, hlt, hc => by
    refine ⟨[], by simp [Region.linearise.go], trivial, by simpa using hnd, fun i => ⟨fun hi => .inl ?_, fun h => by simpa using h.elim (hlt i) (by simp)⟩⟩
    have hnil : (List.range ops.size).filter (fun i => !listed.getD i true) = [] := List.eq_nil_of_length_eq_zero (Nat.le_zero.1 hc)
    rw [List.filter_eq_nil_iff] at hnil
    have := hnil i (by simpa using hi)
    rw [← hl, getD_of_lt (by rw [hsz]; exact hi) false true]
    simpa using this
  | f + 1, t, listed, acc, hsz, hl, hnd, hlt, hc => by
    simp only [Region.linearise.go]
    show ∃ rest, (match (Region.ready .any ops listed)[t % (Region.ready .any ops listed).length]? with
      | some i => Region.linearise.go .any ops f (t / (Region.ready .any ops listed).length) (listed.setIfInBounds i true) (i :: acc)
      | none => acc.reverse) = acc.reverse ++ rest ∧ Lin ops.toList acc rest ∧ (acc ++ rest).Nodup ∧ ∀ i, i < ops.size ↔ (i ∈ acc ∨ i ∈ rest)
    cases hr : (Region.ready .any ops listed)[t % (Region.ready .any ops listed).length]? with
    | none =>
      have hnil : Region.ready .any ops listed = [] := by
        cases hr' : Region.ready .any ops listed with
        | nil => rfl
        | cons x xs =>
          rw [hr'] at hr
          have hlt : t % (x :: xs).length < (x :: xs).length := Nat.mod_lt _ (by simp)
          simp at hr
          simp at hlt
          omega
      refine ⟨[], by simp, trivial, by simpa using hnd, fun i => ⟨fun hi => .inl ?_, fun h => by simpa using h.elim (hlt i) (by simp)⟩⟩
      rw [← hl]
      induction i using Nat.strongRecOn with
      | _ i ih =>
        refine Classical.byContradiction fun hn => ?_
        have : i ∈ Region.ready .any ops listed := by
          unfold Region.ready
          rw [List.mem_filter]
          refine ⟨by simpa using hi, ?_⟩
          rw [getD_of_lt (by rw [hsz]; exact hi) true false]
          simp only [Bool.not_eq_true] at hn
          rw [hn]
          rw [Array.getElem?_eq_getElem hi]
          simp only [Option.map_some, Option.getD_some, Bool.not_false, Bool.true_and]
          rw [← Array.all_toList, List.all_eq_true]
          intro e he
          cases hb : Region.binds .any e with
          | false => simp
          | true =>
            have hlt' := hedge i ops[i] e (by simp [hi]) he hb
            simp only [Bool.not_true, Bool.false_or]
            exact ih e.on hlt' (by omega)
        rw [hnil] at this
        cases this
    | some i =>
      have hmem := List.mem_of_getElem? hr
      unfold Region.ready at hmem
      rw [List.mem_filter] at hmem
      have hi : i < ops.size := by simpa using hmem.1
      have hi' : i < listed.size := by rw [hsz]; exact hi
      have ho : ops[i]? = some ops[i] := Array.getElem?_eq_getElem hi
      have h2 := hmem.2
      rw [ho] at h2
      simp only [Option.map_some, Option.getD_some, Bool.and_eq_true, Bool.not_eq_true'] at h2
      obtain ⟨h2a, h2b⟩ := h2
      rw [← Array.all_toList, List.all_eq_true] at h2b
      have hni : i ∉ acc := fun h => by
        have := (hl i).2 h
        rw [getD_of_lt hi' false true] at this
        rw [this] at h2a; cases h2a
      obtain ⟨rest, r1, r2, r3, r4⟩ := lin_go hedge f (t / (Region.ready .any ops listed).length) (listed.setIfInBounds i true) (i :: acc) (by simp [hsz]) (fun j => by
          simp only [Array.getD_eq_getD_getElem?, List.mem_cons]
          by_cases e : i = j
          · subst e
            rw [Array.getElem?_setIfInBounds_self_of_lt hi']
            simp
          · rw [Array.getElem?_setIfInBounds_ne e]
            have := hl j
            simp only [Array.getD_eq_getD_getElem?] at this
            simp [Ne.symm e, this]) (by simpa using ⟨hni, hnd⟩) (fun j hj => by
          rcases List.mem_cons.1 hj with rfl | hj
          · exact hi
          · exact hlt j hj) (by
          have : cnt ops (listed.setIfInBounds i true) < cnt ops listed := by
            unfold cnt
            refine filter_lt (fun x hx hp => ?_) ⟨i, by simpa using hi, ?_, by simp [h2a]⟩
            · by_cases e : i = x
              · subst e; simp [h2a]
              · simp only [Array.getD_eq_getD_getElem?, Array.getElem?_setIfInBounds_ne e] at hp
                simpa [Array.getD_eq_getD_getElem?] using hp
            · simp only [Array.getD_eq_getD_getElem?, Array.getElem?_setIfInBounds_self_of_lt hi']
              rfl
          omega)
      refine ⟨i :: rest, ?_, ⟨fun o e ho' he hb => ?_, r2⟩, ?_, fun j => ?_⟩
      · simp only [r1]; simp
      · have ho2 : ops.toList[i]? = some ops[i] := by simp [hi]
        rw [ho2] at ho'; cases ho'
        have := h2b e he
        rw [hb] at this
        exact (hl _).1 (by simpa using this)
      · rw [List.nodup_append] at r3 ⊢
        simp only [List.nodup_cons, List.mem_cons] at r3 ⊢
        obtain ⟨⟨a1, a2⟩, a3, a4⟩ := r3
        refine ⟨a2, ⟨fun h => (a4 i (.inl rfl) i h) rfl, a3⟩, fun a ha b hb => ?_⟩
        rcases hb with rfl | hb
        · rintro rfl; exact a1 ha
        · exact a4 a (.inr ha) b hb
      · rw [r4 j]; simp only [List.mem_cons]; rw [or_comm (a := j = i), or_assoc]

/-! ### Which orders are enough -/
def rdyB (all : List Oper) (done : List Nat) (i : Nat) : Bool := match all[i]? with | some o => o.after.toList.all fun e => !Region.binds .any e || done.contains e.on | none => false
/-- ws: the calls that may write. -/
def md0 (ws : List Nat) (i : Nat) : Nat := bif ws.contains i then 2 else 0
def indepB (all : List Oper) (ws : List Nat) (i j : Nat) : Bool := match all[i]?, all[j]? with
  | some p, some q => (match p.dst with | some d => !(q.dst == some d) && !(looks all q).contains d | none => true) && (match q.dst with | some d => !(looks all p).contains d | none => true) &&
      ((isPure p.op && !isW (md0 ws i) p.op) || (isPure q.op && !isW (md0 ws j) q.op) || !isW (md0 ws i) p.op)
  | _, _ => true
def eligB (all : List Oper) (T ws : List Nat) (rest : List Nat) (i : Nat) : Bool := rest.all fun j => i == j || (T.getD j 0).testBit i || indepB all ws i j
def looseB (all : List Oper) (T ws : List Nat) (rest : List Nat) (i : Nat) : Nat := match all[i]? with
  | some p => bif !isPure p.op && !isW (md0 ws i) p.op && rest.any fun j => !(i == j) && !(T.getD j 0).testBit i && (match all[j]? with | some q => isW (md0 ws j) q.op | none => true) then 1 else md0 ws i
  | none => 0
def por (all : List Oper) (T ws : List Nat) : Nat → List Nat → List Nat → List (List (Nat × Nat))
  | 0, _, _ => [[]]
  | f + 1, done, rest =>
    match rest.find? fun i => rdyB all done i && eligB all T ws rest i with
    | some i => (por all T ws f (i :: done) (rest.erase i)).map fun l => (i, looseB all T ws rest i) :: l
    | none => match rest with
      | [] => [[]]
      | _ => (rest.filter (rdyB all done)).flatMap fun i => (por all T ws f (i :: done) (rest.erase i)).map fun l => (i, md0 ws i) :: l

section
variable {C : Ctx} {n : Nat} {all : List Oper} {T ws : List Nat} {K : List (Nat × V) → List Blk → Prop}
theorem rdy_of {done : List Nat} {i : Nat} (h : rdyB all done i = true) : ∀ (o : Oper) (e : Edge), all[i]? = some o → e ∈ o.after.toList → Region.binds .any e = true → e.on ∈ done := fun o e ho he hb => by
  unfold rdyB at h
  rw [ho] at h
  have := List.all_eq_true.1 h e he
  rw [hb] at this
  simpa using this
/-- A mode of an operation that is told by ws, or that of one that is looked at without memory. -/
def okMd (ws : List Nat) (i a : Nat) : Prop := a = md0 ws i ∨ (a = 1 ∧ md0 ws i = 0)
theorem okMd.isW {ws : List Nat} {i a : Nat} (h : okMd ws i a) (op : Op) : isW a op = isW (md0 ws i) op := by
  rcases h with rfl | ⟨rfl, h⟩
  · rfl
  · rw [h]; rfl
theorem indep_of {i j : Nat} {a b : Nat} (ha : okMd ws i a) (hb : okMd ws j b) (h : indepB all ws i j = true) (hlo : ∀ p q, all[i]? = some p → all[j]? = some q → isPure p.op = false → isW (md0 ws i) p.op = false → isW (md0 ws j) q.op = true → a = 1) : ∀ p q, all[i]? = some p → all[j]? = some q → Indep all a b p q := by
  intro p q hp hq
  unfold indepB at h
  rw [hp, hq] at h
  simp only [Bool.and_eq_true] at h
  obtain ⟨⟨h1, h2⟩, h3⟩ := h
  refine ⟨fun d hd => ?_, fun d hd => ?_, ?_⟩
  · rw [hd] at h1
    simp only [Bool.and_eq_true, Bool.not_eq_true', beq_eq_false_iff_ne, ne_eq] at h1
    exact ⟨h1.1, by simpa using h1.2⟩
  · rw [hd] at h2; simpa using h2
  · rw [ha.isW, hb.isW]
    simp only [Bool.or_eq_true, Bool.and_eq_true, Bool.not_eq_true'] at h3
    rcases h3 with (h3 | h3) | h3
    · exact .inl h3
    · exact .inr (.inl h3)
    · cases hp' : isPure p.op with
      | true => exact .inl ⟨rfl, h3⟩
      | false =>
        cases hw : Go.Tidy.isW (md0 ws j) q.op with
        | false => exact .inr (.inr ⟨h3, .inr rfl⟩)
        | true => exact .inr (.inr ⟨h3, .inl (hlo p q hp hq hp' h3 hw)⟩)
/-- An operation goes past those that it does not touch. -/
theorem Runs.past {i a : Nat} : ∀ {l1 l2 : List (Nat × Nat)} {fr : List (Nat × V)} {L : List Blk}, (∀ j ∈ l1, ∀ p q, all[i]? = some p → all[j.1]? = some q → Indep all a j.2 p q) → Runs C n all ((i, a) :: (l1 ++ l2)) fr L K → Runs C n all (l1 ++ (i, a) :: l2) fr L K
  | [], _, _, _, _, h => h
  | (j, b) :: l1, l2, fr, L, hin, h => by
    obtain ⟨o, fr1, v, ex, L', h0, h1, h2, h3, h5, h4⟩ := Runs.swap (hin (j, b) (by simp)) h
    exact ⟨o, fr1, v, ex, L', h0, h1, h2, h3, h5, Runs.past (l1 := l1) (l2 := l2) (fun j hj => hin j (List.mem_cons_of_mem _ hj)) h4⟩
theorem Runs.cons {i a : Nat} {l l' : List (Nat × Nat)} {fr : List (Nat × V)} {L : List Blk} (h : Runs C n all ((i, a) :: l) fr L K) (hl : ∀ fr L, Runs C n all l fr L K → Runs C n all l' fr L K) : Runs C n all ((i, a) :: l') fr L K := by
  obtain ⟨o, fr1, v, ex, L', h0, h1, h2, h3, h5, h4⟩ := h
  exact ⟨o, fr1, v, ex, L', h0, h1, h2, h3, h5, hl _ _ h4⟩
theorem looseB_ok {rest : List Nat} {i : Nat} (hi : i < all.length) : okMd ws i (looseB all T ws rest i) := by
  unfold looseB
  rw [List.getElem?_eq_getElem hi]
  simp only []
  cases hb : (!isPure all[i].op && !Go.Tidy.isW (md0 ws i) all[i].op && rest.any fun j => !(i == j) && !(T.getD j 0).testBit i && (match all[j]? with | some q => Go.Tidy.isW (md0 ws j) q.op | none => true)) with
  | false => exact .inl rfl
  | true =>
    refine .inr ⟨rfl, ?_⟩
    simp only [Bool.and_eq_true, Bool.not_eq_true'] at hb
    have := hb.1.2
    unfold Go.Tidy.isW at this
    simp only [Bool.or_eq_false_iff] at this
    unfold md0 at this ⊢
    cases hc : ws.contains i with
    | false => rfl
    | true => rw [hc] at this; cases this.1

theorem por_ok (hs : ∀ (S : Nat → Prop), Down all S → ∀ (i j : Nat), i < all.length → (T.getD i 0).testBit j = true → S i → S j) : ∀ (f : Nat) (done rest l : List Nat), rest.length ≤ f → Down all (· ∈ done) → Lin all done l → l.Nodup → (∀ x, x ∈ l ↔ x ∈ rest) → rest.Nodup → (∀ x ∈ rest, x < all.length) → (∀ x ∈ rest, x ∉ done) →
    ∃ ord ∈ por all T ws f done rest, ∃ l' : List (Nat × Nat), l'.map (·.1) = l ∧ (∀ x ∈ l', okMd ws x.1 x.2) ∧ ∀ fr L, Runs C n all ord fr L K → Runs C n all l' fr L K
  | 0, done, rest, l, hf, _, _, _, hm, _, _, _ => by
    have : rest = [] := List.eq_nil_of_length_eq_zero (by omega)
    subst this
    have : l = [] := List.eq_nil_iff_forall_not_mem.2 fun x hx => by simpa using (hm x).1 hx
    subst this
    exact ⟨[], by simp [por], [], rfl, fun _ h => (by cases h), fun _ _ h => h⟩
  | f + 1, done, rest, l, hf, hd, hlin, hnd, hm, hrn, hlt, hdis => by
    have step : ∀ i, i ∈ rest → rdyB all done i = true → ∀ l1 l2, l = l1 ++ i :: l2 → ∃ ord ∈ por all T ws f (i :: done) (rest.erase i), ∃ l' : List (Nat × Nat), l'.map (·.1) = l1 ++ l2 ∧ (∀ x ∈ l', okMd ws x.1 x.2) ∧ ∀ fr L, Runs C n all ord fr L K → Runs C n all l' fr L K := by
      rintro i hi hrd l1 l2 rfl
      have hlen : (rest.erase i).length < rest.length := by rw [List.length_erase_of_mem hi]; have := List.length_pos_of_mem hi; omega
      rw [List.nodup_append] at hnd
      simp only [List.nodup_cons, List.mem_cons] at hnd
      obtain ⟨n1, ⟨n2, n3⟩, n4⟩ := hnd
      refine por_ok hs f (i :: done) (rest.erase i) (l1 ++ l2) (by omega) (fun x o e hx ho he hb => ?_) hlin.skip ?_ (fun x => ?_) (hrn.erase _) (fun x hx => hlt x (List.mem_of_mem_erase hx)) (fun x hx => ?_)
      · rcases List.mem_cons.1 hx with rfl | hx
        · exact List.mem_cons_of_mem _ (rdy_of hrd o e ho he hb)
        · exact List.mem_cons_of_mem _ (hd x o e hx ho he hb)
      · rw [List.nodup_append]
        exact ⟨n1, n3, fun a ha b hb => n4 a ha b (.inr hb)⟩
      · rw [hrn.mem_erase_iff, ← hm x]
        simp only [List.mem_append, List.mem_cons]
        constructor
        · rintro (h | h)
          · exact ⟨fun e => (n4 x h i (.inl rfl)) e, .inl h⟩
          · exact ⟨fun e => n2 (e ▸ h), .inr (.inr h)⟩
        · rintro ⟨h1, h | h | h⟩
          · exact .inl h
          · exact absurd h h1
          · exact .inr h
      · have := (hrn.mem_erase_iff).1 hx
        simp only [List.mem_cons, not_or]
        exact ⟨this.1, hdis x this.2⟩
    unfold por
    cases hfi : rest.find? fun i => rdyB all done i && eligB all T ws rest i with
    | some i =>
      have hp := List.find?_some hfi
      have hi := List.mem_of_find?_eq_some hfi
      simp only [Bool.and_eq_true] at hp
      obtain ⟨l1, l2, hl⟩ := List.append_of_mem ((hm i).2 hi)
      obtain ⟨ord, ho, l', e, hmd, hr⟩ := step i hi hp.1 l1 l2 hl
      obtain ⟨a, b, rfl, ha, hb⟩ := List.map_eq_append_iff.1 e
      refine ⟨(i, looseB all T ws rest i) :: ord, List.mem_map.2 ⟨ord, ho, rfl⟩, a ++ (i, looseB all T ws rest i) :: b, by rw [hl, List.map_append, List.map_cons, ha, hb], fun x hx => ?_, fun fr L h => ?_⟩
      · rcases List.mem_append.1 hx with hx | hx
        · exact hmd x (List.mem_append_left _ hx)
        · rcases List.mem_cons.1 hx with rfl | hx
          · exact looseB_ok (hlt i hi)
          · exact hmd x (List.mem_append_right _ hx)
      refine Runs.past (fun jb hjb => ?_) (h.cons hr)
      obtain ⟨j, bb⟩ := jb
      have hj : j ∈ l1 := ha ▸ List.mem_map_of_mem (f := (·.1)) hjb
      have hjl : j ∈ l := by rw [hl]; simp [hj]
      have hjr := (hm j).1 hjl
      have hij : i ≠ j := by
        rintro rfl
        rw [hl, List.nodup_append] at hnd
        exact hnd.2.2 _ hj _ (by simp) rfl
      have hna : (T.getD j 0).testBit i = false := by
        cases hb : (T.getD j 0).testBit i with
        | false => rfl
        | true =>
          have hdn := Lin.down (l1 := l1) (l2 := i :: l2) hd (hl ▸ hlin)
          rcases hs _ hdn j i (hlt j hjr) hb (.inr hj) with h | h
          · exact absurd h (hdis i hi)
          · rw [hl, List.nodup_append] at hnd
            exact absurd rfl (hnd.2.2 i h i (by simp))
      have hel := List.all_eq_true.1 hp.2 j hjr
      rw [hna] at hel
      simp only [Bool.or_false, Bool.or_eq_true, beq_iff_eq] at hel
      refine indep_of (looseB_ok (hlt i hi)) (hmd (j, bb) (List.mem_append_left _ hjb)) (hel.resolve_left hij) fun p q hp' hq' a1 a2 a3 => ?_
      unfold looseB
      rw [hp']
      simp only [a1, a2, Bool.not_false, Bool.true_and]
      have : (rest.any fun j => !(i == j) && !(T.getD j 0).testBit i && (match all[j]? with | some q => Go.Tidy.isW (md0 ws j) q.op | none => true)) = true := List.any_eq_true.2 ⟨j, hjr, by rw [hna, hq']; simp [hij, a3]⟩
      rw [this]; rfl
    | none =>
      cases rest with
      | nil =>
        have : l = [] := List.eq_nil_iff_forall_not_mem.2 fun x hx => by simpa using (hm x).1 hx
        subst this
        exact ⟨[], by simp, [], rfl, fun _ h => (by cases h), fun _ _ h => h⟩
      | cons r0 rs =>
        cases l with
        | nil => exact absurd ((hm r0).2 (by simp)) (by simp)
        | cons x l2 =>
          have hx := (hm x).1 (by simp)
          have hrd : rdyB all done x = true := by
            unfold rdyB
            rw [List.getElem?_eq_getElem (hlt x hx)]
            simp only [List.all_eq_true]
            intro e he
            cases hb : Region.binds .any e with
            | false => simp
            | true => simpa using hlin.1 _ e (List.getElem?_eq_getElem (hlt x hx)) he hb
          obtain ⟨ord, ho, l', e, hmd, hr⟩ := step x hx hrd [] l2 rfl
          refine ⟨(x, md0 ws x) :: ord, List.mem_flatMap.2 ⟨x, List.mem_filter.2 ⟨hx, hrd⟩, List.mem_map.2 ⟨ord, ho, rfl⟩⟩, (x, md0 ws x) :: l', by rw [List.map_cons, e]; rfl, fun y hy => ?_, fun fr L h => h.cons hr⟩
          rcases List.mem_cons.1 hy with rfl | hy
          · exact .inl rfl
          · exact hmd y hy

/-- Walks along all of some orders. -/
def qAll (C : Ctx) (n : Nat) (all : List Oper) : List (List (Nat × Nat)) → List (Nat × V) → List Blk → (List (Nat × V) → List Blk → Prop) → Prop
  | [], _, _, _ => True
  | [o], fr, L, K => qOrd C n all o fr L K
  | o :: os, fr, L, K => qOrd C n all o fr L K ∧ qAll C n all os fr L K
theorem qAll_mem : ∀ {os : List (List (Nat × Nat))} {fr : List (Nat × V)} {L : List Blk}, qAll C n all os fr L K → ∀ o ∈ os, qOrd C n all o fr L K
  | [], _, _, _, o, ho => by cases ho
  | [o], _, _, h, o', ho => by
    have : o' = o := by simpa using ho
    exact this ▸ h
  | o :: o2 :: os, _, _, ⟨h1, h2⟩, o', ho => by
    rcases List.mem_cons.1 ho with rfl | ho
    · exact h1
    · exact qAll_mem h2 o' ho
end
def porB (all : List Oper) : Bool :=
  let T := tblGo all []
  all.zipIdx.all fun p => (p.1.after.toList.all fun e => !Region.binds .any e || Nat.blt e.on p.2) && Nat.beq (maskOf T p.1 ||| T.getD p.2 0) (maskOf T p.1)
def porOf (ops : Array Oper) (ws : List Nat) : List (List (Nat × Nat)) := por ops.toList (tblGo ops.toList []) ws ops.size [] (List.range ops.size)
theorem DrawP.por {C : Ctx} {n : Nat} {ops : Array Oper} {fr : List (Nat × V)} {L : List Blk} {K : List (Nat × V) → List Blk → Prop} (hm : C.P.follows .mixedOrders = true) (ws : List Nat) (os : List (List (Nat × Nat))) (hst : (porB ops.toList && decide (porOf ops ws = os)) = true)
    (h : qAll C n ops.toList os fr L K) : DrawP C n ops fr L K := by
  rw [Bool.and_eq_true] at hst
  obtain ⟨hst, hos⟩ := hst
  have hos := of_decide_eq_true hos
  subst hos
  unfold porB at hst
  simp only [List.all_eq_true, Bool.and_eq_true] at hst
  have mem : ∀ (i : Nat) (o : Oper), ops.toList[i]? = some o → (o, i) ∈ ops.toList.zipIdx := fun i o ho => by
    rw [List.mem_zipIdx_iff_getElem?]; exact ho
  have hedge : ∀ (i : Nat) (o : Oper) (e : Edge), ops.toList[i]? = some o → e ∈ o.after.toList → Region.binds .any e = true → e.on < i := fun i o e ho he hb => by
    have := (hst (o, i) (mem i o ho)).1 e he
    simpa [hb, Nat.blt_eq] using this
  have htbl : ∀ (i : Nat) (o : Oper) (j : Nat), ops.toList[i]? = some o → ((tblGo ops.toList []).getD i 0).testBit j = true → ∃ e ∈ o.after.toList, Region.binds .any e = true ∧ (j = e.on ∨ ((tblGo ops.toList []).getD e.on 0).testBit j = true) := fun i o j ho hj => by
    have heq := Nat.eq_of_beq_eq_true (hst (o, i) (mem i o ho)).2
    have hm : (maskOf (tblGo ops.toList []) o).testBit j = true := by
      rw [← heq, Nat.testBit_or, hj, Bool.or_true]
    unfold maskOf at hm
    rcases maskGo_bit _ _ hm with h0 | h1
    · simp at h0
    · exact h1
  have anc : ∀ (S : Nat → Prop), Down ops.toList S → ∀ (i j : Nat), i < ops.toList.length → ((tblGo ops.toList []).getD i 0).testBit j = true → S i → S j := by
    intro S hd i
    induction i using Nat.strongRecOn with
    | _ i ih =>
      intro j hi hj hS
      obtain ⟨e, he, hb, hh⟩ := htbl i ops.toList[i] j (List.getElem?_eq_getElem hi) hj
      have hlt := hedge i ops.toList[i] e (List.getElem?_eq_getElem hi) he hb
      have hSe := hd i _ e hS (List.getElem?_eq_getElem hi) he hb
      rcases hh with rfl | hh
      · exact hSe
      · exact ih e.on hlt j (by omega) hh hSe
  unfold DrawP
  intro t
  simp only [Region.schedule, hm, Bool.true_or, if_true, Region.linearise]
  have hz : ∀ j, (Array.replicate ops.size false).getD j false = false := fun j => by
    simp only [Array.getD_eq_getD_getElem?, Array.getElem?_replicate]
    split <;> rfl
  obtain ⟨rest, r1, r2, r3, r4⟩ := lin_go hedge ops.size t (Array.replicate ops.size false) [] (by simp) (fun j => by rw [hz]; simp) (by simp) (by simp) (by
    unfold cnt
    exact Nat.le_trans (List.length_filter_le _ _) (by simp))
  simp only [List.reverse_nil, List.nil_append] at r1 r3
  rw [r1]
  obtain ⟨ord, ho, l', e, _, hr⟩ := por_ok (ws := ws) (C := C) (n := n) (K := K) anc ops.size [] (List.range ops.size) rest (by simp) (fun i o e hi => by cases hi) r2 r3 (fun x => by rw [List.mem_range, r4 x]; simp) List.nodup_range (fun x hx => by simpa using hx) (fun x _ => by simp)
  have := (hr fr L (qOrd_runs _ _ _ (qAll_mem h ord ho))).vc
  rw [e] at this
  simpa using this
end Go.Tidy
