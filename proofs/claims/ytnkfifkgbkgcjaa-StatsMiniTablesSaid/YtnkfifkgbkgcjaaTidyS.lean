/-
  The base layer: a drawn region whose every order comes to the same: the run.
-/
import Derived.Test.YtnkfifkgbkgcjaaTidyR
namespace Go.Tidy

theorem filter_le {α : Type} {p q : α → Bool} : ∀ {l : List α}, (∀ x ∈ l, p x = true → q x = true) → (l.filter p).length ≤ (l.filter q).length
  | [], _ => Nat.le_refl _
  | a :: l, h => by
    have ih := filter_le (l := l) fun x hx => h x (by simp [hx])
    simp only [List.filter_cons]
    cases hp : p a with
    | true => rw [h a (by simp) hp]; simpa using ih
    | false =>
      cases q a with
      | true => simp; omega
      | false => simpa using ih
theorem filter_lt {α : Type} {p q : α → Bool} : ∀ {l : List α}, (∀ x ∈ l, p x = true → q x = true) → (∃ x ∈ l, p x = false ∧ q x = true) → (l.filter p).length < (l.filter q).length
  | [], _, ⟨x, hx, _⟩ => by simp at hx
  | a :: l, h, ⟨x, hx, h1, h2⟩ => by
    simp only [List.filter_cons]
    rcases List.mem_cons.1 hx with rfl | hx
    · have := filter_le (l := l) (p := p) (q := q) fun x hx => h x (by simp [hx])
      rw [h1, h2]
      simp; omega
    · have ih := filter_lt (l := l) (fun x hx => h x (by simp [hx])) ⟨x, hx, h1, h2⟩
      cases hp : p a with
      | true => rw [h a (by simp) hp]; simpa using ih
      | false =>
        cases q a with
        | true => simp; omega
        | false => simpa using ih

section
variable {C : Ctx} {n : Nat} {ops : Array Oper} {T : List Nat} {F : Nat → List (Nat × V)} {M : Nat → List Blk} {val : Nat → V} {ex : Nat → Bool} {K : List (Nat × V) → List Blk → Prop}

theorem look_pre (F : List (Nat × V)) (fr : List (Nat × V)) (s : Nat) : ∀ (l : List Nat), look (l.map (fun t => (t, look F t)) ++ fr) s = if s ∈ l then look F s else look fr s
  | [] => by simp
  | t :: l => by
    simp only [List.map_cons, List.cons_append, look_cons, look_pre F fr s l]
    by_cases e : t = s
    · subst e; simp
    · rw [if_neg e]
      by_cases e2 : s ∈ l
      · simp [e2]
      · simp [e2, Ne.symm e]

theorem looks_op {all : List Oper} {o : Oper} {t : Nat} (h : Operand.tmp t ∈ o.op.operands.toList) : t ∈ looks all o := by
  unfold looks
  rw [List.mem_append, List.mem_filterMap]
  exact .inl ⟨_, h, rfl⟩
theorem looks_guard {all : List Oper} {o : Oper} {j d : Nat} {want : Bool} (h : o.guard = some (j, want)) (hd : dstAt all j = some d) : d ∈ looks all o := by
  unfold looks
  rw [List.mem_append, h]
  simp [hd]

/-- One operation, wherever some order has come to it. -/
theorem Plan.step {all : List Oper} (hp : Plan C n all F M val ex) (hs : Stab all T) {S : Nat → Prop} {fr : List (Nat × V)} {L : List Blk} (hi : Inv all F M val S fr L) {i : Nat} {o : Oper} (ho : all[i]? = some o) (hS : ¬ S i)
    (hr : ∀ (e : Edge), e ∈ o.after.toList → Region.binds .any e = true → S e.on) {K' : List (Nat × V) → List Blk → Prop} {S' : Nat → Prop} (hS' : ∀ j, S' j ↔ (S j ∨ j = i))
    (hK : ∀ fr' L', Inv all F M val S' fr' L' → K' fr' L') : ∃ fr1, FrLe fr fr1 ∧ vcOp1 C n all o fr1 L K' := by
  obtain ⟨hl, hpure, m, hm, hL, hmi, hmw⟩ := hp.at hs hi ho hS hr
  have hlt : i < all.length := lt_of_get ho
  refine ⟨(looks all o).map (fun t => (t, look (F i) t)) ++ fr, fun s => ?_, ?_⟩
  · rw [look_pre]
    split
    · rename_i h; exact (hl s h).1
    · exact VLe.refl _
  · have hpl := hp.op i o ho
    generalize hfr1 : (looks all o).map (fun t => (t, look (F i) t)) ++ fr = fr1
    have hfr1s : ∀ s, look fr1 s = if s ∈ looks all o then look (F i) s else look fr s := fun s => by rw [← hfr1, look_pre]
    have hq : ∀ s, VEq (look fr1 s) (look fr s) := fun s => by
      rw [hfr1s]
      split
      · rename_i h; exact (hl s h).symm
      · exact VEq.refl _
    -- the new place
    have inv : ∀ L', (L' = if isWriter o.op then M (i + 1) else L) → Inv all F M val S' (putF o.dst (val i) fr1) L' := by
      intro L' hL'
      refine ⟨?_, ?_, ?_, ?_⟩
      · intro j q e hj hq he hb
        rcases (hS' j).1 hj with h | rfl
        · exact (hS' _).2 (.inl (hi.down j q e h hq he hb))
        · rw [ho] at hq; cases hq
          exact (hS' _).2 (.inl (hr e he hb))
      · intro j s hj hw
        rw [putF_look]
        by_cases e : o.dst = some s
        · rw [if_pos e]
          by_cases ej : j = i
          · rw [ej]; exact VEq.refl _
          · obtain ⟨q, hq, hqd⟩ := hw
            exact absurd e ((hs.apart i j o q ho hq (Ne.symm ej)).1 s hqd)
        · rw [if_neg e]
          rcases (hS' j).1 hj with h | rfl
          · exact (hq s).trans (hi.val j s h hw)
          · obtain ⟨q, hq, hqd⟩ := hw
            rw [ho] at hq; cases hq
            exact absurd hqd e
      · intro s hno
        rw [putF_look]
        by_cases e : o.dst = some s
        · exact absurd ⟨o, ho, e⟩ (hno i ((hS' i).2 (.inr rfl)))
        · rw [if_neg e]
          exact (hq s).trans (hi.old s fun j hj => hno j ((hS' j).2 (.inl hj)))
      · cases hw : isWriter o.op with
        | false =>
          rw [hw] at hL'
          simp at hL'
          refine ⟨m, hm, hL'.trans hL, fun j q hq hqw => ?_⟩
          rw [hS' j, ← hmw j q hq hqw]
          refine ⟨fun h => h.resolve_right fun e => ?_, .inl⟩
          subst e; rw [ho] at hq; cases hq; rw [hw] at hqw; cases hqw
        | true =>
          rw [hw] at hL'
          simp at hL'
          refine ⟨i + 1, by omega, hL', fun j q hq hqw => ?_⟩
          rw [hS' j]
          have hnp : isPure o.op = false := by
            unfold isWriter at hw; simp at hw; exact hw.1.1
          by_cases e : j = i
          · simp [e]
          · have : S j ↔ j < i := by
              rcases (hs.apart i j o q ho hq (Ne.symm e)).2 with h | h | h
              · have := hs.before hi.down hlt (fun o' e' ho' => by rw [ho] at ho'; cases ho'; exact hr e') h
                exact ⟨fun _ => this.2, fun _ => this.1⟩
              · have := hs.anc hi.down j i (lt_of_get hq) h
                exact ⟨fun hj => absurd (this.1 hj) hS, fun hj => by omega⟩
              · rcases h.2 with h | h
                · rw [hnp] at h; cases h
                · rw [hqw] at h; cases h
            rw [this]; omega
    -- the run itself
    have run : ex i = true → vOp C o fr1 L fun v L' => vPut n o.dst fr1 v fun fr' => K' fr' L' := by
      intro hex
      have h1 := hpl.run hex
      have h2 : vOp C o fr1 (M i) fun x N => x = val i ∧ N = M (i + 1) := by
        rw [vOp_congr (fr := fr1) (fr' := F i) fun t ht => by rw [hfr1s, if_pos (looks_op ht)]]
        exact h1
      have put : ∀ L', (L' = if isWriter o.op then M (i + 1) else L) → vPut n o.dst fr1 (val i) fun fr' => K' fr' L' := by
        intro L' hL'
        unfold vPut
        simp only [V.force_eq]
        have := hK _ _ (inv L' hL')
        unfold putF at this
        cases hd : o.dst with
        | none => rw [hd] at this; exact this
        | some d => rw [hd] at this; simp only [hpl.dst d hd, cond_true]; exact this
      cases hpu : isPure o.op with
      | false =>
        rw [hpure hpu]
        refine vOp_mono h2 ?_
        rintro x N ⟨rfl, rfl⟩
        refine put _ ?_
        cases hw : isWriter o.op with
        | true => simp
        | false => simp; rw [hpl.quiet hw, hpure hpu]
      | true =>
        obtain ⟨p, v, hpv⟩ := vOp_pu C o fr1 hpu
        have h3 := (hpv (M i) _).1 h2
        refine (hpv L _).2 ⟨h3.1, ?_⟩
        rw [h3.2.1]
        refine put L ?_
        have : isWriter o.op = false := by unfold isWriter; rw [hpu]; rfl
        rw [this]; rfl
    have skip : ex i = false → vPut n o.dst fr1 (.tup []) fun fr' => K' fr' L := by
      intro hex
      obtain ⟨h1, h2⟩ := hpl.skip hex
      have hL' : L = if isWriter o.op then M (i + 1) else L := by
        cases hw : isWriter o.op with
        | false => rfl
        | true =>
          have hnp : isPure o.op = false := by
            unfold isWriter at hw; simp at hw; exact hw.1.1
          simp; rw [h2, hpure hnp]
      unfold vPut
      simp only [V.force_eq]
      have := hK _ _ (inv L hL')
      unfold putF at this
      cases hd : o.dst with
      | none => rw [hd] at this; exact this
      | some d => rw [hd, h1] at this; simp only [hpl.dst d hd, cond_true]; exact this
    have hg := hpl.guard
    unfold vcOp1
    simp only [vOpF_eq]
    cases hgd : o.guard with
    | none => rw [hgd] at hg; exact run hg
    | some jw =>
      obtain ⟨j, want⟩ := jw
      rw [hgd] at hg
      obtain ⟨d, hd, hlk⟩ := hg
      have hfl : look fr1 d = look (F i) d := by rw [hfr1s, if_pos (looks_guard hgd hd)]
      rcases hlk with hlk | ⟨hlk, hex⟩
      · have hlk' : look fr1 d = if ex i == want then .tt else .ff := hfl.trans hlk
        simp only [hd, hlk']
        cases hex : ex i <;> cases want <;> simp <;> first | exact run hex | exact skip hex
      · have hlk' : look fr1 d = .tup [] := hfl.trans hlk
        simp only [hd, hlk']
        exact skip hex

def cnt (ops : Array Oper) (listed : Array Bool) : Nat := ((List.range ops.size).filter fun i => !listed.getD i true).length

theorem Plan.done (hp : Plan C n ops.toList F M val ex) (hs : Stab ops.toList T) {S : Nat → Prop} {fr : List (Nat × V)} {L : List Blk} (hi : Inv ops.toList F M val S fr L) (hS : ∀ i, i < ops.size → S i) (hK : K (F ops.size) (M ops.size)) :
    ∃ fr1, FrLe fr fr1 ∧ K fr1 L := by
  refine ⟨F ops.size, fun s => ?_, ?_⟩
  · obtain ⟨h1, h2⟩ := hp.text hs ops.size (by simp) s
    have hlt : ∀ j, Wrote ops.toList j s → j < ops.size := fun j ⟨o, ho, _⟩ => by simpa using lt_of_get ho
    by_cases hw : ∃ j, Wrote ops.toList j s
    · obtain ⟨j, hw⟩ := hw
      exact ((hi.val j s (hS j (hlt j hw)) hw).trans (h1 j (hlt j hw) hw).symm).1
    · exact ((hi.old s fun j _ hj => hw ⟨j, hj⟩).trans (h2 fun j _ hj => hw ⟨j, hj⟩).symm).1
  · obtain ⟨m, hm, hL, hmw⟩ := hi.mem
    have : M ops.size = M m := hp.mem m ops.size (by simpa using hm) (by simp) fun j o h1 h2 ho => by
      cases hw : isWriter o.op with
      | false => rfl
      | true => have := (hmw j o ho hw).1 (hS j h2); omega
    rw [hL, ← this]
    exact hK

theorem quiet_go (hp : Plan C n ops.toList F M val ex) (hs : Stab ops.toList T) (hK : K (F ops.size) (M ops.size)) : ∀ (f t : Nat) (listed : Array Bool) (fr : List (Nat × V)) (L : List Blk), listed.size = ops.size →
    Inv ops.toList F M val (fun i => listed.getD i false = true) fr L → cnt ops listed ≤ f →
    vOpsC C n ops.toList ((Region.linearise.go .any ops f t listed []).filterMap fun i => ops[i]?) fr L K
  | 0, t, listed, fr, L, hsz, hi, hc => by
    refine hp.done hs hi (fun i hlt => ?_) hK
    have hnil : (List.range ops.size).filter (fun i => !listed.getD i true) = [] := List.eq_nil_of_length_eq_zero (Nat.le_zero.1 hc)
    rw [List.filter_eq_nil_iff] at hnil
    have := hnil i (by simpa using hlt)
    rw [getD_of_lt (by rw [hsz]; exact hlt) false true]
    simpa using this
  | f + 1, t, listed, fr, L, hsz, hi, hc => by
    simp only [Region.linearise.go]
    show vOpsC C n ops.toList ((match (Region.ready .any ops listed)[t % (Region.ready .any ops listed).length]? with
      | some i => Region.linearise.go .any ops f (t / (Region.ready .any ops listed).length) (listed.setIfInBounds i true) [i]
      | none => [].reverse).filterMap fun i => ops[i]?) fr L K
    cases hr : (Region.ready .any ops listed)[t % (Region.ready .any ops listed).length]? with
    | none =>
      have hnil : Region.ready .any ops listed = [] := by
        cases hr' : Region.ready .any ops listed with
        | nil => rfl
        | cons x xs =>
          rw [hr'] at hr
          have hlt : t % (x :: xs).length < (x :: xs).length := Nat.mod_lt _ (by simp)
          simp at hr
          simp at hlt
          omega
      refine hp.done hs hi (fun i => ?_) hK
      induction i using Nat.strongRecOn with
      | _ i ih =>
        intro hlt
        refine Classical.byContradiction fun hn => ?_
        have : i ∈ Region.ready .any ops listed := by
          unfold Region.ready
          rw [List.mem_filter]
          refine ⟨by simpa using hlt, ?_⟩
          rw [getD_of_lt (by rw [hsz]; exact hlt) true false]
          simp only [Bool.not_eq_true] at hn
          rw [hn]
          rw [Array.getElem?_eq_getElem hlt]
          simp only [Option.map_some, Option.getD_some, Bool.not_false, Bool.true_and]
          rw [← Array.all_toList, List.all_eq_true]
          intro e he
          cases hb : Region.binds .any e with
          | false => simp
          | true =>
            have hlt' := hs.edge i ops[i] e (by simp [hlt]) he hb
            simp only [Bool.not_true, Bool.false_or]
            exact ih e.on hlt' (by omega)
        rw [hnil] at this
        cases this
    | some i =>
      have hmem := List.mem_of_getElem? hr
      unfold Region.ready at hmem
      rw [List.mem_filter] at hmem
      have hlt : i < ops.size := by simpa using hmem.1
      have hlt' : i < listed.size := by rw [hsz]; exact hlt
      have ho : ops[i]? = some ops[i] := Array.getElem?_eq_getElem hlt
      have h2 := hmem.2
      rw [ho] at h2
      simp only [Option.map_some, Option.getD_some, Bool.and_eq_true, Bool.not_eq_true'] at h2
      obtain ⟨h2a, h2b⟩ := h2
      rw [← Array.all_toList, List.all_eq_true] at h2b
      simp only []
      rw [linearise_go_acc, List.reverse_singleton, List.singleton_append, List.filterMap_cons]
      simp only [ho]
      refine hp.step hs hi (i := i) (o := ops[i]) (by simp [hlt]) (by rw [getD_of_lt hlt' false true, h2a]; simp) (fun e he hb => ?_) (S' := fun j => (listed.setIfInBounds i true).getD j false = true) (fun j => ?_) ?_
      · have := h2b e he
        simpa [hb] using this
      · simp only [Array.getD_eq_getD_getElem?]
        by_cases e : i = j
        · subst e
          rw [Array.getElem?_setIfInBounds_self_of_lt hlt']
          simp
        · rw [Array.getElem?_setIfInBounds_ne e]
          simp [Ne.symm e]
      · intro fr' L' hi'
        refine quiet_go hp hs hK f _ _ fr' L' (by simp [hsz]) hi' ?_
        have : cnt ops (listed.setIfInBounds i true) < cnt ops listed := by
          unfold cnt
          refine filter_lt (fun x hx hp => ?_) ⟨i, by simpa using hlt, ?_, by simp [h2a]⟩
          · have hx' : x < ops.size := by simpa using hx
            by_cases e : i = x
            · subst e; simp [h2a]
            · simp only [Array.getD_eq_getD_getElem?, Array.getElem?_setIfInBounds_ne e] at hp
              simpa [Array.getD_eq_getD_getElem?] using hp
          · simp only [Array.getD_eq_getD_getElem?, Array.getElem?_setIfInBounds_self_of_lt hlt']
            rfl
        omega
end

theorem DrawP.quiet {C : Ctx} {n : Nat} {ops : Array Oper} {fr : List (Nat × V)} {L : List Blk} {K : List (Nat × V) → List Blk → Prop} (hm : C.P.follows .mixedOrders = true) (T : List Nat) (hst : stableB ops.toList T = true)
    (h : qOps C n ops.toList ops.toList fr L K) : DrawP C n ops fr L K := by
  obtain ⟨F, M, val, ex, h1, h2, h3, h4⟩ := qOps_out ops.toList 0 fr L h
  have hs := stab_of hst
  have hp : Plan C n ops.toList F M val ex := ⟨fun i o ho => by simpa using (h3 i o ho).1, fun i o ho => by simpa using (h3 i o ho).2⟩
  unfold DrawP
  intro t
  simp only [Region.schedule, hm, Bool.true_or, if_true, Region.linearise]
  have hz : ∀ j, (Array.replicate ops.size false).getD j false = false := fun j => by
    simp only [Array.getD_eq_getD_getElem?, Array.getElem?_replicate]
    split <;> rfl
  refine quiet_go hp hs (by simpa using h4) _ t _ fr L (by simp) ⟨?_, ?_, ?_, ?_⟩ ?_
  · intro i o e hi; rw [hz] at hi; cases hi
  · intro j s hj; rw [hz] at hj; cases hj
  · intro s _; exact (h1 s).symm
  · exact ⟨0, Nat.zero_le _, h2.symm, fun j o _ _ => by rw [hz]; simp⟩
  · unfold cnt
    exact Nat.le_trans (List.length_filter_le _ _) (by simp)
end Go.Tidy
