/-
  demands: partial lists are those of the reference; full lists.
-/
import Derived.Test.YtjknhbfcdjjbhaaDemO
namespace Go.Proofs.Ytjknhbfcdjjbhaa
open Go.Tidy
set_option maxRecDepth 100000
set_option maxHeartbeats 0
set_option linter.unusedSimpArgs false
set_option linter.unusedVariables false
theorem mem_busyL {l : List Mt} {c : Int} : c ∈ busyL l ↔ ∃ m ∈ l, m.home = c ∨ m.away = c := by
  unfold busyL
  rw [List.mem_flatMap]
  constructor
  · rintro ⟨m, hm, hc⟩
    refine ⟨m, hm, ?_⟩
    simp only [List.mem_cons, List.not_mem_nil, or_false] at hc
    exact hc.elim (fun h => .inl h.symm) (fun h => .inr h.symm)
  · rintro ⟨m, hm, hc⟩
    refine ⟨m, hm, ?_⟩
    simp only [List.mem_cons, List.not_mem_nil, or_false]
    exact hc.elim (fun h => .inl h.symm) (fun h => .inr h.symm)
theorem playsM_iff {m : Mt} {c : Int} : playsM m c = true ↔ m.home = c ∨ m.away = c := by unfold playsM; simp
theorem busyB_iff {r : List Mt} {c : Int} : busyB r c = true ↔ c ∈ busyL r := by
  unfold busyB
  rw [List.any_eq_true, mem_busyL]
  exact ⟨fun ⟨m, hm, h⟩ => ⟨m, hm, playsM_iff.1 h⟩, fun ⟨m, hm, h⟩ => ⟨m, hm, playsM_iff.2 h⟩⟩
theorem not_busy_take {r : List Mt} {k : Nat} {c : Int} : c ∉ busyL (r.take k) ↔ ∀ (j : Nat) (hj : j < r.length), j < k → playsM r[j] c = false := by
  rw [mem_busyL]
  constructor
  · intro h j hj hjk
    cases e : playsM r[j] c with
    | false => rfl
    | true => exact absurd ⟨r[j], List.mem_take_iff_getElem.2 ⟨j, by omega, rfl⟩, playsM_iff.1 e⟩ h
  · rintro h ⟨m, hm, hc⟩
    obtain ⟨j, hj, rfl⟩ := List.mem_take_iff_getElem.1 hm
    have := h j (by omega) (by omega)
    rw [playsM_iff.2 hc] at this; cases this
theorem busyL_append (a b : List Mt) : busyL (a ++ b) = busyL a ++ busyL b := List.flatMap_append ..
theorem busyL_len (r : List Mt) : (busyL r).length = 2 * r.length := by
  induction r with
  | nil => rfl
  | cons m r ih => rw [show m :: r = [m] ++ r from rfl, busyL_append, List.length_append, ih, List.length_append]; simp [busyL]; omega
theorem busy_nodup {r : List Mt} (h : ∀ (k : Nat) (hk : k < r.length), r[k].home ≠ r[k].away ∧ r[k].home ∉ busyL (r.take k) ∧ r[k].away ∉ busyL (r.take k)) : ∀ k, k ≤ r.length → (busyL (r.take k)).Nodup := by
  intro k
  induction k with
  | zero => intro _; exact List.Pairwise.nil
  | succ k ih =>
    intro hk
    obtain ⟨h1, h2, h3⟩ := h k (by omega)
    rw [take_next (by omega), busyL_append, List.nodup_append]
    refine ⟨ih (by omega), by simp [busyL, h1], fun a ha b hb => ?_⟩
    simp only [busyL, List.flatMap_cons, List.flatMap_nil, List.append_nil, List.mem_cons, List.not_mem_nil, or_false] at hb
    rcases hb with rfl | rfl
    · rintro rfl; exact h2 ha
    · rintro rfl; exact h3 ha
theorem leftGo_eq {odd : Nat} {r : List Mt} {last : Int} : ∀ {cs : List Int} {n : Nat}, cs.Pairwise (· < ·) → n ≤ odd → leftGo odd last (busyL r) cs n = decide (n + (cs.countP fun c => decide (c < last) && !busyB r c) ≤ odd)
  | [], n, _, hn => by simp [leftGo, hn]
  | c :: cs, n, hp, hn => by
    obtain ⟨hc, hp⟩ := List.pairwise_cons.1 hp
    rw [leftGo]
    by_cases hl : last ≤ c
    · rw [if_pos hl]
      have h0 : ((c :: cs).countP fun c => decide (c < last) && !busyB r c) = 0 := by
        rw [List.countP_eq_zero]
        intro x hx
        have : last ≤ x := by
          rcases List.mem_cons.1 hx with rfl | hx
          · exact hl
          · have := hc x hx; omega
        rw [decide_eq_false (by omega)]; simp
      rw [h0]; exact (decide_eq_true hn).symm
    · rw [if_neg hl, List.countP_cons]
      by_cases hb : c ∈ busyL r
      · rw [if_pos hb, leftGo_eq hp hn, busyB_iff.2 hb]; simp
      · have hbb : busyB r c = false := by cases e : busyB r c with | false => rfl | true => exact absurd (busyB_iff.1 e) hb
        rw [if_neg hb, hbb, decide_eq_true (by omega : c < last)]
        simp only [Bool.not_false, Bool.and_self, if_true]
        by_cases ho : odd < n + 1
        · rw [if_pos ho]; exact (decide_eq_false (by omega)).symm
        · rw [if_neg ho, leftGo_eq hp (by omega)]
          exact decide_eq_decide.2 (by omega)
theorem countP_le_one (n : Nat) : n % 2 ≤ 1 := by omega
theorem betw_rev {a b : Mt} (h : a ≠ b) : betwM a b.home b.away = true ↔ (⟨a.away, a.home⟩ : Mt) = b := by
  obtain ⟨ah, aa⟩ := a
  obtain ⟨bh, ba⟩ := b
  simp only [betwM, Bool.or_eq_true, Bool.and_eq_true, decide_eq_true_eq, Mt.mk.injEq, ne_eq] at h ⊢
  omega
theorem flat_at {l : List (List Mt)} {i k : Nat} (hi : i < l.length) (hk : k < l[i].length) : ∃ h : (l.take i).flatten.length + k < l.flatten.length, l.flatten[(l.take i).flatten.length + k] = l[i][k] ∧ l.flatten.take ((l.take i).flatten.length + k) = (l.take i).flatten ++ l[i].take k := by
  have e : l.flatten = (l.take i).flatten ++ (l[i] ++ (l.drop (i + 1)).flatten) := by
    conv => lhs; rw [← List.take_append_drop i l, List.drop_eq_getElem_cons hi]
    rw [List.flatten_append, List.flatten_cons]
  have hlt : (l.take i).flatten.length + k < l.flatten.length := by
    rw [e, List.length_append, List.length_append]; omega
  refine ⟨hlt, ?_, ?_⟩
  · have : l.flatten[(l.take i).flatten.length + k]? = some l[i][k] := by
      rw [e, List.getElem?_append_right (by omega), Nat.add_sub_cancel_left, List.getElem?_append_left hk, List.getElem?_eq_getElem hk]
    rw [List.getElem?_eq_getElem hlt] at this
    exact Option.some.inj this
  · rw [e, List.take_append, List.take_of_length_le (by omega), Nat.add_sub_cancel_left, List.take_append_of_le_length (by omega)]
theorem flat_in : ∀ {l : List (List Mt)} {a : Nat} (ha : a < l.flatten.length), ∃ (i : Nat) (hi : i < l.length) (k : Nat) (hk : k < l[i].length), a = (l.take i).flatten.length + k
  | [], a, ha => by simp at ha
  | r :: l, a, ha => by
    by_cases hr : a < r.length
    · exact ⟨0, by simp, a, hr, by simp⟩
    · rw [List.flatten_cons, List.length_append] at ha
      obtain ⟨i, hi, k, hk, e⟩ := flat_in (l := l) (a := a - r.length) (by omega)
      exact ⟨i + 1, by simpa using hi, k, by simpa using hk, by rw [List.take_succ_cons, List.flatten_cons, List.length_append]; omega⟩
theorem mem_take_lt {F : List Mt} {a : Nat} (ha : a < F.length) {x : Mt} : x ∈ F.take a ↔ ∃ (b : Nat) (hb : b < a), F[b] = x := by
  rw [List.mem_take_iff_getElem]
  exact ⟨fun ⟨j, hj, e⟩ => ⟨j, by omega, e⟩, fun ⟨j, hj, e⟩ => ⟨j, by omega, e⟩⟩
theorem pairs_iff (l : List (List Mt)) (p : Pl) : (∀ (i : Nat) (hi : i < l.flatten.length), ∀ (j : Nat) (hj : j < i), PairR p l.flatten[i] (l.flatten[j]'(by omega))) ↔
    ∀ (i : Nat) (hi : i < l.length) (k : Nat) (hk : k < l[i].length), l[i][k] ∉ (l.take i).flatten ++ l[i].take k ∧ (p.double = false → (⟨l[i][k].away, l[i][k].home⟩ : Mt) ∉ (l.take i).flatten ++ l[i].take k) := by
  constructor
  · intro h i hi k hk
    obtain ⟨hlt, e1, e2⟩ := flat_at hi hk
    have hne : ∀ (b : Nat) (hb : b < (l.take i).flatten.length + k), l[i][k] ≠ l.flatten[b] := fun b hb => by
      have := (h _ hlt b hb).1; rw [e1] at this; exact this
    rw [← e2]
    refine ⟨fun hm => ?_, fun hd hm => ?_⟩
    · obtain ⟨b, hb, e⟩ := (mem_take_lt hlt).1 hm
      exact hne b hb e.symm
    · obtain ⟨b, hb, e⟩ := (mem_take_lt hlt).1 hm
      have := (h _ hlt b hb).2 hd
      rw [e1] at this
      rw [(betw_rev (hne b hb)).2 e.symm] at this
      cases this
  · intro h a ha b hb
    obtain ⟨i, hi, k, hk, rfl⟩ := flat_in ha
    obtain ⟨hlt, e1, e2⟩ := flat_at hi hk
    obtain ⟨h1, h2⟩ := h i hi k hk
    rw [← e2] at h1 h2
    have hne : l[i][k] ≠ l.flatten[b] := fun e => h1 ((mem_take_lt hlt).2 ⟨b, hb, e.symm⟩)
    rw [e1]
    refine ⟨hne, fun hd => ?_⟩
    cases e : betwM l[i][k] l.flatten[b].home l.flatten[b].away with
    | false => rfl
    | true => exact absurd ((mem_take_lt hlt).2 ⟨b, hb, ((betw_rev hne).1 e).symm⟩) (h2 hd)
theorem PartP_iff (l : List (List Mt)) (p : Pl) (hp : fieldOk p.clubs 2 = true) : PartP l p ↔ PartR l p := by
  have hinc : p.clubs.Pairwise (· < ·) := incr_lt (by simp only [fieldOk, Bool.and_eq_true] at hp; exact hp.1.1)
  have hleft : ∀ r : List Mt, leftGo (p.clubs.length % 2) (lastM r) (busyL r) p.clubs 0 = true ↔ leftR p.clubs r ≤ p.clubs.length % 2 := fun r => by
    rw [leftGo_eq hinc (Nat.zero_le _), Nat.zero_add, decide_eq_true_eq]; rfl
  unfold PartP PartR
  rw [pairs_iff]
  constructor
  · rintro ⟨h0, h⟩
    refine ⟨h0, fun i hi => ?_, fun i hi k hk => ?_⟩
    · obtain ⟨h1, h2, h3, h4, h5⟩ := h i hi
      refine ⟨⟨fun k hk => ?_, fun e => h1 (by rw [e]; rfl), (hleft _).1 h5⟩, fun hl => by have := h3 hl; omega⟩
      obtain ⟨a1, a2, a3, a4, a5, _, _, a8⟩ := h4 k hk
      exact ⟨a1, a2, a3, a8, fun j hj hjk => ⟨not_busy_take.1 a4 j hj hjk, not_busy_take.1 a5 j hj hjk⟩⟩
    · obtain ⟨_, _, _, h4, _⟩ := h i hi
      obtain ⟨_, _, _, _, _, a6, a7, _⟩ := h4 k hk
      exact ⟨a6, a7⟩
  · rintro ⟨h0, h, hq⟩
    refine ⟨h0, fun i hi => ?_⟩
    obtain ⟨⟨h1, h2, h3⟩, h4⟩ := h i hi
    have hb : ∀ (k : Nat) (hk : k < l[i].length), l[i][k].home ≠ l[i][k].away ∧ l[i][k].home ∉ busyL (l[i].take k) ∧ l[i][k].away ∉ busyL (l[i].take k) := fun k hk => by
      obtain ⟨a1, a2, a3, a4, a5⟩ := h1 k hk
      exact ⟨a1, not_busy_take.2 fun j hj hjk => (a5 j hj hjk).1, not_busy_take.2 fun j hj hjk => (a5 j hj hjk).2⟩
    have hnd := busy_nodup hb l[i].length (Nat.le_refl _)
    rw [List.take_length] at hnd
    have hsub : busyL l[i] ⊆ p.clubs := fun c hc => by
      obtain ⟨m, hm, he⟩ := mem_busyL.1 hc
      obtain ⟨k, hk, rfl⟩ := List.getElem_of_mem hm
      obtain ⟨_, a2, a3, _⟩ := h1 k hk
      rcases he with rfl | rfl
      · exact a2
      · exact a3
    have hle := hnd.length_le_of_subset hsub
    rw [busyL_len] at hle
    refine ⟨fun e => h2 (List.eq_nil_of_length_eq_zero e), by unfold halfN; omega, fun hl => by rw [h4 hl]; exact Nat.le_refl _, fun k hk => ?_, (hleft _).2 h3⟩
    obtain ⟨a1, a2, a3, a4, a5⟩ := h1 k hk
    obtain ⟨b1, b2⟩ := hq i hi k hk
    exact ⟨a1, a2, a3, (hb k hk).2.1, (hb k hk).2.2, b1, b2, a4⟩
theorem PartP.len {l : List (List Mt)} {p : Pl} (h : PartP l p) {i : Nat} (hi : i < l.length) : l[i].length ≤ halfN p := (h.2 i hi).2.1
theorem FullP_iff (l : List (List Mt)) (p : Pl) (hp : fieldOk p.clubs 2 = true) : FullP l p ↔ FullR l p := by
  unfold FullP FullR
  rw [PartP_iff l p hp]
  refine and_congr_right fun hP => and_congr_right fun hl => ⟨fun h r hr => ?_, fun h r hr => by rw [h r hr]; exact Nat.le_refl _⟩
  have := h r hr
  obtain ⟨i, hi, rfl⟩ := List.getElem_of_mem (List.mem_of_getLast? hr)
  have := ((PartP_iff l p hp).2 hP).len hi
  omega
end Go.Proofs.Ytjknhbfcdjjbhaa
