/-
  A full list of a pledge is full for package fixtures: as many games as there are, all different.
-/
import Derived.Test.YtjknhbfcdjjbhaaFixF
namespace Go.Proofs.Ytjknhbfcdjjbhaa
open Go.Tidy
set_option maxRecDepth 100000
set_option maxHeartbeats 0
set_option linter.unusedSimpArgs false
set_option linter.unusedVariables false
theorem flat_ind {l : List (List Mt)} {S : List Mt → Prop} (h0 : S [])
    (hs : ∀ (i : Nat) (hi : i < l.length) (k : Nat) (hk : k < l[i].length), S ((l.take i).flatten ++ l[i].take k) → S ((l.take i).flatten ++ l[i].take k ++ [l[i][k]])) : S l.flatten := by
  have key : ∀ i, i ≤ l.length → S (l.take i).flatten := by
    intro i
    induction i with
    | zero => intro _; exact h0
    | succ i ih =>
      intro hi
      have hi' : i < l.length := by omega
      have inner : ∀ k, k ≤ l[i].length → S ((l.take i).flatten ++ l[i].take k) := by
        intro k
        induction k with
        | zero => intro _; rw [List.take_zero, List.append_nil]; exact ih (by omega)
        | succ k ih2 =>
          intro hk
          have := hs i hi' k (by omega) (ih2 (by omega))
          rw [take_next (by omega), ← List.append_assoc]; exact this
      have := inner l[i].length (Nat.le_refl _)
      rw [List.take_length] at this
      rw [take_next hi', List.flatten_append]
      simpa using this
  have := key l.length (Nat.le_refl _)
  rwa [List.take_length] at this
theorem backM_back (m : Mt) : backM (backM m) = m := rfl
def pairsL (cs : List Int) : List Mt := cs.flatMap fun a => (cs.filter fun b => !decide (b = a)).map fun b => ⟨a, b⟩
theorem mem_pairs {cs : List Int} {m : Mt} (h1 : m.home ∈ cs) (h2 : m.away ∈ cs) (h3 : m.home ≠ m.away) : m ∈ pairsL cs := by
  unfold pairsL
  refine List.mem_flatMap.2 ⟨m.home, h1, List.mem_map.2 ⟨m.away, List.mem_filter.2 ⟨h2, ?_⟩, rfl⟩⟩
  simp only [Bool.not_eq_true', decide_eq_false_iff_not]
  exact fun e => h3 e.symm
theorem filter_ne {cs : List Int} {a : Int} (h : a ∈ cs) : (cs.filter fun b => !decide (b = a)).length ≤ cs.length - 1 := by
  induction cs with
  | nil => simp at h
  | cons c cs ih =>
    have hle : (cs.filter fun b => !decide (b = a)).length ≤ cs.length := List.length_filter_le _ _
    by_cases e : c = a
    · rw [List.filter_cons_of_neg (by simp [e])]; simpa using hle
    · rw [List.filter_cons_of_pos (by simp [e])]
      have hm : a ∈ cs := by
        rcases List.mem_cons.1 h with h | h
        · exact absurd h.symm e
        · exact h
      have := ih hm
      have : 0 < cs.length := List.length_pos_of_mem hm
      simp only [List.length_cons]; omega
theorem sum_le {α : Type} (f : α → Nat) (m : Nat) : ∀ l : List α, (∀ a ∈ l, f a ≤ m) → (l.map f).sum ≤ l.length * m
  | [], _ => by simp
  | a :: l, h => by
    have := sum_le f m l fun b hb => h b (by simp [hb])
    have := h a (by simp)
    simp only [List.map_cons, List.sum_cons, List.length_cons, Nat.add_mul, Nat.one_mul]; omega
theorem pairs_len (cs : List Int) : (pairsL cs).length ≤ cs.length * (cs.length - 1) := by
  unfold pairsL
  rw [List.length_flatMap]
  exact sum_le _ _ cs fun a ha => by rw [List.length_map]; exact filter_ne ha
theorem sum_const {α : Type} (f : α → Nat) (m : Nat) : ∀ l : List α, (∀ a ∈ l, f a = m) → (l.map f).sum = l.length * m
  | [], _ => by simp
  | a :: l, h => by
    have := sum_const f m l fun b hb => h b (by simp [hb])
    have := h a (by simp)
    simp only [List.map_cons, List.sum_cons, List.length_cons, Nat.add_mul, Nat.one_mul]; omega
theorem all_of {N P : List Mt} (hn : N.Nodup) (hs : ∀ m ∈ N, m ∈ P) (hl : P.length ≤ N.length) {x : Mt} (hx : x ∈ P) : x ∈ N := by
  refine Classical.byContradiction fun h => ?_
  have h2 : (x :: N).Nodup := List.nodup_cons.2 ⟨h, hn⟩
  have h3 : (x :: N).length ≤ P.length := List.Nodup.length_le_of_subset h2 (fun y hy => by
    rcases List.mem_cons.1 hy with rfl | hy
    · exact hx
    · exact hs y hy)
  simp only [List.length_cons] at h3; omega
theorem full_len {l : List (List Mt)} {p : Pl} (hF : FullP l p) : l.flatten.length = roundsN p * halfN p := by
  obtain ⟨hP, hl, hg⟩ := hF
  rw [List.length_flatten, ← hl]
  refine sum_const _ _ l fun r hr => ?_
  obtain ⟨i, hi, rfl⟩ := List.getElem_of_mem hr
  obtain ⟨h1, h2, h3, _⟩ := hP.2 i hi
  by_cases e : i + 1 < l.length
  · have := h3 e; omega
  · have : l.getLast? = some l[i] := by
      rw [List.getLast?_eq_getElem?]
      have : l.length - 1 = i := by omega
      rw [this, List.getElem?_eq_getElem hi]
    have := hg _ this; omega
theorem rounds_half (n : Nat) (h : 2 ≤ n) : ((n - 1) / 2 * 2 + 1) * (n / 2) * 2 = n * (n - 1) := by
  have hk : ∃ k, n = 2 * k ∨ n = 2 * k + 1 := ⟨n / 2, by omega⟩
  obtain ⟨k, rfl | rfl⟩ := hk
  · obtain ⟨j, rfl⟩ : ∃ j, k = j + 1 := ⟨k - 1, by omega⟩
    have e1 : (2 * (j + 1) - 1) / 2 = j := by omega
    have e2 : 2 * (j + 1) / 2 = j + 1 := by omega
    have e3 : 2 * (j + 1) - 1 = j * 2 + 1 := by omega
    rw [e1, e2, e3, Nat.mul_comm 2 (j + 1), Nat.mul_assoc, Nat.mul_comm]
  · have e1 : (2 * k + 1 - 1) / 2 = k := by omega
    have e2 : (2 * k + 1) / 2 = k := by omega
    have e3 : 2 * k + 1 - 1 = k * 2 := by omega
    rw [e1, e2, e3, Nat.mul_assoc, Nat.mul_comm k 2]
theorem full_fix {l : List (List Mt)} {p : Pl} (h0 : checkP p = 0) (hF : FullP l p) : FixP l p.clubs := fun i hi k hk => by
  obtain ⟨h1, h2, h3, h4, h5, h6, _⟩ := (hF.1.2 i hi).2.2.2.1 k hk
  exact ⟨h1, h6, h2, h3, h4, h5⟩
theorem full_fixE {l : List (List Mt)} {p : Pl} (h0 : checkP p = 0) (hF : FullP l p) : fixE l p.clubs = 0 := by
  have hf := checkP_field h0
  have hn : p.clubs.length ≤ 24 := by simp only [fieldOk, Bool.and_eq_true, decide_eq_true_eq] at hf; omega
  have hl := hF.2.1
  have h46 : l.length ≤ 46 := by
    rw [hl]; unfold roundsN
    split <;> omega
  unfold fixE; rw [if_pos hf, if_pos h46, if_pos (full_fix h0 hF)]
theorem full_games {l : List (List Mt)} {p : Pl} (h0 : checkP p = 0) (hF : FullP l p) : FullX l.flatten p.clubs p.double := by
  have hf := checkP_field h0
  have hn : 2 ≤ p.clubs.length := by simp only [fieldOk, Bool.and_eq_true, decide_eq_true_eq] at hf; omega
  have hM := full_len hF
  have hok : ∀ (i : Nat) (hi : i < l.length) (k : Nat) (hk : k < l[i].length), OkI p (l.take i).flatten l[i] k hk := fun i hi => (hF.1.2 i hi).2.2.2.1
  have hnd : l.flatten.Nodup := flat_ind (S := List.Nodup) List.nodup_nil fun i hi k hk hS => by
    rw [List.nodup_append]
    refine ⟨hS, by simp, fun a ha b hb => ?_⟩
    rw [List.mem_singleton.1 hb]
    rintro rfl
    exact (hok i hi k hk).2.2.2.2.2.1 ha
  have hin : ∀ m ∈ l.flatten, m.home ∈ p.clubs ∧ m.away ∈ p.clubs ∧ m.home ≠ m.away := flat_ind (S := fun M => ∀ m ∈ M, m.home ∈ p.clubs ∧ m.away ∈ p.clubs ∧ m.home ≠ m.away) (by simp) fun i hi k hk hS m hm => by
    rcases List.mem_append.1 hm with hm | hm
    · exact hS m hm
    · rw [List.mem_singleton.1 hm]
      obtain ⟨h1, h2, h3, _⟩ := hok i hi k hk
      exact ⟨h2, h3, h1⟩
  have hcs : ∀ (i : Nat) (hi : i < p.clubs.length) (j : Nat) (hj : j < i), p.clubs[i] ≠ p.clubs[j]'(by omega) := fun i hi j hj e => by
    have hp : p.clubs.Pairwise (· < ·) := incr_lt (by simp only [fieldOk, Bool.and_eq_true] at hf; exact hf.1.1)
    have := List.pairwise_iff_getElem.1 hp j i (by omega) hi hj
    omega
  have hrh := rounds_half _ hn
  intro i hi j hj
  have ha : p.clubs[i] ∈ p.clubs := List.getElem_mem hi
  have hb : p.clubs[j]'(by omega) ∈ p.clubs := List.getElem_mem _
  have hab := hcs i hi j hj
  unfold GamesP
  cases hd : p.double with
  | true =>
    rw [if_pos rfl]
    have hlen : (pairsL p.clubs).length ≤ l.flatten.length := by
      rw [hM]
      refine Nat.le_trans (pairs_len _) ?_
      unfold roundsN halfN; rw [if_pos hd, ← hrh, Nat.mul_assoc 2, Nat.mul_comm 2]; exact Nat.le_refl _
    have all := fun {x : Mt} (hx : x ∈ pairsL p.clubs) => all_of hnd (fun m hm => by obtain ⟨h1, h2, h3⟩ := hin m hm; exact mem_pairs h1 h2 h3) hlen hx
    exact ⟨all (mem_pairs ha hb hab), all (mem_pairs hb ha (Ne.symm hab))⟩
  | false =>
    rw [if_neg (by decide)]
    have hbk : ∀ m ∈ l.flatten, backM m ∉ l.flatten := flat_ind (S := fun M => ∀ m ∈ M, backM m ∉ M) (by simp) fun i hi k hk hS m hm => by
      obtain ⟨h1, _, _, _, _, h6, h7, _⟩ := hok i hi k hk
      have h7 := h7 hd
      rcases List.mem_append.1 hm with hm | hm
      · intro hx
        rcases List.mem_append.1 hx with hx | hx
        · exact hS m hm hx
        · have e := List.mem_singleton.1 hx
          refine h7 ?_
          have : backM (l[i][k]) = m := by rw [← e]; rfl
          show backM (l[i][k]) ∈ _
          rw [this]; exact hm
      · rw [List.mem_singleton.1 hm]
        intro hx
        rcases List.mem_append.1 hx with hx | hx
        · exact h7 hx
        · have e := List.mem_singleton.1 hx
          exact h1 (congrArg Mt.home e).symm
    have hN : (l.flatten ++ l.flatten.map backM).Nodup := by
      rw [List.nodup_append]
      refine ⟨hnd, ?_, fun a ha b hb => ?_⟩
      · exact List.Pairwise.map backM (fun a b h e => h (by rw [← backM_back a, e]; rfl)) hnd
      · obtain ⟨m, hm, rfl⟩ := List.mem_map.1 hb
        rintro rfl
        exact hbk m hm ha
    have hlen : (pairsL p.clubs).length ≤ (l.flatten ++ l.flatten.map backM).length := by
      rw [List.length_append, List.length_map, hM]
      refine Nat.le_trans (pairs_len _) ?_
      unfold roundsN halfN; rw [if_neg (by rw [hd]; decide), ← hrh, Nat.one_mul, Nat.mul_two]; exact Nat.le_refl _
    have all := fun {x : Mt} (hx : x ∈ pairsL p.clubs) => all_of hN (fun m hm => by
      rcases List.mem_append.1 hm with hm | hm
      · obtain ⟨h1, h2, h3⟩ := hin m hm; exact mem_pairs h1 h2 h3
      · obtain ⟨y, hy, rfl⟩ := List.mem_map.1 hm
        obtain ⟨h1, h2, h3⟩ := hin y hy; exact mem_pairs h2 h1 (Ne.symm h3)) hlen hx
    constructor
    · exact fun h => hbk _ h
    · intro h
      rcases List.mem_append.1 (all (mem_pairs (m := ⟨p.clubs[i], p.clubs[j]'(by omega)⟩) ha hb hab)) with h1 | h1
      · exact h1
      · obtain ⟨y, hy, e⟩ := List.mem_map.1 h1
        exfalso
        refine h ?_
        have : y = backM ⟨p.clubs[i], p.clubs[j]'(by omega)⟩ := by rw [← e]; rfl
        rw [this] at hy; exact hy
theorem full_fullB {l : List (List Mt)} {p : Pl} (h0 : checkP p = 0) (hF : FullP l p) : fullB l p.clubs p.double = true := by
  unfold fullB; exact if_pos ⟨full_fixE h0 hF, full_games h0 hF⟩
end Go.Proofs.Ytjknhbfcdjjbhaa
