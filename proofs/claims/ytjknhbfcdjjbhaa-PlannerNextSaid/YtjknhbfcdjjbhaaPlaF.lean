/-
  planner: a search, as a plain function; what a search keeps.
-/
import Derived.Test.YtjknhbfcdjjbhaaPlaE
namespace Go.Proofs.Ytjknhbfcdjjbhaa
open Go.Tidy
set_option linter.unusedSimpArgs false
set_option linter.unusedVariables false
abbrev Lst := List (List Mt)
def extL (l : Lst) (p : Pl) (m : Mt) : Lst := (if (openR l p).2.1 then l else l.dropLast) ++ [(openR l p).1 ++ [m]]
inductive Sr
  | go (sp : Nat) (fs : List Lst)
  | stop (e : Int) (sp : Nat) (fs : List Lst)
def exLoop (f : Lst → Nat → List Lst → Sr) (ext : Mt → Lst) (ok : Lst → Bool) (bud : Nat) : List Mt → Nat → List Lst → Sr
  | [], sp, fs => .go sp fs
  | m :: ms, sp, fs => if sp = bud then .stop 3 sp fs else
      if ok (ext m) then (match f (ext m) (sp + 1) fs with
        | .go sp fs => exLoop f ext ok bud ms sp fs
        | .stop e sp fs => .stop e sp fs) else exLoop f ext ok bud ms (sp + 1) fs
def fullC (l : Lst) (p : Pl) : Bool := decide (l.length = roundsN p) && (match l.getLast? with | some r => decide (r.length = halfN p) | none => false)
def exam (ch : Lst → List Mt) (ok : Lst → Bool) (p : Pl) (bud : Nat) (all : Bool) : Nat → Lst → Nat → List Lst → Sr
  | 0, _, sp, fs => .go sp fs
  | n + 1, l, sp, fs => if fullC l p then (if all then .go sp (fs ++ [l]) else .stop 0 sp (fs ++ [l])) else exLoop (exam ch ok p bud all n) (extL l p) ok bud (ch l) sp fs
theorem exLoop_append (f : Lst → Nat → List Lst → Sr) (ext : Mt → Lst) (ok : Lst → Bool) (bud : Nat) (ys : List Mt) : ∀ (xs : List Mt) (sp : Nat) (fs : List Lst), exLoop f ext ok bud (xs ++ ys) sp fs = match exLoop f ext ok bud xs sp fs with
    | .go sp fs => exLoop f ext ok bud ys sp fs
    | .stop e sp fs => .stop e sp fs
  | [], sp, fs => rfl
  | m :: xs, sp, fs => by
    simp only [List.cons_append, exLoop]
    split
    · rfl
    · split
      · split
        · exact exLoop_append f ext ok bud ys xs _ _
        · rfl
      · exact exLoop_append f ext ok bud ys xs _ _
theorem exLoop_next (f : Lst → Nat → List Lst → Sr) (ext : Mt → Lst) (ok : Lst → Bool) (bud : Nat) {ms : List Mt} {i : Nat} (hi : i < ms.length) {sp sp' : Nat} {fs fs' : List Lst} (h : exLoop f ext ok bud (ms.take i) sp fs = .go sp' fs') :
    exLoop f ext ok bud (ms.take (i + 1)) sp fs = exLoop f ext ok bud [ms[i]] sp' fs' := by
  rw [take_next hi, exLoop_append, h]
theorem exLoop_stop (f : Lst → Nat → List Lst → Sr) (ext : Mt → Lst) (ok : Lst → Bool) (bud : Nat) {ms : List Mt} {i : Nat} {sp sp' : Nat} {fs fs' : List Lst} {e : Int} (h : exLoop f ext ok bud (ms.take i) sp fs = .stop e sp' fs') :
    exLoop f ext ok bud ms sp fs = .stop e sp' fs' := by
  conv => lhs; rw [← List.take_append_drop i ms]
  rw [exLoop_append, h]
theorem exam_keep (ch : Lst → List Mt) (ok : Lst → Bool) (p : Pl) (bud : Nat) (all : Bool) : ∀ (n : Nat) (l : Lst) (sp : Nat) (fs : List Lst), sp ≤ bud → (fullC l p = true → fs.length + 1 ≤ sp) → fs.length ≤ sp → ∀ sp' fs', exam ch ok p bud all n l sp fs = .go sp' fs' → sp' ≤ bud ∧ fs'.length ≤ sp' ∧ sp ≤ sp'
  | 0, l, sp, fs, h1, h2, h3, sp', fs', h => by cases h; exact ⟨h1, h3, Nat.le_refl _⟩
  | n + 1, l, sp, fs, h1, h2, h3, sp', fs', h => by
    unfold exam at h
    split at h
    · rename_i hf
      split at h
      · cases h; exact ⟨h1, by rw [List.length_append]; exact h2 hf, Nat.le_refl _⟩
      · cases h
    · revert h
      have key : ∀ (ms : List Mt) (sp : Nat) (fs : List Lst), sp ≤ bud → fs.length ≤ sp → exLoop (exam ch ok p bud all n) (extL l p) ok bud ms sp fs = .go sp' fs' → sp' ≤ bud ∧ fs'.length ≤ sp' ∧ sp ≤ sp' := by
        intro ms
        induction ms with
        | nil => intro sp fs h1 h3 h; cases h; exact ⟨h1, h3, Nat.le_refl _⟩
        | cons m ms ih =>
          intro sp fs h1 h3 h
          simp only [exLoop] at h
          split at h
          · cases h
          · split at h
            · split at h
              · rename_i a b he
                obtain ⟨k1, k2, k3⟩ := exam_keep ch ok p bud all n _ (sp + 1) fs (by omega) (fun _ => by omega) (by omega) a b he
                obtain ⟨q1, q2, q3⟩ := ih a b k1 k2 h
                exact ⟨q1, q2, by omega⟩
              · cases h
            · obtain ⟨q1, q2, q3⟩ := ih (sp + 1) fs (by omega) (by omega) h
              exact ⟨q1, q2, by omega⟩
      exact key _ sp fs h1 h3
theorem exLoop_keep (ch : Lst → List Mt) (ok : Lst → Bool) (p : Pl) (bud : Nat) (all : Bool) (n : Nat) (ext : Mt → Lst) : ∀ (ms : List Mt) (sp : Nat) (fs : List Lst), sp ≤ bud → fs.length ≤ sp → ∀ sp' fs', exLoop (exam ch ok p bud all n) ext ok bud ms sp fs = .go sp' fs' → sp' ≤ bud ∧ fs'.length ≤ sp' ∧ sp ≤ sp'
  | [], sp, fs, h1, h3, sp', fs', h => by cases h; exact ⟨h1, h3, Nat.le_refl _⟩
  | m :: ms, sp, fs, h1, h3, sp', fs', h => by
    simp only [exLoop] at h
    split at h
    · cases h
    · split at h
      · split at h
        · rename_i a b he
          obtain ⟨k1, k2, k3⟩ := exam_keep ch ok p bud all n _ (sp + 1) fs (by omega) (fun _ => by omega) (by omega) a b he
          obtain ⟨q1, q2, q3⟩ := exLoop_keep ch ok p bud all n ext ms a b k1 k2 _ _ h
          exact ⟨q1, q2, by omega⟩
        · cases h
      · obtain ⟨q1, q2, q3⟩ := exLoop_keep ch ok p bud all n ext ms (sp + 1) fs (by omega) (by omega) _ _ h
        exact ⟨q1, q2, by omega⟩
theorem part_row {l : Lst} {p : Pl} (hP : PartP l p) {r : List Mt} (hr : r ∈ l) : r.length ≤ halfN p := by
  obtain ⟨i, hi, rfl⟩ := List.getElem_of_mem hr
  exact (hP.2 i hi).2.1
theorem sum_len {m : Nat} : ∀ {l : Lst}, (∀ r ∈ l, r.length ≤ m) → l.flatten.length ≤ l.length * m
  | [], _ => by simp
  | r :: l, h => by
    have h1 := h r (by simp)
    have h2 := sum_len (l := l) fun r hr => h r (by simp [hr])
    rw [List.flatten_cons, List.length_append, List.length_cons, Nat.add_mul, Nat.one_mul]; omega
theorem part_total {l : Lst} {p : Pl} (hP : PartP l p) : l.flatten.length ≤ roundsN p * halfN p :=
  Nat.le_trans (sum_len fun r hr => part_row hP hr) (Nat.mul_le_mul_right _ hP.1)
theorem openR_spec (l : Lst) (p : Pl) : ((openR l p).2.1 = true ∧ (openR l p).1 = []) ∨ ((openR l p).2.1 = false ∧ ∃ r, l.getLast? = some r ∧ (openR l p).1 = r ∧ r.length < halfN p ∧ l = l.dropLast ++ [r]) := by
  unfold openR
  cases h : l.getLast? with
  | none => exact .inl ⟨rfl, rfl⟩
  | some r =>
    simp only
    split
    · refine .inr ⟨rfl, r, rfl, rfl, ‹_›, ?_⟩
      have hne : l ≠ [] := fun e => by rw [e] at h; cases h
      rw [List.getLast?_eq_some_getLast hne] at h
      have := List.dropLast_concat_getLast hne
      rw [Option.some.inj h] at this
      exact this.symm
    · exact .inl ⟨rfl, rfl⟩
theorem extL_flat (l : Lst) (p : Pl) (m : Mt) : (extL l p m).flatten = l.flatten ++ [m] := by
  unfold extL
  rcases openR_spec l p with ⟨h1, h2⟩ | ⟨h1, r, h2, h3, h4, h5⟩
  · rw [h1, h2, if_pos rfl]; simp
  · rw [h1, h3]
    conv => rhs; rw [h5]
    simp
theorem extL_len (l : Lst) (p : Pl) (m : Mt) : (extL l p m).length ≤ l.length + 1 := by
  unfold extL
  rw [List.length_append]
  split
  · exact Nat.le_refl _
  · rw [List.length_dropLast]; simp only [List.length_singleton]; omega
theorem extL_row {l : Lst} {p : Pl} {m : Mt} {r : List Mt} (hr : r ∈ extL l p m) : r ∈ l ∨ r.length ≤ halfN p + 1 := by
  unfold extL at hr
  rcases openR_spec l p with ⟨h1, h2⟩ | ⟨h1, r', h2, h3, h4, h5⟩
  · rw [h1, h2, if_pos rfl, List.mem_append] at hr
    rcases hr with h | h
    · exact .inl h
    · right; rw [List.mem_singleton.1 h]; simp
  · rw [h1, h3, List.mem_append] at hr
    rcases hr with h | h
    · exact .inl (List.dropLast_subset _ h)
    · right; rw [List.mem_singleton.1 h, List.length_append]; simp; omega
theorem dmA_part {l : Lst} {p : Pl} (h : dmA l p < 0) : checkP p = 0 ∧ PartP l p := by
  unfold dmA at h
  split at h
  · assumption
  · omega
theorem roundsN_le {p : Pl} (h : p.clubs.length ≤ 1000) : roundsN p ≤ 2002 := by unfold roundsN; split <;> omega
theorem roundsN_pos (p : Pl) : 1 ≤ roundsN p := by unfold roundsN; split <;> omega
theorem halfN_le {p : Pl} (h : p.clubs.length ≤ 1000) : halfN p ≤ 500 := by unfold halfN; omega
theorem part_small {l : Lst} {p : Pl} (hs : Small [] p) (h1 : p.clubs.length ≤ 1000) (hP : PartP l p) (m : Mt) : Small l p ∧ Small (extL l p m) p := by
  have a := roundsN_le h1
  have b := halfN_le h1
  have c := hP.1
  have d := extL_len l p m
  refine ⟨⟨by omega, fun r hr => ?_, hs.hc, hs.hd, hs.hD⟩, ⟨by omega, fun r hr => ?_, hs.hc, hs.hd, hs.hD⟩⟩
  · have := part_row hP hr; omega
  · rcases extL_row hr with h | h
    · have := part_row hP h; omega
    · omega
end Go.Proofs.Ytjknhbfcdjjbhaa
