/-
  planner: what a search finds.
-/
import Derived.Test.YtjknhbfcdjjbhaaPlaN
namespace Go.Proofs.Ytjknhbfcdjjbhaa
open Go.Tidy
set_option maxRecDepth 100000
set_option linter.unusedSimpArgs false
set_option linter.unusedVariables false
theorem exLoop_mem {ok : Lst → Bool} {p : Pl} {bud : Nat} {G : Lst → Prop} {f : Lst → Nat → List Lst → Sr} {ext : Mt → Lst} : ∀ (ms : List Mt) (sp : Nat) (fs : List Lst), (∀ m ∈ ms, ok (ext m) = true → ∀ sp fs, ∀ x ∈ (f (ext m) sp fs).fs, x ∈ fs ∨ G x) → ∀ x ∈ (exLoop f ext ok bud ms sp fs).fs, x ∈ fs ∨ G x
  | [], sp, fs, _, x, hx => .inl hx
  | m :: ms, sp, fs, h, x, hx => by
    have ih := fun sp fs => exLoop_mem (ok := ok) (p := p) (bud := bud) (G := G) (f := f) (ext := ext) ms sp fs fun x hx => h x (by simp [hx])
    simp only [exLoop] at hx
    split at hx
    · exact .inl hx
    · split at hx
      · rename_i hok
        have h2 := h m (by simp) hok (sp + 1) fs
        split at hx
        · rename_i e
          rw [e] at h2
          rcases ih _ _ x hx with h3 | h3
          · exact h2 x h3
          · exact .inr h3
        · rename_i e
          rw [e] at h2
          exact h2 x hx
      · exact ih _ _ x hx
theorem exam_mem {p : Pl} {ch : Lst → List Mt} {ok : Lst → Bool} {Q G : Lst → Prop} {bud : Nat} {all : Bool} (hQ : ∀ l m, Q l → m ∈ ch l → ok (extL l p m) = true → Q (extL l p m) ∧ G (extL l p m)) : ∀ (n : Nat) (l : Lst) (sp : Nat) (fs : List Lst), Q l → (fullC l p = true → G l) → ∀ x ∈ (exam ch ok p bud all n l sp fs).fs, x ∈ fs ∨ (G x ∧ fullC x p = true)
  | 0, l, sp, fs, _, _, x, hx => .inl hx
  | n + 1, l, sp, fs, h, hg, x, hx => by
    unfold exam at hx
    split at hx
    · rename_i hf
      have : x ∈ fs ++ [l] := by split at hx <;> exact hx
      rcases List.mem_append.1 this with h1 | h1
      · exact .inl h1
      · rw [List.mem_singleton.1 h1]; exact .inr ⟨hg hf, hf⟩
    · exact exLoop_mem (p := p) _ _ _ (fun m hm ho sp fs => exam_mem hQ n _ sp fs (hQ l m h hm ho).1 fun _ => (hQ l m h hm ho).2) x hx
theorem run_mem {p : Pl} {most : Int} {all : Bool} {x : Lst} (hx : x ∈ (runP p most all).fs) : PartP x p ∧ dmA x p < 0 ∧ fullC x p = true := by
  rcases exam_mem (p := p) (Q := fun l => PartP l p) (G := fun l => PartP l p ∧ dmA l p < 0) (fun l m h _ ho => by
    have ho := of_decide_eq_true ho
    exact ⟨(dmA_part ho).2, (dmA_part ho).2, ho⟩) _ _ _ _ (part_nil p) (fun h => by rw [full_nil] at h; cases h) x hx with h | ⟨⟨h1, h2⟩, h3⟩
  · simp at h
  · exact ⟨h1, h2, h3⟩
theorem planF_cases (p : Pl) (most : Int) : (planF p most).l = [] ∨ (planF p most).l ∈ (runP p most false).fs := by
  unfold planF
  split
  · cases h : (runP p most false).fs.getLast? with
    | none => exact .inl rfl
    | some l => exact .inr (List.mem_of_getLast? h)
  · exact .inl rfl
theorem planF_small {p : Pl} (most : Int) (hs : Small [] p) : Small (planF p most).l p := by
  rcases planF_cases p most with h | h
  · rw [h]; exact hs
  · obtain ⟨h1, h2, _⟩ := run_mem h
    exact (part_small hs (fewlen (dmA_part h2).1) h1 ⟨0, 0⟩).1
end Go.Proofs.Ytjknhbfcdjjbhaa
