/-
  The base layer: what data of a type look like.
-/
import Derived.Test.YtnkfifkgbkgcjaaTidyZ3
namespace Go.Tidy
section
variable {P : Program} {t : TypeId} {xs : List D}
theorem TyI.intI {k : IntKind} (h : TyI P t xs) (hu : P.underlying t = some (.int k)) : ∃ n : Int, xs = [.int k n] ∧ (Lit.int k n).wf = true := by
  cases h with
  | int h n hw => rw [hu] at h; cases h; exact ⟨n, rfl, hw⟩
  | bool h | str h | sl h | struct h => rw [hu] at h; cases h
theorem TyI.boolI (h : TyI P t xs) (hu : P.underlying t = some .bool) : ∃ b : Bool, xs = [.bool b] := by
  cases h with
  | bool h b => exact ⟨b, rfl⟩
  | int h | str h | sl h | struct h => rw [hu] at h; cases h
theorem TyI.strI (h : TyI P t xs) (hu : P.underlying t = some .string) : ∃ s : ByteArray, xs = [.str s] ∧ s.size ≤ maxLen := by
  cases h with
  | str h s hs => exact ⟨s, rfl, hs⟩
  | int h | bool h | sl h | struct h => rw [hu] at h; cases h
theorem TyI.slI {e : TypeId} (h : TyI P t xs) (hu : P.underlying t = some (.slice e)) : ∃ els : List (List D), xs = [.sl els] ∧ els.length ≤ maxLen ∧ ∀ y ∈ els, TyI P e y := by
  cases h with
  | sl h els hl hsz he => rw [hu] at h; cases h; exact ⟨els, rfl, hl, he⟩
  | int h | bool h | str h | struct h => rw [hu] at h; cases h
theorem TyI.structI {fs : Array Field} (h : TyI P t xs) (hu : P.underlying t = some (.struct fs)) : xs.length = P.cellsOf t ∧ ∀ f ∈ fs.toList, TyI P f.type ((xs.drop f.offset).take (P.cellsOf f.type)) := by
  cases h with
  | struct h xs hl hf => rw [hu] at h; cases h; exact ⟨hl, hf⟩
  | int h | bool h | str h | sl h => rw [hu] at h; cases h
/-- Elements, each of the form that another list gives. -/
theorem map_of {α β : Type} {f : α → β} : ∀ {l : List β}, (∀ y ∈ l, ∃ x, y = f x) → ∃ l' : List α, l = l'.map f
  | [], _ => ⟨[], rfl⟩
  | y :: l, h => by
    obtain ⟨x, rfl⟩ := h y (by simp)
    obtain ⟨l', rfl⟩ := map_of (l := l) fun z hz => h z (by simp [hz])
    exact ⟨x :: l', rfl⟩
theorem cat_parts {xs : List D} {n : Nat} : xs = xs.take n ++ xs.drop n := (List.take_append_drop n xs).symm
theorem wf_i64 {n : Int} (h : (Lit.int .i64 n).wf = true) : -9223372036854775808 ≤ n ∧ n ≤ 9223372036854775807 := by
  simp only [Lit.wf, Bool.and_eq_true, decide_eq_true_eq] at h
  exact h
end
end Go.Tidy
