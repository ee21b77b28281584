/-
  The base layer: searching lists.
-/
import Derived.Test.YtnkfifkgbkgcjaaTidyV2
namespace Go.Tidy

def ints (l : List Int) : D := .sl (l.map fun n => [DI n])
def findI {α : Type} (p : α → Bool) (l : List α) : Int := match l.findIdx? p with | some i => i | none => -1

theorem findI_hit {α : Type} {p : α → Bool} {l : List α} {i : Nat} (h : i < l.length) (hp : p l[i] = true) (hb : ∀ (j : Nat) (hj : j < l.length), j < i → p l[j] = false) : findI p l = i := by
  have : l.findIdx? p = some i := by
    rw [List.findIdx?_eq_some_iff_getElem]
    exact ⟨h, hp, fun j hj => by simp [hb j (by omega) hj]⟩
  simp [findI, this]
theorem findI_miss {α : Type} {p : α → Bool} {l : List α} (hb : ∀ (j : Nat) (hj : j < l.length), p l[j] = false) : findI p l = -1 := by
  have : l.findIdx? p = none := by
    rw [List.findIdx?_eq_none_iff]
    intro x hx
    obtain ⟨j, hj, rfl⟩ := List.getElem_of_mem hx
    exact hb j hj
  simp [findI, this]
theorem findI_any {α : Type} (p : α → Bool) (l : List α) : decide (0 ≤ findI p l) = l.any p := by
  unfold findI
  cases h : l.findIdx? p with
  | none =>
    rw [List.findIdx?_eq_none_iff] at h
    have : l.any p = false := by rw [List.any_eq_false]; intro x hx; simp [h x hx]
    simp [this]
  | some i =>
    rw [List.findIdx?_eq_some_iff_getElem] at h
    obtain ⟨hi, hp, _⟩ := h
    have : l.any p = true := List.any_eq_true.2 ⟨l[i], List.getElem_mem hi, hp⟩
    simp [this]

/-- How far a search has come. -/
structure Far {α : Type} (p : α → Bool) (l : List α) where
  i : Nat
  le : i ≤ l.length
  no : ∀ (j : Nat) (hj : j < l.length), j < i → p l[j] = false
def Far.zero {α : Type} (p : α → Bool) (l : List α) : Far p l := ⟨0, Nat.zero_le _, fun j _ h => absurd h (Nat.not_lt_zero j)⟩
def Far.next {α : Type} {p : α → Bool} {l : List α} (s : Far p l) (h : s.i < l.length) (hp : p l[s.i] = false) : Far p l :=
  ⟨s.i + 1, h, fun j hj hji => by
    by_cases e : j = s.i
    · subst e; exact hp
    · exact s.no j hj (by omega)⟩
end Go.Tidy
