/-
  The base layer: small laws for the contracts' proofs.
-/
import Derived.Test.YtnkfifkgbkgcjaaTidyU
namespace Go.Tidy
abbrev I (n : Int) : V := .d (.int .i64 n)
abbrev B (b : Bool) : V := .d (.bool b)
abbrev DI (n : Int) : D := .int .i64 n

theorem wrap_id {n : Int} (h1 : -9223372036854775808 ≤ n) (h2 : n ≤ 9223372036854775807) : IntKind.i64.wrap n = n := by
  simp only [IntKind.wrap, IntKind.bits, IntKind.signed]
  simp
  split <;> omega

theorem Idx.map {α β : Type} {f : α → β} {l : List α} {i : Int} {k : Nat → β → Prop} (n : Nat) (hi : i = n) (h : n < l.length) (hk : k n (f l[n])) : Idx (l.map f) i k :=
  Idx.intro n (f l[n]) hi (by rw [List.getElem?_map, List.getElem?_eq_getElem h]; rfl) hk
end Go.Tidy
