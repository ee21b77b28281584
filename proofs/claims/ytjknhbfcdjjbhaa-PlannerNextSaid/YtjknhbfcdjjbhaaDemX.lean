/-
  demands: the statements' cut.
-/
import Derived.Test.YtjknhbfcdjjbhaaDemW
import Derived.Test.YtjknhbfcdjjbhaaDemT
namespace Go.Proofs.Ytjknhbfcdjjbhaa
open Go.Tidy
set_option maxRecDepth 100000
set_option maxHeartbeats 0
set_option linter.unusedSimpArgs false
set_option linter.unusedVariables false
variable {L : List Blk} {k : V → List Blk → Prop}
def cutF (l : List (List Mt)) (n m : Int) : List (List Mt) := l.take n.toNat ++ if 0 ≤ n ∧ n < l.length ∧ 0 < m then [((l[n.toNat]?).getD []).take m.toNat] else []
def rdR (A : List (List Mt)) : List (List V) := A.map fun r => [.d (mts r)]
theorem rdR_bel (n : Nat) : ∀ A : List (List Mt), belR n (rdR A) = true
  | [] => rfl
  | _ :: A => by simp only [rdR, List.map_cons, belR, V.belL, V.bel, Bool.true_and]; exact rdR_bel n A
def cuL (l A : List (List Mt)) : List Blk := [.cells [.d (lisD l)], .cells [.nil], .cells [.own 3 A.length 0 A.length], .row A.length 1 (rdR A)]
theorem cuL_bel (l A : List (List Mt)) : belB 4 (cuL l A) = true := by
  show (true && (true && (true && (belR 4 (rdR A) && true)))) = true
  rw [rdR_bel]; rfl
theorem rdR_rows {S : Nat → Prop} {L : List Blk} : ∀ A : List (List Mt), CvLL S L (rdR A) (A.map fun r => [mts r])
  | [] => .nil
  | x :: l => .cons (.cons (.d _) .nil) (rdR_rows l)
theorem cuL_next (l A : List (List Mt)) (r : List Mt) : [Blk.cells [.d (lisD l)], .cells [.nil], .cells [.own 3 (A.length + 1) 0 (A.length + 1)], .row (A.length + 1) 1 ((rdR A).take A.length ++ [[.d (mts r)]])] = cuL l (A ++ [r]) := by
  unfold cuL
  rw [List.take_of_length_le (by unfold rdR; rw [List.length_map]; exact Nat.le_refl _), List.length_append]
  unfold rdR
  rw [List.map_append]; rfl
theorem take_mcells (r : List Mt) (n : Nat) : (r.map Mt.cells).take (min n r.length) = (r.take n).map Mt.cells := by
  by_cases h : n ≤ r.length
  · rw [Nat.min_eq_left h, List.map_take]
  · rw [Nat.min_eq_right (by omega), List.take_of_length_le (by rw [List.length_map]; exact Nat.le_refl _), List.take_of_length_le (by omega)]
end Go.Proofs.Ytjknhbfcdjjbhaa
