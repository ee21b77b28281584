/-
  The statements' turned.
-/
import Derived.Test.YtjknhbfcdjjbhaaFixD
namespace Go.Proofs.Ytjknhbfcdjjbhaa
open Go.Tidy
set_option maxRecDepth 100000
set_option maxHeartbeats 0
set_option linter.unusedSimpArgs false
set_option linter.unusedVariables false
variable {L : List Blk} {k : V → List Blk → Prop}
def backM (m : Mt) : Mt := ⟨m.away, m.home⟩
def turnR (r : List Mt) : List Mt := r.map backM
def turnL (l : List (List Mt)) : List (List Mt) := l.map turnR
def rdM (r : List Mt) : List (List V) := r.map fun m => m.cells.map .d
theorem rdM_bel (n : Nat) : ∀ r : List Mt, belR n (rdM r) = true
  | [] => rfl
  | m :: r => by
    have := rdM_bel n r
    unfold rdM at this ⊢
    rw [List.map_cons, belR, V.belL_d, this]; rfl
def tuL (l A : List (List Mt)) (r : List Mt) : List Blk := cuL l A ++ [.row r.length 2 (rdM r)]
theorem tuL_bel (l A : List (List Mt)) (r : List Mt) : belB 5 (tuL l A r) = true := by
  show (true && (true && (true && (belR 5 (rdR A) && (belR 5 (rdM r) && true))))) = true
  rw [rdR_bel, rdM_bel]; rfl
theorem tuL_next (l A : List (List Mt)) (r : List Mt) (m : Mt) : [Blk.cells [.d (lisD l)], .cells [.nil], .cells [.own 3 A.length 0 A.length], .row A.length 1 (rdR A), .row (r.length + 1) 2 ((rdM r).take r.length ++ [m.cells.map .d])] = tuL l A (r ++ [m]) := by
  unfold tuL cuL
  rw [List.take_of_length_le (by unfold rdM; rw [List.length_map]; exact Nat.le_refl _), List.length_append]
  unfold rdM
  rw [List.map_append]; rfl
theorem rdRo_bel (n m : Nat) (hm : m < n) (g k : Nat) : ∀ A : List (List Mt), belR n (rdR A ++ [[V.own m g 0 k]]) = true
  | [] => by
    show (V.belL n [V.own m g 0 k] && true) = true
    simp [V.belL, V.bel, hm]
  | _ :: A => by simp only [rdR, List.map_cons, List.cons_append, belR, V.belL, V.bel, Bool.true_and]; exact rdRo_bel n m hm g k A
theorem tuS_bel (l A : List (List Mt)) (x : List Mt) : belB 5 [.cells [.d (lisD l)], .cells [.nil], .cells [.own 3 (A.length + 1) 0 (A.length + 1)], .row (A.length + 1) 1 (rdR A ++ [[.own 4 x.length 0 x.length]]), .row x.length 2 (rdM x)] = true := by
  show (true && (true && (true && (belR 5 (rdR A ++ [[V.own 4 x.length 0 x.length]]) && (belR 5 (rdM x) && true))))) = true
  rw [rdRo_bel 5 4 (by decide), rdM_bel]; rfl
theorem rdM_rows {S : Nat → Prop} {L : List Blk} : ∀ x : List Mt, CvLL S L (rdM x) (x.map Mt.cells)
  | [] => .nil
  | m :: x => .cons (.cons (.d _) (.cons (.d _) .nil)) (rdM_rows x)
end Go.Proofs.Ytjknhbfcdjjbhaa
