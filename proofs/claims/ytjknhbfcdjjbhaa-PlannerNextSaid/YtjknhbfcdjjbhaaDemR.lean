/-
  demands' reference: Holds, Few, Same.
-/
import Derived.Test.YtjknhbfcdjjbhaaDemQ
namespace Go.Proofs.Ytjknhbfcdjjbhaa
open Go.Tidy
set_option maxRecDepth 100000
set_option maxHeartbeats 0
set_option linter.unusedSimpArgs false
set_option linter.unusedVariables false
variable {L : List Blk} {k : V → List Blk → Prop}
def bulkN (l : List (List Mt)) (p : Pl) : Nat := l.length + p.clubs.length + p.demands.length + (l.map List.length).sum + (p.demands.map fun d => d.clubs.length).sum
theorem sum_take {α : Type} (f : α → Nat) {l : List α} {i : Nat} (h : i < l.length) : ((l.take (i + 1)).map f).sum = ((l.take i).map f).sum + f l[i] := by
  rw [take_next h, List.map_append, List.sum_append]; simp
theorem sum_take_le {α : Type} (f : α → Nat) (l : List α) (i : Nat) : ((l.take i).map f).sum ≤ (l.map f).sum := by
  conv => rhs; rw [← List.take_append_drop i l, List.map_append, List.sum_append]
  omega
structure Fits (l : List (List Mt)) (p : Pl) : Prop where
  hl : l.length ≤ 140737488355328
  hr : ∀ r ∈ l, r.length ≤ 140737488355328
  hc : p.clubs.length ≤ 140737488355328
  hd : ∀ d ∈ p.demands, d.clubs.length ≤ 140737488355328
  hD : p.demands.length ≤ 140737488355328
def hV (l : List (List Mt)) : Vw := l.map fun r => ⟨r, true, 0⟩
def hoL (l : List (List Mt)) (x : List D) (i : Nat) : List Blk := [.cells [.d (lisD l)], .cells (x.map .d), .cells [.d (.sl (l.map fun r => [mts r])), .own 3 i 0 i, .own 4 i 0 i], .row i 1 (((hV l).take i).map fun r => [B r.full]), .row i 1 (((hV l).take i).map fun r => [I r.free])]
theorem hoL_bel (l : List (List Mt)) (x : List D) (i : Nat) : belB 5 (hoL l x i) = true := by
  show (true && (V.belL 5 (x.map .d) && (true && (belR 5 (((hV l).take i).map fun r => [B r.full]) && (belR 5 (((hV l).take i).map fun r => [I r.free]) && true))))) = true
  rw [V.belL_d, fullR_bel, freeR_bel]; rfl
theorem hV_len (l : List (List Mt)) : (hV l).length = l.length := List.length_map ..
theorem hV_ok {l : List (List Mt)} (hl : l.length ≤ 1073741824) (hr : ∀ r ∈ l, r.length ≤ 4611686018427387904) : VOk (hV l) := by
  refine ⟨by rw [hV_len]; exact hl, fun r h => ?_⟩
  obtain ⟨x, hx, rfl⟩ := List.mem_map.1 h
  exact hr x hx
theorem hV_cells (l : List (List Mt)) : vwV (hV l) = .agg ([.sl (l.map fun r => [mts r]), .sl ((hV l).map fun r => [.bool r.full]), .sl ((hV l).map fun r => [DI r.free])].map .d) := by
  have e : (hV l).map (fun r => [mts r.l]) = l.map fun r => [mts r] := by unfold hV; rw [List.map_map]; rfl
  unfold vwV Vw.cells; rw [e]
theorem hoL_new (l : List (List Mt)) (x : List D) (i : Nat) (hi : i < l.length) : [.cells [.d (lisD l)], .cells (x.map .d), .cells [.d (.sl (l.map fun r => [mts r])), .own 3 (i + 1) 0 (i + 1), .own 4 (i + 1) 0 (i + 1)],
    .row (i + 1) 1 ((((hV l).take i).map fun r => [B r.full]).take i ++ [[B true]]), .row (i + 1) 1 ((((hV l).take i).map fun r => [I r.free]).take i ++ [[I 0]])] = hoL l x (i + 1) := by
  have hiv : i < (hV l).length := by rw [hV_len]; exact hi
  have hvi : (hV l)[i] = ⟨l[i], true, 0⟩ := List.getElem_map ..
  have hlv := hV_len l
  unfold hoL
  rw [take_next hiv, List.map_append, List.map_append, hvi, List.take_of_length_le (l := ((hV l).take i).map fun r => [B r.full]) (by simp; omega), List.take_of_length_le (l := ((hV l).take i).map fun r => [I r.free]) (by simp; omega)]
  rfl
def rholdsF (l : List (List Mt)) (d : Dm) : Bool := decide (1 ≤ d.kind ∧ d.kind ≤ 10) && !(decide (d.kind ≤ 4) && (decide (d.round < 0) || decide ((l.length : Int) ≤ d.round))) && !vDooms (hV l) d
end Go.Proofs.Ytjknhbfcdjjbhaa
