/-
  typing: the statements' arguments, as tidy data; the package variable spans.
-/
import Derived.Test.YtddolfgmkpfmcaaDoorTypO
import Derived.Test.YtddolfgmkpfmcaaDoorBaseI
import Derived.Test.YtddolfgmkpfmcaaDoorCards
import Derived.Test.YtddolfgmkpfmcaaDoorTie
import Derived.WalkKit
import Derived.ProofKit
import Derived.OpenShut
import Derived.Deep.DeepHandedRow
import Derived.Lib.LaidTab
namespace Go.Proofs.YtddolfgmkpfmcaaDoor
open Go.Tidy Go.ChangeShapes Go.WideShapes Go.ChangeAt Go.RowKit
set_option maxRecDepth 100000
set_option maxHeartbeats 0
set_option linter.unusedSimpArgs false
set_option linter.unusedVariables false
theorem own : ownKnob Tryd.prog.godebug = none := by kernel_rfl
theorem kids : Kids Tryd.prog (· < Tryd.prog.types.size) := kids_rows (by kernel_rfl) (by kernel_rfl)
theorem full : ∀ t e, t < Tryd.prog.types.size → Tryd.prog.underlying t = some (.slice e) → 0 < Tryd.prog.cellsOf e := slices_full_of Tryd.prog (by kernel_rfl)
def plainTys : List TypeId := [3, 4, 9, 5, 38, 28, 26, 60, 22, 69, 23, 25]
theorem plainOk : plainB Tryd.prog plainTys = true := by kernel_rfl
theorem bytesOk : bytesB Tryd.prog plainTys = true := by kernel_rfl
theorem plainLt : ∀ t ∈ plainTys, t < Tryd.prog.types.size := by
  have : plainTys.all (fun t => decide (t < Tryd.prog.types.size)) = true := by kernel_rfl
  intro t ht
  simpa using List.all_eq_true.1 this t ht
theorem intT {xs : List D} (h : TyI C.P 3 xs) (_ : ∀ y ∈ xs, Dsm reachBytes y) : ∃ n : Int, xs = [DI n] ∧ (-9223372036854775808 ≤ n ∧ n ≤ 9223372036854775807) := by
  obtain ⟨n, h, hw⟩ := h.intI Tryd.underlying3
  exact ⟨n, h, wf_i64 hw⟩
theorem cells_int : C.P.cellsOf 3 = 1 := by kernel_rfl
theorem cells_env : C.P.cellsOf 38 = 4 := by kernel_rfl
theorem at_one {xs : List D} {i : Nat} {y : D} (h : (xs.drop i).take 1 = [y]) : xs[i]? = some y := by
  have := congrArg (fun l => l[0]?) h
  simpa using this
theorem at_int {xs : List D} {i : Nat} (h : TyI C.P 3 ((xs.drop i).take (C.P.cellsOf 3))) : ∃ n : Int, xs[i]? = some (DI n) := by
  obtain ⟨n, hn, _⟩ := h.intI Tryd.underlying3
  rw [cells_int] at hn
  exact ⟨n, at_one hn⟩
theorem envT {xs : List D} (h : TyI C.P 38 xs) (_ : ∀ y ∈ xs, Dsm reachBytes y) : ∃ x : En, xs = x.cells ∧ True := by
  obtain ⟨h1, h2⟩ := h.structI Tryd.underlying38
  rw [cells_env] at h1
  simp only [List.mem_cons, List.not_mem_nil, or_false, forall_eq_or_imp, forall_eq] at h2
  obtain ⟨a0, a1, a2, a3⟩ := h2
  obtain ⟨n0, b0⟩ := at_int a0
  obtain ⟨n1, b1⟩ := at_int a1
  obtain ⟨n2, b2⟩ := at_int a2
  obtain ⟨n3, b3⟩ := at_int a3
  refine ⟨⟨n0, n1, n2, n3⟩, ?_, trivial⟩
  apply List.ext_getElem?
  intro i
  match i with
  | 0 => exact b0
  | 1 => exact b1
  | 2 => exact b2
  | 3 => exact b3
  | i + 4 => rw [List.getElem?_eq_none (by omega)]; rfl
/-! ### The package variable -/
theorem gSpans : Tryd.prog.globalNamed "assize/typing.spans" = some 0 := by kernel_rfl
theorem gType : (Tryd.prog.globals[0]?).map (·.type) = some 79 := by kernel_rfl
theorem cells_span : Tryd.prog.cellsOf 78 = 2 := by kernel_rfl
theorem cells_int' : Tryd.prog.cellsOf 3 = 1 := by kernel_rfl
theorem cells_spans : Tryd.prog.cellsOf 79 = 10 := by kernel_rfl
theorem span_cells {H : Type} {enc : TypeId × Value → H} {w : World} {base : Nat} {sp : Nat → Bool} {held : Bool} {fuel : Nat} {cs : List Value} {a b : Int} {p : List MemPlace}
    (h : DataW.trod enc Tryd.prog w base sp held fuel 78 cs = some (.agg [.lit (.int .i64 a), .lit (.int .i64 b)], p)) : cs = [.int .i64 a, .int .i64 b] := by
  obtain ⟨y0, y1, n, e, hl, h0, h1⟩ := trod_struct2 Tryd.underlying78 h
  rw [cells_span] at hl
  obtain ⟨z0, c0, e0, _⟩ := DataW.trod_int Tryd.underlying3 h0
  obtain ⟨z1, c1, e1, _⟩ := DataW.trod_int Tryd.underlying3 h1
  subst e0 e1
  simp only [Prod.mk.injEq, DataW.agg.injEq, List.cons.injEq, DataW.lit.injEq, Lit.int.injEq, true_and, and_true] at e
  obtain ⟨⟨ea, eb⟩, _⟩ := e
  subst ea eb
  rw [cells_int'] at c0 c1
  match cs, hl with
  | [v0, v1], _ =>
    simp at c0 c1
    rw [c0, c1]
def spanL : List Int := [0, 0, 2, 24, 0, 46, 0, 1, 2, 24]
theorem spans_cells {W : World} (h : laidMetH Tryd.prog Rows.typingEnvSpecRow.laid W) : ∀ i, i < 10 → W.cell? ⟨0, i, none⟩ = some (.int .i64 (spanL.getD i 0)) := by
  have h' : laidMet Tryd.prog [("assize/typing.spans", Rows.laid_assize_typing_spans)] W := h
  obtain ⟨ps, ⟨g, t, cs, fuel, p, q, hg, ht, hvar, hd, _, _⟩, _⟩ := h'
  obtain rfl := Option.some.inj (gSpans.symm.trans hg)
  obtain rfl := Option.some.inj (gType.symm.trans ht)
  obtain ⟨xs, m, rfl, hx, hlen, hxl, hf⟩ := DataW.trod_array Tryd.underlying79 hd
  rw [cells_spans] at hlen
  rw [cells_span] at hf
  match xs, hxl with
  | [x0, x1, x2, x3, x4], _ =>
    have hx' := congrArg Prod.fst hx
    simp only [Rows.laid_assize_typing_spans, List.map_cons, List.map_nil, DataW.agg.injEq, List.cons.injEq, and_true] at hx'
    obtain ⟨e0, e1, e2, e3, e4⟩ := hx'
    have f0 := span_cells ((hf 0 (by decide)).trans (congrArg some (Prod.ext e0.symm rfl)))
    have f1 := span_cells ((hf 1 (by decide)).trans (congrArg some (Prod.ext e1.symm rfl)))
    have f2 := span_cells ((hf 2 (by decide)).trans (congrArg some (Prod.ext e2.symm rfl)))
    have f3 := span_cells ((hf 3 (by decide)).trans (congrArg some (Prod.ext e3.symm rfl)))
    have f4 := span_cells ((hf 4 (by decide)).trans (congrArg some (Prod.ext e4.symm rfl)))
    have ce : ∀ i, W.cell? ⟨0, i, none⟩ = cs[i]? := World.var?_cell gSpans hvar
    have tl : ∀ i : Nat, cs[i]? = cs.toList[i]? := fun i => (Array.getElem?_toList).symm
    have two : ∀ {l : List Value} {d : Nat} {a b : Value}, (l.drop d).take 2 = [a, b] → l[d]? = some a ∧ l[d + 1]? = some b := fun {l d a b} h => by
      have h0 := congrArg (fun l => l[0]?) h
      have h1 := congrArg (fun l => l[1]?) h
      simp at h0 h1
      exact ⟨h0, h1⟩
    intro i hi
    rw [ce, tl]
    match i, hi with
    | 0, _ => exact (two f0).1
    | 1, _ => exact (two f0).2
    | 2, _ => exact (two f1).1
    | 3, _ => exact (two f1).2
    | 4, _ => exact (two f2).1
    | 5, _ => exact (two f2).2
    | 6, _ => exact (two f3).1
    | 7, _ => exact (two f3).2
    | 8, _ => exact (two f4).1
    | 9, _ => exact (two f4).2
    | i + 10, h => omega
theorem glob_ok {W : World} (h : laidMetH Tryd.prog Rows.typingEnvSpecRow.laid W) : GlobOK (fun r => r < W.heap.size) W := by
  have hc := spans_cells h
  intro p hp
  rw [show gtab = [(0, spanL.map fun n => DI n)] from rfl] at hp
  rw [List.mem_singleton.1 hp]
  refine .rptr _ _ (fun j => .int .i64 (spanL.getD j 0)) (fun j hj => ?_) ?_ (fun j x hx => ?_)
  · have hj' : j < 10 := hj
    have := hc j hj'
    rw [show (⟨0, 0, none⟩ : Addr).add j = ⟨0, j, none⟩ by by_cases h : j = 0 <;> simp [Addr.add, h]]; exact this
  · have := hc 0 (by decide)
    show 0 < W.heap.size
    rcases Nat.eq_zero_or_pos W.heap.size with h0 | h0
    · have hn : W.heap[0]? = none := Array.getElem?_eq_none (by omega)
      unfold World.cell? at this
      rw [hn] at this; simp at this
    · exact h0
  · rw [List.getElem?_map] at hx
    cases e : spanL[j]? with
    | none => rw [e] at hx; cases hx
    | some n =>
      rw [e] at hx; cases hx
      rw [List.getD_eq_getElem?_getD, e]; exact .int _ _
/-- A world for the witness. -/
noncomputable def laidWorld (os : Os) : World :=
  { World.holding Tryd.prog os ⟨#[], #[], []⟩ with heap := (World.holding Tryd.prog os ⟨#[], #[], []⟩).heap.modify 0 fun
      | .cells _ t frozen => .cells #[.int .i64 0, .int .i64 0, .int .i64 2, .int .i64 24, .int .i64 0, .int .i64 46, .int .i64 0, .int .i64 1, .int .i64 2, .int .i64 24] t frozen
      | o => o }
end Go.Proofs.YtddolfgmkpfmcaaDoor
