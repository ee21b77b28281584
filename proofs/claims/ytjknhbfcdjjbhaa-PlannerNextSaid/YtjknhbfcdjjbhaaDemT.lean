/-
  demands: the statements' arguments, as tidy data.
-/
import Derived.Test.YtjknhbfcdjjbhaaDemS
import Derived.Test.YtjknhbfcdjjbhaaBaseI
import Derived.WalkKit
import Derived.ProofKit
namespace Go.Proofs.Ytjknhbfcdjjbhaa
open Go.Tidy Go.ChangeShapes Go.WideShapes Go.ChangeAt Go.RowKit
set_option maxRecDepth 100000
set_option maxHeartbeats 0
set_option linter.unusedSimpArgs false
set_option linter.unusedVariables false
theorem own : ownKnob Try.prog.godebug = none := by kernel_rfl
theorem kids : Kids Try.prog (· < Try.prog.types.size) := kids_rows (by kernel_rfl) (by kernel_rfl)
theorem full : ∀ t e, t < Try.prog.types.size → Try.prog.underlying t = some (.slice e) → 0 < Try.prog.cellsOf e := slices_full_of Try.prog (by kernel_rfl)
def plainTys : List TypeId := [3, 4, 25, 51, 32, 22, 24, 46, 26, 28]
theorem plainOk : plainB Try.prog plainTys = true := by kernel_rfl
theorem bytesOk : bytesB Try.prog plainTys = true := by kernel_rfl
theorem plainLt : ∀ t ∈ plainTys, t < Try.prog.types.size := by
  have : plainTys.all (fun t => decide (t < Try.prog.types.size)) = true := by kernel_rfl
  intro t ht
  simpa using List.all_eq_true.1 this t ht
theorem intT {xs : List D} (h : TyI C.P 3 xs) (_ : ∀ y ∈ xs, Dsm reachBytes y) : ∃ n : Int, xs = [DI n] ∧ (-9223372036854775808 ≤ n ∧ n ≤ 9223372036854775807) := by
  obtain ⟨n, h, hw⟩ := h.intI Try.underlying3
  exact ⟨n, h, wf_i64 hw⟩
theorem cells_int : C.P.cellsOf 3 = 1 := by kernel_rfl
theorem cells_bool : C.P.cellsOf 4 = 1 := by kernel_rfl
theorem cells_ints : C.P.cellsOf 25 = 1 := by kernel_rfl
theorem cells_rr : C.P.cellsOf 22 = 1 := by kernel_rfl
theorem cells_dms : C.P.cellsOf 26 = 1 := by kernel_rfl
theorem cells_mt : C.P.cellsOf 51 = 2 := by kernel_rfl
theorem cells_dm : C.P.cellsOf 46 = 6 := by kernel_rfl
theorem cells_pl : C.P.cellsOf 28 = 3 := by kernel_rfl
theorem cells_lis : C.P.cellsOf 24 = 1 := by kernel_rfl
theorem at_one {xs : List D} {i : Nat} {y : D} (h : (xs.drop i).take 1 = [y]) : xs[i]? = some y := by
  have := congrArg (fun l => l[0]?) h
  simpa using this
theorem at_int {xs : List D} {i : Nat} (h : TyI C.P 3 ((xs.drop i).take (C.P.cellsOf 3))) : ∃ n : Int, xs[i]? = some (DI n) := by
  obtain ⟨n, hn, _⟩ := h.intI Try.underlying3
  rw [cells_int] at hn
  exact ⟨n, at_one hn⟩
theorem at_bool {xs : List D} {i : Nat} (h : TyI C.P 4 ((xs.drop i).take (C.P.cellsOf 4))) : ∃ b : Bool, xs[i]? = some (.bool b) := by
  obtain ⟨b, hn⟩ := h.boolI Try.underlying4
  rw [cells_bool] at hn
  exact ⟨b, at_one hn⟩
theorem intsT {xs : List D} (h : TyI C.P 25 xs) (hs : ∀ y ∈ xs, Dsm reachBytes y) : ∃ l : List Int, xs = [ints l] ∧ l.length ≤ 140737488355328 := by
  obtain ⟨els, rfl, h1, h2⟩ := h.slI Try.underlying25
  have hb := (hs (.sl els) (List.mem_singleton.2 rfl)).slI.1
  obtain ⟨l, rfl⟩ := map_of (f := fun n : Int => [DI n]) (l := els) fun y hy => by
    obtain ⟨n, hn, _⟩ := (h2 y hy).intI Try.underlying3
    exact ⟨n, hn⟩
  exact ⟨l, rfl, by rw [List.length_map] at hb; exact Nat.le_trans hb (by decide)⟩
theorem mtT {xs : List D} (h : TyI C.P 51 xs) : ∃ m : Mt, xs = m.cells := by
  obtain ⟨h1, h2⟩ := h.structI Try.underlying51
  rw [cells_mt] at h1
  simp only [List.mem_cons, List.not_mem_nil, or_false, forall_eq_or_imp, forall_eq] at h2
  obtain ⟨a0, a1⟩ := h2
  obtain ⟨n0, b0⟩ := at_int a0
  obtain ⟨n1, b1⟩ := at_int a1
  refine ⟨⟨n0, n1⟩, ?_⟩
  apply List.ext_getElem?
  intro i
  match i with
  | 0 => exact b0
  | 1 => exact b1
  | i + 2 => rw [List.getElem?_eq_none (by omega)]; rfl
theorem mtsT {xs : List D} (h : TyI C.P 32 xs) (hs : ∀ y ∈ xs, Dsm reachBytes y) : ∃ l : List Mt, xs = [mts l] ∧ l.length ≤ 140737488355328 := by
  obtain ⟨els, rfl, h1, h2⟩ := h.slI Try.underlying32
  have hb := (hs (.sl els) (List.mem_singleton.2 rfl)).slI.1
  obtain ⟨l, rfl⟩ := map_of (f := Mt.cells) (l := els) fun y hy => mtT (h2 y hy)
  exact ⟨l, rfl, by rw [List.length_map] at hb; exact Nat.le_trans hb (by decide)⟩
theorem rrT {xs : List D} (h : TyI C.P 22 xs) (hs : ∀ y ∈ xs, Dsm reachBytes y) : ∃ l : List (List Mt), xs = [lisD l] ∧ l.length ≤ 140737488355328 ∧ ∀ r ∈ l, r.length ≤ 140737488355328 := by
  obtain ⟨els, rfl, h1, h2⟩ := h.slI Try.underlying22
  obtain ⟨hb, hb2⟩ := (hs (.sl els) (List.mem_singleton.2 rfl)).slI
  obtain ⟨l, rfl⟩ := map_of (f := fun r : List Mt => [mts r]) (l := els) fun y hy => by
    obtain ⟨r, hr, _⟩ := mtsT (h2 y hy) (hb2 y hy)
    exact ⟨r, hr⟩
  refine ⟨l, rfl, by rw [List.length_map] at hb; exact Nat.le_trans hb (by decide), fun r hr => ?_⟩
  have := (hb2 [mts r] (List.mem_map_of_mem (f := fun r : List Mt => [mts r]) hr) (mts r) (List.mem_singleton.2 rfl)).slI.1
  rw [List.length_map] at this
  exact Nat.le_trans this (by decide)
theorem lisT {xs : List D} (h : TyI C.P 24 xs) (hs : ∀ y ∈ xs, Dsm reachBytes y) : ∃ l : List (List Mt), xs = [lisD l] ∧ l.length ≤ 140737488355328 ∧ ∀ r ∈ l, r.length ≤ 140737488355328 := by
  obtain ⟨h1, h2⟩ := h.structI Try.underlying24
  rw [cells_lis] at h1
  simp only [List.mem_cons, List.not_mem_nil, or_false, forall_eq] at h2
  rw [cells_rr, show (xs.drop 0).take 1 = xs by rw [List.drop_zero, List.take_of_length_le (by omega)]] at h2
  exact rrT h2 hs
theorem mem_of_at {xs : List D} {i : Nat} {y : D} (h : xs[i]? = some y) : y ∈ xs := List.mem_of_getElem? h
theorem dmT {xs : List D} (h : TyI C.P 46 xs) (hs : ∀ y ∈ xs, Dsm reachBytes y) : ∃ d : Dm, xs = d.cells ∧ d.clubs.length ≤ 140737488355328 := by
  obtain ⟨h1, h2⟩ := h.structI Try.underlying46
  rw [cells_dm] at h1
  simp only [List.mem_cons, List.not_mem_nil, or_false, forall_eq_or_imp, forall_eq] at h2
  obtain ⟨a0, a1, a2, a3, a4, a5⟩ := h2
  obtain ⟨n0, b0⟩ := at_int a0
  obtain ⟨n1, b1⟩ := at_int a1
  obtain ⟨n2, b2⟩ := at_int a2
  obtain ⟨n3, b3⟩ := at_int a3
  obtain ⟨n4, b4⟩ := at_int a4
  obtain ⟨l, hl, hb⟩ := intsT a5 fun y hy => hs y (List.mem_of_mem_drop (List.mem_of_mem_take hy))
  rw [cells_ints] at hl
  have b5 := at_one hl
  refine ⟨⟨n0, n1, n2, n3, n4, l⟩, ?_, hb⟩
  apply List.ext_getElem?
  intro i
  match i with
  | 0 => exact b0
  | 1 => exact b1
  | 2 => exact b2
  | 3 => exact b3
  | 4 => exact b4
  | 5 => exact b5
  | i + 6 => rw [List.getElem?_eq_none (by omega)]; rfl
theorem dmsT {xs : List D} (h : TyI C.P 26 xs) (hs : ∀ y ∈ xs, Dsm reachBytes y) : ∃ l : List Dm, xs = [.sl (l.map Dm.cells)] ∧ l.length ≤ 140737488355328 ∧ ∀ d ∈ l, d.clubs.length ≤ 140737488355328 := by
  obtain ⟨els, rfl, h1, h2⟩ := h.slI Try.underlying26
  obtain ⟨hb, hb2⟩ := (hs (.sl els) (List.mem_singleton.2 rfl)).slI
  obtain ⟨l, rfl⟩ := map_of (f := Dm.cells) (l := els) fun y hy => by
    obtain ⟨d, hd, _⟩ := dmT (h2 y hy) (hb2 y hy)
    exact ⟨d, hd⟩
  refine ⟨l, rfl, by rw [List.length_map] at hb; exact Nat.le_trans hb (by decide), fun d hd => ?_⟩
  have := (hb2 d.cells (List.mem_map_of_mem (f := Dm.cells) hd) (ints d.clubs) (by simp [Dm.cells])).slI.1
  rw [List.length_map] at this
  exact Nat.le_trans this (by decide)
structure PlB (p : Pl) : Prop where
  hc : p.clubs.length ≤ 140737488355328
  hd : ∀ d ∈ p.demands, d.clubs.length ≤ 140737488355328
  hD : p.demands.length ≤ 140737488355328
theorem plT {xs : List D} (h : TyI C.P 28 xs) (hs : ∀ y ∈ xs, Dsm reachBytes y) : ∃ p : Pl, xs = p.cells ∧ PlB p := by
  obtain ⟨h1, h2⟩ := h.structI Try.underlying28
  rw [cells_pl] at h1
  simp only [List.mem_cons, List.not_mem_nil, or_false, forall_eq_or_imp, forall_eq] at h2
  obtain ⟨a0, a1, a2⟩ := h2
  obtain ⟨l, hl, hb⟩ := intsT a0 fun y hy => hs y (List.mem_of_mem_drop (List.mem_of_mem_take hy))
  rw [cells_ints] at hl
  have b0 := at_one hl
  obtain ⟨b, b1⟩ := at_bool a1
  obtain ⟨ds, hds, hb2, hb3⟩ := dmsT a2 fun y hy => hs y (List.mem_of_mem_drop (List.mem_of_mem_take hy))
  rw [cells_dms] at hds
  have b2 := at_one hds
  refine ⟨⟨l, b, ds⟩, ?_, hb, hb3, hb2⟩
  apply List.ext_getElem?
  intro i
  match i with
  | 0 => exact b0
  | 1 => exact b1
  | 2 => exact b2
  | i + 3 => rw [List.getElem?_eq_none (by omega)]; rfl
theorem small_of {l : List (List Mt)} {p : Pl} (h : bulkN l p ≤ 200) : SmallR l p := by
  have mem : ∀ {α : Type} (f : α → Nat) (l : List α) (x : α), x ∈ l → f x ≤ (l.map f).sum := by
    intro α f l
    induction l with
    | nil => intro x hx; simp at hx
    | cons y l ih =>
      intro x hx
      simp only [List.map_cons, List.sum_cons]
      rcases List.mem_cons.1 hx with rfl | hx
      · omega
      · have := ih x hx; omega
  unfold bulkN at h
  refine ⟨⟨by omega, fun r hr => ?_, by omega, fun d hd => ?_, by omega⟩, ?_⟩
  · have := mem List.length l r hr; omega
  · have := mem (fun d : Dm => d.clubs.length) p.demands d hd; omega
  · rw [List.length_flatten]; omega
end Go.Proofs.Ytjknhbfcdjjbhaa
