/-
  typing: conditions, orders and rules that are arguments, as tidy data.
-/
import Derived.Test.YtddolfgmkpfmcaaDoorTypZ
namespace Go.Proofs.YtddolfgmkpfmcaaDoor
open Go.Tidy Go.ChangeShapes Go.WideShapes Go.ChangeAt Go.RowKit
set_option maxRecDepth 100000
set_option maxHeartbeats 0
set_option linter.unusedSimpArgs false
set_option linter.unusedVariables false
theorem map_of2 {α β : Type} {f : α → β} {p : α → Prop} : ∀ {l : List β}, (∀ y ∈ l, ∃ x, y = f x ∧ p x) → ∃ l' : List α, l = l'.map f ∧ ∀ x ∈ l', p x
  | [], _ => ⟨[], rfl, fun x h => by cases h⟩
  | y :: l, h => by
    obtain ⟨x, hx, hp⟩ := h y (by simp)
    obtain ⟨l', hl, hp'⟩ := map_of2 (l := l) fun y hy => h y (by simp [hy])
    exact ⟨x :: l', by rw [hx, hl]; rfl, fun z hz => by
      rcases List.mem_cons.1 hz with rfl | hz
      · exact hp
      · exact hp' z hz⟩
theorem cells_cond : C.P.cellsOf 28 = 4 := by kernel_rfl
theorem cells_conds : C.P.cellsOf 26 = 1 := by kernel_rfl
theorem cells_step : C.P.cellsOf 60 = 8 := by kernel_rfl
theorem cells_steps : C.P.cellsOf 22 = 1 := by kernel_rfl
theorem cells_zone : C.P.cellsOf 69 = 3 := by kernel_rfl
theorem cells_zones : C.P.cellsOf 23 = 1 := by kernel_rfl
theorem cells_rules : C.P.cellsOf 25 = 6 := by kernel_rfl
theorem cells_str : C.P.cellsOf 9 = 1 := by kernel_rfl
theorem len_b {n : Nat} (h : n * slW ≤ reachBytes) : n ≤ 4398046511104 := by
  have h1 : n * 32 ≤ 140737488351232 := h
  omega
theorem mem_at {xs : List D} {i : Nat} {y : D} (h : xs[i]? = some y) : y ∈ xs := List.mem_of_getElem? h
theorem at_str {xs : List D} {i : Nat} (h : TyI C.P 9 ((xs.drop i).take (C.P.cellsOf 9))) : ∃ s : ByteArray, xs[i]? = some (.str s) := by
  obtain ⟨s, hs, _⟩ := h.strI Tryd.underlying9
  rw [cells_str] at hs
  exact ⟨s, at_one hs⟩
theorem size_at {xs : List D} {els : List (List D)} (h : (.sl els : D) ∈ xs) {y : List D} (hy : y ∈ els) : SizeOf.sizeOf y < SizeOf.sizeOf xs := by
  have h1 := List.sizeOf_lt_of_mem h
  have h2 := List.sizeOf_lt_of_mem hy
  simp only [D.sl.sizeOf_spec] at h1
  omega
theorem condT_s : ∀ (n : Nat) (xs : List D), SizeOf.sizeOf xs ≤ n → TyI C.P 28 xs → (∀ y ∈ xs, Dsm reachBytes y) → ∃ c : Co, xs = c.cells ∧ LCo c
  | 0, xs, hz, _, _ => absurd hz (by cases xs <;> simp)
  | n + 1, xs, hz, h, hs => by
    obtain ⟨h1, h2⟩ := h.structI Tryd.underlying28
    rw [cells_cond] at h1
    simp only [List.mem_cons, List.not_mem_nil, or_false, forall_eq_or_imp, forall_eq] at h2
    obtain ⟨a0, a1, a2, a3⟩ := h2
    obtain ⟨n0, b0⟩ := at_int a0
    obtain ⟨n1, b1⟩ := at_int a1
    obtain ⟨n2, b2⟩ := at_int a2
    obtain ⟨els, e3, _, h5⟩ := a3.slI Tryd.underlying26
    rw [cells_conds] at e3
    have b3 := at_one e3
    have hd := hs _ (mem_at b3)
    obtain ⟨l, rfl, hl⟩ := map_of2 (f := Co.cells) (p := LCo) (l := els) fun y hy =>
      condT_s n y (by have := size_at (mem_at b3) hy; omega) (h5 y hy) (hd.slI.2 y hy)
    refine ⟨.mk n0 n1 n2 l, ?_, .mk (by have := len_b hd.slL; rw [List.length_map] at this; exact this) hl⟩
    rw [Co.cells_eq]
    apply List.ext_getElem?
    intro i
    match i with
    | 0 => exact b0
    | 1 => exact b1
    | 2 => exact b2
    | 3 => exact b3
    | i + 4 => rw [List.getElem?_eq_none (by omega)]; rfl
theorem condT {xs : List D} (h : TyI C.P 28 xs) (hs : ∀ y ∈ xs, Dsm reachBytes y) : ∃ c : Co, xs = c.cells ∧ LCo c := condT_s _ xs (Nat.le_refl _) h hs
theorem get_mid {xs ys : List D} {i n : Nat} (h : (xs.drop i).take n = ys) {j : Nat} (hj : j < n) : xs[i + j]? = ys[j]? := by
  rw [← h, List.getElem?_take, if_pos hj, List.getElem?_drop]
theorem stepT_s : ∀ (n : Nat) (xs : List D), SizeOf.sizeOf xs ≤ n → TyI C.P 60 xs → (∀ y ∈ xs, Dsm reachBytes y) → ∃ c : Sp, xs = c.cells ∧ LSp c
  | 0, xs, hz, _, _ => absurd hz (by cases xs <;> simp)
  | n + 1, xs, hz, h, hs => by
    obtain ⟨h1, h2⟩ := h.structI Tryd.underlying60
    rw [cells_step] at h1
    simp only [List.mem_cons, List.not_mem_nil, or_false, forall_eq_or_imp, forall_eq] at h2
    obtain ⟨a0, a1, a2, a3, a4⟩ := h2
    obtain ⟨n0, b0⟩ := at_int a0
    obtain ⟨n1, b1⟩ := at_int a1
    obtain ⟨c, hc, hlc⟩ := condT a2 fun y hy => hs y (List.mem_of_mem_drop (List.mem_of_mem_take hy))
    rw [cells_cond, Co.cells_eq] at hc
    obtain ⟨els, e3, _, h5⟩ := a3.slI Tryd.underlying22
    obtain ⟨els2, e4, _, h6⟩ := a4.slI Tryd.underlying22
    rw [cells_steps] at e3 e4
    have b3 := at_one e3
    have b4 := at_one e4
    have hd := hs _ (mem_at b3)
    have hd2 := hs _ (mem_at b4)
    obtain ⟨t, rfl, ht⟩ := map_of2 (f := Sp.cells) (p := LSp) (l := els) fun y hy =>
      stepT_s n y (by have := size_at (mem_at b3) hy; omega) (h5 y hy) (hd.slI.2 y hy)
    obtain ⟨e, rfl, he⟩ := map_of2 (f := Sp.cells) (p := LSp) (l := els2) fun y hy =>
      stepT_s n y (by have := size_at (mem_at b4) hy; omega) (h6 y hy) (hd2.slI.2 y hy)
    refine ⟨.mk n0 n1 c t e, ?_, .mk (by have := len_b hd.slL; rw [List.length_map] at this; exact this) (by have := len_b hd2.slL; rw [List.length_map] at this; exact this) hlc ht he⟩
    rw [Sp.cells_eq]
    apply List.ext_getElem?
    intro i
    match i with
    | 0 => exact b0
    | 1 => exact b1
    | 2 => exact get_mid hc (j := 0) (by decide)
    | 3 => exact get_mid hc (j := 1) (by decide)
    | 4 => exact get_mid hc (j := 2) (by decide)
    | 5 => exact get_mid hc (j := 3) (by decide)
    | 6 => exact b3
    | 7 => exact b4
    | i + 8 => rw [List.getElem?_eq_none (by omega)]; rfl
theorem stepsT {xs : List D} (h : TyI C.P 22 xs) (hs : ∀ y ∈ xs, Dsm reachBytes y) : ∃ l : List Sp, xs = [sps l] ∧ LSs l := by
  obtain ⟨els, rfl, h1, h2⟩ := h.slI Tryd.underlying22
  have hd := hs (.sl els) (List.mem_singleton.2 rfl)
  obtain ⟨l, rfl, hl⟩ := map_of2 (f := Sp.cells) (p := LSp) (l := els) fun y hy => stepT_s _ y (Nat.le_refl _) (h2 y hy) (hd.slI.2 y hy)
  exact ⟨l, rfl, by have := len_b hd.slL; rw [List.length_map] at this; exact this, hl⟩
theorem zoneT {xs : List D} (h : TyI C.P 69 xs) (hs : ∀ y ∈ xs, Dsm reachBytes y) : ∃ z : Zn, xs = z.cells ∧ z.name.size ≤ 4611686018427387904 := by
  obtain ⟨h1, h2⟩ := h.structI Tryd.underlying69
  rw [cells_zone] at h1
  simp only [List.mem_cons, List.not_mem_nil, or_false, forall_eq_or_imp, forall_eq] at h2
  obtain ⟨a0, a1, a2⟩ := h2
  obtain ⟨s, b0⟩ := at_str a0
  obtain ⟨n1, b1⟩ := at_int a1
  obtain ⟨n2, b2⟩ := at_int a2
  refine ⟨⟨s, n1, n2⟩, ?_, Nat.le_trans (hs _ (mem_at b0)).strI (by decide)⟩
  apply List.ext_getElem?
  intro i
  match i with
  | 0 => exact b0
  | 1 => exact b1
  | 2 => exact b2
  | i + 3 => rw [List.getElem?_eq_none (by omega)]; rfl
theorem zonesT {xs : List D} (h : TyI C.P 23 xs) (hs : ∀ y ∈ xs, Dsm reachBytes y) : ∃ l : List Zn, xs = [zns l] ∧ l.length ≤ 4398046511104 ∧ ∀ z ∈ l, z.name.size ≤ 4611686018427387904 := by
  obtain ⟨els, rfl, h1, h2⟩ := h.slI Tryd.underlying23
  have hd := hs (.sl els) (List.mem_singleton.2 rfl)
  obtain ⟨l, rfl, hl⟩ := map_of2 (f := Zn.cells) (p := fun z => z.name.size ≤ 4611686018427387904) (l := els) fun y hy => zoneT (h2 y hy) (hd.slI.2 y hy)
  exact ⟨l, rfl, by have := len_b hd.slL; rw [List.length_map] at this; exact this, hl⟩
theorem rulesT {xs : List D} (h : TyI C.P 25 xs) (hs : ∀ y ∈ xs, Dsm reachBytes y) : ∃ r : Ru, xs = r.cells ∧ LRu r := by
  obtain ⟨h1, h2⟩ := h.structI Tryd.underlying25
  rw [cells_rules] at h1
  simp only [List.mem_cons, List.not_mem_nil, or_false, forall_eq_or_imp, forall_eq] at h2
  obtain ⟨a0, a1, a2, a3, a4, a5⟩ := h2
  obtain ⟨s, b0⟩ := at_str a0
  obtain ⟨n1, b1⟩ := at_int a1
  obtain ⟨n2, b2⟩ := at_int a2
  obtain ⟨n3, b3⟩ := at_int a3
  obtain ⟨o, ho, hlo⟩ := stepsT a4 fun y hy => hs y (List.mem_of_mem_drop (List.mem_of_mem_take hy))
  obtain ⟨z, hz, hlz, hnz⟩ := zonesT a5 fun y hy => hs y (List.mem_of_mem_drop (List.mem_of_mem_take hy))
  rw [cells_steps] at ho
  rw [cells_zones] at hz
  have b4 := at_one ho
  have b5 := at_one hz
  refine ⟨⟨s, n1, n2, n3, o, z⟩, ?_, ⟨Nat.le_trans (hs _ (mem_at b0)).strI (by decide), hlo, Nat.le_trans hlz (by decide), hnz⟩⟩
  apply List.ext_getElem?
  intro i
  match i with
  | 0 => exact b0
  | 1 => exact b1
  | 2 => exact b2
  | 3 => exact b3
  | 4 => exact b4
  | 5 => exact b5
  | i + 6 => rw [List.getElem?_eq_none (by omega)]; rfl
end Go.Proofs.YtddolfgmkpfmcaaDoor
