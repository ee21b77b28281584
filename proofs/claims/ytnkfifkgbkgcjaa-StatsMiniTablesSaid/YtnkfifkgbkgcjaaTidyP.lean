/-
  The base layer: regions whose order is drawn.
-/
import Derived.Test.YtnkfifkgbkgcjaaTidyN
import Derived.Orders
namespace Go.Tidy

/-! ### Walked in every order -/
def rdy (ops : List Oper) (done : List Nat) : List Nat :=
  (List.range ops.length).filter fun i => !done.contains i && match ops[i]? with | some o => o.after.toList.all fun e => !Region.binds .any e || done.contains e.on | none => false
def AllP {α : Type} (p : α → Prop) : List α → Prop
  | [] => True
  | x :: r => p x ∧ AllP p r
theorem AllP.mem {α : Type} {p : α → Prop} : ∀ {l : List α}, AllP p l → ∀ x ∈ l, p x
  | [], _, x, hx => by simp at hx
  | y :: r, h, x, hx => by
    rcases List.mem_cons.1 hx with rfl | hx
    · exact h.1
    · exact h.2.mem x hx

def vAny (C : Ctx) (n : Nat) (ops : List Oper) : Nat → List Nat → List (Nat × V) → List Blk → (List (Nat × V) → List Blk → Prop) → Prop
  | 0, _done, fr, L, K => K fr L
  | f + 1, done, fr, L, K =>
    match rdy ops done with
    | [] => K fr L
    | r => AllP (fun i => match ops[i]? with | some o => vcOp1 C n ops o fr L fun fr' L' => vAny C n ops f (i :: done) fr' L' K | none => False) r

section
variable {C : Ctx} {n : Nat} {ops : Array Oper} {K : List (Nat × V) → List Blk → Prop}

def Same (ops : Array Oper) (done : List Nat) (listed : Array Bool) : Prop := listed.size = ops.size ∧ ∀ i, i < ops.size → listed.getD i false = done.contains i

theorem Same.none (ops : Array Oper) : Same ops [] (Array.replicate ops.size false) := ⟨by simp, fun i hi => by simp [Array.getD, hi]⟩
theorem Same.put {done : List Nat} {listed : Array Bool} (h : Same ops done listed) {i : Nat} (_hi : i < ops.size) : Same ops (i :: done) (listed.setIfInBounds i true) := by
  refine ⟨by simp [h.1], fun j hj => ?_⟩
  have hj' : j < listed.size := by rw [h.1]; exact hj
  simp only [Array.getD_eq_getD_getElem?, List.contains_cons]
  by_cases e : i = j
  · subst e
    rw [Array.getElem?_setIfInBounds_self_of_lt hj']
    simp
  · rw [Array.getElem?_setIfInBounds_ne e]
    have := h.2 j hj
    rw [Array.getD_eq_getD_getElem?] at this
    rw [this]
    simp [Ne.symm e]

theorem getD_of_lt {a : Array Bool} {i : Nat} (h : i < a.size) (x y : Bool) : a.getD i x = a.getD i y := by simp [Array.getD, h]

theorem Same.ready {done : List Nat} {listed : Array Bool} (h : Same ops done listed) (hedge : ∀ (i : Nat) (o : Oper) (e : Edge), ops[i]? = some o → e ∈ o.after.toList → Region.binds .any e = true → e.on < ops.size) :
    Region.ready .any ops listed = rdy ops.toList done := by
  unfold Region.ready rdy
  rw [show ops.toList.length = ops.size by simp]
  apply List.filter_congr
  intro i hi
  have hi' : i < ops.size := by simpa using hi
  rw [getD_of_lt (by rw [h.1]; exact hi') true false, h.2 i hi']
  congr 1
  rw [show ops.toList[i]? = ops[i]? by simp]
  cases ho : ops[i]? with
  | none => rfl
  | some o =>
    simp only [Option.map_some, Option.getD_some]
    rw [← Array.all_toList]
    rw [Bool.eq_iff_iff, List.all_eq_true, List.all_eq_true]
    refine forall_congr' fun e => forall_congr' fun he => ?_
    cases hb : Region.binds .any e with
    | false => simp
    | true => simp only [Bool.not_true, Bool.false_or]; rw [h.2 _ (hedge i o e ho he hb)]

def edgesB (ops : List Oper) : Bool := ops.all fun o => o.after.toList.all fun e => !Region.binds .any e || Nat.blt e.on ops.length
theorem edgesB.out (h : edgesB ops.toList = true) : ∀ (i : Nat) (o : Oper) (e : Edge), ops[i]? = some o → e ∈ o.after.toList → Region.binds .any e = true → e.on < ops.size := by
  intro i o e ho he hb
  unfold edgesB at h
  rw [List.all_eq_true] at h
  have := h o (List.mem_of_getElem? (i := i) (by simpa using ho))
  rw [List.all_eq_true] at this
  have := this e he
  simpa [hb, Nat.blt_eq] using this

theorem VLe.refl (x : V) : VLe x x := fun _ _ _ _ h => h

theorem any_go (hedge : edgesB ops.toList = true) : ∀ (f t : Nat) (done : List Nat) (listed : Array Bool) (fr : List (Nat × V)) (L : List Blk), Same ops done listed → vAny C n ops.toList f done fr L K →
    vOpsC C n ops.toList ((Region.linearise.go .any ops f t listed []).filterMap fun i => ops[i]?) fr L K
  | 0, t, done, listed, fr, L, hs, h => ⟨fr, FrLe.refl fr, h⟩
  | f + 1, t, done, listed, fr, L, hs, h => by
    simp only [Region.linearise.go]
    show vOpsC C n ops.toList ((match (Region.ready .any ops listed)[t % (Region.ready .any ops listed).length]? with
      | some i => Region.linearise.go .any ops f (t / (Region.ready .any ops listed).length) (listed.setIfInBounds i true) [i]
      | none => [].reverse).filterMap fun i => ops[i]?) fr L K
    rw [hs.ready (edgesB.out hedge)]
    cases hi : (rdy ops.toList done)[t % (rdy ops.toList done).length]? with
    | none =>
      have hnil : rdy ops.toList done = [] := by
        cases hr : rdy ops.toList done with
        | nil => rfl
        | cons x xs =>
          rw [hr] at hi
          have hlt : t % (x :: xs).length < (x :: xs).length := Nat.mod_lt _ (by simp)
          simp at hi
          simp at hlt
          omega
      simp only [vAny, hnil] at h
      exact ⟨fr, FrLe.refl fr, h⟩
    | some i =>
      have hmem := List.mem_of_getElem? hi
      have hk : AllP (fun i => match ops.toList[i]? with | some o => vcOp1 C n ops.toList o fr L fun fr' L' => vAny C n ops.toList f (i :: done) fr' L' K | none => False) (rdy ops.toList done) := by
        simp only [vAny] at h
        cases hr : rdy ops.toList done with
        | nil => trivial
        | cons x xs => rw [hr] at h; exact h
      have hk := hk.mem i hmem
      have hlt : i < ops.size := by
        simp only [rdy, List.mem_filter, List.mem_range] at hmem
        simpa using hmem.1
      have ho : ops[i]? = some ops[i] := Array.getElem?_eq_getElem hlt
      rw [show ops.toList[i]? = some ops[i] by simp] at hk
      simp only [] at hk ⊢
      rw [linearise_go_acc, List.reverse_singleton, List.singleton_append, List.filterMap_cons]
      simp only [ho]
      refine ⟨fr, FrLe.refl fr, ?_⟩
      refine vcOp1_mono hk fun fr' L' hv => ?_
      exact any_go hedge f _ (i :: done) _ fr' L' (hs.put hlt) hv
end

theorem DrawP.all {C : Ctx} {n : Nat} {ops : Array Oper} {fr : List (Nat × V)} {L : List Blk} {K : List (Nat × V) → List Blk → Prop} (hm : C.P.follows .mixedOrders = true) (hedge : edgesB ops.toList = true)
    (h : vAny C n ops.toList ops.toList.length [] fr L K) : DrawP C n ops fr L K := by
  unfold DrawP
  intro t
  simp only [Region.schedule, hm, Bool.true_or, if_true, Region.linearise]
  exact any_go hedge _ t [] _ fr L (Same.none ops) (by simpa using h)
end Go.Tidy
