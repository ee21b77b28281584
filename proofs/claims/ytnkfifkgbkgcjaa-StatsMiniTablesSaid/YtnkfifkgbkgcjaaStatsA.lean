/-
  stats: the checks of Rows; what a side counts.
-/
import Derived.Test.YtnkfifkgbkgcjaaRow
namespace Go.Proofs.Ytnkfifkgbkgcjaa
open Go.Tidy
set_option maxRecDepth 100000
set_option maxHeartbeats 0
set_option linter.unusedSimpArgs false
set_option linter.unusedVariables false
variable {L : List Blk} {k : V → List Blk → Prop}

/-- Numbers of clubs in increasing order. -/
def incr : List Int → Bool
  | [] => true
  | [c] => decide (0 ≤ c ∧ c < 192)
  | c :: d :: r => decide (0 ≤ c ∧ c < 192) && decide (c < d) && incr (d :: r)
/-- How far the clubs are in order. -/
def okAt (l : List Int) (j : Nat) : Prop := ∀ c, l[j]? = some c → (0 ≤ c ∧ c < 192) ∧ (∀ d, 0 < j → l[j - 1]? = some d → d < c)
theorem incr_iff : ∀ l : List Int, incr l = true ↔ ∀ j, okAt l j
  | [] => by simp [incr, okAt]
  | [c] => by
    simp only [incr, decide_eq_true_eq]
    refine ⟨fun h j x hx => ?_, fun h => (h 0 c rfl).1⟩
    cases j with
    | zero => simp at hx; subst hx; exact ⟨h, fun d hd => absurd hd (by omega)⟩
    | succ j => simp at hx
  | c :: d :: r => by
    simp only [incr, Bool.and_eq_true, decide_eq_true_eq]
    rw [incr_iff (d :: r)]
    constructor
    · rintro ⟨⟨h1, h2⟩, h3⟩ j x hx
      cases j with
      | zero => simp at hx; subst hx; exact ⟨h1, fun d hd => absurd hd (by omega)⟩
      | succ j =>
        have := h3 j x (by simpa using hx)
        refine ⟨this.1, fun y _ hy => ?_⟩
        cases j with
        | zero => simp at hx hy; subst hx hy; exact h2
        | succ j => exact this.2 y (by omega) (by simpa using hy)
    · intro h
      refine ⟨⟨(h 0 c rfl).1, ?_⟩, fun j x hx => ⟨(h (j + 1) x (by simpa using hx)).1, fun y hj hy => ?_⟩⟩
      · exact (h 1 d rfl).2 c (by omega) rfl
      · refine (h (j + 1) x (by simpa using hx)).2 y (by omega) ?_
        cases j with
        | zero => omega
        | succ j => simpa using hy
def fieldOk (l : List Int) (least : Nat) : Bool := incr l && decide (least ≤ l.length) && decide (l.length ≤ 24)

structure FarOk (l : List Int) where
  i : Nat
  le : i ≤ l.length
  ok : ∀ j, j < i → okAt l j
def FarOk.zero (l : List Int) : FarOk l := ⟨0, Nat.zero_le _, fun j h => absurd h (Nat.not_lt_zero j)⟩
def FarOk.next {l : List Int} (s : FarOk l) (h : s.i < l.length) (hp : okAt l s.i) : FarOk l :=
  ⟨s.i + 1, h, fun j hj => by
    by_cases e : j = s.i
    · subst e; exact hp
    · exact s.ok j (by omega)⟩
theorem FarOk.all {l : List Int} (s : FarOk l) (h : ¬ s.i < l.length) : incr l = true := (incr_iff l).2 fun j => by
  by_cases hj : j < s.i
  · exact s.ok j hj
  · intro c hc; have := lt_of_get hc; omega
theorem okAt_no {l : List Int} {j : Nat} (h : ¬ okAt l j) : incr l = false := by
  cases e : incr l with
  | false => rfl
  | true => exact absurd ((incr_iff l).1 e j) h

theorem fieldOk_no {l : List Int} {j least : Nat} (h : ¬ okAt l j) : false = fieldOk l least := by simp [fieldOk, okAt_no h]
theorem okAt_at {l : List Int} {j : Nat} (hj : j < l.length) : okAt l j ↔ (0 ≤ l[j] ∧ l[j] < 192) ∧ ∀ h : 0 < j, l[j - 1]'(by omega) < l[j] := by
  refine ⟨fun h => ⟨(h _ (List.getElem?_eq_getElem hj)).1, fun h0 => (h _ (List.getElem?_eq_getElem hj)).2 _ h0 (List.getElem?_eq_getElem (by omega))⟩, fun h c hc => ?_⟩
  rw [List.getElem?_eq_getElem hj] at hc
  cases hc
  refine ⟨h.1, fun d h0 hd => ?_⟩
  rw [List.getElem?_eq_getElem (by omega)] at hd
  cases hd
  exact h.2 h0
theorem isField_c (l : List Int) (hl : l.length ≤ 4611686018427387904) (h : k (B (fieldOk l 1)) L) : CallP C 38 [.d (ints l)] L k := by
  refine CallP.pure ?_ rfl (fun _ => rfl) h
  clear h
  refine callP_of C_ok Try.func38 rfl rfl (n := _) rfl (Nat.le_of_ble_eq_true rfl) (rs := _) rfl ?_
  conv => whnf
  refine LoopP.intro (ι := FarOk l) (fun s => ⟨[(0, .d (ints l)), (2, B false), (5, .d (ints l)), (6, I l.length), (7, I s.i)], 40, [], [], none⟩) (fun s => l.length - s.i) (FarOk.zero l) ?_ ?_
  · exact Weak.forget ⟨rfl, rfl, rfl, congrArg I (by simp), rfl, trivial⟩
  intro s
  conv => whnf
  refine Br.dec (fun h => ?_) (fun h => ?_)
  · have hi : s.i < l.length := by simpa using h
    conv => whnf
    refine Idx.map s.i rfl hi ?_
    repeat' (conv => whnf
             first | refine Br.tt ?_ | refine Br.ff ?_ | refine Br.dec (fun h => ?_) (fun h => ?_) | refine Br.not ?_ | refine Br.intro (fun h => ?_) (fun h => ?_) | refine GetE.intro _ rfl ?_ | refine Need.intro rfl ?_ | refine DrawP.go mixed rfl ?_ | refine Idx.map (s.i - 1) (by rw [wrap_id] <;> omega) (by omega) ?_ | refine FinP.drop (n := 0) rfl (Nat.le_refl 0) rfl rfl ⟨rfl, congrArg B ?_⟩)
    · exact fieldOk_no (j := s.i) fun ho => by have := ((okAt_at hi).1 ho).1; omega
    · exact fieldOk_no (j := s.i) fun ho => by have := ((okAt_at hi).1 ho).1; omega
    · rename_i h0 h2
      exact fieldOk_no (j := s.i) fun ho => by have := ((okAt_at hi).1 ho).2 (by omega); omega
    · rename_i h3 h2 h1 h0
      exact ⟨s.next hi ((okAt_at hi).2 ⟨by omega, fun _ => by omega⟩), by simp only [FarOk.next]; omega, Weak.by ⟨rfl, rfl, rfl, rfl, congrArg I (by rw [wrap_id] <;> (try simp only [FarOk.next]) <;> omega), trivial⟩⟩
    · rename_i h2 h1 h0
      exact ⟨s.next hi ((okAt_at hi).2 ⟨by omega, fun _ => by omega⟩), by simp only [FarOk.next]; omega, Weak.by ⟨rfl, rfl, rfl, rfl, congrArg I (by rw [wrap_id] <;> (try simp only [FarOk.next]) <;> omega), trivial⟩⟩
  · have hi : ¬ s.i < l.length := by simpa using h
    have hin := s.all hi
    repeat' (conv => whnf
             first | refine Br.tt ?_ | refine Br.ff ?_ | refine Br.dec (fun h => ?_) (fun h => ?_) | refine Br.not ?_ | refine Br.intro (fun h => ?_) (fun h => ?_) | refine GetE.intro _ rfl ?_ | refine Need.intro rfl ?_ | refine DrawP.go mixed rfl ?_ | refine FinP.drop (n := 0) rfl (Nat.le_refl 0) rfl rfl ⟨rfl, congrArg B ?_⟩)
    all_goals (simp at *)
    all_goals (rw [Bool.eq_iff_iff]; simp [fieldOk, hin]; omega)
theorem wpoints_c (n : Int) (h : k (B (decide (-99 ≤ n ∧ n ≤ 99))) L) : CallP C 54 [I n] L k := by
  refine CallP.pure ?_ rfl (fun _ => rfl) h
  clear h
  refine callP_of C_ok Try.func54 rfl rfl (n := _) rfl (Nat.le_of_ble_eq_true rfl) (rs := _) rfl ?_
  repeat' (conv => whnf
           first | refine Br.tt ?_ | refine Br.ff ?_ | refine Br.dec (fun h => ?_) (fun h => ?_) | refine Br.not ?_ | refine Br.intro (fun h => ?_) (fun h => ?_) | refine GetE.intro _ rfl ?_ | refine Need.intro rfl ?_ | refine DrawP.go mixed rfl ?_ | refine FinP.drop (n := 0) rfl (Nat.le_refl 0) rfl rfl ⟨rfl, congrArg B ?_⟩)
  all_goals (simp_all; try omega)
structure Worth where
  (win draw loss : Int)
def Worth.cells (w : Worth) : List D := [DI w.win, DI w.draw, DI w.loss]
abbrev worthV (w : Worth) : V := .agg (w.cells.map .d)
def worthOk (w : Worth) : Prop := (-99 ≤ w.win ∧ w.win ≤ 99) ∧ (-99 ≤ w.draw ∧ w.draw ≤ 99) ∧ (-99 ≤ w.loss ∧ w.loss ≤ 99)
instance (w : Worth) : Decidable (worthOk w) := by unfold worthOk; infer_instance
theorem worth_c (w : Worth) (h : k (B (decide (worthOk w))) L) : CallP C 39 [worthV w] L k := by
  refine CallP.pure ?_ rfl (fun _ => rfl) h
  clear h
  refine callP_of C_ok Try.func39 rfl rfl (n := _) rfl (Nat.le_of_ble_eq_true rfl) (rs := _) rfl ?_
  repeat' (conv => whnf
           first | refine Br.tt ?_ | refine Br.ff ?_ | refine Br.dec (fun h => ?_) (fun h => ?_) | refine Br.not ?_ | refine Br.intro (fun h => ?_) (fun h => ?_) | refine GetE.intro _ rfl ?_ | refine Need.intro rfl ?_ | refine DrawP.go mixed rfl ?_ | refine wpoints_c _ ?_ | refine FinP.drop (n := 0) rfl (Nat.le_refl 0) rfl rfl ⟨rfl, congrArg B ?_⟩)
  all_goals (refine dec_of (fun ho => ?_) (fun ho => ?_) <;> simp [worthOk] at * <;> omega)

/-! ### Results one by one -/
abbrev Res.D (r : Res) : List D := r.cells
def ress (l : List Res) : D := .sl (l.map Res.cells)
/-- The first result that is not valid decides. -/
def ressOk (l : List Res) : Bool := l.all fun r => decide (resOk r)
structure FarB {α : Type} (p : α → Bool) (l : List α) where
  i : Nat
  le : i ≤ l.length
  ok : ∀ (j : Nat) (hj : j < l.length), j < i → p l[j] = true
def FarB.zero {α : Type} (p : α → Bool) (l : List α) : FarB p l := ⟨0, Nat.zero_le _, fun j _ h => absurd h (Nat.not_lt_zero j)⟩
def FarB.next {α : Type} {p : α → Bool} {l : List α} (s : FarB p l) (h : s.i < l.length) (hp : p l[s.i] = true) : FarB p l :=
  ⟨s.i + 1, h, fun j hj hji => by
    by_cases e : j = s.i
    · subst e; exact hp
    · exact s.ok j hj (by omega)⟩
theorem FarB.all {α : Type} {p : α → Bool} {l : List α} (s : FarB p l) (h : ¬ s.i < l.length) : l.all p = true := by
  rw [List.all_eq_true]
  intro x hx
  obtain ⟨j, hj, rfl⟩ := List.getElem_of_mem hx
  exact s.ok j hj (by omega)
theorem all_no {α : Type} {p : α → Bool} {l : List α} {i : Nat} (h : i < l.length) (hp : p l[i] = false) : l.all p = false := by
  rw [List.all_eq_false]
  exact ⟨l[i], List.getElem_mem h, by simp [hp]⟩
theorem rescheck_b (r : Res) (h1 : resOk r → k (I 0) L) (h2 : ¬ resOk r → k (I 1) L) : CallP C 40 [resV r] L k := by
  refine rescheck_c r ?_
  by_cases h : resOk r
  · rw [if_pos h]; exact h1 h
  · rw [if_neg h]; exact h2 h
theorem rrescheck_b (r : Res) (h1 : resOk r → k (I 0) L) (h2 : ¬ resOk r → k (I 1) L) : CallP C 44 [resV r] L k := by
  refine rrescheck_c r ?_
  by_cases h : resOk r
  · rw [if_pos h]; exact h1 h
  · rw [if_neg h]; exact h2 h
def checkF (l : List Res) (clubs : List Int) (w : Worth) : Int := if fieldOk clubs 1 then if worthOk w then if ressOk l then 0 else 1 else 1 else 190
theorem check_c (l : List Res) (clubs : List Int) (w : Worth) (hl : l.length ≤ 4611686018427387904) (hc : clubs.length ≤ 4611686018427387904) (h : k (I (checkF l clubs w)) L) : CallP C 25 [.d (ress l), .d (ints clubs), worthV w] L k := by
  refine CallP.pure ?_ rfl (fun _ => rfl) h
  clear h
  refine callP_of C_ok Try.func25 rfl rfl (n := _) rfl (Nat.le_of_ble_eq_true rfl) (rs := _) rfl ?_
  repeat' (conv => whnf
           first | refine Br.tt ?_ | refine Br.ff ?_ | refine Br.dec (fun h => ?_) (fun h => ?_) | refine Br.not ?_ | refine Br.intro (fun h => ?_) (fun h => ?_) | refine GetE.intro _ rfl ?_ | refine Need.intro rfl ?_ | refine DrawP.go mixed rfl ?_ | refine isField_c clubs hc ?_ | refine worth_c w ?_ | refine FinP.drop (n := 0) rfl (Nat.le_refl 0) rfl rfl ⟨rfl, congrArg I ?_⟩)
  · rename_i hf
    have hw := h
    conv => whnf
    refine LoopP.intro (ι := FarB (fun r => decide (resOk r)) l) (fun s => ⟨[(5, .ptr 0 0), (6, I 0), (18, .d (ress l)), (19, I l.length), (20, I s.i)], 30, [.cells (w.cells.map .d)], [], none⟩) (fun s => l.length - s.i) (FarB.zero _ l) ?_ ?_
    · exact Weak.forget ⟨rfl, rfl, rfl, congrArg I (by simp), rfl, trivial⟩
    intro s
    conv => whnf
    refine Br.dec (fun h => ?_) (fun h => ?_)
    · have hi : s.i < l.length := by simpa using h
      conv => whnf
      refine Idx.map s.i rfl hi ?_
      repeat' (conv => whnf
               first | refine Br.tt ?_ | refine Br.ff ?_ | refine Br.dec (fun h => ?_) (fun h => ?_) | refine Br.not ?_ | refine Br.intro (fun h => ?_) (fun h => ?_) | refine GetE.intro _ rfl ?_ | refine Need.intro rfl ?_ | refine DrawP.go mixed rfl ?_ | refine rescheck_b l[s.i] (fun hr => ?_) (fun hr => ?_) | refine FinP.drop (n := 0) rfl (Nat.le_refl 0) rfl rfl ⟨rfl, congrArg I ?_⟩)
      · exact ⟨s.next hi (decide_eq_true hr), by simp only [FarB.next]; omega, Weak.to 1 rfl (Nat.zero_le _) (Nat.le_of_ble_eq_true rfl) ⟨rfl, rfl, rfl, rfl, congrArg I (by rw [wrap_id] <;> (try simp only [FarB.next]) <;> omega), trivial⟩⟩
      · have := all_no (p := fun r => decide (resOk r)) hi (decide_eq_false hr)
        simp [checkF, hf, hw, ressOk, this]
    · have hi : ¬ s.i < l.length := by simpa using h
      have hin := s.all hi
      repeat' (conv => whnf
               first | refine Br.tt ?_ | refine Br.ff ?_ | refine Br.dec (fun h => ?_) (fun h => ?_) | refine Br.not ?_ | refine Br.intro (fun h => ?_) (fun h => ?_) | refine GetE.intro _ rfl ?_ | refine Need.intro rfl ?_ | refine DrawP.go mixed rfl ?_ | refine FinP.drop (n := 0) rfl (Nat.le_refl 0) rfl rfl ⟨rfl, congrArg I ?_⟩)
      simp [checkF, hf, hw, ressOk, hin]
  · rename_i hf
    simp [checkF, hf, h]
  · simp [checkF, h]
end Go.Proofs.Ytnkfifkgbkgcjaa
