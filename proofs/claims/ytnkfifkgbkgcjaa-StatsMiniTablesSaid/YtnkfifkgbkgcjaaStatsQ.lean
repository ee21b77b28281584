/-
  The reference of stats: its checks and its counting.
-/
import Derived.Test.YtnkfifkgbkgcjaaStatsR
namespace Go.Proofs.Ytnkfifkgbkgcjaa
open Go.Tidy
set_option maxRecDepth 100000
set_option maxHeartbeats 0
set_option linter.unusedSimpArgs false
set_option linter.unusedVariables false
variable {L : List Blk} {k : V → List Blk → Prop}
theorem rpoints_c (n : Int) (h : k (B (decide (-99 ≤ n ∧ n ≤ 99))) L) : CallP C 43 [I n] L k := by
  refine CallP.pure ?_ rfl (fun _ => rfl) h
  clear h
  refine callP_of C_ok Try.func43 rfl rfl (n := _) rfl (Nat.le_of_ble_eq_true rfl) (rs := _) rfl ?_
  repeat' (conv => whnf
           first | refine Br.tt ?_ | refine Br.ff ?_ | refine Br.dec (fun h => ?_) (fun h => ?_) | refine Br.not ?_ | refine Br.intro (fun h => ?_) (fun h => ?_) | refine GetE.intro _ rfl ?_ | refine Need.intro rfl ?_ | refine DrawP.go mixed rfl ?_ | refine FinP.drop (n := 0) rfl (Nat.le_refl 0) rfl rfl ⟨rfl, congrArg B ?_⟩)
  all_goals (simp_all; try omega)
theorem rindex_c (l : List Int) (n : Int) (hl : l.length ≤ 4611686018427387904) (h : k (I (findI (fun m => decide (m = n)) l)) L) : CallP C 29 [.d (ints l), I n] L k := by
  refine CallP.pure ?_ rfl (fun _ => rfl) h
  clear h
  refine callP_of C_ok Try.func29 rfl rfl (n := _) rfl (Nat.le_of_ble_eq_true rfl) (rs := _) rfl ?_
  conv => whnf
  refine LoopP.intro (ι := Far (fun m => decide (m = n)) l) (fun s => ⟨[(0, .d (ints l)), (1, I n), (5, I s.i)], 19, [], [], none⟩) (fun s => l.length - s.i) (Far.zero _ l) ?_ ?_
  · exact Weak.by ⟨rfl, rfl, rfl, trivial⟩
  intro s
  conv => whnf
  refine Br.dec (fun h => ?_) (fun h => ?_)
  · have hi : s.i < l.length := by simpa using h
    repeat' (conv => whnf
             first | refine Br.tt ?_ | refine Br.ff ?_ | refine Br.dec (fun h => ?_) (fun h => ?_) | refine Br.not ?_ | refine Br.intro (fun h => ?_) (fun h => ?_) | refine GetE.intro _ rfl ?_ | refine Need.intro rfl ?_ | refine DrawP.go mixed rfl ?_ | refine Idx.map s.i rfl hi ?_ | refine FinP.drop (n := 0) rfl (Nat.le_refl 0) rfl rfl ⟨rfl, congrArg I ?_⟩)
    · exact (findI_hit hi (decide_eq_true (by assumption)) s.no).symm
    · exact ⟨s.next hi (decide_eq_false (by assumption)), by simp only [Far.next]; omega, Weak.by ⟨rfl, rfl, congrArg I (by rw [wrap_id] <;> (try simp only [Far.next]) <;> omega), trivial⟩⟩
  · have hi : ¬ s.i < l.length := by simpa using h
    repeat' (conv => whnf
             first | refine Br.tt ?_ | refine Br.ff ?_ | refine Br.dec (fun h => ?_) (fun h => ?_) | refine Br.not ?_ | refine Br.intro (fun h => ?_) (fun h => ?_) | refine GetE.intro _ rfl ?_ | refine Need.intro rfl ?_ | refine DrawP.go mixed rfl ?_ | refine FinP.drop (n := 0) rfl (Nat.le_refl 0) rfl rfl ⟨rfl, congrArg I ?_⟩)
    exact (findI_miss fun j hj => s.no j hj (by omega)).symm
theorem rclubs_c (l : List Int) (hl : l.length ≤ 4611686018427387904) (h : k (B (fieldOk l 1)) L) : CallP C 42 [.d (ints l)] L k := by
  refine CallP.pure ?_ rfl (fun _ => rfl) h
  clear h
  refine callP_of C_ok Try.func42 rfl rfl (n := _) rfl (Nat.le_of_ble_eq_true rfl) (rs := _) rfl ?_
  conv => whnf
  refine LoopP.intro (ι := FarOk l) (fun s => ⟨[(0, .d (ints l)), (3, I s.i)], 46, [], [], none⟩) (fun s => l.length - s.i) (FarOk.zero l) ?_ ?_
  · exact Weak.by ⟨rfl, rfl, trivial⟩
  intro s
  conv => whnf
  refine Br.dec (fun h => ?_) (fun h => ?_)
  · have hi : s.i < l.length := by simpa using h
    repeat' (conv => whnf
             first | refine Br.tt ?_ | refine Br.ff ?_ | refine Br.dec (fun h => ?_) (fun h => ?_) | refine Br.not ?_ | refine Br.intro (fun h => ?_) (fun h => ?_) | refine GetE.intro _ rfl ?_ | refine Need.intro rfl ?_ | refine DrawP.go mixed rfl ?_ | refine Idx.map s.i rfl hi ?_ | refine Idx.map (s.i - 1) (by rw [wrap_id] <;> omega) (by omega) ?_ | refine DrawP.all mixed rfl ?_ | refine FinP.drop (n := 0) rfl (Nat.le_refl 0) rfl rfl ⟨rfl, congrArg B ?_⟩)
    all_goals first
      | exact fieldOk_no (j := s.i) fun ho => by have := ((okAt_at hi).1 ho).1; omega
      | exact fieldOk_no (j := s.i) fun ho => by have := ((okAt_at hi).1 ho).2 (by omega); omega
      | exact ⟨s.next hi ((okAt_at hi).2 ⟨by omega, fun _ => by omega⟩), by simp only [FarOk.next]; omega, Weak.by ⟨rfl, congrArg I (by rw [wrap_id] <;> (try simp only [FarOk.next]) <;> omega), trivial⟩⟩
  · have hi : ¬ s.i < l.length := by simpa using h
    have hin := s.all hi
    repeat' (conv => whnf
             first | refine Br.tt ?_ | refine Br.ff ?_ | refine Br.dec (fun h => ?_) (fun h => ?_) | refine Br.not ?_ | refine Br.intro (fun h => ?_) (fun h => ?_) | refine GetE.intro _ rfl ?_ | refine Need.intro rfl ?_ | refine DrawP.go mixed rfl ?_ | refine FinP.drop (n := 0) rfl (Nat.le_refl 0) rfl rfl ⟨rfl, congrArg B ?_⟩)
    all_goals (simp at *)
    all_goals (rw [Bool.eq_iff_iff]; simp [fieldOk, hin]; omega)
theorem rchecked_c (l : List Res) (clubs : List Int) (w : Worth) (hl : l.length ≤ 4611686018427387904) (hc : clubs.length ≤ 4611686018427387904) (h : k (I (checkF l clubs w)) L) :
    CallP C 28 [.d (ress l), .d (ints clubs), I w.win, I w.draw, I w.loss] L k := by
  refine CallP.pure ?_ rfl (fun _ => rfl) h
  clear h
  refine callP_of C_ok Try.func28 rfl rfl (n := _) rfl (Nat.le_of_ble_eq_true rfl) (rs := _) rfl ?_
  repeat' (conv => whnf
           first | refine Br.tt ?_ | refine Br.ff ?_ | refine Br.dec (fun h => ?_) (fun h => ?_) | refine Br.not ?_ | refine Br.intro (fun h => ?_) (fun h => ?_) | refine GetE.intro _ rfl ?_ | refine Need.intro rfl ?_ | refine DrawP.go mixed rfl ?_ | refine rclubs_c clubs hc ?_ | refine rpoints_c _ ?_ | refine FinP.drop (n := 0) rfl (Nat.le_refl 0) rfl rfl ⟨rfl, congrArg I ?_⟩)
  · rename_i hf h1 h2
    have hw : worthOk w := ⟨h1, h2, h⟩
    conv => whnf
    refine LoopP.intro (ι := FarB (fun r => decide (resOk r)) l) (fun s => ⟨[(0, .d (ress l)), (11, I s.i)], 43, [], [], none⟩) (fun s => l.length - s.i) (FarB.zero _ l) ?_ ?_
    · exact Weak.by ⟨rfl, rfl, trivial⟩
    intro s
    conv => whnf
    refine Br.dec (fun h => ?_) (fun h => ?_)
    · have hi : s.i < l.length := by simpa using h
      repeat' (conv => whnf
               first | refine Br.tt ?_ | refine Br.ff ?_ | refine Br.dec (fun h => ?_) (fun h => ?_) | refine Br.not ?_ | refine Br.intro (fun h => ?_) (fun h => ?_) | refine GetE.intro _ rfl ?_ | refine Need.intro rfl ?_ | refine DrawP.go mixed rfl ?_ | refine Idx.map s.i rfl hi ?_ | refine rrescheck_b l[s.i] (fun hr => ?_) (fun hr => ?_) | refine FinP.drop (n := 0) rfl (Nat.le_refl 0) rfl rfl ⟨rfl, congrArg I ?_⟩)
      · exact ⟨s.next hi (decide_eq_true hr), by simp only [FarB.next]; omega, Weak.by ⟨rfl, congrArg I (by rw [wrap_id] <;> (try simp only [FarB.next]) <;> omega), trivial⟩⟩
      · have := all_no (p := fun r => decide (resOk r)) hi (decide_eq_false hr)
        simp [checkF, hf, hw, ressOk, this]
    · have hi : ¬ s.i < l.length := by simpa using h
      have hin := s.all hi
      repeat' (conv => whnf
               first | refine Br.tt ?_ | refine Br.ff ?_ | refine Br.dec (fun h => ?_) (fun h => ?_) | refine Br.not ?_ | refine Br.intro (fun h => ?_) (fun h => ?_) | refine GetE.intro _ rfl ?_ | refine Need.intro rfl ?_ | refine DrawP.go mixed rfl ?_ | refine FinP.drop (n := 0) rfl (Nat.le_refl 0) rfl rfl ⟨rfl, congrArg I ?_⟩)
      simp [checkF, hf, hw, ressOk, hin]
  · rename_i hf h1 h2
    have hw : ¬ worthOk w := fun hw => h hw.2.2
    simp [checkF, hf, hw]
  · rename_i hf h1
    have hw : ¬ worthOk w := fun hw => h hw.2.1
    simp [checkF, hf, hw]
  · rename_i hf
    have hw : ¬ worthOk w := fun hw => h hw.1
    simp [checkF, hf, hw]
  · simp [checkF, h]
theorem rowE {r r' : Row} (h : r' = r) : rowV r = rowV r' := by rw [h]
theorem rcount_c (r : Row) (x : Res) (away : Bool) (w : Worth) (h : k (rowV (countF r (bif away then awayS x else homeS x) w)) L) : CallP C 30 [rowV r, resV x, B away, I w.win, I w.draw, I w.loss] L k := by
  refine CallP.pure ?_ rfl (fun _ => rfl) h
  clear h
  refine callP_of C_ok Try.func30 rfl rfl (n := _) rfl (Nat.le_of_ble_eq_true rfl) (rs := _) rfl ?_
  cases away
  all_goals
    repeat' (conv => whnf
             first | refine Br.tt ?_ | refine Br.ff ?_ | refine Br.dec (fun h => ?_) (fun h => ?_) | refine Br.not ?_ | refine Br.intro (fun h => ?_) (fun h => ?_) | refine GetE.intro _ rfl ?_ | refine Need.intro rfl ?_ | refine DrawP.go mixed rfl ?_)
  all_goals (try conv => whnf)
  · exact FinP.drop (n := 0) rfl (Nat.le_refl 0) rfl rfl ⟨rfl, rowE (countF_lost (s := homeS x) (.inl h))⟩
  · exact FinP.drop (n := 0) rfl (Nat.le_refl 0) rfl rfl ⟨rfl, rowE (countF_lost (s := homeS x) (.inr h))⟩
  · rename_i h1 h2
    exact FinP.drop (n := 0) rfl (Nat.le_refl 0) rfl rfl ⟨rfl, rowE (countF_drawn (s := homeS x) (fun e => e.elim (fun e => by rw [show x.both = true from e] at h1; cases h1) h2) h)⟩
  · rename_i h1 h2
    exact FinP.drop (n := 0) rfl (Nat.le_refl 0) rfl rfl ⟨rfl, rowE (countF_won (s := homeS x) (fun e => e.elim (fun e => by rw [show x.both = true from e] at h1; cases h1) h2) h)⟩
  · exact FinP.drop (n := 0) rfl (Nat.le_refl 0) rfl rfl ⟨rfl, rowE (countF_lost (s := awayS x) (.inl h))⟩
  · exact FinP.drop (n := 0) rfl (Nat.le_refl 0) rfl rfl ⟨rfl, rowE (countF_lost (s := awayS x) (.inr h))⟩
  · rename_i h1 h2
    exact FinP.drop (n := 0) rfl (Nat.le_refl 0) rfl rfl ⟨rfl, rowE (countF_drawn (s := awayS x) (fun e => e.elim (fun e => by rw [show x.both = true from e] at h1; cases h1) h2) h)⟩
  · rename_i h1 h2
    exact FinP.drop (n := 0) rfl (Nat.le_refl 0) rfl rfl ⟨rfl, rowE (countF_won (s := awayS x) (fun e => e.elim (fun e => by rw [show x.both = true from e] at h1; cases h1) h2) h)⟩
end Go.Proofs.Ytnkfifkgbkgcjaa
