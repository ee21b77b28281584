/-
  fixtures: the indices of the first match of a club, and of the first round without one.
-/
import Derived.Test.YtfhigmdfocbajaaDemZ
namespace Go.Proofs.Ytfhigmdfocbajaa
open Go.Tidy
set_option maxRecDepth 100000
set_option maxHeartbeats 0
set_option linter.unusedSimpArgs false
set_option linter.unusedVariables false
variable {L : List Blk} {k : V → List Blk → Prop}
theorem pat1_c (m : Mt) (c : Int) (h : k (B (playsM m c)) L) : CallP C 86 [mtV m, .d (.rptr [DI c])] L k := by
  refine CallP.pure ?_ rfl (fun _ => rfl) h
  clear h
  refine callP_of C_ok Try.func86 rfl rfl (n := _) rfl (Nat.le_of_ble_eq_true rfl) (rs := _) rfl ?_
  repeat' (conv => whnf
           first | refine Br.tt ?_ | refine Br.ff ?_ | refine Br.dec (fun h => ?_) (fun h => ?_) | refine Br.not ?_ | refine Br.intro (fun h => ?_) (fun h => ?_) | refine GetE.intro _ rfl ?_ | refine Need.intro rfl ?_ | refine DrawP.go mixed rfl ?_)
  all_goals conv => whnf
  all_goals refine FinP.drop (n := 0) rfl (Nat.le_refl 0) rfl rfl ⟨rfl, congrArg B ?_⟩
  all_goals simp_all [playsM]
theorem brk1_c (x : Int) (h : k (B (decide (x = 0))) L) : CallP C 43 [I x] L k := by
  refine CallP.pure ?_ rfl (fun _ => rfl) h
  clear h
  refine callP_of C_ok Try.func43 rfl rfl (n := _) rfl (Nat.le_of_ble_eq_true rfl) (rs := _) rfl ?_
  repeat' (conv => whnf
           first | refine Br.tt ?_ | refine Br.ff ?_ | refine Br.dec (fun h => ?_) (fun h => ?_) | refine Br.not ?_ | refine Br.intro (fun h => ?_) (fun h => ?_) | refine GetE.intro _ rfl ?_ | refine Need.intro rfl ?_ | refine DrawP.go mixed rfl ?_)
  conv => whnf
  exact FinP.drop (n := 0) rfl (Nat.le_refl 0) rfl rfl ⟨rfl, rfl⟩
theorem mindexFunc_c (l : List Mt) (hl : l.length ≤ 4611686018427387904) (f : FuncId) (caps : List D) (p : Mt → Bool) (hp : ∀ n (L : List Blk) (k : V → List Blk → Prop), k (B (p n)) L → CallP C f ([mtV n] ++ caps.map .d) L k)
    (h : k (I (findI p l)) L) : CallP C 85 [.d (mts l), .d (.fn f caps)] L k := by
  refine CallP.pure ?_ rfl (fun _ => rfl) h
  clear h
  refine callP_of C_ok Try.func85 rfl rfl (n := _) rfl (Nat.le_of_ble_eq_true rfl) (rs := _) rfl ?_
  conv => whnf
  refine LoopP.intro (ι := Far p l) (fun s => ⟨[(0, .d (mts l)), (1, .d (.fn f caps)), (7, I l.length), (8, I s.i)], Try.f85.ntmps, [], [], none⟩) (fun s => l.length - s.i) (Far.zero p l) ?_ ?_
  · exact Weak.by ⟨rfl, rfl, congrArg I (by simp), rfl, trivial⟩
  intro s
  conv => whnf
  refine Br.intro (fun h => ?_) (fun h => ?_)
  · have hi : s.i < l.length := by simpa using h
    repeat' (conv => whnf
             first | refine Br.tt ?_ | refine Br.ff ?_ | refine Br.dec (fun h => ?_) (fun h => ?_) | refine Br.not ?_ | refine Br.intro (fun h => ?_) (fun h => ?_) | refine GetE.intro _ rfl ?_ | refine Need.intro rfl ?_ | refine DrawP.go mixed rfl ?_ | refine Idx.map s.i rfl hi ?_ | refine hp _ _ _ ?_)
    all_goals conv => whnf
    · exact FinP.drop (n := 0) rfl (Nat.le_refl 0) rfl rfl ⟨rfl, congrArg I (findI_hit hi h s.no).symm⟩
    · exact ⟨s.next hi h, by simp only [Far.next]; omega, Weak.by ⟨rfl, rfl, rfl, congrArg I (by rw [wrap_id] <;> (try simp only [Far.next]) <;> omega), trivial⟩⟩
  · have hi : ¬ s.i < l.length := by simpa using h
    repeat' (conv => whnf
             first | refine Br.tt ?_ | refine Br.ff ?_ | refine Br.dec (fun h => ?_) (fun h => ?_) | refine Br.not ?_ | refine Br.intro (fun h => ?_) (fun h => ?_) | refine GetE.intro _ rfl ?_ | refine Need.intro rfl ?_ | refine DrawP.go mixed rfl ?_)
    conv => whnf
    exact FinP.drop (n := 0) rfl (Nat.le_refl 0) rfl rfl ⟨rfl, congrArg I (findI_miss fun j hj => s.no j hj (by omega)).symm⟩
theorem iindexFunc_c (l : List Int) (hl : l.length ≤ 4611686018427387904) (f : FuncId) (p : Int → Bool) (hp : ∀ n (L : List Blk) (k : V → List Blk → Prop), k (B (p n)) L → CallP C f [I n] L k)
    (h : k (I (findI p l)) L) : CallP C 84 [.d (ints l), .d (.fn f [])] L k := by
  refine CallP.pure ?_ rfl (fun _ => rfl) h
  clear h
  refine callP_of C_ok Try.func84 rfl rfl (n := _) rfl (Nat.le_of_ble_eq_true rfl) (rs := _) rfl ?_
  conv => whnf
  refine LoopP.intro (ι := Far p l) (fun s => ⟨[(0, .d (ints l)), (1, .d (.fn f [])), (7, I l.length), (8, I s.i)], Try.f84.ntmps, [], [], none⟩) (fun s => l.length - s.i) (Far.zero p l) ?_ ?_
  · exact Weak.by ⟨rfl, rfl, congrArg I (by simp), rfl, trivial⟩
  intro s
  conv => whnf
  refine Br.intro (fun h => ?_) (fun h => ?_)
  · have hi : s.i < l.length := by simpa using h
    repeat' (conv => whnf
             first | refine Br.tt ?_ | refine Br.ff ?_ | refine Br.dec (fun h => ?_) (fun h => ?_) | refine Br.not ?_ | refine Br.intro (fun h => ?_) (fun h => ?_) | refine GetE.intro _ rfl ?_ | refine Need.intro rfl ?_ | refine DrawP.go mixed rfl ?_ | refine Idx.map s.i rfl hi ?_ | refine hp _ _ _ ?_)
    all_goals conv => whnf
    · exact FinP.drop (n := 0) rfl (Nat.le_refl 0) rfl rfl ⟨rfl, congrArg I (findI_hit hi h s.no).symm⟩
    · exact ⟨s.next hi h, by simp only [Far.next]; omega, Weak.by ⟨rfl, rfl, rfl, congrArg I (by rw [wrap_id] <;> (try simp only [Far.next]) <;> omega), trivial⟩⟩
  · have hi : ¬ s.i < l.length := by simpa using h
    repeat' (conv => whnf
             first | refine Br.tt ?_ | refine Br.ff ?_ | refine Br.dec (fun h => ?_) (fun h => ?_) | refine Br.not ?_ | refine Br.intro (fun h => ?_) (fun h => ?_) | refine GetE.intro _ rfl ?_ | refine Need.intro rfl ?_ | refine DrawP.go mixed rfl ?_)
    conv => whnf
    exact FinP.drop (n := 0) rfl (Nat.le_refl 0) rfl rfl ⟨rfl, congrArg I (findI_miss fun j hj => s.no j hj (by omega)).symm⟩
end Go.Proofs.Ytfhigmdfocbajaa
