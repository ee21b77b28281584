/-
  typing: Rules; environments.
-/
import Derived.Test.YtddolfgmkpfmcaaDoorTypF
namespace Go.Proofs.YtddolfgmkpfmcaaDoor
open Go.Tidy
set_option maxRecDepth 100000
set_option maxHeartbeats 0
set_option linter.unusedSimpArgs false
set_option linter.unusedVariables false
variable {L : List Blk} {k : V → List Blk → Prop}
/-! ### Environments -/
structure En where
  (tied round fin clubs : Int)
  deriving DecidableEq, Inhabited
def En.cells (x : En) : List D := [DI x.tied, DI x.round, DI x.fin, DI x.clubs]
abbrev enV (x : En) : V := .agg (x.cells.map .d)
def valF (v : Int) (x : En) : Int := if v = 1 then x.tied else if v = 2 then x.round else if v = 3 then x.fin else x.clubs
theorem value_c (v : Int) (x : En) (h : k (I (valF v x)) L) : CallP C 47 [I v, enV x] L k := by
  refine CallP.pure ?_ rfl (fun _ => rfl) h
  clear h
  refine callP_of C_ok Tryd.func47 rfl rfl (n := _) rfl (Nat.le_of_ble_eq_true rfl) (rs := _) rfl ?_
  repeat' (conv => whnf
           first | refine Br.tt ?_ | refine Br.ff ?_ | refine Br.dec (fun h => ?_) (fun h => ?_) | refine Br.not ?_ | refine Br.intro (fun h => ?_) (fun h => ?_) | refine GetE.intro _ rfl ?_ | refine Need.intro rfl ?_ | refine DrawP.go mixed rfl ?_)
  all_goals conv => whnf
  all_goals refine FinP.drop (n := 0) rfl (Nat.le_refl 0) rfl rfl ⟨rfl, congrArg I ?_⟩
  all_goals simp_all [valF]
theorem has_c (a b n : Int) (h : k (B (decide (a ≤ n) && decide (n ≤ b))) L) : CallP C 46 [.agg [I a, I b], I n] L k := by
  refine CallP.pure ?_ rfl (fun _ => rfl) h
  clear h
  refine callP_of C_ok Tryd.func46 rfl rfl (n := _) rfl (Nat.le_of_ble_eq_true rfl) (rs := _) rfl ?_
  repeat' (conv => whnf
           first | refine Br.tt ?_ | refine Br.ff ?_ | refine Br.dec (fun h => ?_) (fun h => ?_) | refine Br.not ?_ | refine Br.intro (fun h => ?_) (fun h => ?_) | refine GetE.intro _ rfl ?_ | refine Need.intro rfl ?_ | refine DrawP.go mixed rfl ?_)
  all_goals conv => whnf
  all_goals refine FinP.drop (n := 0) rfl (Nat.le_refl 0) rfl rfl ⟨rfl, congrArg B ?_⟩
  all_goals first | (simp_all; done) | (simp_all; omega)
theorem size_c (a b n : Int) (hn : IntKind.i64.wrap (IntKind.i64.wrap (b - a) + 1) = n) (h : k (I n) L) : CallP C 45 [.agg [I a, I b]] L k := by
  subst hn
  refine CallP.pure ?_ rfl (fun _ => rfl) h
  clear h
  refine callP_of C_ok Tryd.func45 rfl rfl (n := _) rfl (Nat.le_of_ble_eq_true rfl) (rs := _) rfl ?_
  repeat' (conv => whnf
           first | refine Br.tt ?_ | refine Br.ff ?_ | refine Br.dec (fun h => ?_) (fun h => ?_) | refine Br.not ?_ | refine Br.intro (fun h => ?_) (fun h => ?_) | refine GetE.intro _ rfl ?_ | refine Need.intro rfl ?_ | refine DrawP.go mixed rfl ?_)
  conv => whnf
  exact FinP.drop (n := 0) rfl (Nat.le_refl 0) rfl rfl ⟨rfl, rfl⟩
def envE (x : En) : Int := if 2 ≤ x.tied ∧ x.tied ≤ 24 ∧ 0 ≤ x.round ∧ x.round ≤ 46 ∧ 0 ≤ x.fin ∧ x.fin ≤ 1 ∧ 2 ≤ x.clubs ∧ x.clubs ≤ 24 then 0 else 1
theorem env_c (x : En) (h : k (I (envE x)) L) : CallP C 21 [enV x] L k := by
  refine CallP.pure ?_ rfl (fun _ => rfl) h
  clear h
  refine callP_of C_ok Tryd.func21 rfl rfl (n := _) rfl (Nat.le_of_ble_eq_true rfl) (rs := _) rfl ?_
  conv => whnf
  refine LoopP.unroll ?_
  repeat' (conv => whnf
           first | refine Br.tt ?_ | refine Br.ff ?_ | refine Br.dec (fun h => ?_) (fun h => ?_) | refine Br.not ?_ | refine Br.intro (fun h => ?_) (fun h => ?_) | refine GetE.intro _ rfl ?_ | refine Need.intro rfl ?_ | refine DrawP.go mixed rfl ?_ | refine LoopP.unroll ?_ | refine IdxN.intro 1 rfl (by decide) ?_ | refine IdxN.intro 2 rfl (by decide) ?_ | refine IdxN.intro 3 rfl (by decide) ?_ | refine IdxN.intro 4 rfl (by decide) ?_ | refine QCall.intro _ (value_c 1 x ⟨rfl, rfl⟩) ?_ | refine QCall.intro _ (value_c 2 x ⟨rfl, rfl⟩) ?_ | refine QCall.intro _ (value_c 3 x ⟨rfl, rfl⟩) ?_ | refine QCall.intro _ (value_c 4 x ⟨rfl, rfl⟩) ?_ | refine QCall.intro _ (has_c _ _ _ ⟨rfl, rfl⟩) ?_)
  all_goals conv => whnf
  all_goals refine FinP.drop (n := 0) rfl (Nat.le_refl 0) rfl rfl ⟨rfl, congrArg I ?_⟩
  all_goals simp only [valF, Bool.and_eq_true, Bool.and_eq_false_iff, decide_eq_true_eq, decide_eq_false_iff_not, if_true, show (2 : Int) ≠ 1 by decide, show (3 : Int) ≠ 1 by decide, show (4 : Int) ≠ 1 by decide, show (3 : Int) ≠ 2 by decide, show (4 : Int) ≠ 2 by decide, show (4 : Int) ≠ 3 by decide, if_false] at *
  all_goals unfold envE
  all_goals first | (rw [if_pos (by omega)]; done) | (rw [if_neg (by omega)]; done)
def En.at (n : Int) : En := ⟨2 + n / 2162, n / 46 % 47, n / 23 % 2, 2 + n % 23⟩
def envsE (n : Int) : Int := if n < 0 ∨ 49726 ≤ n then 1 else 0
def envsX (n : Int) : En := if n < 0 ∨ 49726 ≤ n then ⟨0, 0, 0, 0⟩ else En.at n
def mny : Nat → Int
  | 0 => 1
  | 1 => 23
  | 2 => 1081
  | 3 => 2162
  | _ => 49726
def nnq (n : Int) : Nat → Int
  | 0 => n
  | 1 => n / 23
  | 2 => n / 46
  | 3 => n / 2162
  | _ => n / 2162 / 23
def arq (n : Int) : Nat → List V
  | 0 => [I 0, I 0, I 0, I 0, I 0]
  | 1 => [I 0, I 0, I 0, I 0, I (2 + n % 23)]
  | 2 => [I 0, I 0, I 0, I (n / 23 % 2), I (2 + n % 23)]
  | 3 => [I 0, I 0, I (n / 46 % 47), I (n / 23 % 2), I (2 + n % 23)]
  | _ => [I 0, I (2 + n / 2162), I (n / 46 % 47), I (n / 23 % 2), I (2 + n % 23)]
theorem wdiv {n d : Int} (h : 0 ≤ n ∧ n < 1000000) (hd : 0 < d ∧ d < 1000) : IntKind.i64.wrap (n.tdiv d) = n / d := by
  rw [Int.tdiv_eq_ediv_of_nonneg h.1]
  have h1 : 0 ≤ n / d := Int.ediv_nonneg h.1 (by omega)
  have h2 : n / d ≤ n := Int.ediv_le_self _ h.1
  exact wrap_in (by omega)
theorem wmod {n d a : Int} (h : 0 ≤ n ∧ n < 1000000) (hd : 0 < d ∧ d < 1000) (ha : 0 ≤ a ∧ a < 100) : IntKind.i64.wrap (a + n.tmod d) = a + n % d := by
  rw [Int.tmod_eq_emod_of_nonneg h.1]
  have h1 : 0 ≤ n % d := Int.emod_nonneg _ (by omega)
  have h2 : n % d < d := Int.emod_lt_of_pos _ hd.1
  exact wrap_in (by omega)
def spD : D := .sl [[DI 2, DI 24], [DI 0, DI 46], [DI 0, DI 1], [DI 2, DI 24]]
theorem envs_c (n : Int) (h : k (.tup [enV (envsX n), I 49726, I (envsE n)]) L) : CallP C 19 [I n] L k := by
  refine CallP.pure ?_ rfl (fun _ => rfl) h
  clear h
  refine callP_of C_ok Tryd.func19 rfl rfl (n := _) rfl (Nat.le_of_ble_eq_true rfl) (rs := _) rfl ?_
  repeat' (conv => whnf
           first | refine Br.tt ?_ | refine Br.ff ?_ | refine Br.dec (fun h => ?_) (fun h => ?_) | refine Br.not ?_ | refine Br.intro (fun h => ?_) (fun h => ?_) | refine GetE.intro _ rfl ?_ | refine Need.intro rfl ?_ | refine DrawP.go mixed rfl ?_ | refine SliceP.intro 1 5 rfl rfl (by decide) (by decide) ?_)
  conv => whnf
  refine LoopP.inv (fun i => i ≤ 4) (fun i => ⟨[(0, I n), (2, .ptr 0 0), (3, I (mny i)), (9, .d spD), (10, I 4), (11, I i)], Tryd.f19.ntmps, [.cells [I 0, I 0, I 0, I 0]], [], none⟩) (fun i => 4 - i) 0 (by decide) ?_ ?_
  · exact Weak.by ⟨rfl, rfl, rfl, rfl, rfl, rfl, trivial⟩
  intro i hi
  rcases (show i = 0 ∨ i = 1 ∨ i = 2 ∨ i = 3 ∨ i = 4 by omega) with rfl | rfl | rfl | rfl | rfl
  · repeat' (conv => whnf
             first | refine Br.tt ?_ | refine Br.ff ?_ | refine Br.dec (fun h => ?_) (fun h => ?_) | refine Br.not ?_ | refine Br.intro (fun h => ?_) (fun h => ?_) | refine GetE.intro _ rfl ?_ | refine Need.intro rfl ?_ | refine DrawP.go mixed rfl ?_ | refine Idx.intro 0 _ rfl rfl ?_ | refine size_c _ _ _ rfl ?_)
    conv => whnf
    exact ⟨1, by decide, by decide, Weak.to 1 rfl (Nat.zero_le _) (Nat.le_of_ble_eq_true rfl) ⟨rfl, rfl, rfl, rfl, rfl, rfl, trivial⟩⟩
  · repeat' (conv => whnf
             first | refine Br.tt ?_ | refine Br.ff ?_ | refine Br.dec (fun h => ?_) (fun h => ?_) | refine Br.not ?_ | refine Br.intro (fun h => ?_) (fun h => ?_) | refine GetE.intro _ rfl ?_ | refine Need.intro rfl ?_ | refine DrawP.go mixed rfl ?_ | refine Idx.intro 1 _ rfl rfl ?_ | refine size_c _ _ _ rfl ?_)
    conv => whnf
    exact ⟨2, by decide, by decide, Weak.to 1 rfl (Nat.zero_le _) (Nat.le_of_ble_eq_true rfl) ⟨rfl, rfl, rfl, rfl, rfl, rfl, trivial⟩⟩
  · repeat' (conv => whnf
             first | refine Br.tt ?_ | refine Br.ff ?_ | refine Br.dec (fun h => ?_) (fun h => ?_) | refine Br.not ?_ | refine Br.intro (fun h => ?_) (fun h => ?_) | refine GetE.intro _ rfl ?_ | refine Need.intro rfl ?_ | refine DrawP.go mixed rfl ?_ | refine Idx.intro 2 _ rfl rfl ?_ | refine size_c _ _ _ rfl ?_)
    conv => whnf
    exact ⟨3, by decide, by decide, Weak.to 1 rfl (Nat.zero_le _) (Nat.le_of_ble_eq_true rfl) ⟨rfl, rfl, rfl, rfl, rfl, rfl, trivial⟩⟩
  · repeat' (conv => whnf
             first | refine Br.tt ?_ | refine Br.ff ?_ | refine Br.dec (fun h => ?_) (fun h => ?_) | refine Br.not ?_ | refine Br.intro (fun h => ?_) (fun h => ?_) | refine GetE.intro _ rfl ?_ | refine Need.intro rfl ?_ | refine DrawP.go mixed rfl ?_ | refine Idx.intro 3 _ rfl rfl ?_ | refine size_c _ _ _ rfl ?_)
    conv => whnf
    exact ⟨4, by decide, by decide, Weak.to 1 rfl (Nat.zero_le _) (Nat.le_of_ble_eq_true rfl) ⟨rfl, rfl, rfl, rfl, rfl, rfl, trivial⟩⟩
  by_cases hn : n < 0
  · repeat' (conv => whnf
             first | refine Br.yes (decide_eq_true hn) ?_ | refine Br.tt ?_ | refine Br.ff ?_ | refine Br.dec (fun h => ?_) (fun h => ?_) | refine Br.not ?_ | refine Br.intro (fun h => ?_) (fun h => ?_) | refine GetE.intro _ rfl ?_ | refine Need.intro rfl ?_ | refine DrawP.go mixed rfl ?_)
    conv => whnf
    exact FinP.drop (n := 0) rfl (Nat.le_refl 0) rfl rfl ⟨rfl, Eq.trans (b := V.tup [enV ⟨0, 0, 0, 0⟩, I 49726, I 1]) rfl (by unfold envsX envsE; rw [if_pos (.inl hn), if_pos (.inl hn)])⟩
  by_cases hn2 : 49726 ≤ n
  · repeat' (conv => whnf
             first | refine Br.no (decide_eq_false hn) ?_ | refine Br.yes (decide_eq_true hn2) ?_ | refine Br.tt ?_ | refine Br.ff ?_ | refine Br.dec (fun h => ?_) (fun h => ?_) | refine Br.not ?_ | refine Br.intro (fun h => ?_) (fun h => ?_) | refine GetE.intro _ rfl ?_ | refine Need.intro rfl ?_ | refine DrawP.go mixed rfl ?_)
    conv => whnf
    exact FinP.drop (n := 0) rfl (Nat.le_refl 0) rfl rfl ⟨rfl, Eq.trans (b := V.tup [enV ⟨0, 0, 0, 0⟩, I 49726, I 1]) rfl (by unfold envsX envsE; rw [if_pos (.inr hn2), if_pos (.inr hn2)])⟩
  repeat' (conv => whnf
           first | refine Br.no (decide_eq_false hn) ?_ | refine Br.no (decide_eq_false hn2) ?_ | refine Br.tt ?_ | refine Br.ff ?_ | refine Br.dec (fun h => ?_) (fun h => ?_) | refine Br.not ?_ | refine Br.intro (fun h => ?_) (fun h => ?_) | refine GetE.intro _ rfl ?_ | refine Need.intro rfl ?_ | refine DrawP.go mixed rfl ?_)
  conv => whnf
  refine LoopP.inv (fun j => j ≤ 4) (fun j => ⟨[(0, I (nnq n j)), (2, .ptr 0 0), (3, I 49726), (7, .ptr 1 0), (8, I (4 - (j : Int)))], Tryd.f19.ntmps, [.cells [I 0, I 0, I 0, I 0], .cells (arq n j)], [], none⟩) (fun j => 4 - j) 0 (by decide) ?_ ?_
  · exact Weak.by ⟨rfl, rfl, rfl, rfl, rfl, trivial⟩
  intro j hj
  have d2 : n / 46 = n / 23 / 2 := by rw [Int.ediv_ediv_of_nonneg (by decide)]; rfl
  have d3 : n / 2162 = n / 46 / 47 := by rw [Int.ediv_ediv_of_nonneg (by decide)]; rfl
  have b1 : 0 ≤ n / 23 ∧ n / 23 < 1000000 := by omega
  have b2 : 0 ≤ n / 46 ∧ n / 46 < 1000000 := by omega
  have b3 : 0 ≤ n / 2162 ∧ n / 2162 < 23 := by omega
  rcases (show j = 0 ∨ j = 1 ∨ j = 2 ∨ j = 3 ∨ j = 4 by omega) with rfl | rfl | rfl | rfl | rfl
  · repeat' (conv => whnf
             first | refine Br.tt ?_ | refine Br.ff ?_ | refine Br.dec (fun h => ?_) (fun h => ?_) | refine Br.not ?_ | refine Br.intro (fun h => ?_) (fun h => ?_) | refine GetE.intro _ rfl ?_ | refine Need.intro rfl ?_ | refine DrawP.go mixed rfl ?_ | refine IdxN.intro 4 rfl (by decide) ?_ | refine QCall.intro _ (size_c _ _ 23 rfl ⟨rfl, rfl⟩) ?_ | refine size_c _ _ 23 rfl ?_ | refine Need.intro (show (23 : Int) ≠ 0 by decide) ?_)
    conv => whnf
    exact ⟨1, by decide, by decide, Weak.by ⟨congrArg I (wdiv (n := n) (by omega) (by decide)), rfl, rfl, rfl, rfl, trivial⟩ (hL := Eq.trans (b := [.cells [I 0, I 0, I 0, I 0], .cells [I 0, I 0, I 0, I 0, I (IntKind.i64.wrap (2 + n.tmod 23))]]) rfl (by rw [wmod (by omega) (by decide) (by decide)]; rfl))⟩
  · repeat' (conv => whnf
             first | refine Br.tt ?_ | refine Br.ff ?_ | refine Br.dec (fun h => ?_) (fun h => ?_) | refine Br.not ?_ | refine Br.intro (fun h => ?_) (fun h => ?_) | refine GetE.intro _ rfl ?_ | refine Need.intro rfl ?_ | refine DrawP.go mixed rfl ?_ | refine IdxN.intro 3 rfl (by decide) ?_ | refine QCall.intro _ (size_c _ _ 2 rfl ⟨rfl, rfl⟩) ?_ | refine size_c _ _ 2 rfl ?_ | refine Need.intro (show (2 : Int) ≠ 0 by decide) ?_)
    conv => whnf
    exact ⟨2, by decide, by decide, Weak.by ⟨congrArg I ((wdiv b1 (by decide)).trans d2.symm), rfl, rfl, rfl, rfl, trivial⟩ (hL := Eq.trans (b := [.cells [I 0, I 0, I 0, I 0], .cells [I 0, I 0, I 0, I (IntKind.i64.wrap (0 + (n / 23).tmod 2)), I (2 + n % 23)]]) rfl (by rw [wmod b1 (by decide) (by decide), Int.zero_add]; rfl))⟩
  · repeat' (conv => whnf
             first | refine Br.tt ?_ | refine Br.ff ?_ | refine Br.dec (fun h => ?_) (fun h => ?_) | refine Br.not ?_ | refine Br.intro (fun h => ?_) (fun h => ?_) | refine GetE.intro _ rfl ?_ | refine Need.intro rfl ?_ | refine DrawP.go mixed rfl ?_ | refine IdxN.intro 2 rfl (by decide) ?_ | refine QCall.intro _ (size_c _ _ 47 rfl ⟨rfl, rfl⟩) ?_ | refine size_c _ _ 47 rfl ?_ | refine Need.intro (show (47 : Int) ≠ 0 by decide) ?_)
    conv => whnf
    exact ⟨3, by decide, by decide, Weak.by ⟨congrArg I ((wdiv b2 (by decide)).trans d3.symm), rfl, rfl, rfl, rfl, trivial⟩ (hL := Eq.trans (b := [.cells [I 0, I 0, I 0, I 0], .cells [I 0, I 0, I (IntKind.i64.wrap (0 + (n / 46).tmod 47)), I (n / 23 % 2), I (2 + n % 23)]]) rfl (by rw [wmod b2 (by decide) (by decide), Int.zero_add]; rfl))⟩
  · repeat' (conv => whnf
             first | refine Br.tt ?_ | refine Br.ff ?_ | refine Br.dec (fun h => ?_) (fun h => ?_) | refine Br.not ?_ | refine Br.intro (fun h => ?_) (fun h => ?_) | refine GetE.intro _ rfl ?_ | refine Need.intro rfl ?_ | refine DrawP.go mixed rfl ?_ | refine IdxN.intro 1 rfl (by decide) ?_ | refine QCall.intro _ (size_c _ _ 23 rfl ⟨rfl, rfl⟩) ?_ | refine size_c _ _ 23 rfl ?_ | refine Need.intro (show (23 : Int) ≠ 0 by decide) ?_)
    conv => whnf
    exact ⟨4, by decide, by decide, Weak.by ⟨congrArg I (wdiv (n := n / 2162) (by omega) (by decide)), rfl, rfl, rfl, rfl, trivial⟩ (hL := Eq.trans (b := [.cells [I 0, I 0, I 0, I 0], .cells [I 0, I (IntKind.i64.wrap (2 + (n / 2162).tmod 23)), I (n / 46 % 47), I (n / 23 % 2), I (2 + n % 23)]]) rfl (by rw [wmod (by omega) (by decide) (by decide), Int.emod_eq_of_lt b3.1 b3.2]; rfl))⟩
  · repeat' (conv => whnf
             first | refine Br.tt ?_ | refine Br.ff ?_ | refine Br.dec (fun h => ?_) (fun h => ?_) | refine Br.not ?_ | refine Br.intro (fun h => ?_) (fun h => ?_) | refine GetE.intro _ rfl ?_ | refine Need.intro rfl ?_ | refine DrawP.go mixed rfl ?_ | refine IdxN.intro 1 rfl (by decide) ?_ | refine IdxN.intro 2 rfl (by decide) ?_ | refine IdxN.intro 3 rfl (by decide) ?_ | refine IdxN.intro 4 rfl (by decide) ?_)
    conv => whnf
    exact FinP.drop (n := 0) rfl (Nat.le_refl 0) rfl rfl ⟨rfl, Eq.trans (b := V.tup [enV (En.at n), I 49726, I 0]) rfl (by unfold envsX envsE; rw [if_neg (by omega), if_neg (by omega)])⟩
end Go.Proofs.YtddolfgmkpfmcaaDoor
