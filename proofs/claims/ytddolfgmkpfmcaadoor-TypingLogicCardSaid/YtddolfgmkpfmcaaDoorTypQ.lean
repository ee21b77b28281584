/-
  typing: the reference's conditions, parts and Cond.
-/
import Derived.Test.YtddolfgmkpfmcaaDoorTypP
namespace Go.Proofs.YtddolfgmkpfmcaaDoor
open Go.Tidy
set_option maxRecDepth 100000
set_option maxHeartbeats 0
set_option linter.unusedSimpArgs false
set_option linter.unusedVariables false
variable {L : List Blk} {k : V → List Blk → Prop}
/-! ### How many conditions -/
mutual
def cnF (d : Nat) : Co → Nat
  | .mk _ _ _ ps => if 16 < d then 1000 else cnL (d + 1) ps 1
def cnL (d : Nat) : List Co → Nat → Nat
  | [], n => n
  | c :: cs, n => if n ≤ 256 then cnL d cs (n + cnF d c) else n
end
theorem cnL_big (d : Nat) : ∀ {l : List Co} {n : Nat}, 256 < n → cnL d l n = n
  | [], n, _ => by rw [cnL]
  | c :: cs, n, h => by rw [cnL, if_neg (by omega)]
theorem cnF_eq (d : Nat) (c : Co) : cnF d c = if 16 < d then 1000 else cnL (d + 1) c.parts 1 := by cases c; rw [cnF]; rfl
theorem cnL_le (d B : Nat) (hF : ∀ c, cnF d c ≤ B) : ∀ (l : List Co) (n : Nat), n ≤ 256 + B → cnL d l n ≤ 256 + B
  | [], n, h => by rw [cnL]; exact h
  | c :: cs, n, h => by
    rw [cnL]
    split
    · exact cnL_le d B hF cs _ (by have := hF c; omega)
    · exact h
theorem cnF_le : ∀ (m d : Nat), 17 ≤ d + m → ∀ c, cnF d c ≤ 1000 + 256 * m
  | 0, d, h, c => by rw [cnF_eq, if_pos (by omega)]; decide
  | m + 1, d, h, c => by
    rw [cnF_eq]
    split
    · omega
    · exact Nat.le_trans (cnL_le (d + 1) _ (cnF_le m (d + 1) (by omega)) c.parts 1 (by omega)) (by omega)
theorem cnF_top (d : Nat) (c : Co) : cnF d c ≤ 6000 := Nat.le_trans (cnF_le 17 d (by omega) c) (by decide)
theorem conditions_s : ∀ (m : Nat) (c : Co), SizeOf.sizeOf c ≤ m → LCo c → ∀ (d : Nat), d ≤ 17 → ∀ (L : List Blk) (k : V → List Blk → Prop), k (I (cnF d c)) L → CallP C 36 [.agg (c.cells.map .d), I d] L k
  | 0, c, h, _ => absurd h (by cases c; simp)
  | m + 1, c, hsz, hc => by
    intro d hd L k h
    have ih := conditions_s m
    have hlen := hc.len
    rw [Co.cells_eq]
    refine CallP.pure ?_ rfl (fun _ => rfl) h
    clear h
    refine callP_of C_ok Tryd.func36 rfl rfl (n := _) rfl (Nat.le_of_ble_eq_true rfl) (rs := _) rfl ?_
    by_cases h1 : (16 : Int) < (d : Int)
    · repeat' (conv => whnf
               first | refine Br.yes (decide_eq_true h1) ?_ | refine Br.tt ?_ | refine Br.ff ?_ | refine Br.dec (fun h => ?_) (fun h => ?_) | refine Br.not ?_ | refine Br.intro (fun h => ?_) (fun h => ?_) | refine GetE.intro _ rfl ?_ | refine Need.intro rfl ?_ | refine DrawP.go mixed rfl ?_)
      conv => whnf
      exact FinP.drop (n := 0) rfl (Nat.le_refl 0) rfl rfl ⟨rfl, Eq.trans (b := I 1000) rfl (by rw [cnF_eq, if_pos (by omega)]; rfl)⟩
    have htot : cnF d c = cnL (d + 1) c.parts 1 := by rw [cnF_eq, if_neg (by omega)]
    repeat' (conv => whnf
             first | refine Br.no (decide_eq_false h1) ?_ | refine Br.tt ?_ | refine Br.ff ?_ | refine Br.dec (fun h => ?_) (fun h => ?_) | refine Br.not ?_ | refine Br.intro (fun h => ?_) (fun h => ?_) | refine GetE.intro _ rfl ?_ | refine Need.intro rfl ?_ | refine DrawP.go mixed rfl ?_)
    conv => whnf
    refine LoopP.inv (α := Nat × Nat) (fun s => s.1 ≤ c.parts.length ∧ s.2 ≤ 12000 ∧ cnL (d + 1) (c.parts.drop s.1) s.2 = cnF d c) (fun s => ⟨[(1, I d), (2, .ptr 0 0), (5, I s.2), (6, I s.1)], Tryd.f36.ntmps, [.cells [I c.kind, I c.var, I c.n, .d (cos c.parts)]], [], none⟩) (fun s => c.parts.length - s.1) (0, 1) ⟨Nat.zero_le _, by decide, by rw [List.drop_zero, htot]⟩ ?_ ?_
    · exact Weak.to 1 rfl (Nat.zero_le _) (Nat.le_of_ble_eq_true rfl) ⟨rfl, rfl, rfl, rfl, trivial⟩
    rintro ⟨i, n⟩ ⟨hi, hn, ht⟩
    simp only at hi hn ht
    by_cases h2 : (i : Int) < ((c.parts.map Co.cells).length : Int)
    rotate_left
    · have h2' : c.parts.length ≤ i := by rw [List.length_map] at h2; omega
      rw [List.drop_eq_nil_of_le h2', cnL] at ht
      repeat' (conv => whnf
               first | refine Br.no (decide_eq_false h2) ?_ | refine Br.tt ?_ | refine Br.ff ?_ | refine Br.dec (fun h => ?_) (fun h => ?_) | refine Br.not ?_ | refine Br.intro (fun h => ?_) (fun h => ?_) | refine GetE.intro _ rfl ?_ | refine Need.intro rfl ?_ | refine DrawP.go mixed rfl ?_)
      conv => whnf
      exact FinP.drop (n := 0) rfl (Nat.le_refl 0) rfl rfl ⟨rfl, Eq.trans (b := I (n : Int)) rfl (by rw [ht])⟩
    have hi' : i < c.parts.length := by rw [List.length_map] at h2; omega
    by_cases h3 : (n : Int) ≤ 256
    rotate_left
    · rw [cnL_big _ (by omega)] at ht
      repeat' (conv => whnf
               first | refine Br.yes (decide_eq_true h2) ?_ | refine Br.no (decide_eq_false h3) ?_ | refine Br.tt ?_ | refine Br.ff ?_ | refine Br.dec (fun h => ?_) (fun h => ?_) | refine Br.not ?_ | refine Br.intro (fun h => ?_) (fun h => ?_) | refine GetE.intro _ rfl ?_ | refine Need.intro rfl ?_ | refine DrawP.go mixed rfl ?_)
      conv => whnf
      exact FinP.drop (n := 0) rfl (Nat.le_refl 0) rfl rfl ⟨rfl, Eq.trans (b := I (n : Int)) rfl (by rw [ht])⟩
    rw [List.drop_eq_getElem_cons hi', cnL, if_pos (by omega)] at ht
    have hpm : c.parts[i] ∈ c.parts := List.getElem_mem hi'
    have hps := part_sizeC hpm
    obtain ⟨p, hp⟩ : ∃ p, p = c.parts[i] := ⟨_, rfl⟩
    have r1 : (c.parts.map Co.cells)[i]? = some [DI p.kind, DI p.var, DI p.n, cos p.parts] := by rw [List.getElem?_map, List.getElem?_eq_getElem hi', ← hp, ← Co.cells_eq]; rfl
    have hcall := ih p (by rw [hp]; omega) (by rw [hp]; exact hc.sub _ hpm) (d + 1) (by omega)
    rw [← hp] at ht
    have hw1 : IntKind.i64.wrap ((d : Int) + 1) = ((d + 1 : Nat) : Int) := by rw [wrap_in (by omega)]; omega
    have hw2 : IntKind.i64.wrap ((i : Int) + 1) = ((i + 1 : Nat) : Int) := by rw [wrap_in (by omega)]; omega
    have hle := cnF_top (d + 1) p
    have hw3 : IntKind.i64.wrap ((n : Int) + (cnF (d + 1) p : Int)) = ((n + cnF (d + 1) p : Nat) : Int) := by rw [wrap_in (by omega)]; omega
    rw [Co.cells_eq, ← hw1] at hcall
    repeat' (conv => whnf
             first | refine Br.yes (decide_eq_true h2) ?_ | refine Br.yes (decide_eq_true h3) ?_ | refine Br.tt ?_ | refine Br.ff ?_ | refine Br.dec (fun h => ?_) (fun h => ?_) | refine Br.not ?_ | refine Br.intro (fun h => ?_) (fun h => ?_) | refine GetE.intro _ rfl ?_ | refine Need.intro rfl ?_ | refine DrawP.go mixed rfl ?_ | refine Idx.intro i _ rfl r1 ?_ | refine hcall _ _ ?_)
    conv => whnf
    exact ⟨(i + 1, n + cnF (d + 1) p), ⟨hi', by omega, ht⟩, by show c.parts.length - (i + 1) < c.parts.length - i; omega, Weak.to 1 rfl (Nat.zero_le _) (Nat.le_of_ble_eq_true rfl) ⟨rfl, rfl, congrArg I hw3, congrArg I hw2, trivial⟩⟩
theorem conditions_c (c : Co) (hc : LCo c) (h : k (I (cnF 0 c)) L) : CallP C 36 [.agg (c.cells.map .d), I 0] L k := conditions_s _ c (Nat.le_refl _) hc 0 (by decide) L k h
/-! ### Each condition as it should be -/
theorem parts_s : ∀ (m : Nat) (c : Co), SizeOf.sizeOf c ≤ m → LCo c → ∀ (L : List Blk) (k : V → List Blk → Prop), k (B (vCo c)) L → CallP C 44 [.agg (c.cells.map .d)] L k
  | 0, c, h, _ => absurd h (by cases c; simp)
  | m + 1, c, hsz, hc => by
    intro L k h
    have ih := parts_s m
    have hlen := hc.len
    have hml : ((c.parts.map Co.cells).length : Int) = (c.parts.length : Int) := by rw [List.length_map]
    have hv : vCo c = if c.kind = 1 then decide (1 ≤ c.var) && decide (c.var ≤ 4) && decide (0 ≤ c.n) && decide (c.n ≤ 64) && decide ((c.parts.length : Int) = 0)
      else if c.kind = 4 then decide (c.var = 0) && decide (c.n = 0) && decide ((c.parts.length : Int) = 1) && vCos c.parts
      else if c.kind = 2 ∨ c.kind = 3 then decide (c.var = 0) && decide (c.n = 0) && decide (0 < (c.parts.length : Int)) && decide ((c.parts.length : Int) ≤ 16) && vCos c.parts
      else false := by cases c; rw [vCo]; rfl
    rw [hv] at h
    rw [Co.cells_eq]
    by_cases k1 : c.kind = 1
    · rw [if_pos k1, ← hml] at h
      refine CallP.pure ?_ rfl (fun _ => rfl) h
      clear h
      refine callP_of C_ok Tryd.func44 rfl rfl (n := _) rfl (Nat.le_of_ble_eq_true rfl) (rs := _) rfl ?_
      repeat' (conv => whnf
               first | refine Br.yes (decide_eq_true k1) ?_ | refine Br.tt ?_ | refine Br.ff ?_ | refine Br.dec (fun h => ?_) (fun h => ?_) | refine Br.not ?_ | refine Br.intro (fun h => ?_) (fun h => ?_) | refine GetE.intro _ rfl ?_ | refine Need.intro rfl ?_ | refine DrawP.go mixed rfl ?_)
      all_goals conv => whnf
      all_goals refine FinP.drop (n := 0) rfl (Nat.le_refl 0) rfl rfl ⟨rfl, ?_⟩
      all_goals first
        | (refine Eq.trans (b := B false) rfl (congrArg B ?_); symm; simp only [Bool.and_eq_false_iff, decide_eq_false_iff_not]; omega)
        | (refine Eq.trans (b := B (decide (((c.parts.map Co.cells).length : Int) = 0))) rfl (congrArg B ?_); simp only [*, decide_true, Bool.true_and])
    by_cases k4 : c.kind = 4
    · have k2 : ¬ c.kind = 2 := by omega
      have k3 : ¬ c.kind = 3 := by omega
      rw [if_neg k1, if_pos k4, ← hml] at h
      by_cases l1 : ((c.parts.map Co.cells).length : Int) = 1
      rotate_left
      · rw [decide_eq_false l1, Bool.and_false, Bool.false_and] at h
        refine CallP.pure ?_ rfl (fun _ => rfl) h
        clear h
        refine callP_of C_ok Tryd.func44 rfl rfl (n := _) rfl (Nat.le_of_ble_eq_true rfl) (rs := _) rfl ?_
        repeat' (conv => whnf
                 first | refine Br.no (decide_eq_false k1) ?_ | refine Br.no (decide_eq_false k2) ?_ | refine Br.no (decide_eq_false k3) ?_ | refine Br.yes (decide_eq_true k4) ?_ | refine Br.no (decide_eq_false l1) ?_ | refine Br.tt ?_ | refine Br.ff ?_ | refine Br.dec (fun h => ?_) (fun h => ?_) | refine Br.not ?_ | refine Br.intro (fun h => ?_) (fun h => ?_) | refine GetE.intro _ rfl ?_ | refine Need.intro rfl ?_ | refine DrawP.go mixed rfl ?_)
        conv => whnf
        exact FinP.drop (n := 0) rfl (Nat.le_refl 0) rfl rfl ⟨rfl, rfl⟩
      rw [decide_eq_true l1, Bool.and_true] at h
      by_cases v0 : c.var = 0
      rotate_left
      · rw [decide_eq_false v0, Bool.false_and, Bool.false_and] at h
        refine CallP.pure ?_ rfl (fun _ => rfl) h
        clear h
        refine callP_of C_ok Tryd.func44 rfl rfl (n := _) rfl (Nat.le_of_ble_eq_true rfl) (rs := _) rfl ?_
        repeat' (conv => whnf
                 first | refine Br.no (decide_eq_false k1) ?_ | refine Br.no (decide_eq_false k2) ?_ | refine Br.no (decide_eq_false k3) ?_ | refine Br.yes (decide_eq_true k4) ?_ | refine Br.yes (decide_eq_true l1) ?_ | refine Br.no (decide_eq_false v0) ?_ | refine Br.tt ?_ | refine Br.ff ?_ | refine Br.dec (fun h => ?_) (fun h => ?_) | refine Br.not ?_ | refine Br.intro (fun h => ?_) (fun h => ?_) | refine GetE.intro _ rfl ?_ | refine Need.intro rfl ?_ | refine DrawP.go mixed rfl ?_)
        conv => whnf
        exact FinP.drop (n := 0) rfl (Nat.le_refl 0) rfl rfl ⟨rfl, rfl⟩
      by_cases n0 : c.n = 0
      rotate_left
      · rw [decide_eq_false n0, Bool.and_false, Bool.false_and] at h
        refine CallP.pure ?_ rfl (fun _ => rfl) h
        clear h
        refine callP_of C_ok Tryd.func44 rfl rfl (n := _) rfl (Nat.le_of_ble_eq_true rfl) (rs := _) rfl ?_
        repeat' (conv => whnf
                 first | refine Br.no (decide_eq_false k1) ?_ | refine Br.no (decide_eq_false k2) ?_ | refine Br.no (decide_eq_false k3) ?_ | refine Br.yes (decide_eq_true k4) ?_ | refine Br.yes (decide_eq_true l1) ?_ | refine Br.yes (decide_eq_true v0) ?_ | refine Br.no (decide_eq_false n0) ?_ | refine Br.tt ?_ | refine Br.ff ?_ | refine Br.dec (fun h => ?_) (fun h => ?_) | refine Br.not ?_ | refine Br.intro (fun h => ?_) (fun h => ?_) | refine GetE.intro _ rfl ?_ | refine Need.intro rfl ?_ | refine DrawP.go mixed rfl ?_)
        conv => whnf
        exact FinP.drop (n := 0) rfl (Nat.le_refl 0) rfl rfl ⟨rfl, rfl⟩
      rw [decide_eq_true v0, decide_eq_true n0, Bool.true_and, Bool.true_and] at h
      obtain ⟨r, hr⟩ : ∃ r, r = vCos c.parts := ⟨_, rfl⟩
      have hT : vCos c.parts = true → r = true := fun h => hr.trans h
      have hF : vCos c.parts = false → r = false := fun h => hr.trans h
      rw [← hr] at h
      refine CallP.pure ?_ rfl (fun _ => rfl) h
      clear h
      refine callP_of C_ok Tryd.func44 rfl rfl (n := _) rfl (Nat.le_of_ble_eq_true rfl) (rs := _) rfl ?_
      repeat' (conv => whnf
               first | refine Br.no (decide_eq_false k1) ?_ | refine Br.no (decide_eq_false k2) ?_ | refine Br.no (decide_eq_false k3) ?_ | refine Br.yes (decide_eq_true k4) ?_ | refine Br.yes (decide_eq_true l1) ?_ | refine Br.yes (decide_eq_true v0) ?_ | refine Br.yes (decide_eq_true n0) ?_ | refine Br.tt ?_ | refine Br.ff ?_ | refine Br.dec (fun h => ?_) (fun h => ?_) | refine Br.not ?_ | refine Br.intro (fun h => ?_) (fun h => ?_) | refine GetE.intro _ rfl ?_ | refine Need.intro rfl ?_ | refine DrawP.go mixed rfl ?_)
      conv => whnf
      refine LoopP.inv (fun i : Nat => i ≤ c.parts.length ∧ ∀ (j : Nat) (hj : j < c.parts.length), j < i → vCo c.parts[j] = true) (fun i => ⟨[(1, .ptr 0 0), (3, I i)], Tryd.f44.ntmps, [.cells [I c.kind, I c.var, I c.n, .d (cos c.parts)]], [], none⟩) (fun i => c.parts.length - i) 0 ⟨Nat.zero_le _, fun j _ h => absurd h (Nat.not_lt_zero j)⟩ ?_ ?_
      · exact Weak.to 1 rfl (Nat.zero_le _) (Nat.le_of_ble_eq_true rfl) ⟨rfl, rfl, trivial⟩
      rintro i ⟨hi, hok⟩
      by_cases h2 : (i : Int) < ((c.parts.map Co.cells).length : Int)
      rotate_left
      · have hall : vCos c.parts = true := by
          rw [vCos_all]
          refine List.all_eq_true.2 fun p hp => ?_
          obtain ⟨j, hj, rfl⟩ := List.getElem_of_mem hp
          exact hok j hj (by omega)
        repeat' (conv => whnf
                 first | refine Br.no (decide_eq_false h2) ?_ | refine Br.tt ?_ | refine Br.ff ?_ | refine Br.dec (fun h => ?_) (fun h => ?_) | refine Br.not ?_ | refine Br.intro (fun h => ?_) (fun h => ?_) | refine GetE.intro _ rfl ?_ | refine Need.intro rfl ?_ | refine DrawP.go mixed rfl ?_)
        conv => whnf
        exact FinP.drop (n := 0) rfl (Nat.le_refl 0) rfl rfl ⟨rfl, congrArg B (hT hall).symm⟩
      have hi' : i < c.parts.length := by omega
      have hpm : c.parts[i] ∈ c.parts := List.getElem_mem hi'
      have hps := part_sizeC hpm
      have hno : vCo c.parts[i] = false → vCos c.parts = false := fun hf => by
        rw [vCos_all]
        exact Bool.eq_false_iff.2 fun ht => by rw [List.all_eq_true.1 ht _ hpm] at hf; cases hf
      have hnx : vCo c.parts[i] = true → i + 1 ≤ c.parts.length ∧ ∀ (j : Nat) (hj : j < c.parts.length), j < i + 1 → vCo c.parts[j] = true := fun ht => ⟨hi', fun j hj hji => by
        by_cases e : j = i
        · subst e; exact ht
        · exact hok j hj (by omega)⟩
      have hw2 : IntKind.i64.wrap ((i : Int) + 1) = ((i + 1 : Nat) : Int) := by rw [wrap_in (by omega)]; omega
      have hcall := ih c.parts[i] (by omega) (hc.sub _ hpm)
      obtain ⟨p, hp⟩ : ∃ p, p = c.parts[i] := ⟨_, rfl⟩
      have r1 : (c.parts.map Co.cells)[i]? = some [DI p.kind, DI p.var, DI p.n, cos p.parts] := by rw [List.getElem?_map, List.getElem?_eq_getElem hi', ← hp, ← Co.cells_eq]; rfl
      rw [← hp] at hno hnx hcall
      rw [Co.cells_eq] at hcall
      cases hq : vCo p with
      | false =>
        rw [hq] at hcall
        repeat' (conv => whnf
                 first | refine Br.yes (decide_eq_true h2) ?_ | refine Br.tt ?_ | refine Br.ff ?_ | refine Br.dec (fun h => ?_) (fun h => ?_) | refine Br.not ?_ | refine Br.intro (fun h => ?_) (fun h => ?_) | refine GetE.intro _ rfl ?_ | refine Need.intro rfl ?_ | refine DrawP.go mixed rfl ?_ | refine Idx.intro i _ rfl r1 ?_ | refine hcall _ _ ?_)
        conv => whnf
        exact FinP.drop (n := 0) rfl (Nat.le_refl 0) rfl rfl ⟨rfl, congrArg B (hF (hno hq)).symm⟩
      | true =>
        rw [hq] at hcall
        repeat' (conv => whnf
                 first | refine Br.yes (decide_eq_true h2) ?_ | refine Br.tt ?_ | refine Br.ff ?_ | refine Br.dec (fun h => ?_) (fun h => ?_) | refine Br.not ?_ | refine Br.intro (fun h => ?_) (fun h => ?_) | refine GetE.intro _ rfl ?_ | refine Need.intro rfl ?_ | refine DrawP.go mixed rfl ?_ | refine Idx.intro i _ rfl r1 ?_ | refine hcall _ _ ?_)
        conv => whnf
        exact ⟨i + 1, hnx hq, by omega, Weak.to 1 rfl (Nat.zero_le _) (Nat.le_of_ble_eq_true rfl) ⟨rfl, congrArg I hw2, trivial⟩⟩
    by_cases k2 : c.kind = 2
    · rw [if_neg k1, if_neg k4, if_pos (.inl k2), ← hml] at h
      by_cases l1 : ((c.parts.map Co.cells).length : Int) < 1
      · rw [decide_eq_false (show ¬ (0 : Int) < ((c.parts.map Co.cells).length : Int) by omega), Bool.and_false, Bool.false_and, Bool.false_and] at h
        refine CallP.pure ?_ rfl (fun _ => rfl) h
        clear h
        refine callP_of C_ok Tryd.func44 rfl rfl (n := _) rfl (Nat.le_of_ble_eq_true rfl) (rs := _) rfl ?_
        repeat' (conv => whnf
                 first | refine Br.no (decide_eq_false k1) ?_ | refine Br.yes (decide_eq_true k2) ?_ | refine Br.no (decide_eq_false k4) ?_ | refine Br.yes (decide_eq_true l1) ?_ | refine Br.tt ?_ | refine Br.ff ?_ | refine Br.dec (fun h => ?_) (fun h => ?_) | refine Br.not ?_ | refine Br.intro (fun h => ?_) (fun h => ?_) | refine GetE.intro _ rfl ?_ | refine Need.intro rfl ?_ | refine DrawP.go mixed rfl ?_)
        conv => whnf
        exact FinP.drop (n := 0) rfl (Nat.le_refl 0) rfl rfl ⟨rfl, rfl⟩
      by_cases l2 : (16 : Int) < ((c.parts.map Co.cells).length : Int)
      · rw [decide_eq_false (show ¬ ((c.parts.map Co.cells).length : Int) ≤ 16 by omega), Bool.and_false, Bool.false_and] at h
        refine CallP.pure ?_ rfl (fun _ => rfl) h
        clear h
        refine callP_of C_ok Tryd.func44 rfl rfl (n := _) rfl (Nat.le_of_ble_eq_true rfl) (rs := _) rfl ?_
        repeat' (conv => whnf
                 first | refine Br.no (decide_eq_false k1) ?_ | refine Br.yes (decide_eq_true k2) ?_ | refine Br.no (decide_eq_false k4) ?_ | refine Br.no (decide_eq_false l1) ?_ | refine Br.yes (decide_eq_true l2) ?_ | refine Br.tt ?_ | refine Br.ff ?_ | refine Br.dec (fun h => ?_) (fun h => ?_) | refine Br.not ?_ | refine Br.intro (fun h => ?_) (fun h => ?_) | refine GetE.intro _ rfl ?_ | refine Need.intro rfl ?_ | refine DrawP.go mixed rfl ?_)
        conv => whnf
        exact FinP.drop (n := 0) rfl (Nat.le_refl 0) rfl rfl ⟨rfl, rfl⟩
      rw [decide_eq_true (show (0 : Int) < ((c.parts.map Co.cells).length : Int) by omega), decide_eq_true (show ((c.parts.map Co.cells).length : Int) ≤ 16 by omega), Bool.and_true, Bool.and_true] at h
      by_cases v0 : c.var = 0
      rotate_left
      · rw [decide_eq_false v0, Bool.false_and, Bool.false_and] at h
        refine CallP.pure ?_ rfl (fun _ => rfl) h
        clear h
        refine callP_of C_ok Tryd.func44 rfl rfl (n := _) rfl (Nat.le_of_ble_eq_true rfl) (rs := _) rfl ?_
        repeat' (conv => whnf
                 first | refine Br.no (decide_eq_false k1) ?_ | refine Br.yes (decide_eq_true k2) ?_ | refine Br.no (decide_eq_false k4) ?_ | refine Br.no (decide_eq_false l1) ?_ | refine Br.no (decide_eq_false l2) ?_ | refine Br.no (decide_eq_false v0) ?_ | refine Br.tt ?_ | refine Br.ff ?_ | refine Br.dec (fun h => ?_) (fun h => ?_) | refine Br.not ?_ | refine Br.intro (fun h => ?_) (fun h => ?_) | refine GetE.intro _ rfl ?_ | refine Need.intro rfl ?_ | refine DrawP.go mixed rfl ?_)
        conv => whnf
        exact FinP.drop (n := 0) rfl (Nat.le_refl 0) rfl rfl ⟨rfl, rfl⟩
      by_cases n0 : c.n = 0
      rotate_left
      · rw [decide_eq_false n0, Bool.and_false, Bool.false_and] at h
        refine CallP.pure ?_ rfl (fun _ => rfl) h
        clear h
        refine callP_of C_ok Tryd.func44 rfl rfl (n := _) rfl (Nat.le_of_ble_eq_true rfl) (rs := _) rfl ?_
        repeat' (conv => whnf
                 first | refine Br.no (decide_eq_false k1) ?_ | refine Br.yes (decide_eq_true k2) ?_ | refine Br.no (decide_eq_false k4) ?_ | refine Br.no (decide_eq_false l1) ?_ | refine Br.no (decide_eq_false l2) ?_ | refine Br.yes (decide_eq_true v0) ?_ | refine Br.no (decide_eq_false n0) ?_ | refine Br.tt ?_ | refine Br.ff ?_ | refine Br.dec (fun h => ?_) (fun h => ?_) | refine Br.not ?_ | refine Br.intro (fun h => ?_) (fun h => ?_) | refine GetE.intro _ rfl ?_ | refine Need.intro rfl ?_ | refine DrawP.go mixed rfl ?_)
        conv => whnf
        exact FinP.drop (n := 0) rfl (Nat.le_refl 0) rfl rfl ⟨rfl, rfl⟩
      rw [decide_eq_true v0, decide_eq_true n0, Bool.true_and, Bool.true_and] at h
      obtain ⟨r, hr⟩ : ∃ r, r = vCos c.parts := ⟨_, rfl⟩
      have hT : vCos c.parts = true → r = true := fun h => hr.trans h
      have hF : vCos c.parts = false → r = false := fun h => hr.trans h
      rw [← hr] at h
      refine CallP.pure ?_ rfl (fun _ => rfl) h
      clear h
      refine callP_of C_ok Tryd.func44 rfl rfl (n := _) rfl (Nat.le_of_ble_eq_true rfl) (rs := _) rfl ?_
      repeat' (conv => whnf
               first | refine Br.no (decide_eq_false k1) ?_ | refine Br.yes (decide_eq_true k2) ?_ | refine Br.no (decide_eq_false k4) ?_ | refine Br.no (decide_eq_false l1) ?_ | refine Br.no (decide_eq_false l2) ?_ | refine Br.yes (decide_eq_true v0) ?_ | refine Br.yes (decide_eq_true n0) ?_ | refine Br.tt ?_ | refine Br.ff ?_ | refine Br.dec (fun h => ?_) (fun h => ?_) | refine Br.not ?_ | refine Br.intro (fun h => ?_) (fun h => ?_) | refine GetE.intro _ rfl ?_ | refine Need.intro rfl ?_ | refine DrawP.go mixed rfl ?_)
      conv => whnf
      refine LoopP.inv (fun i : Nat => i ≤ c.parts.length ∧ ∀ (j : Nat) (hj : j < c.parts.length), j < i → vCo c.parts[j] = true) (fun i => ⟨[(1, .ptr 0 0), (3, I i)], Tryd.f44.ntmps, [.cells [I c.kind, I c.var, I c.n, .d (cos c.parts)]], [], none⟩) (fun i => c.parts.length - i) 0 ⟨Nat.zero_le _, fun j _ h => absurd h (Nat.not_lt_zero j)⟩ ?_ ?_
      · exact Weak.to 1 rfl (Nat.zero_le _) (Nat.le_of_ble_eq_true rfl) ⟨rfl, rfl, trivial⟩
      rintro i ⟨hi, hok⟩
      by_cases h2 : (i : Int) < ((c.parts.map Co.cells).length : Int)
      rotate_left
      · have hall : vCos c.parts = true := by
          rw [vCos_all]
          refine List.all_eq_true.2 fun p hp => ?_
          obtain ⟨j, hj, rfl⟩ := List.getElem_of_mem hp
          exact hok j hj (by omega)
        repeat' (conv => whnf
                 first | refine Br.no (decide_eq_false h2) ?_ | refine Br.tt ?_ | refine Br.ff ?_ | refine Br.dec (fun h => ?_) (fun h => ?_) | refine Br.not ?_ | refine Br.intro (fun h => ?_) (fun h => ?_) | refine GetE.intro _ rfl ?_ | refine Need.intro rfl ?_ | refine DrawP.go mixed rfl ?_)
        conv => whnf
        exact FinP.drop (n := 0) rfl (Nat.le_refl 0) rfl rfl ⟨rfl, congrArg B (hT hall).symm⟩
      have hi' : i < c.parts.length := by omega
      have hpm : c.parts[i] ∈ c.parts := List.getElem_mem hi'
      have hps := part_sizeC hpm
      have hno : vCo c.parts[i] = false → vCos c.parts = false := fun hf => by
        rw [vCos_all]
        exact Bool.eq_false_iff.2 fun ht => by rw [List.all_eq_true.1 ht _ hpm] at hf; cases hf
      have hnx : vCo c.parts[i] = true → i + 1 ≤ c.parts.length ∧ ∀ (j : Nat) (hj : j < c.parts.length), j < i + 1 → vCo c.parts[j] = true := fun ht => ⟨hi', fun j hj hji => by
        by_cases e : j = i
        · subst e; exact ht
        · exact hok j hj (by omega)⟩
      have hw2 : IntKind.i64.wrap ((i : Int) + 1) = ((i + 1 : Nat) : Int) := by rw [wrap_in (by omega)]; omega
      have hcall := ih c.parts[i] (by omega) (hc.sub _ hpm)
      obtain ⟨p, hp⟩ : ∃ p, p = c.parts[i] := ⟨_, rfl⟩
      have r1 : (c.parts.map Co.cells)[i]? = some [DI p.kind, DI p.var, DI p.n, cos p.parts] := by rw [List.getElem?_map, List.getElem?_eq_getElem hi', ← hp, ← Co.cells_eq]; rfl
      rw [← hp] at hno hnx hcall
      rw [Co.cells_eq] at hcall
      cases hq : vCo p with
      | false =>
        rw [hq] at hcall
        repeat' (conv => whnf
                 first | refine Br.yes (decide_eq_true h2) ?_ | refine Br.tt ?_ | refine Br.ff ?_ | refine Br.dec (fun h => ?_) (fun h => ?_) | refine Br.not ?_ | refine Br.intro (fun h => ?_) (fun h => ?_) | refine GetE.intro _ rfl ?_ | refine Need.intro rfl ?_ | refine DrawP.go mixed rfl ?_ | refine Idx.intro i _ rfl r1 ?_ | refine hcall _ _ ?_)
        conv => whnf
        exact FinP.drop (n := 0) rfl (Nat.le_refl 0) rfl rfl ⟨rfl, congrArg B (hF (hno hq)).symm⟩
      | true =>
        rw [hq] at hcall
        repeat' (conv => whnf
                 first | refine Br.yes (decide_eq_true h2) ?_ | refine Br.tt ?_ | refine Br.ff ?_ | refine Br.dec (fun h => ?_) (fun h => ?_) | refine Br.not ?_ | refine Br.intro (fun h => ?_) (fun h => ?_) | refine GetE.intro _ rfl ?_ | refine Need.intro rfl ?_ | refine DrawP.go mixed rfl ?_ | refine Idx.intro i _ rfl r1 ?_ | refine hcall _ _ ?_)
        conv => whnf
        exact ⟨i + 1, hnx hq, by omega, Weak.to 1 rfl (Nat.zero_le _) (Nat.le_of_ble_eq_true rfl) ⟨rfl, congrArg I hw2, trivial⟩⟩
    by_cases k3 : c.kind = 3
    · rw [if_neg k1, if_neg k4, if_pos (.inr k3), ← hml] at h
      by_cases l1 : ((c.parts.map Co.cells).length : Int) < 1
      · rw [decide_eq_false (show ¬ (0 : Int) < ((c.parts.map Co.cells).length : Int) by omega), Bool.and_false, Bool.false_and, Bool.false_and] at h
        refine CallP.pure ?_ rfl (fun _ => rfl) h
        clear h
        refine callP_of C_ok Tryd.func44 rfl rfl (n := _) rfl (Nat.le_of_ble_eq_true rfl) (rs := _) rfl ?_
        repeat' (conv => whnf
                 first | refine Br.no (decide_eq_false k1) ?_ | refine Br.no (decide_eq_false k2) ?_ | refine Br.yes (decide_eq_true k3) ?_ | refine Br.no (decide_eq_false k4) ?_ | refine Br.yes (decide_eq_true l1) ?_ | refine Br.tt ?_ | refine Br.ff ?_ | refine Br.dec (fun h => ?_) (fun h => ?_) | refine Br.not ?_ | refine Br.intro (fun h => ?_) (fun h => ?_) | refine GetE.intro _ rfl ?_ | refine Need.intro rfl ?_ | refine DrawP.go mixed rfl ?_)
        conv => whnf
        exact FinP.drop (n := 0) rfl (Nat.le_refl 0) rfl rfl ⟨rfl, rfl⟩
      by_cases l2 : (16 : Int) < ((c.parts.map Co.cells).length : Int)
      · rw [decide_eq_false (show ¬ ((c.parts.map Co.cells).length : Int) ≤ 16 by omega), Bool.and_false, Bool.false_and] at h
        refine CallP.pure ?_ rfl (fun _ => rfl) h
        clear h
        refine callP_of C_ok Tryd.func44 rfl rfl (n := _) rfl (Nat.le_of_ble_eq_true rfl) (rs := _) rfl ?_
        repeat' (conv => whnf
                 first | refine Br.no (decide_eq_false k1) ?_ | refine Br.no (decide_eq_false k2) ?_ | refine Br.yes (decide_eq_true k3) ?_ | refine Br.no (decide_eq_false k4) ?_ | refine Br.no (decide_eq_false l1) ?_ | refine Br.yes (decide_eq_true l2) ?_ | refine Br.tt ?_ | refine Br.ff ?_ | refine Br.dec (fun h => ?_) (fun h => ?_) | refine Br.not ?_ | refine Br.intro (fun h => ?_) (fun h => ?_) | refine GetE.intro _ rfl ?_ | refine Need.intro rfl ?_ | refine DrawP.go mixed rfl ?_)
        conv => whnf
        exact FinP.drop (n := 0) rfl (Nat.le_refl 0) rfl rfl ⟨rfl, rfl⟩
      rw [decide_eq_true (show (0 : Int) < ((c.parts.map Co.cells).length : Int) by omega), decide_eq_true (show ((c.parts.map Co.cells).length : Int) ≤ 16 by omega), Bool.and_true, Bool.and_true] at h
      by_cases v0 : c.var = 0
      rotate_left
      · rw [decide_eq_false v0, Bool.false_and, Bool.false_and] at h
        refine CallP.pure ?_ rfl (fun _ => rfl) h
        clear h
        refine callP_of C_ok Tryd.func44 rfl rfl (n := _) rfl (Nat.le_of_ble_eq_true rfl) (rs := _) rfl ?_
        repeat' (conv => whnf
                 first | refine Br.no (decide_eq_false k1) ?_ | refine Br.no (decide_eq_false k2) ?_ | refine Br.yes (decide_eq_true k3) ?_ | refine Br.no (decide_eq_false k4) ?_ | refine Br.no (decide_eq_false l1) ?_ | refine Br.no (decide_eq_false l2) ?_ | refine Br.no (decide_eq_false v0) ?_ | refine Br.tt ?_ | refine Br.ff ?_ | refine Br.dec (fun h => ?_) (fun h => ?_) | refine Br.not ?_ | refine Br.intro (fun h => ?_) (fun h => ?_) | refine GetE.intro _ rfl ?_ | refine Need.intro rfl ?_ | refine DrawP.go mixed rfl ?_)
        conv => whnf
        exact FinP.drop (n := 0) rfl (Nat.le_refl 0) rfl rfl ⟨rfl, rfl⟩
      by_cases n0 : c.n = 0
      rotate_left
      · rw [decide_eq_false n0, Bool.and_false, Bool.false_and] at h
        refine CallP.pure ?_ rfl (fun _ => rfl) h
        clear h
        refine callP_of C_ok Tryd.func44 rfl rfl (n := _) rfl (Nat.le_of_ble_eq_true rfl) (rs := _) rfl ?_
        repeat' (conv => whnf
                 first | refine Br.no (decide_eq_false k1) ?_ | refine Br.no (decide_eq_false k2) ?_ | refine Br.yes (decide_eq_true k3) ?_ | refine Br.no (decide_eq_false k4) ?_ | refine Br.no (decide_eq_false l1) ?_ | refine Br.no (decide_eq_false l2) ?_ | refine Br.yes (decide_eq_true v0) ?_ | refine Br.no (decide_eq_false n0) ?_ | refine Br.tt ?_ | refine Br.ff ?_ | refine Br.dec (fun h => ?_) (fun h => ?_) | refine Br.not ?_ | refine Br.intro (fun h => ?_) (fun h => ?_) | refine GetE.intro _ rfl ?_ | refine Need.intro rfl ?_ | refine DrawP.go mixed rfl ?_)
        conv => whnf
        exact FinP.drop (n := 0) rfl (Nat.le_refl 0) rfl rfl ⟨rfl, rfl⟩
      rw [decide_eq_true v0, decide_eq_true n0, Bool.true_and, Bool.true_and] at h
      obtain ⟨r, hr⟩ : ∃ r, r = vCos c.parts := ⟨_, rfl⟩
      have hT : vCos c.parts = true → r = true := fun h => hr.trans h
      have hF : vCos c.parts = false → r = false := fun h => hr.trans h
      rw [← hr] at h
      refine CallP.pure ?_ rfl (fun _ => rfl) h
      clear h
      refine callP_of C_ok Tryd.func44 rfl rfl (n := _) rfl (Nat.le_of_ble_eq_true rfl) (rs := _) rfl ?_
      repeat' (conv => whnf
               first | refine Br.no (decide_eq_false k1) ?_ | refine Br.no (decide_eq_false k2) ?_ | refine Br.yes (decide_eq_true k3) ?_ | refine Br.no (decide_eq_false k4) ?_ | refine Br.no (decide_eq_false l1) ?_ | refine Br.no (decide_eq_false l2) ?_ | refine Br.yes (decide_eq_true v0) ?_ | refine Br.yes (decide_eq_true n0) ?_ | refine Br.tt ?_ | refine Br.ff ?_ | refine Br.dec (fun h => ?_) (fun h => ?_) | refine Br.not ?_ | refine Br.intro (fun h => ?_) (fun h => ?_) | refine GetE.intro _ rfl ?_ | refine Need.intro rfl ?_ | refine DrawP.go mixed rfl ?_)
      conv => whnf
      refine LoopP.inv (fun i : Nat => i ≤ c.parts.length ∧ ∀ (j : Nat) (hj : j < c.parts.length), j < i → vCo c.parts[j] = true) (fun i => ⟨[(1, .ptr 0 0), (3, I i)], Tryd.f44.ntmps, [.cells [I c.kind, I c.var, I c.n, .d (cos c.parts)]], [], none⟩) (fun i => c.parts.length - i) 0 ⟨Nat.zero_le _, fun j _ h => absurd h (Nat.not_lt_zero j)⟩ ?_ ?_
      · exact Weak.to 1 rfl (Nat.zero_le _) (Nat.le_of_ble_eq_true rfl) ⟨rfl, rfl, trivial⟩
      rintro i ⟨hi, hok⟩
      by_cases h2 : (i : Int) < ((c.parts.map Co.cells).length : Int)
      rotate_left
      · have hall : vCos c.parts = true := by
          rw [vCos_all]
          refine List.all_eq_true.2 fun p hp => ?_
          obtain ⟨j, hj, rfl⟩ := List.getElem_of_mem hp
          exact hok j hj (by omega)
        repeat' (conv => whnf
                 first | refine Br.no (decide_eq_false h2) ?_ | refine Br.tt ?_ | refine Br.ff ?_ | refine Br.dec (fun h => ?_) (fun h => ?_) | refine Br.not ?_ | refine Br.intro (fun h => ?_) (fun h => ?_) | refine GetE.intro _ rfl ?_ | refine Need.intro rfl ?_ | refine DrawP.go mixed rfl ?_)
        conv => whnf
        exact FinP.drop (n := 0) rfl (Nat.le_refl 0) rfl rfl ⟨rfl, congrArg B (hT hall).symm⟩
      have hi' : i < c.parts.length := by omega
      have hpm : c.parts[i] ∈ c.parts := List.getElem_mem hi'
      have hps := part_sizeC hpm
      have hno : vCo c.parts[i] = false → vCos c.parts = false := fun hf => by
        rw [vCos_all]
        exact Bool.eq_false_iff.2 fun ht => by rw [List.all_eq_true.1 ht _ hpm] at hf; cases hf
      have hnx : vCo c.parts[i] = true → i + 1 ≤ c.parts.length ∧ ∀ (j : Nat) (hj : j < c.parts.length), j < i + 1 → vCo c.parts[j] = true := fun ht => ⟨hi', fun j hj hji => by
        by_cases e : j = i
        · subst e; exact ht
        · exact hok j hj (by omega)⟩
      have hw2 : IntKind.i64.wrap ((i : Int) + 1) = ((i + 1 : Nat) : Int) := by rw [wrap_in (by omega)]; omega
      have hcall := ih c.parts[i] (by omega) (hc.sub _ hpm)
      obtain ⟨p, hp⟩ : ∃ p, p = c.parts[i] := ⟨_, rfl⟩
      have r1 : (c.parts.map Co.cells)[i]? = some [DI p.kind, DI p.var, DI p.n, cos p.parts] := by rw [List.getElem?_map, List.getElem?_eq_getElem hi', ← hp, ← Co.cells_eq]; rfl
      rw [← hp] at hno hnx hcall
      rw [Co.cells_eq] at hcall
      cases hq : vCo p with
      | false =>
        rw [hq] at hcall
        repeat' (conv => whnf
                 first | refine Br.yes (decide_eq_true h2) ?_ | refine Br.tt ?_ | refine Br.ff ?_ | refine Br.dec (fun h => ?_) (fun h => ?_) | refine Br.not ?_ | refine Br.intro (fun h => ?_) (fun h => ?_) | refine GetE.intro _ rfl ?_ | refine Need.intro rfl ?_ | refine DrawP.go mixed rfl ?_ | refine Idx.intro i _ rfl r1 ?_ | refine hcall _ _ ?_)
        conv => whnf
        exact FinP.drop (n := 0) rfl (Nat.le_refl 0) rfl rfl ⟨rfl, congrArg B (hF (hno hq)).symm⟩
      | true =>
        rw [hq] at hcall
        repeat' (conv => whnf
                 first | refine Br.yes (decide_eq_true h2) ?_ | refine Br.tt ?_ | refine Br.ff ?_ | refine Br.dec (fun h => ?_) (fun h => ?_) | refine Br.not ?_ | refine Br.intro (fun h => ?_) (fun h => ?_) | refine GetE.intro _ rfl ?_ | refine Need.intro rfl ?_ | refine DrawP.go mixed rfl ?_ | refine Idx.intro i _ rfl r1 ?_ | refine hcall _ _ ?_)
        conv => whnf
        exact ⟨i + 1, hnx hq, by omega, Weak.to 1 rfl (Nat.zero_le _) (Nat.le_of_ble_eq_true rfl) ⟨rfl, congrArg I hw2, trivial⟩⟩
    rw [if_neg k1, if_neg k4, if_neg (by omega)] at h
    refine CallP.pure ?_ rfl (fun _ => rfl) h
    clear h
    refine callP_of C_ok Tryd.func44 rfl rfl (n := _) rfl (Nat.le_of_ble_eq_true rfl) (rs := _) rfl ?_
    repeat' (conv => whnf
             first | refine Br.no (decide_eq_false k1) ?_ | refine Br.no (decide_eq_false k2) ?_ | refine Br.no (decide_eq_false k3) ?_ | refine Br.no (decide_eq_false k4) ?_ | refine Br.tt ?_ | refine Br.ff ?_ | refine Br.dec (fun h => ?_) (fun h => ?_) | refine Br.not ?_ | refine Br.intro (fun h => ?_) (fun h => ?_) | refine GetE.intro _ rfl ?_ | refine Need.intro rfl ?_ | refine DrawP.go mixed rfl ?_)
    conv => whnf
    exact FinP.drop (n := 0) rfl (Nat.le_refl 0) rfl rfl ⟨rfl, rfl⟩
theorem parts_c (c : Co) (hc : LCo c) (h : k (B (vCo c)) L) : CallP C 44 [.agg (c.cells.map .d)] L k := parts_s _ c (Nat.le_refl _) hc L k h
def rcondF (c : Co) : Int := if (256 : Int) < (cnF 0 c : Int) then 2 else if vCo c = true then 0 else 140
theorem rcond_c (c : Co) (hc : LCo c) (h : k (I (rcondF c)) L) : CallP C 18 [.agg (c.cells.map .d)] L k := by
  have h1 : ∀ {L : List Blk} {k : V → List Blk → Prop}, k (I (cnF 0 c)) L → CallP C 36 [.agg (c.cells.map .d), I 0] L k := fun h => conditions_c c hc h
  have h2 : ∀ {L : List Blk} {k : V → List Blk → Prop}, k (B (vCo c)) L → CallP C 44 [.agg (c.cells.map .d)] L k := fun h => parts_c c hc h
  unfold rcondF at h
  generalize cnF 0 c = n at *
  generalize vCo c = v at *
  rw [Co.cells_eq] at h1 h2 ⊢
  by_cases c1 : (256 : Int) < (n : Int)
  · rw [if_pos c1] at h
    refine CallP.pure ?_ rfl (fun _ => rfl) h
    clear h
    refine callP_of C_ok Tryd.func18 rfl rfl (n := _) rfl (Nat.le_of_ble_eq_true rfl) (rs := _) rfl ?_
    repeat' (conv => whnf
             first | refine Br.yes (decide_eq_true c1) ?_ | refine Br.tt ?_ | refine Br.ff ?_ | refine Br.dec (fun h => ?_) (fun h => ?_) | refine Br.not ?_ | refine Br.intro (fun h => ?_) (fun h => ?_) | refine GetE.intro _ rfl ?_ | refine Need.intro rfl ?_ | refine DrawP.go mixed rfl ?_ | refine h1 ?_)
    conv => whnf
    exact FinP.drop (n := 0) rfl (Nat.le_refl 0) rfl rfl ⟨rfl, rfl⟩
  rw [if_neg c1] at h
  cases v with
  | false =>
    rw [if_neg (by decide)] at h
    refine CallP.pure ?_ rfl (fun _ => rfl) h
    clear h
    refine callP_of C_ok Tryd.func18 rfl rfl (n := _) rfl (Nat.le_of_ble_eq_true rfl) (rs := _) rfl ?_
    repeat' (conv => whnf
             first | refine Br.no (decide_eq_false c1) ?_ | refine Br.tt ?_ | refine Br.ff ?_ | refine Br.dec (fun h => ?_) (fun h => ?_) | refine Br.not ?_ | refine Br.intro (fun h => ?_) (fun h => ?_) | refine GetE.intro _ rfl ?_ | refine Need.intro rfl ?_ | refine DrawP.go mixed rfl ?_ | refine h1 ?_ | refine h2 ?_)
    conv => whnf
    exact FinP.drop (n := 0) rfl (Nat.le_refl 0) rfl rfl ⟨rfl, rfl⟩
  | true =>
    rw [if_pos rfl] at h
    refine CallP.pure ?_ rfl (fun _ => rfl) h
    clear h
    refine callP_of C_ok Tryd.func18 rfl rfl (n := _) rfl (Nat.le_of_ble_eq_true rfl) (rs := _) rfl ?_
    repeat' (conv => whnf
             first | refine Br.no (decide_eq_false c1) ?_ | refine Br.tt ?_ | refine Br.ff ?_ | refine Br.dec (fun h => ?_) (fun h => ?_) | refine Br.not ?_ | refine Br.intro (fun h => ?_) (fun h => ?_) | refine GetE.intro _ rfl ?_ | refine Need.intro rfl ?_ | refine DrawP.go mixed rfl ?_ | refine h1 ?_ | refine h2 ?_)
    conv => whnf
    exact FinP.drop (n := 0) rfl (Nat.le_refl 0) rfl rfl ⟨rfl, rfl⟩
end Go.Proofs.YtddolfgmkpfmcaaDoor
