/-
  typing: the reference's small functions.
-/
import Derived.Test.YtddolfgmkpfmcaaDoorTypP
namespace Go.Proofs.YtddolfgmkpfmcaaDoor
open Go.Tidy
set_option maxRecDepth 100000
set_option maxHeartbeats 0
set_option linter.unusedSimpArgs false
set_option linter.unusedVariables false
variable {L : List Blk} {k : V → List Blk → Prop}
instance decBadN (n : Int) : Decidable (badN n) := inferInstanceAs (Decidable (n = 0 ∨ 24 < n ∨ n < -24))
theorem place_c (n : Int) (h : k (B (decide (¬ badN n))) L) : CallP C 40 [I n] L k := by
  refine CallP.pure ?_ rfl (fun _ => rfl) h
  clear h
  refine callP_of C_ok Tryd.func40 rfl rfl (n := _) rfl (Nat.le_of_ble_eq_true rfl) (rs := _) rfl ?_
  by_cases h1 : 1 ≤ n
  · by_cases h2 : n ≤ 24
    · repeat' (conv => whnf
               first | refine Br.yes (decide_eq_true h1) ?_ | refine Br.yes (decide_eq_true h2) ?_ | refine Br.tt ?_ | refine Br.ff ?_ | refine Br.dec (fun h => ?_) (fun h => ?_) | refine Br.not ?_ | refine Br.intro (fun h => ?_) (fun h => ?_) | refine GetE.intro _ rfl ?_ | refine Need.intro rfl ?_ | refine DrawP.go mixed rfl ?_)
      conv => whnf
      exact FinP.drop (n := 0) rfl (Nat.le_refl 0) rfl rfl ⟨rfl, congrArg B (decide_eq_true (show ¬ badN n by unfold badN; omega)).symm⟩
    · repeat' (conv => whnf
               first | refine Br.yes (decide_eq_true h1) ?_ | refine Br.no (decide_eq_false h2) ?_ | refine Br.yes (decide_eq_true (show -24 ≤ n by omega)) ?_ | refine Br.tt ?_ | refine Br.ff ?_ | refine Br.dec (fun h => ?_) (fun h => ?_) | refine Br.not ?_ | refine Br.intro (fun h => ?_) (fun h => ?_) | refine GetE.intro _ rfl ?_ | refine Need.intro rfl ?_ | refine DrawP.go mixed rfl ?_)
      conv => whnf
      exact FinP.drop (n := 0) rfl (Nat.le_refl 0) rfl rfl ⟨rfl, Eq.trans (b := B (decide (n ≤ -1))) rfl (congrArg B (show decide (n ≤ -1) = decide (¬ badN n) from decide_eq_decide.2 (by unfold badN; omega)))⟩
  · by_cases h3 : -24 ≤ n
    · repeat' (conv => whnf
               first | refine Br.no (decide_eq_false h1) ?_ | refine Br.yes (decide_eq_true h3) ?_ | refine Br.tt ?_ | refine Br.ff ?_ | refine Br.dec (fun h => ?_) (fun h => ?_) | refine Br.not ?_ | refine Br.intro (fun h => ?_) (fun h => ?_) | refine GetE.intro _ rfl ?_ | refine Need.intro rfl ?_ | refine DrawP.go mixed rfl ?_)
      conv => whnf
      exact FinP.drop (n := 0) rfl (Nat.le_refl 0) rfl rfl ⟨rfl, Eq.trans (b := B (decide (n ≤ -1))) rfl (congrArg B (show decide (n ≤ -1) = decide (¬ badN n) from decide_eq_decide.2 (by unfold badN; omega)))⟩
    · repeat' (conv => whnf
               first | refine Br.no (decide_eq_false h1) ?_ | refine Br.no (decide_eq_false h3) ?_ | refine Br.tt ?_ | refine Br.ff ?_ | refine Br.dec (fun h => ?_) (fun h => ?_) | refine Br.not ?_ | refine Br.intro (fun h => ?_) (fun h => ?_) | refine GetE.intro _ rfl ?_ | refine Need.intro rfl ?_ | refine DrawP.go mixed rfl ?_)
      conv => whnf
      exact FinP.drop (n := 0) rfl (Nat.le_refl 0) rfl rfl ⟨rfl, congrArg B (decide_eq_false (show ¬ ¬ badN n by unfold badN; omega)).symm⟩
theorem points_c (n : Int) (h : k (B (decide (-99 ≤ n ∧ n ≤ 99))) L) : CallP C 39 [I n] L k := by
  refine CallP.pure ?_ rfl (fun _ => rfl) h
  clear h
  refine callP_of C_ok Tryd.func39 rfl rfl (n := _) rfl (Nat.le_of_ble_eq_true rfl) (rs := _) rfl ?_
  by_cases h1 : -99 ≤ n
  · repeat' (conv => whnf
             first | refine Br.yes (decide_eq_true h1) ?_ | refine Br.tt ?_ | refine Br.ff ?_ | refine Br.dec (fun h => ?_) (fun h => ?_) | refine Br.not ?_ | refine Br.intro (fun h => ?_) (fun h => ?_) | refine GetE.intro _ rfl ?_ | refine Need.intro rfl ?_ | refine DrawP.go mixed rfl ?_)
    conv => whnf
    exact FinP.drop (n := 0) rfl (Nat.le_refl 0) rfl rfl ⟨rfl, Eq.trans (b := B (decide (n ≤ 99))) rfl (congrArg B (show decide (n ≤ 99) = decide (-99 ≤ n ∧ n ≤ 99) from decide_eq_decide.2 (by omega)))⟩
  · repeat' (conv => whnf
             first | refine Br.no (decide_eq_false h1) ?_ | refine Br.tt ?_ | refine Br.ff ?_ | refine Br.dec (fun h => ?_) (fun h => ?_) | refine Br.not ?_ | refine Br.intro (fun h => ?_) (fun h => ?_) | refine GetE.intro _ rfl ?_ | refine Need.intro rfl ?_ | refine DrawP.go mixed rfl ?_)
    conv => whnf
    exact FinP.drop (n := 0) rfl (Nat.le_refl 0) rfl rfl ⟨rfl, congrArg B (decide_eq_false (show ¬ (-99 ≤ n ∧ n ≤ 99) by omega)).symm⟩
theorem zero_c (c : Co) (h : k (B (isZ c)) L) : CallP C 53 [.agg (c.cells.map .d)] L k := by
  rw [Co.cells_eq]
  refine CallP.pure ?_ rfl (fun _ => rfl) h
  clear h
  refine callP_of C_ok Tryd.func53 rfl rfl (n := _) rfl (Nat.le_of_ble_eq_true rfl) (rs := _) rfl ?_
  repeat' (conv => whnf
           first | refine Br.tt ?_ | refine Br.ff ?_ | refine Br.dec (fun h => ?_) (fun h => ?_) | refine Br.not ?_ | refine Br.intro (fun h => ?_) (fun h => ?_) | refine GetE.intro _ rfl ?_ | refine Need.intro rfl ?_ | refine DrawP.go mixed rfl ?_)
  all_goals conv => whnf
  all_goals refine FinP.drop (n := 0) rfl (Nat.le_refl 0) rfl rfl ⟨rfl, congrArg B ?_⟩
  all_goals simp_all [isZ]
theorem in_c (l : List Int) (hl : l.length ≤ 4611686018427387904) (m : Int) (h : k (B (l.any fun v => decide (v = m))) L) : CallP C 25 [.d (ins l), I m] L k := by
  refine CallP.pure ?_ rfl (fun _ => rfl) h
  clear h
  refine callP_of C_ok Tryd.func25 rfl rfl (n := _) rfl (Nat.le_of_ble_eq_true rfl) (rs := _) rfl ?_
  conv => whnf
  refine LoopP.inv (fun i : Nat => i ≤ l.length ∧ ∀ (j : Nat) (hj : j < l.length), j < i → decide (l[j] = m) = false) (fun i => ⟨[(0, .d (ins l)), (1, I m), (5, I i)], Tryd.f25.ntmps, [], [], none⟩) (fun i => l.length - i) 0 ⟨Nat.zero_le _, fun j _ h => absurd h (Nat.not_lt_zero j)⟩ ?_ ?_
  · exact Weak.to 0 rfl (Nat.zero_le _) (Nat.zero_le _) ⟨rfl, rfl, rfl, trivial⟩
  rintro i ⟨hi, hno⟩
  by_cases hlt : (i : Int) < ((l.map fun n => [DI n]).length : Int)
  · have hi' : i < l.length := by rw [List.length_map] at hlt; omega
    have hw : IntKind.i64.wrap ((i : Int) + 1) = ((i + 1 : Nat) : Int) := by rw [wrap_in (by omega)]; omega
    have r1 : (l.map fun n => [DI n])[i]? = some [DI l[i]] := by rw [List.getElem?_map, List.getElem?_eq_getElem hi']; rfl
    by_cases hq : decide (l[i] = m) = true
    · repeat' (conv => whnf
               first | refine Br.yes (decide_eq_true hlt) ?_ | refine Br.yes hq ?_ | refine Br.tt ?_ | refine Br.ff ?_ | refine Br.dec (fun h => ?_) (fun h => ?_) | refine Br.not ?_ | refine Br.intro (fun h => ?_) (fun h => ?_) | refine GetE.intro _ rfl ?_ | refine Need.intro rfl ?_ | refine DrawP.go mixed rfl ?_ | refine Idx.intro i _ rfl r1 ?_)
      conv => whnf
      exact FinP.drop (n := 0) rfl (Nat.le_refl 0) rfl rfl ⟨rfl, congrArg B (List.any_eq_true.2 ⟨_, List.getElem_mem hi', hq⟩).symm⟩
    · have hq' : decide (l[i] = m) = false := eq_false_of_ne_true hq
      repeat' (conv => whnf
               first | refine Br.yes (decide_eq_true hlt) ?_ | refine Br.no hq' ?_ | refine Br.tt ?_ | refine Br.ff ?_ | refine Br.dec (fun h => ?_) (fun h => ?_) | refine Br.not ?_ | refine Br.intro (fun h => ?_) (fun h => ?_) | refine GetE.intro _ rfl ?_ | refine Need.intro rfl ?_ | refine DrawP.go mixed rfl ?_ | refine Idx.intro i _ rfl r1 ?_)
      conv => whnf
      exact ⟨i + 1, ⟨hi', fun j hj hji => by
        by_cases e : j = i
        · subst e; exact hq'
        · exact hno j hj (by omega)⟩, by omega, Weak.to 0 rfl (Nat.zero_le _) (Nat.zero_le _) ⟨rfl, rfl, congrArg I hw, trivial⟩⟩
  · have hl' : l.length ≤ i := by rw [List.length_map] at hlt; omega
    have hf : (l.any fun v => decide (v = m)) = false := by
      refine Bool.eq_false_iff.2 fun ht => ?_
      obtain ⟨v, hv, hvm⟩ := List.any_eq_true.1 ht
      obtain ⟨j, hj, rfl⟩ := List.getElem_of_mem hv
      exact absurd hvm (by rw [hno j hj (by omega)]; decide)
    repeat' (conv => whnf
             first | refine Br.no (decide_eq_false hlt) ?_ | refine Br.tt ?_ | refine Br.ff ?_ | refine Br.dec (fun h => ?_) (fun h => ?_) | refine Br.not ?_ | refine Br.intro (fun h => ?_) (fun h => ?_) | refine GetE.intro _ rfl ?_ | refine Need.intro rfl ?_ | refine DrawP.go mixed rfl ?_)
    conv => whnf
    exact FinP.drop (n := 0) rfl (Nat.le_refl 0) rfl rfl ⟨rfl, congrArg B hf.symm⟩
theorem rname_c (s : ByteArray) (hs : s.size ≤ 4611686018427387904) (h : k (B (nameF s)) L) : CallP C 38 [.d (.str s)] L k := by
  refine CallP.pure ?_ rfl (fun _ => rfl) h
  clear h
  refine callP_of C_ok Tryd.func38 rfl rfl (n := _) rfl (Nat.le_of_ble_eq_true rfl) (rs := _) rfl ?_
  by_cases h1 : (s.size : Int) < 1
  · repeat' (conv => whnf
             first | refine Br.yes (decide_eq_true h1) ?_ | refine Br.tt ?_ | refine Br.ff ?_ | refine Br.dec (fun h => ?_) (fun h => ?_) | refine Br.not ?_ | refine Br.intro (fun h => ?_) (fun h => ?_) | refine GetE.intro _ rfl ?_ | refine Need.intro rfl ?_ | refine DrawP.go mixed rfl ?_)
    conv => whnf
    exact FinP.drop (n := 0) rfl (Nat.le_refl 0) rfl rfl ⟨rfl, congrArg B (nameF_no fun h => by omega)⟩
  by_cases h2 : (24 : Int) < (s.size : Int)
  · repeat' (conv => whnf
             first | refine Br.no (decide_eq_false h1) ?_ | refine Br.yes (decide_eq_true h2) ?_ | refine Br.tt ?_ | refine Br.ff ?_ | refine Br.dec (fun h => ?_) (fun h => ?_) | refine Br.not ?_ | refine Br.intro (fun h => ?_) (fun h => ?_) | refine GetE.intro _ rfl ?_ | refine Need.intro rfl ?_ | refine DrawP.go mixed rfl ?_)
    conv => whnf
    exact FinP.drop (n := 0) rfl (Nat.le_refl 0) rfl rfl ⟨rfl, congrArg B (nameF_no fun h => by omega)⟩
  have h0 : 0 < s.size := by omega
  by_cases h3 : byteAt s 0 < 97
  · repeat' (conv => whnf
             first | refine Br.no (decide_eq_false h1) ?_ | refine Br.no (decide_eq_false h2) ?_ | refine Br.yes (decide_eq_true h3) ?_ | refine Br.tt ?_ | refine Br.ff ?_ | refine Br.dec (fun h => ?_) (fun h => ?_) | refine Br.not ?_ | refine Br.intro (fun h => ?_) (fun h => ?_) | refine GetE.intro _ rfl ?_ | refine Need.intro rfl ?_ | refine DrawP.go mixed rfl ?_ | refine IdxN.intro 0 rfl h0 ?_)
    conv => whnf
    exact FinP.drop (n := 0) rfl (Nat.le_refl 0) rfl rfl ⟨rfl, congrArg B (nameF_no fun h => by omega)⟩
  by_cases h4 : 122 < byteAt s 0
  · repeat' (conv => whnf
             first | refine Br.no (decide_eq_false h1) ?_ | refine Br.no (decide_eq_false h2) ?_ | refine Br.no (decide_eq_false h3) ?_ | refine Br.yes (decide_eq_true h4) ?_ | refine Br.tt ?_ | refine Br.ff ?_ | refine Br.dec (fun h => ?_) (fun h => ?_) | refine Br.not ?_ | refine Br.intro (fun h => ?_) (fun h => ?_) | refine GetE.intro _ rfl ?_ | refine Need.intro rfl ?_ | refine DrawP.go mixed rfl ?_ | refine IdxN.intro 0 rfl h0 ?_)
    conv => whnf
    exact FinP.drop (n := 0) rfl (Nat.le_refl 0) rfl rfl ⟨rfl, congrArg B (nameF_no fun h => by omega)⟩
  repeat' (conv => whnf
           first | refine Br.no (decide_eq_false h1) ?_ | refine Br.no (decide_eq_false h2) ?_ | refine Br.no (decide_eq_false h3) ?_ | refine Br.no (decide_eq_false h4) ?_ | refine Br.tt ?_ | refine Br.ff ?_ | refine Br.dec (fun h => ?_) (fun h => ?_) | refine Br.not ?_ | refine Br.intro (fun h => ?_) (fun h => ?_) | refine GetE.intro _ rfl ?_ | refine Need.intro rfl ?_ | refine DrawP.go mixed rfl ?_ | refine IdxN.intro 0 rfl h0 ?_)
  conv => whnf
  have hb0 : okB (byteAt s 0) = true := by
    unfold okB
    rw [decide_eq_false h3, decide_eq_false h4]; rfl
  refine LoopP.inv (fun i : Nat => i ≤ s.size ∧ ∀ j, j < i → okB (byteAt s j) = true) (fun i => ⟨[(0, .d (.str s)), (3, I i)], Tryd.f38.ntmps, [], [], none⟩) (fun i => s.size - i) 1 ⟨by omega, fun j hj => by rw [show j = 0 by omega]; exact hb0⟩ ?_ ?_
  · exact Weak.by ⟨rfl, rfl, trivial⟩
  rintro i ⟨hi, hok⟩
  by_cases hi' : i < s.size
  · have hlt : (i : Int) < (s.size : Int) := by omega
    have hw : IntKind.i64.wrap ((i : Int) + 1) = ((i + 1 : Nat) : Int) := by rw [wrap_in (by omega)]; omega
    obtain ⟨c, hc⟩ : ∃ c, c = byteAt s i := ⟨_, rfl⟩
    have hno : okB c = false → false = nameF s := fun h => nameF_no fun hh => by
      have := hh.2.2.2.2 i hi'
      rw [← hc, h] at this; cases this
    have hyes : okB c = true → i + 1 ≤ s.size ∧ ∀ j, j < i + 1 → okB (byteAt s j) = true := fun h => ⟨hi', fun j hj => by
      by_cases e : j = i
      · subst e; rw [← hc]; exact h
      · exact hok j (by omega)⟩
    have hid : ∀ {k : Nat → Prop}, k i → IdxN s.size (i : Int) k := fun h => IdxN.intro i rfl hi' h
    repeat' (conv => whnf
             first | refine Br.yes (decide_eq_true hlt) ?_ | refine Br.tt ?_ | refine Br.ff ?_ | refine Br.dec (fun h => ?_) (fun h => ?_) | refine Br.not ?_ | refine Br.intro (fun h => ?_) (fun h => ?_) | refine GetE.intro _ rfl ?_ | refine Need.intro rfl ?_ | refine DrawP.go mixed rfl ?_ | refine hid ?_)
    all_goals conv => whnf
    all_goals rw [← hc] at *
    all_goals first
      | exact ⟨i + 1, hyes (by simp_all [okB]), by omega, Weak.by ⟨rfl, congrArg I hw, trivial⟩⟩
      | exact FinP.drop (n := 0) rfl (Nat.le_refl 0) rfl rfl ⟨rfl, congrArg B (hno (by simp_all [okB]))⟩
  · have hlt : ¬ (i : Int) < (s.size : Int) := by omega
    repeat' (conv => whnf
             first | refine Br.no (decide_eq_false hlt) ?_ | refine Br.tt ?_ | refine Br.ff ?_ | refine Br.dec (fun h => ?_) (fun h => ?_) | refine Br.not ?_ | refine Br.intro (fun h => ?_) (fun h => ?_) | refine GetE.intro _ rfl ?_ | refine Need.intro rfl ?_ | refine DrawP.go mixed rfl ?_)
    conv => whnf
    exact FinP.drop (n := 0) rfl (Nat.le_refl 0) rfl rfl ⟨rfl, congrArg B (decide_eq_true ⟨by omega, by omega, by omega, by omega, fun j hj => hok j (by omega)⟩).symm⟩
end Go.Proofs.YtddolfgmkpfmcaaDoor
