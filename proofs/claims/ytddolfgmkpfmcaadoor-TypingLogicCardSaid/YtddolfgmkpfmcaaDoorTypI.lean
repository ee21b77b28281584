/-
  typing: Rules.
-/
import Derived.Test.YtddolfgmkpfmcaaDoorTypH
namespace Go.Proofs.YtddolfgmkpfmcaaDoor
open Go.Tidy
set_option maxRecDepth 100000
set_option maxHeartbeats 0
set_option linter.unusedSimpArgs false
set_option linter.unusedVariables false
variable {L : List Blk} {k : V → List Blk → Prop}
open Classical in
theorem rules_c (r : Ru) (hr : LRu r) (h : k (I (rulesF r)) L) : CallP C 13 [.agg (r.cells.map .d)] L k := by
  obtain ⟨hnm, hor, hzl, hzn⟩ := hr
  rcases r with ⟨nm, win, draw, loss, ord, zs⟩
  simp only at hnm hor hzl hzn
  have hb : headBad ⟨nm, win, draw, loss, ord, zs⟩ → rulesF ⟨nm, win, draw, loss, ord, zs⟩ = 140 := fun h => by unfold rulesF; rw [if_pos h]
  refine CallP.pure ?_ rfl (fun _ => rfl) h
  clear h
  refine callP_of C_ok Tryd.func13 rfl rfl (n := _) rfl (Nat.le_of_ble_eq_true rfl) (rs := _) rfl ?_
  by_cases h1 : nameF nm = true
  rotate_left
  · have h1' : nameF nm = false := by simpa using h1
    repeat' (conv => whnf
             first | refine Br.no h1' ?_ | refine Br.tt ?_ | refine Br.ff ?_ | refine Br.dec (fun h => ?_) (fun h => ?_) | refine Br.not ?_ | refine Br.intro (fun h => ?_) (fun h => ?_) | refine GetE.intro _ rfl ?_ | refine Need.intro rfl ?_ | refine DrawP.go mixed rfl ?_ | refine isName_c _ hnm ?_)
    conv => whnf
    exact FinP.drop (n := 0) rfl (Nat.le_refl 0) rfl rfl ⟨rfl, congrArg I (hb (.inl h1')).symm⟩
  by_cases h2 : 99 < win
  · repeat' (conv => whnf
             first | refine Br.yes h1 ?_ | refine Br.yes (decide_eq_true h2) ?_ | refine Br.tt ?_ | refine Br.ff ?_ | refine Br.dec (fun h => ?_) (fun h => ?_) | refine Br.not ?_ | refine Br.intro (fun h => ?_) (fun h => ?_) | refine GetE.intro _ rfl ?_ | refine Need.intro rfl ?_ | refine DrawP.go mixed rfl ?_ | refine isName_c _ hnm ?_)
    conv => whnf
    exact FinP.drop (n := 0) rfl (Nat.le_refl 0) rfl rfl ⟨rfl, congrArg I (hb (.inr (.inl h2))).symm⟩
  by_cases h3 : win < draw
  · repeat' (conv => whnf
             first | refine Br.yes h1 ?_ | refine Br.no (decide_eq_false h2) ?_ | refine Br.yes (decide_eq_true h3) ?_ | refine Br.tt ?_ | refine Br.ff ?_ | refine Br.dec (fun h => ?_) (fun h => ?_) | refine Br.not ?_ | refine Br.intro (fun h => ?_) (fun h => ?_) | refine GetE.intro _ rfl ?_ | refine Need.intro rfl ?_ | refine DrawP.go mixed rfl ?_ | refine isName_c _ hnm ?_)
    conv => whnf
    exact FinP.drop (n := 0) rfl (Nat.le_refl 0) rfl rfl ⟨rfl, congrArg I (hb (.inr (.inr (.inl h3)))).symm⟩
  by_cases h4 : draw < loss
  · repeat' (conv => whnf
             first | refine Br.yes h1 ?_ | refine Br.no (decide_eq_false h2) ?_ | refine Br.no (decide_eq_false h3) ?_ | refine Br.yes (decide_eq_true h4) ?_ | refine Br.tt ?_ | refine Br.ff ?_ | refine Br.dec (fun h => ?_) (fun h => ?_) | refine Br.not ?_ | refine Br.intro (fun h => ?_) (fun h => ?_) | refine GetE.intro _ rfl ?_ | refine Need.intro rfl ?_ | refine DrawP.go mixed rfl ?_ | refine isName_c _ hnm ?_)
    conv => whnf
    exact FinP.drop (n := 0) rfl (Nat.le_refl 0) rfl rfl ⟨rfl, congrArg I (hb (.inr (.inr (.inr (.inl h4))))).symm⟩
  by_cases h5 : loss < -99
  · repeat' (conv => whnf
             first | refine Br.yes h1 ?_ | refine Br.no (decide_eq_false h2) ?_ | refine Br.no (decide_eq_false h3) ?_ | refine Br.no (decide_eq_false h4) ?_ | refine Br.yes (decide_eq_true h5) ?_ | refine Br.tt ?_ | refine Br.ff ?_ | refine Br.dec (fun h => ?_) (fun h => ?_) | refine Br.not ?_ | refine Br.intro (fun h => ?_) (fun h => ?_) | refine GetE.intro _ rfl ?_ | refine Need.intro rfl ?_ | refine DrawP.go mixed rfl ?_ | refine isName_c _ hnm ?_)
    conv => whnf
    exact FinP.drop (n := 0) rfl (Nat.le_refl 0) rfl rfl ⟨rfl, congrArg I (hb (.inr (.inr (.inr (.inr h5))))).symm⟩
  have hnb : ¬ headBad ⟨nm, win, draw, loss, ord, zs⟩ := by
    rintro (h | h | h | h | h)
    · exact absurd (h.symm.trans h1) (by decide)
    · exact h2 h
    · exact h3 h
    · exact h4 h
    · exact h5 h
  have e0 : rulesF ⟨nm, win, draw, loss, ord, zs⟩ = if orderF ord ≠ 0 then orderF ord else if 16 < zs.length then 2 else if ∃ z ∈ zs, badZ z then 140 else 0 := by unfold rulesF; rw [if_neg hnb]
  by_cases h6 : orderF ord = 0
  rotate_left
  · have e1 : rulesF ⟨nm, win, draw, loss, ord, zs⟩ = orderF ord := by rw [e0, if_pos h6]
    repeat' (conv => whnf
             first | refine Br.yes h1 ?_ | refine Br.no (decide_eq_false h2) ?_ | refine Br.no (decide_eq_false h3) ?_ | refine Br.no (decide_eq_false h4) ?_ | refine Br.no (decide_eq_false h5) ?_ | refine Br.no (decide_eq_false h6) ?_ | refine Br.tt ?_ | refine Br.ff ?_ | refine Br.dec (fun h => ?_) (fun h => ?_) | refine Br.not ?_ | refine Br.intro (fun h => ?_) (fun h => ?_) | refine GetE.intro _ rfl ?_ | refine Need.intro rfl ?_ | refine DrawP.go mixed rfl ?_ | refine isName_c _ hnm ?_ | refine order_c ord hor ?_)
    conv => whnf
    exact FinP.drop (n := 0) rfl (Nat.le_refl 0) rfl rfl ⟨rfl, congrArg I e1.symm⟩
  have e2 : rulesF ⟨nm, win, draw, loss, ord, zs⟩ = if 16 < zs.length then 2 else if ∃ z ∈ zs, badZ z then 140 else 0 := by rw [e0, if_neg (fun h => h h6)]
  by_cases h7 : (16 : Int) < ((zs.map Zn.cells).length : Int)
  · have h7' : 16 < zs.length := by rw [List.length_map] at h7; omega
    repeat' (conv => whnf
             first | refine Br.yes h1 ?_ | refine Br.no (decide_eq_false h2) ?_ | refine Br.no (decide_eq_false h3) ?_ | refine Br.no (decide_eq_false h4) ?_ | refine Br.no (decide_eq_false h5) ?_ | refine Br.yes (decide_eq_true h6) ?_ | refine Br.yes (decide_eq_true h7) ?_ | refine Br.tt ?_ | refine Br.ff ?_ | refine Br.dec (fun h => ?_) (fun h => ?_) | refine Br.not ?_ | refine Br.intro (fun h => ?_) (fun h => ?_) | refine GetE.intro _ rfl ?_ | refine Need.intro rfl ?_ | refine DrawP.go mixed rfl ?_ | refine isName_c _ hnm ?_ | refine order_c ord hor ?_)
    conv => whnf
    exact FinP.drop (n := 0) rfl (Nat.le_refl 0) rfl rfl ⟨rfl, congrArg I (by rw [e2, if_pos h7'])⟩
  have h7' : ¬ 16 < zs.length := by rw [List.length_map] at h7; omega
  rw [if_neg h7'] at e2
  repeat' (conv => whnf
           first | refine Br.yes h1 ?_ | refine Br.no (decide_eq_false h2) ?_ | refine Br.no (decide_eq_false h3) ?_ | refine Br.no (decide_eq_false h4) ?_ | refine Br.no (decide_eq_false h5) ?_ | refine Br.yes (decide_eq_true h6) ?_ | refine Br.no (decide_eq_false h7) ?_ | refine Br.tt ?_ | refine Br.ff ?_ | refine Br.dec (fun h => ?_) (fun h => ?_) | refine Br.not ?_ | refine Br.intro (fun h => ?_) (fun h => ?_) | refine GetE.intro _ rfl ?_ | refine Need.intro rfl ?_ | refine DrawP.go mixed rfl ?_ | refine isName_c _ hnm ?_ | refine order_c ord hor ?_)
  conv => whnf
  refine LoopP.inv (fun i => i ≤ zs.length ∧ ∀ (j : Nat) (hj : j < zs.length), j < i → ¬ badZ zs[j]) (fun i => ⟨[(47, .d (zns zs)), (48, I zs.length), (49, I i)], Tryd.f13.ntmps, [], [], none⟩) (fun i => zs.length - i) 0 ⟨Nat.zero_le _, fun j _ h => absurd h (Nat.not_lt_zero j)⟩ ?_ ?_
  · exact Weak.to 0 rfl (Nat.zero_le _) (Nat.zero_le _) ⟨rfl, congrArg I (by simp), rfl, trivial⟩
  rintro i ⟨hi, hok⟩
  by_cases hi' : i < zs.length
  · have hlt : (i : Int) < (zs.length : Int) := by omega
    have hw : IntKind.i64.wrap ((i : Int) + 1) = ((i + 1 : Nat) : Int) := by rw [wrap_in (by omega)]; omega
    have hzm : zs[i] ∈ zs := List.getElem_mem hi'
    have hnz := hzn _ hzm
    have hfl : badZ zs[i] → rulesF ⟨nm, win, draw, loss, ord, zs⟩ = 140 := fun h => by rw [e2, if_pos ⟨_, hzm, h⟩]
    have hnx : ¬ badZ zs[i] → i + 1 ≤ zs.length ∧ ∀ (j : Nat) (hj : j < zs.length), j < i + 1 → ¬ badZ zs[j] := fun h => ⟨hi', fun j hj hji => by
      by_cases e : j = i
      · subst e; exact h
      · exact hok j hj (by omega)⟩
    obtain ⟨z, hz⟩ : ∃ z, z = zs[i]'hi' := ⟨_, rfl⟩
    have r1 : (zs.map Zn.cells)[i]? = some [.str z.name, DI z.from_, DI z.to_] := by rw [List.getElem?_map, List.getElem?_eq_getElem hi', ← hz]; rfl
    rw [← hz] at hnz hfl hnx
    have hgood : nameF z.name = true → ¬ (z.from_ = 0 ∨ 24 < z.from_ ∨ z.from_ < -24) → ¬ (z.to_ = 0 ∨ 24 < z.to_ ∨ z.to_ < -24) → ¬ badZ z := by
      rintro ha hb hc (h | h | h)
      · exact hb h
      · exact hc h
      · exact absurd (ha.symm.trans h) (by decide)
    by_cases hn : nameF z.name = true
    · repeat' (conv => whnf
               first | refine Br.yes (decide_eq_true hlt) ?_ | refine Br.yes hn ?_ | refine Br.tt ?_ | refine Br.ff ?_ | refine Br.dec (fun h => ?_) (fun h => ?_) | refine Br.not ?_ | refine Br.intro (fun h => ?_) (fun h => ?_) | refine GetE.intro _ rfl ?_ | refine Need.intro rfl ?_ | refine DrawP.go mixed rfl ?_ | refine Idx.intro i _ rfl r1 ?_ | refine LoopP.unroll ?_ | refine IdxN.intro 0 rfl (by decide) ?_ | refine IdxN.intro 1 rfl (by decide) ?_ | refine isName_c _ hnz ?_)
      all_goals conv => whnf
      all_goals first
        | exact FinP.drop (n := 0) rfl (Nat.le_refl 0) rfl rfl ⟨rfl, congrArg I (hfl (.inl (by unfold badN; omega))).symm⟩
        | exact FinP.drop (n := 0) rfl (Nat.le_refl 0) rfl rfl ⟨rfl, congrArg I (hfl (.inr (.inl (by unfold badN; omega)))).symm⟩
        | exact ⟨i + 1, hnx (hgood hn (by omega) (by omega)), by omega, Weak.to 0 rfl (Nat.zero_le _) (Nat.zero_le _) ⟨rfl, rfl, congrArg I hw, trivial⟩⟩
    · have hn' : nameF z.name = false := by simpa using hn
      repeat' (conv => whnf
               first | refine Br.yes (decide_eq_true hlt) ?_ | refine Br.no hn' ?_ | refine Br.tt ?_ | refine Br.ff ?_ | refine Br.dec (fun h => ?_) (fun h => ?_) | refine Br.not ?_ | refine Br.intro (fun h => ?_) (fun h => ?_) | refine GetE.intro _ rfl ?_ | refine Need.intro rfl ?_ | refine DrawP.go mixed rfl ?_ | refine Idx.intro i _ rfl r1 ?_ | refine LoopP.unroll ?_ | refine IdxN.intro 0 rfl (by decide) ?_ | refine IdxN.intro 1 rfl (by decide) ?_ | refine isName_c _ hnz ?_)
      all_goals conv => whnf
      all_goals exact FinP.drop (n := 0) rfl (Nat.le_refl 0) rfl rfl ⟨rfl, congrArg I (hfl (.inr (.inr hn'))).symm⟩
  · have hlt : ¬ (i : Int) < (zs.length : Int) := by omega
    have e3 : rulesF ⟨nm, win, draw, loss, ord, zs⟩ = 0 := by
      rw [e2, if_neg]
      rintro ⟨z, hz, hbz⟩
      obtain ⟨j, hj, rfl⟩ := List.getElem_of_mem hz
      exact hok j hj (by omega) hbz
    repeat' (conv => whnf
             first | refine Br.no (decide_eq_false hlt) ?_ | refine Br.tt ?_ | refine Br.ff ?_ | refine Br.dec (fun h => ?_) (fun h => ?_) | refine Br.not ?_ | refine Br.intro (fun h => ?_) (fun h => ?_) | refine GetE.intro _ rfl ?_ | refine Need.intro rfl ?_ | refine DrawP.go mixed rfl ?_)
    conv => whnf
    exact FinP.drop (n := 0) rfl (Nat.le_refl 0) rfl rfl ⟨rfl, congrArg I e3.symm⟩
end Go.Proofs.YtddolfgmkpfmcaaDoor
