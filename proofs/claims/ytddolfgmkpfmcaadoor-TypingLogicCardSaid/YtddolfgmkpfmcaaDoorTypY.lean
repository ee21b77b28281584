/-
  typing: the reference's Rules.
-/
import Derived.Test.YtddolfgmkpfmcaaDoorTypX
namespace Go.Proofs.YtddolfgmkpfmcaaDoor
open Go.Tidy
set_option maxRecDepth 100000
set_option maxHeartbeats 0
set_option linter.unusedSimpArgs false
set_option linter.unusedVariables false
variable {L : List Blk} {k : V → List Blk → Prop}
open Classical in
noncomputable def rrulesF (r : Ru) : Int := if headBad r then 140 else if rorderF r.order ≠ 0 then rorderF r.order else if 16 < r.zones.length then 2 else if ∃ z ∈ r.zones, badZ z then 140 else 0
open Classical in
theorem rrules_c (r : Ru) (hr : LRu r) (h : k (I (rrulesF r)) L) : CallP C 14 [.agg (r.cells.map .d)] L k := by
  obtain ⟨hnm, hor, hzl, hzn⟩ := hr
  rcases r with ⟨nm, win, draw, loss, ord, zs⟩
  simp only at hnm hor hzl hzn
  have hb : headBad ⟨nm, win, draw, loss, ord, zs⟩ → I 140 = I (rrulesF ⟨nm, win, draw, loss, ord, zs⟩) := fun h => by unfold rrulesF; rw [if_pos h]
  have hp : ∀ (n : Int) (b : Bool), decide (-99 ≤ n ∧ n ≤ 99) = b → ∀ {L : List Blk} {k : V → List Blk → Prop}, k (B b) L → CallP C 39 [I n] L k := fun n b e _ _ h => points_c n (by rw [e]; exact h)
  have hnc : ∀ (b : Bool), nameF nm = b → ∀ {L : List Blk} {k : V → List Blk → Prop}, k (B b) L → CallP C 38 [.d (.str nm)] L k := fun b e _ _ h => rname_c nm hnm (by rw [e]; exact h)
  have hoc : ∀ {L : List Blk} {k : V → List Blk → Prop}, k (I (rorderF ord)) L → CallP C 16 [.d (sps ord)] L k := fun h => rorder_c ord hor h
  refine CallP.pure ?_ rfl (fun _ => rfl) h
  clear h
  refine callP_of C_ok Tryd.func14 rfl rfl (n := _) rfl (Nat.le_of_ble_eq_true rfl) (rs := _) rfl ?_
  cases h1 : nameF nm with
  | false =>
    repeat' (conv => whnf
             first | refine Br.tt ?_ | refine Br.ff ?_ | refine Br.dec (fun h => ?_) (fun h => ?_) | refine Br.not ?_ | refine Br.intro (fun h => ?_) (fun h => ?_) | refine GetE.intro _ rfl ?_ | refine Need.intro rfl ?_ | refine DrawP.go mixed rfl ?_ | refine hnc _ h1 ?_)
    conv => whnf
    exact FinP.drop (n := 0) rfl (Nat.le_refl 0) rfl rfl ⟨rfl, hb (.inl h1)⟩
  | true =>
  by_cases w1 : -99 ≤ win ∧ win ≤ 99
  rotate_left
  · have hbad : headBad ⟨nm, win, draw, loss, ord, zs⟩ := by unfold headBad; simp only; omega
    repeat' (conv => whnf
             first | refine Br.tt ?_ | refine Br.ff ?_ | refine Br.dec (fun h => ?_) (fun h => ?_) | refine Br.not ?_ | refine Br.intro (fun h => ?_) (fun h => ?_) | refine GetE.intro _ rfl ?_ | refine Need.intro rfl ?_ | refine DrawP.go mixed rfl ?_ | refine hnc _ h1 ?_ | refine hp _ _ (decide_eq_false w1) ?_)
    conv => whnf
    exact FinP.drop (n := 0) rfl (Nat.le_refl 0) rfl rfl ⟨rfl, hb hbad⟩
  by_cases w2 : -99 ≤ draw ∧ draw ≤ 99
  rotate_left
  · have hbad : headBad ⟨nm, win, draw, loss, ord, zs⟩ := by unfold headBad; simp only; omega
    repeat' (conv => whnf
             first | refine Br.tt ?_ | refine Br.ff ?_ | refine Br.dec (fun h => ?_) (fun h => ?_) | refine Br.not ?_ | refine Br.intro (fun h => ?_) (fun h => ?_) | refine GetE.intro _ rfl ?_ | refine Need.intro rfl ?_ | refine DrawP.go mixed rfl ?_ | refine hnc _ h1 ?_ | refine hp _ _ (decide_eq_true w1) ?_ | refine hp _ _ (decide_eq_false w2) ?_)
    conv => whnf
    exact FinP.drop (n := 0) rfl (Nat.le_refl 0) rfl rfl ⟨rfl, hb hbad⟩
  by_cases w3 : -99 ≤ loss ∧ loss ≤ 99
  rotate_left
  · have hbad : headBad ⟨nm, win, draw, loss, ord, zs⟩ := by unfold headBad; simp only; omega
    repeat' (conv => whnf
             first | refine Br.tt ?_ | refine Br.ff ?_ | refine Br.dec (fun h => ?_) (fun h => ?_) | refine Br.not ?_ | refine Br.intro (fun h => ?_) (fun h => ?_) | refine GetE.intro _ rfl ?_ | refine Need.intro rfl ?_ | refine DrawP.go mixed rfl ?_ | refine hnc _ h1 ?_ | refine hp _ _ (decide_eq_true w1) ?_ | refine hp _ _ (decide_eq_true w2) ?_ | refine hp _ _ (decide_eq_false w3) ?_)
    conv => whnf
    exact FinP.drop (n := 0) rfl (Nat.le_refl 0) rfl rfl ⟨rfl, hb hbad⟩
  by_cases h3 : win < draw
  · repeat' (conv => whnf
             first | refine Br.yes (decide_eq_true h3) ?_ | refine Br.tt ?_ | refine Br.ff ?_ | refine Br.dec (fun h => ?_) (fun h => ?_) | refine Br.not ?_ | refine Br.intro (fun h => ?_) (fun h => ?_) | refine GetE.intro _ rfl ?_ | refine Need.intro rfl ?_ | refine DrawP.go mixed rfl ?_ | refine hnc _ h1 ?_ | refine hp _ _ (decide_eq_true w1) ?_ | refine hp _ _ (decide_eq_true w2) ?_ | refine hp _ _ (decide_eq_true w3) ?_)
    conv => whnf
    exact FinP.drop (n := 0) rfl (Nat.le_refl 0) rfl rfl ⟨rfl, hb (.inr (.inr (.inl h3)))⟩
  by_cases h4 : draw < loss
  · repeat' (conv => whnf
             first | refine Br.no (decide_eq_false h3) ?_ | refine Br.yes (decide_eq_true h4) ?_ | refine Br.tt ?_ | refine Br.ff ?_ | refine Br.dec (fun h => ?_) (fun h => ?_) | refine Br.not ?_ | refine Br.intro (fun h => ?_) (fun h => ?_) | refine GetE.intro _ rfl ?_ | refine Need.intro rfl ?_ | refine DrawP.go mixed rfl ?_ | refine hnc _ h1 ?_ | refine hp _ _ (decide_eq_true w1) ?_ | refine hp _ _ (decide_eq_true w2) ?_ | refine hp _ _ (decide_eq_true w3) ?_)
    conv => whnf
    exact FinP.drop (n := 0) rfl (Nat.le_refl 0) rfl rfl ⟨rfl, hb (.inr (.inr (.inr (.inl h4))))⟩
  have hnb : ¬ headBad ⟨nm, win, draw, loss, ord, zs⟩ := by
    rintro (h | h | h | h | h)
    · exact absurd (h.symm.trans h1) (by decide)
    · simp only at h; omega
    · exact h3 h
    · exact h4 h
    · simp only at h; omega
  have e0 : rrulesF ⟨nm, win, draw, loss, ord, zs⟩ = if rorderF ord ≠ 0 then rorderF ord else if 16 < zs.length then 2 else if ∃ z ∈ zs, badZ z then 140 else 0 := by unfold rrulesF; rw [if_neg hnb]
  clear hb
  generalize rorderF ord = oo at *
  generalize rrulesF ⟨nm, win, draw, loss, ord, zs⟩ = rr at *
  by_cases h6 : oo = 0
  rotate_left
  · rw [if_pos h6] at e0
    repeat' (conv => whnf
             first | refine Br.no (decide_eq_false h3) ?_ | refine Br.no (decide_eq_false h4) ?_ | refine Br.no (decide_eq_false h6) ?_ | refine Br.tt ?_ | refine Br.ff ?_ | refine Br.dec (fun h => ?_) (fun h => ?_) | refine Br.not ?_ | refine Br.intro (fun h => ?_) (fun h => ?_) | refine GetE.intro _ rfl ?_ | refine Need.intro rfl ?_ | refine DrawP.go mixed rfl ?_ | refine hnc _ h1 ?_ | refine hp _ _ (decide_eq_true w1) ?_ | refine hp _ _ (decide_eq_true w2) ?_ | refine hp _ _ (decide_eq_true w3) ?_ | refine hoc ?_)
    conv => whnf
    exact FinP.drop (n := 0) rfl (Nat.le_refl 0) rfl rfl ⟨rfl, congrArg I e0.symm⟩
  rw [if_neg (fun h => h h6)] at e0
  by_cases h7 : (16 : Int) < ((zs.map Zn.cells).length : Int)
  · have h7' : 16 < zs.length := by rw [List.length_map] at h7; omega
    rw [if_pos h7'] at e0
    repeat' (conv => whnf
             first | refine Br.no (decide_eq_false h3) ?_ | refine Br.no (decide_eq_false h4) ?_ | refine Br.yes (decide_eq_true h6) ?_ | refine Br.yes (decide_eq_true h7) ?_ | refine Br.tt ?_ | refine Br.ff ?_ | refine Br.dec (fun h => ?_) (fun h => ?_) | refine Br.not ?_ | refine Br.intro (fun h => ?_) (fun h => ?_) | refine GetE.intro _ rfl ?_ | refine Need.intro rfl ?_ | refine DrawP.go mixed rfl ?_ | refine hnc _ h1 ?_ | refine hp _ _ (decide_eq_true w1) ?_ | refine hp _ _ (decide_eq_true w2) ?_ | refine hp _ _ (decide_eq_true w3) ?_ | refine hoc ?_)
    conv => whnf
    exact FinP.drop (n := 0) rfl (Nat.le_refl 0) rfl rfl ⟨rfl, congrArg I e0.symm⟩
  have h7' : ¬ 16 < zs.length := by rw [List.length_map] at h7; omega
  rw [if_neg h7'] at e0
  repeat' (conv => whnf
           first | refine Br.no (decide_eq_false h3) ?_ | refine Br.no (decide_eq_false h4) ?_ | refine Br.yes (decide_eq_true h6) ?_ | refine Br.no (decide_eq_false h7) ?_ | refine Br.tt ?_ | refine Br.ff ?_ | refine Br.dec (fun h => ?_) (fun h => ?_) | refine Br.not ?_ | refine Br.intro (fun h => ?_) (fun h => ?_) | refine GetE.intro _ rfl ?_ | refine Need.intro rfl ?_ | refine DrawP.go mixed rfl ?_ | refine hnc _ h1 ?_ | refine hp _ _ (decide_eq_true w1) ?_ | refine hp _ _ (decide_eq_true w2) ?_ | refine hp _ _ (decide_eq_true w3) ?_ | refine hoc ?_)
  conv => whnf
  refine LoopP.inv (fun i : Nat => i ≤ zs.length ∧ ∀ (j : Nat) (hj : j < zs.length), j < i → ¬ badZ zs[j]) (fun i => ⟨[(1, .ptr 0 0), (4, I i)], Tryd.f14.ntmps, [.cells [.d (.str nm), I win, I draw, I loss, .d (sps ord), .d (zns zs)]], [], none⟩) (fun i => zs.length - i) 0 ⟨Nat.zero_le _, fun j _ h => absurd h (Nat.not_lt_zero j)⟩ ?_ ?_
  · exact Weak.to 1 rfl (Nat.zero_le _) (Nat.le_of_ble_eq_true rfl) ⟨rfl, rfl, trivial⟩
  rintro i ⟨hi, hok⟩
  by_cases hlt : (i : Int) < ((zs.map Zn.cells).length : Int)
  rotate_left
  · have e3 : rr = 0 := by
      rw [e0, if_neg]
      rintro ⟨z, hz, hbz⟩
      obtain ⟨j, hj, rfl⟩ := List.getElem_of_mem hz
      exact hok j hj (by rw [List.length_map] at hlt; omega) hbz
    repeat' (conv => whnf
             first | refine Br.no (decide_eq_false hlt) ?_ | refine Br.tt ?_ | refine Br.ff ?_ | refine Br.dec (fun h => ?_) (fun h => ?_) | refine Br.not ?_ | refine Br.intro (fun h => ?_) (fun h => ?_) | refine GetE.intro _ rfl ?_ | refine Need.intro rfl ?_ | refine DrawP.go mixed rfl ?_)
    conv => whnf
    exact FinP.drop (n := 0) rfl (Nat.zero_le _) rfl rfl ⟨rfl, congrArg I e3.symm⟩
  have hi' : i < zs.length := by rw [List.length_map] at hlt; omega
  have hw : IntKind.i64.wrap ((i : Int) + 1) = ((i + 1 : Nat) : Int) := by rw [wrap_in (by omega)]; omega
  have hzm : zs[i] ∈ zs := List.getElem_mem hi'
  have hnz := hzn _ hzm
  have hfl : badZ zs[i] → I 140 = I rr := fun h => by rw [e0, if_pos ⟨_, hzm, h⟩]
  have hnx : ¬ badZ zs[i] → i + 1 ≤ zs.length ∧ ∀ (j : Nat) (hj : j < zs.length), j < i + 1 → ¬ badZ zs[j] := fun h => ⟨hi', fun j hj hji => by
    by_cases e : j = i
    · subst e; exact h
    · exact hok j hj (by omega)⟩
  obtain ⟨z, hz⟩ : ∃ z, z = zs[i]'hi' := ⟨_, rfl⟩
  have r1 : (zs.map Zn.cells)[i]? = some [.str z.name, DI z.from_, DI z.to_] := by rw [List.getElem?_map, List.getElem?_eq_getElem hi', ← hz]; rfl
  rw [← hz] at hnz hfl hnx
  have hzc : ∀ (b : Bool), nameF z.name = b → ∀ {L : List Blk} {k : V → List Blk → Prop}, k (B b) L → CallP C 38 [.d (.str z.name)] L k := fun b e _ _ h => rname_c z.name hnz (by rw [e]; exact h)
  have hpl : ∀ (n : Int) (b : Bool), decide (¬ badN n) = b → ∀ {L : List Blk} {k : V → List Blk → Prop}, k (B b) L → CallP C 40 [I n] L k := fun n b e _ _ h => place_c n (by rw [← e] at h; exact cast (by congr) h)
  cases c1 : nameF z.name with
  | false =>
    repeat' (conv => whnf
             first | refine Br.yes (decide_eq_true hlt) ?_ | refine Br.tt ?_ | refine Br.ff ?_ | refine Br.dec (fun h => ?_) (fun h => ?_) | refine Br.not ?_ | refine Br.intro (fun h => ?_) (fun h => ?_) | refine GetE.intro _ rfl ?_ | refine Need.intro rfl ?_ | refine DrawP.go mixed rfl ?_ | refine Idx.intro i _ rfl r1 ?_ | refine hzc _ c1 ?_)
    conv => whnf
    exact FinP.drop (n := 0) rfl (Nat.zero_le _) rfl rfl ⟨rfl, hfl (.inr (.inr c1))⟩
  | true =>
  by_cases c2 : badN z.from_
  · repeat' (conv => whnf
             first | refine Br.yes (decide_eq_true hlt) ?_ | refine Br.tt ?_ | refine Br.ff ?_ | refine Br.dec (fun h => ?_) (fun h => ?_) | refine Br.not ?_ | refine Br.intro (fun h => ?_) (fun h => ?_) | refine GetE.intro _ rfl ?_ | refine Need.intro rfl ?_ | refine DrawP.go mixed rfl ?_ | refine Idx.intro i _ rfl r1 ?_ | refine hzc _ c1 ?_ | refine hpl _ _ (decide_eq_false (fun h => h c2)) ?_)
    conv => whnf
    exact FinP.drop (n := 0) rfl (Nat.zero_le _) rfl rfl ⟨rfl, hfl (.inl c2)⟩
  by_cases c3 : badN z.to_
  · repeat' (conv => whnf
             first | refine Br.yes (decide_eq_true hlt) ?_ | refine Br.tt ?_ | refine Br.ff ?_ | refine Br.dec (fun h => ?_) (fun h => ?_) | refine Br.not ?_ | refine Br.intro (fun h => ?_) (fun h => ?_) | refine GetE.intro _ rfl ?_ | refine Need.intro rfl ?_ | refine DrawP.go mixed rfl ?_ | refine Idx.intro i _ rfl r1 ?_ | refine hzc _ c1 ?_ | refine hpl _ _ (decide_eq_true c2) ?_ | refine hpl _ _ (decide_eq_false (fun h => h c3)) ?_)
    conv => whnf
    exact FinP.drop (n := 0) rfl (Nat.zero_le _) rfl rfl ⟨rfl, hfl (.inr (.inl c3))⟩
  have hgood : ¬ badZ z := by
    rintro (h | h | h)
    · exact c2 h
    · exact c3 h
    · exact absurd (c1.symm.trans h) (by decide)
  repeat' (conv => whnf
           first | refine Br.yes (decide_eq_true hlt) ?_ | refine Br.tt ?_ | refine Br.ff ?_ | refine Br.dec (fun h => ?_) (fun h => ?_) | refine Br.not ?_ | refine Br.intro (fun h => ?_) (fun h => ?_) | refine GetE.intro _ rfl ?_ | refine Need.intro rfl ?_ | refine DrawP.go mixed rfl ?_ | refine Idx.intro i _ rfl r1 ?_ | refine hzc _ c1 ?_ | refine hpl _ _ (decide_eq_true c2) ?_ | refine hpl _ _ (decide_eq_true c3) ?_)
  conv => whnf
  exact ⟨i + 1, hnx hgood, by omega, Weak.to 1 rfl (Nat.zero_le _) (Nat.le_of_ble_eq_true rfl) ⟨rfl, congrArg I hw, trivial⟩⟩
end Go.Proofs.YtddolfgmkpfmcaaDoor
