/-
  typing: the reference's holds and Holds.
-/
import Derived.Test.YtddolfgmkpfmcaaDoorTypP
namespace Go.Proofs.YtddolfgmkpfmcaaDoor
open Go.Tidy
set_option maxRecDepth 100000
set_option maxHeartbeats 0
set_option linter.unusedSimpArgs false
set_option linter.unusedVariables false
variable {L : List Blk} {k : V → List Blk → Prop}
theorem vCo_kind {c : Co} (h : vCo c = true) : (c.kind = 1 ∨ c.kind = 2 ∨ c.kind = 3 ∨ c.kind = 4) ∧ (c.kind = 4 → 0 < c.parts.length) ∧ ∀ p ∈ c.parts, vCo p = true := by
  cases c with | mk kd v m ps =>
  simp only [Co.kind, Co.parts]
  rw [vCo] at h
  split at h
  · rename_i k1
    simp only [Bool.and_eq_true, decide_eq_true_eq] at h
    have h0 : ps.length = 0 := by omega
    exact ⟨.inl k1, fun h => by omega, fun p hp => by rw [List.length_eq_zero_iff.1 h0] at hp; cases hp⟩
  · split at h
    · rename_i k4
      simp only [Bool.and_eq_true, decide_eq_true_eq] at h
      exact ⟨.inr (.inr (.inr k4)), fun _ => by omega, vCos_mem h.2⟩
    · split at h
      · rename_i k23
        simp only [Bool.and_eq_true, decide_eq_true_eq] at h
        exact ⟨k23.elim (fun h => .inr (.inl h)) (fun h => .inr (.inr (.inl h))), fun _ => by omega, vCos_mem h.2⟩
      · cases h
theorem rholds_s (x : En) : ∀ (m : Nat) (c : Co), SizeOf.sizeOf c ≤ m → vCo c = true → LCo c → ∀ (L : List Blk) (k : V → List Blk → Prop), k (B (hoF x c)) L → CallP C 52 [.agg (c.cells.map .d), enV x] L k
  | 0, c, h, _, _ => absurd h (by cases c; simp)
  | m + 1, c, hsz, hvc, hc => by
    intro L k h
    have ih := rholds_s x m
    have hlen := hc.len
    obtain ⟨hk, h4, hsub⟩ := vCo_kind hvc
    have hv : hoF x c = (if c.kind = 1 then decide (c.n ≤ valF c.var x) else if c.kind = 4 then !hoHead x c.parts else if c.kind = 3 then hoAny x c.parts else hoAll x c.parts) := by cases c; rw [hoF]; rfl
    rw [hv] at h
    rw [Co.cells_eq]
    by_cases k1 : c.kind = 1
    · rw [if_pos k1] at h
      refine CallP.pure ?_ rfl (fun _ => rfl) h
      clear h
      refine callP_of C_ok Tryd.func52 rfl rfl (n := _) rfl (Nat.le_of_ble_eq_true rfl) (rs := _) rfl ?_
      repeat' (conv => whnf
               first | refine Br.yes (decide_eq_true k1) ?_ | refine Br.tt ?_ | refine Br.ff ?_ | refine Br.dec (fun h => ?_) (fun h => ?_) | refine Br.not ?_ | refine Br.intro (fun h => ?_) (fun h => ?_) | refine GetE.intro _ rfl ?_ | refine Need.intro rfl ?_ | refine DrawP.go mixed rfl ?_ | refine QCall.intro _ (rvalue_c c.var x ⟨rfl, rfl⟩) ?_ | refine rvalue_c c.var x ?_)
      conv => whnf
      exact FinP.drop (n := 0) rfl (Nat.le_refl 0) rfl rfl ⟨rfl, rfl⟩
    by_cases k4 : c.kind = 4
    · rw [if_neg k1, if_pos k4] at h
      have hpos := h4 k4
      obtain ⟨p, hp⟩ : ∃ p, p = c.parts[0] := ⟨_, rfl⟩
      have hpm : p ∈ c.parts := hp ▸ List.getElem_mem hpos
      have hhd : hoHead x c.parts = hoF x p := by rw [hp]; exact hoHead_at x hpos
      have r1 : (c.parts.map Co.cells)[0]? = some [DI p.kind, DI p.var, DI p.n, cos p.parts] := by rw [List.getElem?_map, List.getElem?_eq_getElem hpos, ← Co.cells_eq, hp]; rfl
      have hcl := ih p (by have := part_sizeC hpm; omega) (hsub p hpm) (hc.sub p hpm)
      rw [Co.cells_eq] at hcl
      rw [hhd] at h
      refine CallP.pure ?_ rfl (fun _ => rfl) h
      clear h
      refine callP_of C_ok Tryd.func52 rfl rfl (n := _) rfl (Nat.le_of_ble_eq_true rfl) (rs := _) rfl ?_
      repeat' (conv => whnf
               first | refine Br.no (decide_eq_false k1) ?_ | refine Br.yes (decide_eq_true k4) ?_ | refine Br.tt ?_ | refine Br.ff ?_ | refine Br.dec (fun h => ?_) (fun h => ?_) | refine Br.not ?_ | refine Br.intro (fun h => ?_) (fun h => ?_) | refine GetE.intro _ rfl ?_ | refine Need.intro rfl ?_ | refine DrawP.go mixed rfl ?_ | refine Idx.intro 0 _ rfl r1 ?_ | refine QCall.intro _ (hcl _ _ ⟨rfl, rfl⟩) ?_ | refine hcl _ _ ?_)
      conv => whnf
      exact FinP.drop (n := 0) rfl (Nat.le_refl 0) rfl rfl ⟨rfl, rfl⟩
    by_cases k3 : c.kind = 3
    · rw [if_neg k1, if_neg k4, if_pos k3] at h
      obtain ⟨r, hT⟩ : ∃ r, hoAny x c.parts = r := ⟨_, rfl⟩
      have hEnd : (∀ (j : Nat) (hj : j < c.parts.length), hoF x c.parts[j] = false) → false = r := fun hh => by
        rw [← hT, hoAny_any]; symm
        refine Bool.eq_false_iff.2 fun ht => ?_
        obtain ⟨v, hv, hvm⟩ := List.any_eq_true.1 ht
        obtain ⟨j, hj, rfl⟩ := List.getElem_of_mem hv
        rw [hh j hj] at hvm; cases hvm
      have hEnd : (∀ (j : Nat) (hj : j < c.parts.length), hoF x c.parts[j] = false) → r = false := fun hh => (hEnd hh).symm
      have hStop : ∀ (i : Nat) (hi : i < c.parts.length), hoF x c.parts[i] = true → r = true := fun i hi hh => by
        rw [← hT, hoAny_any]; exact List.any_eq_true.2 ⟨_, List.getElem_mem hi, hh⟩
      rw [hT] at h
      rw [k3]
      refine CallP.pure ?_ rfl (fun _ => rfl) h
      clear h
      refine callP_of C_ok Tryd.func52 rfl rfl (n := _) rfl (Nat.le_of_ble_eq_true rfl) (rs := _) rfl ?_
      repeat' (conv => whnf
               first | refine Br.tt ?_ | refine Br.ff ?_ | refine Br.dec (fun h => ?_) (fun h => ?_) | refine Br.not ?_ | refine Br.intro (fun h => ?_) (fun h => ?_) | refine GetE.intro _ rfl ?_ | refine Need.intro rfl ?_ | refine DrawP.go mixed rfl ?_)
      conv => whnf
      refine LoopP.inv (fun i : Nat => i ≤ c.parts.length ∧ ∀ (j : Nat) (hj : j < c.parts.length), j < i → hoF x c.parts[j] = false) (fun i => ⟨[(2, .ptr 0 0), (3, .ptr 1 0), (5, I i)], Tryd.f52.ntmps, [.cells [I 3, I c.var, I c.n, .d (cos c.parts)], .cells (x.cells.map .d)], [], none⟩) (fun i => c.parts.length - i) 0 ⟨Nat.zero_le _, fun j _ h => absurd h (Nat.not_lt_zero j)⟩ ?_ ?_
      · exact Weak.to 2 rfl (Nat.zero_le _) (Nat.le_of_ble_eq_true rfl) ⟨rfl, rfl, rfl, trivial⟩
      rintro i ⟨hi, hok⟩
      by_cases h2 : (i : Int) < ((c.parts.map Co.cells).length : Int)
      rotate_left
      · have hl' : c.parts.length ≤ i := by rw [List.length_map] at h2; omega
        have hend := hEnd fun j hj => hok j hj (by omega)
        repeat' (conv => whnf
                 first | refine Br.no (decide_eq_false h2) ?_ | refine Br.tt ?_ | refine Br.ff ?_ | refine Br.dec (fun h => ?_) (fun h => ?_) | refine Br.not ?_ | refine Br.intro (fun h => ?_) (fun h => ?_) | refine GetE.intro _ rfl ?_ | refine Need.intro rfl ?_ | refine DrawP.go mixed rfl ?_)
        conv => whnf
        exact FinP.drop (n := 0) rfl (Nat.le_refl 0) rfl rfl ⟨rfl, congrArg B hend.symm⟩
      have hi' : i < c.parts.length := by rw [List.length_map] at h2; omega
      have hpm : c.parts[i] ∈ c.parts := List.getElem_mem hi'
      have hw2 : IntKind.i64.wrap ((i : Int) + 1) = ((i + 1 : Nat) : Int) := by rw [wrap_in (by omega)]; omega
      have hcall := ih c.parts[i] (by have := part_sizeC hpm; omega) (hsub _ hpm) (hc.sub _ hpm)
      have hstop := hStop i hi'
      have hnx : hoF x c.parts[i] = false → i + 1 ≤ c.parts.length ∧ ∀ (j : Nat) (hj : j < c.parts.length), j < i + 1 → hoF x c.parts[j] = false := fun ht => ⟨hi', fun j hj hji => by
        by_cases e : j = i
        · subst e; exact ht
        · exact hok j hj (by omega)⟩
      obtain ⟨p, hp⟩ : ∃ p, p = c.parts[i] := ⟨_, rfl⟩
      have r1 : (c.parts.map Co.cells)[i]? = some [DI p.kind, DI p.var, DI p.n, cos p.parts] := by rw [List.getElem?_map, List.getElem?_eq_getElem hi', ← hp, ← Co.cells_eq]; rfl
      rw [← hp] at hstop hnx hcall
      rw [Co.cells_eq] at hcall
      cases hq : hoF x p with
      | true =>
        rw [hq] at hcall
        repeat' (conv => whnf
                 first | refine Br.yes (decide_eq_true h2) ?_ | refine Br.tt ?_ | refine Br.ff ?_ | refine Br.dec (fun h => ?_) (fun h => ?_) | refine Br.not ?_ | refine Br.intro (fun h => ?_) (fun h => ?_) | refine GetE.intro _ rfl ?_ | refine Need.intro rfl ?_ | refine DrawP.go mixed rfl ?_ | refine Idx.intro i _ rfl r1 ?_ | refine QCall.intro _ (hcall _ _ ⟨rfl, rfl⟩) ?_ | refine hcall _ _ ?_)
        conv => whnf
        exact FinP.drop (n := 0) rfl (Nat.le_refl 0) rfl rfl ⟨rfl, congrArg B (hstop hq).symm⟩
      | false =>
        rw [hq] at hcall
        repeat' (conv => whnf
                 first | refine Br.yes (decide_eq_true h2) ?_ | refine Br.tt ?_ | refine Br.ff ?_ | refine Br.dec (fun h => ?_) (fun h => ?_) | refine Br.not ?_ | refine Br.intro (fun h => ?_) (fun h => ?_) | refine GetE.intro _ rfl ?_ | refine Need.intro rfl ?_ | refine DrawP.go mixed rfl ?_ | refine Idx.intro i _ rfl r1 ?_ | refine QCall.intro _ (hcall _ _ ⟨rfl, rfl⟩) ?_ | refine hcall _ _ ?_)
        conv => whnf
        exact ⟨i + 1, hnx hq, by omega, Weak.to 2 rfl (Nat.zero_le _) (Nat.le_of_ble_eq_true rfl) ⟨rfl, rfl, congrArg I hw2, trivial⟩⟩
    have kk : c.kind = 2 := by omega
    · rw [if_neg k1, if_neg k4, if_neg k3] at h
      obtain ⟨r, hT⟩ : ∃ r, hoAll x c.parts = r := ⟨_, rfl⟩
      have hEnd : (∀ (j : Nat) (hj : j < c.parts.length), hoF x c.parts[j] = true) → r = true := fun hh => by
        rw [← hT, hoAll_all]
        refine List.all_eq_true.2 fun v hv => ?_
        obtain ⟨j, hj, rfl⟩ := List.getElem_of_mem hv
        exact hh j hj
      have hStop : ∀ (i : Nat) (hi : i < c.parts.length), hoF x c.parts[i] = false → r = false := fun i hi hh => by
        rw [← hT, hoAll_all]
        exact Bool.eq_false_iff.2 fun ht => by rw [List.all_eq_true.1 ht _ (List.getElem_mem hi)] at hh; cases hh
      rw [hT] at h
      rw [kk]
      refine CallP.pure ?_ rfl (fun _ => rfl) h
      clear h
      refine callP_of C_ok Tryd.func52 rfl rfl (n := _) rfl (Nat.le_of_ble_eq_true rfl) (rs := _) rfl ?_
      repeat' (conv => whnf
               first | refine Br.tt ?_ | refine Br.ff ?_ | refine Br.dec (fun h => ?_) (fun h => ?_) | refine Br.not ?_ | refine Br.intro (fun h => ?_) (fun h => ?_) | refine GetE.intro _ rfl ?_ | refine Need.intro rfl ?_ | refine DrawP.go mixed rfl ?_)
      conv => whnf
      refine LoopP.inv (fun i : Nat => i ≤ c.parts.length ∧ ∀ (j : Nat) (hj : j < c.parts.length), j < i → hoF x c.parts[j] = true) (fun i => ⟨[(2, .ptr 0 0), (3, .ptr 1 0), (5, I i)], Tryd.f52.ntmps, [.cells [I 2, I c.var, I c.n, .d (cos c.parts)], .cells (x.cells.map .d)], [], none⟩) (fun i => c.parts.length - i) 0 ⟨Nat.zero_le _, fun j _ h => absurd h (Nat.not_lt_zero j)⟩ ?_ ?_
      · exact Weak.to 2 rfl (Nat.zero_le _) (Nat.le_of_ble_eq_true rfl) ⟨rfl, rfl, rfl, trivial⟩
      rintro i ⟨hi, hok⟩
      by_cases h2 : (i : Int) < ((c.parts.map Co.cells).length : Int)
      rotate_left
      · have hl' : c.parts.length ≤ i := by rw [List.length_map] at h2; omega
        have hend := hEnd fun j hj => hok j hj (by omega)
        repeat' (conv => whnf
                 first | refine Br.no (decide_eq_false h2) ?_ | refine Br.tt ?_ | refine Br.ff ?_ | refine Br.dec (fun h => ?_) (fun h => ?_) | refine Br.not ?_ | refine Br.intro (fun h => ?_) (fun h => ?_) | refine GetE.intro _ rfl ?_ | refine Need.intro rfl ?_ | refine DrawP.go mixed rfl ?_)
        conv => whnf
        exact FinP.drop (n := 0) rfl (Nat.le_refl 0) rfl rfl ⟨rfl, congrArg B hend.symm⟩
      have hi' : i < c.parts.length := by rw [List.length_map] at h2; omega
      have hpm : c.parts[i] ∈ c.parts := List.getElem_mem hi'
      have hw2 : IntKind.i64.wrap ((i : Int) + 1) = ((i + 1 : Nat) : Int) := by rw [wrap_in (by omega)]; omega
      have hcall := ih c.parts[i] (by have := part_sizeC hpm; omega) (hsub _ hpm) (hc.sub _ hpm)
      have hstop := hStop i hi'
      have hnx : hoF x c.parts[i] = true → i + 1 ≤ c.parts.length ∧ ∀ (j : Nat) (hj : j < c.parts.length), j < i + 1 → hoF x c.parts[j] = true := fun ht => ⟨hi', fun j hj hji => by
        by_cases e : j = i
        · subst e; exact ht
        · exact hok j hj (by omega)⟩
      obtain ⟨p, hp⟩ : ∃ p, p = c.parts[i] := ⟨_, rfl⟩
      have r1 : (c.parts.map Co.cells)[i]? = some [DI p.kind, DI p.var, DI p.n, cos p.parts] := by rw [List.getElem?_map, List.getElem?_eq_getElem hi', ← hp, ← Co.cells_eq]; rfl
      rw [← hp] at hstop hnx hcall
      rw [Co.cells_eq] at hcall
      cases hq : hoF x p with
      | false =>
        rw [hq] at hcall
        repeat' (conv => whnf
                 first | refine Br.yes (decide_eq_true h2) ?_ | refine Br.tt ?_ | refine Br.ff ?_ | refine Br.dec (fun h => ?_) (fun h => ?_) | refine Br.not ?_ | refine Br.intro (fun h => ?_) (fun h => ?_) | refine GetE.intro _ rfl ?_ | refine Need.intro rfl ?_ | refine DrawP.go mixed rfl ?_ | refine Idx.intro i _ rfl r1 ?_ | refine QCall.intro _ (hcall _ _ ⟨rfl, rfl⟩) ?_ | refine hcall _ _ ?_)
        conv => whnf
        exact FinP.drop (n := 0) rfl (Nat.le_refl 0) rfl rfl ⟨rfl, congrArg B (hstop hq).symm⟩
      | true =>
        rw [hq] at hcall
        repeat' (conv => whnf
                 first | refine Br.yes (decide_eq_true h2) ?_ | refine Br.tt ?_ | refine Br.ff ?_ | refine Br.dec (fun h => ?_) (fun h => ?_) | refine Br.not ?_ | refine Br.intro (fun h => ?_) (fun h => ?_) | refine GetE.intro _ rfl ?_ | refine Need.intro rfl ?_ | refine DrawP.go mixed rfl ?_ | refine Idx.intro i _ rfl r1 ?_ | refine QCall.intro _ (hcall _ _ ⟨rfl, rfl⟩) ?_ | refine hcall _ _ ?_)
        conv => whnf
        exact ⟨i + 1, hnx hq, by omega, Weak.to 2 rfl (Nat.zero_le _) (Nat.le_of_ble_eq_true rfl) ⟨rfl, rfl, congrArg I hw2, trivial⟩⟩
theorem rholds_c (x : En) (c : Co) (hv : vCo c = true) (hc : LCo c) (h : k (B (hoF x c)) L) : CallP C 52 [.agg (c.cells.map .d), enV x] L k := rholds_s x _ c (Nat.le_refl _) hv hc L k h
end Go.Proofs.YtddolfgmkpfmcaaDoor
