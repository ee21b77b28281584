/-
  typing: the reference's steps, Order and Rules.
-/
import Derived.Test.YtddolfgmkpfmcaaDoorTypV
namespace Go.Proofs.YtddolfgmkpfmcaaDoor
open Go.Tidy
set_option maxRecDepth 100000
set_option maxHeartbeats 0
set_option linter.unusedSimpArgs false
set_option linter.unusedVariables false
variable {L : List Blk} {k : V → List Blk → Prop}
mutual
def rSp : Sp → Bool
  | .mk k b c t e => if k = 1 then decide (1 ≤ b) && decide (b ≤ 12) && isZ c && decide ((t.length : Int) = 0) && decide ((e.length : Int) = 0)
    else if k = 2 then decide (b = 0) && decide (rcondF c = 0) && !decide ((t.length : Int) = 0) && rSps t && rSps e
    else false
def rSps : List Sp → Bool
  | [] => true
  | c :: cs => rSp c && rSps cs
end
theorem rSps_all : ∀ l : List Sp, rSps l = l.all rSp
  | [] => rfl
  | c :: cs => by rw [rSps, rSps_all cs]; rfl
theorem rSp_eq (s : Sp) : rSp s = if s.kind = 1 then decide (1 ≤ s.by_) && decide (s.by_ ≤ 12) && isZ s.cond && decide ((s.thn.length : Int) = 0) && decide ((s.els.length : Int) = 0)
    else if s.kind = 2 then decide (s.by_ = 0) && decide (rcondF s.cond = 0) && !decide ((s.thn.length : Int) = 0) && rSps s.thn && rSps s.els
    else false := by cases s; rw [rSp]; rfl
theorem rsteps_s : ∀ (m : Nat) (l : List Sp), SizeOf.sizeOf l ≤ m → LSs l → ∀ (L : List Blk) (k : V → List Blk → Prop), k (B (rSps l)) L → CallP C 43 [.d (sps l)] L k
  | 0, l, h, _ => absurd h (by cases l <;> simp)
  | m + 1, l, hsz, hl => by
    intro L k h
    have ih := rsteps_s m
    have hlen := hl.len
    refine CallP.pure ?_ rfl (fun _ => rfl) h
    clear h
    refine callP_of C_ok Tryd.func43 rfl rfl (n := _) rfl (Nat.le_of_ble_eq_true rfl) (rs := _) rfl ?_
    conv => whnf
    refine LoopP.inv (fun i : Nat => i ≤ l.length ∧ ∀ (j : Nat) (hj : j < l.length), j < i → rSp l[j] = true) (fun i => ⟨[(0, .d (sps l)), (3, I i)], Tryd.f43.ntmps, [], [], none⟩) (fun i => l.length - i) 0 ⟨Nat.zero_le _, fun j _ h => absurd h (Nat.not_lt_zero j)⟩ ?_ ?_
    · exact Weak.by ⟨rfl, rfl, trivial⟩
    rintro i ⟨hi, hok⟩
    by_cases h2 : (i : Int) < ((l.map Sp.cells).length : Int)
    rotate_left
    · have hall : rSps l = true := by
        rw [rSps_all]
        refine List.all_eq_true.2 fun p hp => ?_
        obtain ⟨j, hj, rfl⟩ := List.getElem_of_mem hp
        exact hok j hj (by rw [List.length_map] at h2; omega)
      repeat' (conv => whnf
               first | refine Br.no (decide_eq_false h2) ?_ | refine Br.tt ?_ | refine Br.ff ?_ | refine Br.dec (fun h => ?_) (fun h => ?_) | refine Br.not ?_ | refine Br.intro (fun h => ?_) (fun h => ?_) | refine GetE.intro _ rfl ?_ | refine Need.intro rfl ?_ | refine DrawP.go mixed rfl ?_)
      conv => whnf
      exact FinP.drop (n := 0) rfl (Nat.le_refl 0) rfl rfl ⟨rfl, congrArg B hall.symm⟩
    have hi' : i < l.length := by rw [List.length_map] at h2; omega
    have hm : l[i] ∈ l := List.getElem_mem hi'
    have hs := hl.all _ hm
    have hz : SizeOf.sizeOf l[i] < SizeOf.sizeOf l := List.sizeOf_lt_of_mem hm
    have hw2 : IntKind.i64.wrap ((i : Int) + 1) = ((i + 1 : Nat) : Int) := by rw [wrap_in (by omega)]; omega
    have hno : rSp l[i] = false → B false = B (rSps l) := fun hf => by
      rw [rSps_all]
      exact congrArg B (Bool.eq_false_iff.2 fun ht => by rw [List.all_eq_true.1 ht _ hm] at hf; cases hf).symm
    have hnx : rSp l[i] = true → i + 1 ≤ l.length ∧ ∀ (j : Nat) (hj : j < l.length), j < i + 1 → rSp l[j] = true := fun ht => ⟨hi', fun j hj hji => by
      by_cases e : j = i
      · subst e; exact ht
      · exact hok j hj (by omega)⟩
    obtain ⟨s, hs0⟩ : ∃ s, s = l[i] := ⟨_, rfl⟩
    rw [← hs0] at hs hz hno hnx
    have r1 : (l.map Sp.cells)[i]? = some [DI s.kind, DI s.by_, DI s.cond.kind, DI s.cond.var, DI s.cond.n, cos s.cond.parts, sps s.thn, sps s.els] := by rw [List.getElem?_map, List.getElem?_eq_getElem hi', ← hs0, ← Sp.cells_eq]; rfl
    have z1 : SizeOf.sizeOf s.thn < SizeOf.sizeOf s := by cases s; simp only [Sp.mk.sizeOf_spec, Sp.thn]; omega
    have z2 : SizeOf.sizeOf s.els < SizeOf.sizeOf s := by cases s; simp only [Sp.mk.sizeOf_spec, Sp.els]; omega
    have i1 := ih s.thn (by omega) ⟨hs.len1, hs.thn⟩
    have i2 := ih s.els (by omega) ⟨hs.len2, hs.els⟩
    have hzr : ∀ {L : List Blk} {k : V → List Blk → Prop}, k (B (isZ s.cond)) L → CallP C 53 [.agg [I s.cond.kind, I s.cond.var, I s.cond.n, .d (cos s.cond.parts)]] L k := fun h => by
      have := zero_c s.cond h
      rw [Co.cells_eq] at this; exact this
    have hcd : ∀ {L : List Blk} {k : V → List Blk → Prop}, k (I (rcondF s.cond)) L → CallP C 18 [.agg [I s.cond.kind, I s.cond.var, I s.cond.n, .d (cos s.cond.parts)]] L k := fun h => by
      have := rcond_c s.cond hs.cond h
      rw [Co.cells_eq] at this; exact this
    have eT : ((s.thn.map Sp.cells).length : Int) = (s.thn.length : Int) := by rw [List.length_map]
    have eE : ((s.els.map Sp.cells).length : Int) = (s.els.length : Int) := by rw [List.length_map]
    rw [rSp_eq, ← eT, ← eE] at hno hnx
    clear hs0 eT eE
    by_cases k1 : s.kind = 1
    · rw [if_pos k1] at hno hnx
      by_cases c1 : s.by_ < 1
      · repeat' (conv => whnf
                 first | refine Br.yes (decide_eq_true h2) ?_ | refine Br.yes (decide_eq_true k1) ?_ | refine Br.yes (decide_eq_true c1) ?_ | refine Br.tt ?_ | refine Br.ff ?_ | refine Br.dec (fun h => ?_) (fun h => ?_) | refine Br.not ?_ | refine Br.intro (fun h => ?_) (fun h => ?_) | refine GetE.intro _ rfl ?_ | refine Need.intro rfl ?_ | refine DrawP.go mixed rfl ?_ | refine Idx.intro i _ rfl r1 ?_)
        conv => whnf
        exact FinP.drop (n := 0) rfl (Nat.le_refl 0) rfl rfl ⟨rfl, hno (by rw [decide_eq_false (show ¬ 1 ≤ s.by_ by omega)]; simp only [Bool.false_and])⟩
      by_cases c2 : 12 < s.by_
      · repeat' (conv => whnf
                 first | refine Br.yes (decide_eq_true h2) ?_ | refine Br.yes (decide_eq_true k1) ?_ | refine Br.no (decide_eq_false c1) ?_ | refine Br.yes (decide_eq_true c2) ?_ | refine Br.tt ?_ | refine Br.ff ?_ | refine Br.dec (fun h => ?_) (fun h => ?_) | refine Br.not ?_ | refine Br.intro (fun h => ?_) (fun h => ?_) | refine GetE.intro _ rfl ?_ | refine Need.intro rfl ?_ | refine DrawP.go mixed rfl ?_ | refine Idx.intro i _ rfl r1 ?_)
        conv => whnf
        exact FinP.drop (n := 0) rfl (Nat.le_refl 0) rfl rfl ⟨rfl, hno (by rw [decide_eq_false (show ¬ s.by_ ≤ 12 by omega)]; simp only [Bool.false_and, Bool.and_false])⟩
      cases c3 : isZ s.cond with
      | false =>
        rw [c3] at hzr
        repeat' (conv => whnf
                 first | refine Br.yes (decide_eq_true h2) ?_ | refine Br.yes (decide_eq_true k1) ?_ | refine Br.no (decide_eq_false c1) ?_ | refine Br.no (decide_eq_false c2) ?_ | refine Br.tt ?_ | refine Br.ff ?_ | refine Br.dec (fun h => ?_) (fun h => ?_) | refine Br.not ?_ | refine Br.intro (fun h => ?_) (fun h => ?_) | refine GetE.intro _ rfl ?_ | refine Need.intro rfl ?_ | refine DrawP.go mixed rfl ?_ | refine Idx.intro i _ rfl r1 ?_ | refine hzr ?_)
        conv => whnf
        exact FinP.drop (n := 0) rfl (Nat.le_refl 0) rfl rfl ⟨rfl, hno (by rw [c3]; simp only [Bool.false_and, Bool.and_false])⟩
      | true =>
      rw [c3] at hzr
      by_cases c4 : ((s.thn.map Sp.cells).length : Int) = 0
      rotate_left
      · repeat' (conv => whnf
                 first | refine Br.yes (decide_eq_true h2) ?_ | refine Br.yes (decide_eq_true k1) ?_ | refine Br.no (decide_eq_false c1) ?_ | refine Br.no (decide_eq_false c2) ?_ | refine Br.no (decide_eq_false c4) ?_ | refine Br.tt ?_ | refine Br.ff ?_ | refine Br.dec (fun h => ?_) (fun h => ?_) | refine Br.not ?_ | refine Br.intro (fun h => ?_) (fun h => ?_) | refine GetE.intro _ rfl ?_ | refine Need.intro rfl ?_ | refine DrawP.go mixed rfl ?_ | refine Idx.intro i _ rfl r1 ?_ | refine hzr ?_)
        conv => whnf
        exact FinP.drop (n := 0) rfl (Nat.le_refl 0) rfl rfl ⟨rfl, hno (by rw [decide_eq_false c4]; simp only [Bool.false_and, Bool.and_false])⟩
      by_cases c5 : ((s.els.map Sp.cells).length : Int) = 0
      rotate_left
      · repeat' (conv => whnf
                 first | refine Br.yes (decide_eq_true h2) ?_ | refine Br.yes (decide_eq_true k1) ?_ | refine Br.no (decide_eq_false c1) ?_ | refine Br.no (decide_eq_false c2) ?_ | refine Br.yes (decide_eq_true c4) ?_ | refine Br.no (decide_eq_false c5) ?_ | refine Br.tt ?_ | refine Br.ff ?_ | refine Br.dec (fun h => ?_) (fun h => ?_) | refine Br.not ?_ | refine Br.intro (fun h => ?_) (fun h => ?_) | refine GetE.intro _ rfl ?_ | refine Need.intro rfl ?_ | refine DrawP.go mixed rfl ?_ | refine Idx.intro i _ rfl r1 ?_ | refine hzr ?_)
        conv => whnf
        exact FinP.drop (n := 0) rfl (Nat.le_refl 0) rfl rfl ⟨rfl, hno (by rw [decide_eq_false c5]; simp only [Bool.false_and, Bool.and_false])⟩
      repeat' (conv => whnf
               first | refine Br.yes (decide_eq_true h2) ?_ | refine Br.yes (decide_eq_true k1) ?_ | refine Br.no (decide_eq_false c1) ?_ | refine Br.no (decide_eq_false c2) ?_ | refine Br.yes (decide_eq_true c4) ?_ | refine Br.yes (decide_eq_true c5) ?_ | refine Br.tt ?_ | refine Br.ff ?_ | refine Br.dec (fun h => ?_) (fun h => ?_) | refine Br.not ?_ | refine Br.intro (fun h => ?_) (fun h => ?_) | refine GetE.intro _ rfl ?_ | refine Need.intro rfl ?_ | refine DrawP.go mixed rfl ?_ | refine Idx.intro i _ rfl r1 ?_ | refine hzr ?_)
      conv => whnf
      exact ⟨i + 1, hnx (by rw [decide_eq_true (show 1 ≤ s.by_ by omega), decide_eq_true (show s.by_ ≤ 12 by omega), c3, decide_eq_true c4, decide_eq_true c5]; rfl), by omega, Weak.to 0 rfl (Nat.zero_le _) (Nat.zero_le _) ⟨rfl, congrArg I hw2, trivial⟩⟩
    rw [if_neg k1] at hno hnx
    by_cases k2 : s.kind = 2
    · rw [if_pos k2] at hno hnx
      by_cases c1 : s.by_ = 0
      rotate_left
      · repeat' (conv => whnf
                 first | refine Br.yes (decide_eq_true h2) ?_ | refine Br.no (decide_eq_false k1) ?_ | refine Br.yes (decide_eq_true k2) ?_ | refine Br.no (decide_eq_false c1) ?_ | refine Br.tt ?_ | refine Br.ff ?_ | refine Br.dec (fun h => ?_) (fun h => ?_) | refine Br.not ?_ | refine Br.intro (fun h => ?_) (fun h => ?_) | refine GetE.intro _ rfl ?_ | refine Need.intro rfl ?_ | refine DrawP.go mixed rfl ?_ | refine Idx.intro i _ rfl r1 ?_)
        conv => whnf
        exact FinP.drop (n := 0) rfl (Nat.le_refl 0) rfl rfl ⟨rfl, hno (by rw [decide_eq_false c1]; simp only [Bool.false_and])⟩
      by_cases c2 : rcondF s.cond = 0
      rotate_left
      · repeat' (conv => whnf
                 first | refine Br.yes (decide_eq_true h2) ?_ | refine Br.no (decide_eq_false k1) ?_ | refine Br.yes (decide_eq_true k2) ?_ | refine Br.yes (decide_eq_true c1) ?_ | refine Br.no (decide_eq_false c2) ?_ | refine Br.tt ?_ | refine Br.ff ?_ | refine Br.dec (fun h => ?_) (fun h => ?_) | refine Br.not ?_ | refine Br.intro (fun h => ?_) (fun h => ?_) | refine GetE.intro _ rfl ?_ | refine Need.intro rfl ?_ | refine DrawP.go mixed rfl ?_ | refine Idx.intro i _ rfl r1 ?_ | refine hcd ?_)
        conv => whnf
        exact FinP.drop (n := 0) rfl (Nat.le_refl 0) rfl rfl ⟨rfl, hno (by rw [decide_eq_false c2]; simp only [Bool.false_and, Bool.and_false])⟩
      by_cases c3 : ((s.thn.map Sp.cells).length : Int) = 0
      · repeat' (conv => whnf
                 first | refine Br.yes (decide_eq_true h2) ?_ | refine Br.no (decide_eq_false k1) ?_ | refine Br.yes (decide_eq_true k2) ?_ | refine Br.yes (decide_eq_true c1) ?_ | refine Br.yes (decide_eq_true c2) ?_ | refine Br.yes (decide_eq_true c3) ?_ | refine Br.tt ?_ | refine Br.ff ?_ | refine Br.dec (fun h => ?_) (fun h => ?_) | refine Br.not ?_ | refine Br.intro (fun h => ?_) (fun h => ?_) | refine GetE.intro _ rfl ?_ | refine Need.intro rfl ?_ | refine DrawP.go mixed rfl ?_ | refine Idx.intro i _ rfl r1 ?_ | refine hcd ?_)
        conv => whnf
        exact FinP.drop (n := 0) rfl (Nat.le_refl 0) rfl rfl ⟨rfl, hno (by rw [decide_eq_true c3]; simp only [Bool.not_true, Bool.false_and, Bool.and_false])⟩
      cases c4 : rSps s.thn with
      | false =>
        rw [c4] at i1
        repeat' (conv => whnf
                 first | refine Br.yes (decide_eq_true h2) ?_ | refine Br.no (decide_eq_false k1) ?_ | refine Br.yes (decide_eq_true k2) ?_ | refine Br.yes (decide_eq_true c1) ?_ | refine Br.yes (decide_eq_true c2) ?_ | refine Br.no (decide_eq_false c3) ?_ | refine Br.tt ?_ | refine Br.ff ?_ | refine Br.dec (fun h => ?_) (fun h => ?_) | refine Br.not ?_ | refine Br.intro (fun h => ?_) (fun h => ?_) | refine GetE.intro _ rfl ?_ | refine Need.intro rfl ?_ | refine DrawP.go mixed rfl ?_ | refine Idx.intro i _ rfl r1 ?_ | refine hcd ?_ | refine i1 _ _ ?_)
        conv => whnf
        exact FinP.drop (n := 0) rfl (Nat.le_refl 0) rfl rfl ⟨rfl, hno (by rw [c4]; simp only [Bool.false_and, Bool.and_false])⟩
      | true =>
      rw [c4] at i1
      cases c5 : rSps s.els with
      | false =>
        rw [c5] at i2
        repeat' (conv => whnf
                 first | refine Br.yes (decide_eq_true h2) ?_ | refine Br.no (decide_eq_false k1) ?_ | refine Br.yes (decide_eq_true k2) ?_ | refine Br.yes (decide_eq_true c1) ?_ | refine Br.yes (decide_eq_true c2) ?_ | refine Br.no (decide_eq_false c3) ?_ | refine Br.tt ?_ | refine Br.ff ?_ | refine Br.dec (fun h => ?_) (fun h => ?_) | refine Br.not ?_ | refine Br.intro (fun h => ?_) (fun h => ?_) | refine GetE.intro _ rfl ?_ | refine Need.intro rfl ?_ | refine DrawP.go mixed rfl ?_ | refine Idx.intro i _ rfl r1 ?_ | refine hcd ?_ | refine i1 _ _ ?_ | refine i2 _ _ ?_)
        conv => whnf
        exact FinP.drop (n := 0) rfl (Nat.le_refl 0) rfl rfl ⟨rfl, hno (by rw [c5]; simp only [Bool.and_false])⟩
      | true =>
      rw [c5] at i2
      repeat' (conv => whnf
               first | refine Br.yes (decide_eq_true h2) ?_ | refine Br.no (decide_eq_false k1) ?_ | refine Br.yes (decide_eq_true k2) ?_ | refine Br.yes (decide_eq_true c1) ?_ | refine Br.yes (decide_eq_true c2) ?_ | refine Br.no (decide_eq_false c3) ?_ | refine Br.tt ?_ | refine Br.ff ?_ | refine Br.dec (fun h => ?_) (fun h => ?_) | refine Br.not ?_ | refine Br.intro (fun h => ?_) (fun h => ?_) | refine GetE.intro _ rfl ?_ | refine Need.intro rfl ?_ | refine DrawP.go mixed rfl ?_ | refine Idx.intro i _ rfl r1 ?_ | refine hcd ?_ | refine i1 _ _ ?_ | refine i2 _ _ ?_)
      conv => whnf
      exact ⟨i + 1, hnx (by rw [decide_eq_true c1, decide_eq_true c2, decide_eq_false c3, c4, c5]; rfl), by omega, Weak.to 0 rfl (Nat.zero_le _) (Nat.zero_le _) ⟨rfl, congrArg I hw2, trivial⟩⟩
    rw [if_neg k2] at hno
    repeat' (conv => whnf
             first | refine Br.yes (decide_eq_true h2) ?_ | refine Br.no (decide_eq_false k1) ?_ | refine Br.no (decide_eq_false k2) ?_ | refine Br.tt ?_ | refine Br.ff ?_ | refine Br.dec (fun h => ?_) (fun h => ?_) | refine Br.not ?_ | refine Br.intro (fun h => ?_) (fun h => ?_) | refine GetE.intro _ rfl ?_ | refine Need.intro rfl ?_ | refine DrawP.go mixed rfl ?_ | refine Idx.intro i _ rfl r1 ?_)
    conv => whnf
    exact FinP.drop (n := 0) rfl (Nat.le_refl 0) rfl rfl ⟨rfl, hno rfl⟩
theorem rsteps_c (l : List Sp) (hl : LSs l) (h : k (B (rSps l)) L) : CallP C 43 [.d (sps l)] L k := rsteps_s _ l (Nat.le_refl _) hl L k h
def szBig (l : List Sp) : Prop := 64 < (szT 0 l).1 ∨ 256 < (szT 0 l).2
open Classical in
noncomputable def rorderF (l : List Sp) : Int := if szBig l then 2 else if (l.length : Int) = 0 then 140 else if rSps l = true then 0 else 140
theorem rorder_c (l : List Sp) (hl : LSs l) (h : k (I (rorderF l)) L) : CallP C 16 [.d (sps l)] L k := by
  have hs : ∀ {L : List Blk} {k : V → List Blk → Prop}, k (.tup [I (szT 0 l).1, I (szT 0 l).2]) L → CallP C 35 [.d (sps l), I 0] L k := fun h => rsize_c l hl h
  have hst : ∀ {L : List Blk} {k : V → List Blk → Prop}, k (B (rSps l)) L → CallP C 43 [.d (sps l)] L k := fun h => rsteps_c l hl h
  have eL : ((l.map Sp.cells).length : Int) = (l.length : Int) := by rw [List.length_map]
  unfold rorderF szBig at h
  rw [← eL] at h
  clear eL
  generalize szT 0 l = t at *
  generalize rSps l = r at *
  refine CallP.pure ?_ rfl (fun _ => rfl) h
  clear h
  refine callP_of C_ok Tryd.func16 rfl rfl (n := _) rfl (Nat.le_of_ble_eq_true rfl) (rs := _) rfl ?_
  by_cases h1 : (64 : Int) < (t.1 : Int)
  · repeat' (conv => whnf
             first | refine Br.yes (decide_eq_true h1) ?_ | refine Br.tt ?_ | refine Br.ff ?_ | refine Br.dec (fun h => ?_) (fun h => ?_) | refine Br.not ?_ | refine Br.intro (fun h => ?_) (fun h => ?_) | refine GetE.intro _ rfl ?_ | refine Need.intro rfl ?_ | refine DrawP.go mixed rfl ?_ | refine hs ?_)
    conv => whnf
    exact FinP.drop (n := 0) rfl (Nat.le_refl 0) rfl rfl ⟨rfl, congrArg I (if_pos (.inl (by omega))).symm⟩
  by_cases h2 : (256 : Int) < (t.2 : Int)
  · repeat' (conv => whnf
             first | refine Br.no (decide_eq_false h1) ?_ | refine Br.yes (decide_eq_true h2) ?_ | refine Br.tt ?_ | refine Br.ff ?_ | refine Br.dec (fun h => ?_) (fun h => ?_) | refine Br.not ?_ | refine Br.intro (fun h => ?_) (fun h => ?_) | refine GetE.intro _ rfl ?_ | refine Need.intro rfl ?_ | refine DrawP.go mixed rfl ?_ | refine hs ?_)
    conv => whnf
    exact FinP.drop (n := 0) rfl (Nat.le_refl 0) rfl rfl ⟨rfl, congrArg I (if_pos (.inr (by omega))).symm⟩
  have hnb : ¬ (64 < t.1 ∨ 256 < t.2) := by omega
  by_cases h3 : ((l.map Sp.cells).length : Int) = 0
  · repeat' (conv => whnf
             first | refine Br.no (decide_eq_false h1) ?_ | refine Br.no (decide_eq_false h2) ?_ | refine Br.yes (decide_eq_true h3) ?_ | refine Br.tt ?_ | refine Br.ff ?_ | refine Br.dec (fun h => ?_) (fun h => ?_) | refine Br.not ?_ | refine Br.intro (fun h => ?_) (fun h => ?_) | refine GetE.intro _ rfl ?_ | refine Need.intro rfl ?_ | refine DrawP.go mixed rfl ?_ | refine hs ?_)
    conv => whnf
    exact FinP.drop (n := 0) rfl (Nat.le_refl 0) rfl rfl ⟨rfl, congrArg I (by rw [if_neg hnb, if_pos h3])⟩
  cases r with
  | false =>
    repeat' (conv => whnf
             first | refine Br.no (decide_eq_false h1) ?_ | refine Br.no (decide_eq_false h2) ?_ | refine Br.no (decide_eq_false h3) ?_ | refine Br.tt ?_ | refine Br.ff ?_ | refine Br.dec (fun h => ?_) (fun h => ?_) | refine Br.not ?_ | refine Br.intro (fun h => ?_) (fun h => ?_) | refine GetE.intro _ rfl ?_ | refine Need.intro rfl ?_ | refine DrawP.go mixed rfl ?_ | refine hs ?_ | refine hst ?_)
    conv => whnf
    exact FinP.drop (n := 0) rfl (Nat.le_refl 0) rfl rfl ⟨rfl, congrArg I (by rw [if_neg hnb, if_neg h3, if_neg (by decide)])⟩
  | true =>
    repeat' (conv => whnf
             first | refine Br.no (decide_eq_false h1) ?_ | refine Br.no (decide_eq_false h2) ?_ | refine Br.no (decide_eq_false h3) ?_ | refine Br.tt ?_ | refine Br.ff ?_ | refine Br.dec (fun h => ?_) (fun h => ?_) | refine Br.not ?_ | refine Br.intro (fun h => ?_) (fun h => ?_) | refine GetE.intro _ rfl ?_ | refine Need.intro rfl ?_ | refine DrawP.go mixed rfl ?_ | refine hs ?_ | refine hst ?_)
    conv => whnf
    exact FinP.drop (n := 0) rfl (Nat.le_refl 0) rfl rfl ⟨rfl, congrArg I (by rw [if_neg hnb, if_neg h3, if_pos rfl])⟩
end Go.Proofs.YtddolfgmkpfmcaaDoor
