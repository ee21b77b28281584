/-
  The reference of stats: Rows.
-/
import Derived.Test.YtnkfifkgbkgcjaaStatsQ
namespace Go.Proofs.Ytnkfifkgbkgcjaa
open Go.Tidy
set_option maxRecDepth 100000
set_option maxHeartbeats 0
set_option linter.unusedSimpArgs false
set_option linter.unusedVariables false
variable {L : List Blk} {k : V → List Blk → Prop}
theorem findI_at {clubs : List Int} (hnd : clubs.Nodup) {j : Nat} (hj : j < clubs.length) : findI (fun m => decide (m = clubs[j])) clubs = j :=
  findI_hit hj (by simp) fun i hi hij => by
    simp only [decide_eq_false_iff_not]
    intro e
    have := (List.getElem_inj hnd).1 e
    omega
theorem findI_not {clubs : List Int} {c : Int} (h : c ∉ clubs) : findI (fun m => decide (m = c)) clubs = -1 :=
  findI_miss fun j hj => by
    simp only [decide_eq_false_iff_not]
    rintro rfl
    exact h (List.getElem_mem hj)
def elsOf (clubs : List Int) (F : Int → Row) : List (List V) := clubs.map fun c => (F c).cells.map V.d
theorem elsOf_get {clubs : List Int} {F : Int → Row} {j : Nat} (hj : j < clubs.length) : (elsOf clubs F)[j]? = some ((F clubs[j]).cells.map V.d) := by
  simp [elsOf, List.getElem?_eq_getElem hj]
theorem elsOf_set {clubs : List Int} (hnd : clubs.Nodup) (F : Int → Row) {j : Nat} (hj : j < clubs.length) (s : Side) (w : Worth) (hs : s.club = clubs[j]) :
    (elsOf clubs F).set j ((countF (F clubs[j]) s w).cells.map V.d) = elsOf clubs (tallyS w F s) := by
  apply List.ext_getElem?
  intro i
  rw [List.getElem?_set]
  simp only [elsOf, List.length_map, List.getElem?_map]
  by_cases h : j = i
  · subst h
    simp [hj, List.getElem?_eq_getElem hj, tallyS, hs]
  · rw [if_neg h]
    cases e : clubs[i]? with
    | none => rfl
    | some c =>
      have hi := lt_of_get e
      rw [List.getElem?_eq_getElem hi] at e
      cases e
      have : clubs[i] ≠ clubs[j] := fun he => h ((List.getElem_inj hnd).1 he).symm
      simp [tallyS, hs, this]
theorem elsOf_bel (n g : Nat) (clubs : List Int) (F : Int → Row) : belB n [.row g 11 (elsOf clubs F)] = true := by
  simp only [belB, Blk.bel, Bool.and_true]
  refine belR_of fun x hx => ?_
  obtain ⟨c, _, rfl⟩ := List.mem_map.1 hx
  exact V.belL_d _ _
theorem rindex_b (l : List Int) (n : Int) (hl : l.length ≤ 4611686018427387904) (hnd : l.Nodup) (h1 : ∀ (j : Nat) (hj : j < l.length), l[j] = n → k (I j) L) (h2 : n ∉ l → k (I (-1)) L) : CallP C 29 [.d (ints l), I n] L k := by
  refine rindex_c l n hl ?_
  by_cases h : n ∈ l
  · obtain ⟨j, hj, rfl⟩ := List.mem_iff_getElem.1 h
    rw [findI_at hnd hj]; exact h1 j hj rfl
  · rw [findI_not h]; exact h2 h
theorem rowsF_no {l : List Res} {clubs : List Int} {w : Worth} (h0 : checkF l clubs w = 0) {i : Nat} (hi : i < l.length) (h : known clubs l[i] = false) : rowsF l clubs w = ([], 190) := by
  rw [rowsF, if_pos h0, all_no hi h]; rfl
theorem rowsF_yes {l : List Res} {clubs : List Int} {w : Worth} (h0 : checkF l clubs w = 0) (h : ∀ (m : Nat) (hm : m < l.length), known clubs l[m] = true) : rowsF l clubs w = (clubs.map (tally w l rowC), 0) := by
  have : l.all (known clubs) = true := List.all_eq_true.2 fun x hx => by
    obtain ⟨j, hj, rfl⟩ := List.getElem_of_mem hx
    exact h j hj
  rw [rowsF, if_pos h0, this]; rfl
theorem rrows_c (l : List Res) (clubs : List Int) (w : Worth) (hl : l.length ≤ 4611686018427387904) (hc : clubs.length ≤ 4611686018427387904) (h : k (.tup [.d (rowsD (rowsF l clubs w).1), I (rowsF l clubs w).2]) L) :
    CallP C 14 [.d (ress l), .d (ints clubs), I w.win, I w.draw, I w.loss] L k := by
  refine CallP.pure ?_ rfl (fun _ => rfl) h
  clear h
  refine callP_of C_ok Try.func14 rfl rfl (n := _) rfl (Nat.le_of_ble_eq_true rfl) (rs := _) rfl ?_
  conv => whnf
  refine rchecked_c l clubs w hl hc ?_
  by_cases h0 : checkF l clubs w = 0
  · conv => whnf
    refine Br.no (by simp [h0]) ?_
    have hf : fieldOk clubs 1 = true := by
      cases e : fieldOk clubs 1 with
      | true => rfl
      | false => rw [checkF, e] at h0; simp at h0
    have hinc : incr clubs = true := by
      simp only [fieldOk, Bool.and_eq_true] at hf; exact hf.1.1
    have hnd := incr_nodup hinc
    have hlen : clubs.length ≤ 24 := by
      simp only [fieldOk, Bool.and_eq_true, decide_eq_true_eq] at hf; exact hf.2
    conv => whnf
    refine LoopP.intro (ι := { j : Nat // j ≤ clubs.length })
      (fun j => ⟨[(0, .d (ress l)), (1, .d (ints clubs)), (2, I w.win), (3, I w.draw), (4, I w.loss), (13, .own 0 j.1 0 j.1), (14, I j.1)], 101, [.row j.1 11 (elsOf (clubs.take j.1) rowC)], [], none⟩) (fun j => clubs.length - j.1) ⟨0, Nat.zero_le _⟩ ?_ ?_
    · exact Weak.by ⟨rfl, rfl, rfl, rfl, rfl, rfl, rfl, trivial⟩
    rintro ⟨j, hj⟩
    conv => whnf
    refine Br.dec (fun hb => ?_) (fun hb => ?_)
    · have hj' : j < clubs.length := by simpa using hb
      repeat' (conv => whnf
               first | refine Br.tt ?_ | refine Br.ff ?_ | refine Br.dec (fun h => ?_) (fun h => ?_) | refine Br.not ?_ | refine Br.intro (fun h => ?_) (fun h => ?_) | refine GetE.intro _ rfl ?_ | refine Need.intro rfl ?_ | refine DrawP.go mixed rfl ?_ | refine Idx.map j rfl hj' ?_ | simp only [Nat.beq_refl, Bool.and_self] | refine Need.intro (by first | omega | (simp; omega)) ?_)
      (try conv => whnf)
      exact ⟨⟨j + 1, hj'⟩, by simp only []; omega, Weak.to 1 (congrArg (fun e => [Blk.row (j + 1) 11 e]) (rows_next rowC hj')) (Nat.zero_le _) (Nat.le_of_ble_eq_true rfl) ⟨rfl, rfl, rfl, rfl, rfl, rfl, congrArg I (by rw [wrap_id] <;> (try simp only []) <;> omega), trivial⟩ (hB := elsOf_bel _ _ _ _)⟩
    · have hie : clubs.take j = clubs := List.take_of_length_le (by simp at hb; omega)
      have hje : j = clubs.length := by simp at hb; omega
      repeat' (conv => whnf
               first | refine Br.tt ?_ | refine Br.ff ?_ | refine Br.dec (fun h => ?_) (fun h => ?_) | refine Br.not ?_ | refine Br.intro (fun h => ?_) (fun h => ?_) | refine GetE.intro _ rfl ?_ | refine Need.intro rfl ?_ | refine DrawP.go mixed rfl ?_)
      (try conv => whnf)
      refine LoopP.intro (ι := { i : Nat // i ≤ l.length ∧ ∀ (m : Nat) (hm : m < l.length), m < i → known clubs l[m] = true })
        (fun i => ⟨[(0, .d (ress l)), (1, .d (ints clubs)), (2, I w.win), (3, I w.draw), (4, I w.loss), (13, .own 0 clubs.length 0 clubs.length), (15, I i.1)], 101, [.row clubs.length 11 (elsOf clubs (tally w (l.take i.1) rowC))], [], none⟩) (fun i => l.length - i.1) ⟨0, Nat.zero_le _, fun m hm h => absurd h (Nat.not_lt_zero m)⟩ ?_ ?_
      · exact Weak.by ⟨rfl, rfl, rfl, rfl, rfl, by subst hje; rfl, rfl, trivial⟩ (by show [Blk.row j 11 (elsOf (clubs.take j) rowC)] = _; rw [hie, hje]; rfl)
      rintro ⟨i, hi, hP⟩
      generalize hF : tally w (l.take i) rowC = F
      conv => whnf
      refine Br.dec (fun hb => ?_) (fun hb => ?_)
      · have hi' : i < l.length := by simpa using hb
        repeat' (conv => whnf
                 first | refine Br.tt ?_ | refine Br.ff ?_ | refine Br.dec (fun h => ?_) (fun h => ?_) | refine Br.not ?_ | refine Br.intro (fun h => ?_) (fun h => ?_) | refine GetE.intro _ rfl ?_ | refine Need.intro rfl ?_ | refine DrawP.go mixed rfl ?_ | refine Idx.map i rfl hi' ?_)
        refine rindex_b clubs _ hc hnd (fun p hp hpe => ?_) (fun hp => ?_)
        · repeat' (conv => whnf
                   first | refine Br.tt ?_ | refine Br.ff ?_ | refine Br.dec (fun h => ?_) (fun h => ?_) | refine Br.not ?_ | refine Br.intro (fun h => ?_) (fun h => ?_) | refine GetE.intro _ rfl ?_ | refine Need.intro rfl ?_ | refine DrawP.go mixed rfl ?_ | refine Idx.map i rfl hi' ?_)
          refine rindex_b clubs _ hc hnd (fun q hq hqe => ?_) (fun hq => ?_)
          · have hset := elsOf_set hnd F hp (homeS l[i]) w hpe.symm
            have hget : ((elsOf clubs F).set p ((countF (F clubs[p]) (homeS l[i]) w).cells.map V.d))[q]? = some ((tallyS w F (homeS l[i]) clubs[q]).cells.map V.d) := by rw [hset]; exact elsOf_get hq
            have hset2 := elsOf_set hnd (tallyS w F (homeS l[i])) hq (awayS l[i]) w hqe.symm
            have htal : tally w (l.take (i + 1)) rowC = tallyS w (tallyS w F (homeS l[i])) (awayS l[i]) := by rw [take_next hi', tally_snoc, hF]
            repeat' (conv => whnf
                     first | refine Br.tt ?_ | refine Br.ff ?_ | refine Br.dec (fun h => ?_) (fun h => ?_) | refine Br.not ?_ | refine Br.intro (fun h => ?_) (fun h => ?_) | refine GetE.intro _ rfl ?_ | refine Need.intro rfl ?_ | refine DrawP.go mixed rfl ?_ | refine Idx.map i rfl hi' ?_ | simp only [Nat.beq_refl, Bool.true_and, Nat.zero_add] | refine IdxN.intro p rfl hp ?_ | refine IdxN.intro q rfl hq ?_ | refine GetE.intro _ (elsOf_get hp) ?_ | refine GetE.intro ((tallyS w F (homeS l[i]) clubs[q]).cells.map .d) hget ?_ | refine QCall.intro _ (rcount_c (F clubs[p]) l[i] false w ⟨rfl, rfl⟩) ?_ | refine QCall.intro _ (rcount_c (tallyS w F (homeS l[i]) clubs[q]) l[i] true w ⟨rfl, rfl⟩) ?_)
            all_goals (try (exfalso; omega))
            (try conv => whnf)
            refine ⟨⟨i + 1, hi', fun m hm hmi => ?_⟩, by simp only []; omega, Weak.by ⟨rfl, rfl, rfl, rfl, rfl, rfl, congrArg I (by rw [wrap_id] <;> (try simp only []) <;> omega), trivial⟩ ?_⟩
            · by_cases e : m = i
              · subst e
                simp only [known, Bool.and_eq_true, List.contains_iff_mem]
                exact ⟨hpe ▸ List.getElem_mem hp, hqe ▸ List.getElem_mem hq⟩
              · exact hP m hm (by omega)
            · refine congrArg (fun e => [Blk.row clubs.length 11 e]) (Eq.trans (b := ((elsOf clubs F).set p ((countF (F clubs[p]) (homeS l[i]) w).cells.map V.d)).set q ((countF (tallyS w F (homeS l[i]) clubs[q]) (awayS l[i]) w).cells.map V.d)) rfl ?_)
              rw [hset, hset2, htal]
          · rw [rowsF_no h0 hi' (by simp only [known, Bool.and_eq_false_iff, List.contains_eq_mem, decide_eq_false_iff_not]; exact .inr hq)]
            repeat' (conv => whnf
                     first | refine Br.tt ?_ | refine Br.ff ?_ | refine Br.dec (fun h => ?_) (fun h => ?_) | refine Br.not ?_ | refine Br.intro (fun h => ?_) (fun h => ?_) | refine GetE.intro _ rfl ?_ | refine Need.intro rfl ?_ | refine DrawP.go mixed rfl ?_ | refine Idx.map i rfl hi' ?_)
            all_goals (try (exfalso; omega))
            all_goals (try conv => whnf)
            all_goals exact FinP.data (.pair (.d .nil) (.d (.d _))) rfl rfl ⟨rfl, rfl⟩
        · rw [rowsF_no h0 hi' (by simp only [known, Bool.and_eq_false_iff, List.contains_eq_mem, decide_eq_false_iff_not]; exact .inl hp)]
          repeat' (conv => whnf
                   first | refine Br.tt ?_ | refine Br.ff ?_ | refine Br.dec (fun h => ?_) (fun h => ?_) | refine Br.not ?_ | refine Br.intro (fun h => ?_) (fun h => ?_) | refine GetE.intro _ rfl ?_ | refine Need.intro rfl ?_ | refine DrawP.go mixed rfl ?_ | refine Idx.map i rfl hi' ?_)
          refine rindex_c clubs _ hc ?_
          repeat' (conv => whnf
                   first | refine Br.tt ?_ | refine Br.ff ?_ | refine Br.dec (fun h => ?_) (fun h => ?_) | refine Br.not ?_ | refine Br.intro (fun h => ?_) (fun h => ?_) | refine GetE.intro _ rfl ?_ | refine Need.intro rfl ?_ | refine DrawP.go mixed rfl ?_ | refine Idx.map i rfl hi' ?_)
          all_goals (try (exfalso; omega))
          all_goals (try conv => whnf)
          all_goals exact FinP.data (.pair (.d .nil) (.d (.d _))) rfl rfl ⟨rfl, rfl⟩
      · have hil : i = l.length := by simp at hb; omega
        subst hil
        rw [rowsF_yes h0 (fun m hm => hP m hm hm), show tally w l rowC = F by rw [← hF, List.take_length]]
        repeat' (conv => whnf
                 first | refine Br.tt ?_ | refine Br.ff ?_ | refine Br.dec (fun h => ?_) (fun h => ?_) | refine Br.not ?_ | refine Br.intro (fun h => ?_) (fun h => ?_) | refine GetE.intro _ rfl ?_ | refine Need.intro rfl ?_ | refine DrawP.go mixed rfl ?_)
        conv => whnf
        refine FinP.data (.pair (.d (.row (sz := 11) (clubs.map fun c => (F c).cells) (Nat.zero_le _) rfl ?_ ?_ ?_)) (.d (.d _))) rfl rfl ⟨rfl, ?_⟩
        · rw [List.drop_zero, List.take_of_length_le (by simp [elsOf]), List.map_map]; rfl
        · rw [List.length_map]
        · intro x hx
          obtain ⟨c, _, rfl⟩ := List.mem_map.1 hx
          rfl
        · rw [rowsD, List.map_map]; rfl
  · rw [show rowsF l clubs w = ([], checkF l clubs w) from if_neg h0]
    conv => whnf
    refine Br.yes (by simp [h0]) ?_
    repeat' (conv => whnf
             first | refine Br.tt ?_ | refine Br.ff ?_ | refine Br.dec (fun h => ?_) (fun h => ?_) | refine Br.not ?_ | refine Br.intro (fun h => ?_) (fun h => ?_) | refine GetE.intro _ rfl ?_ | refine Need.intro rfl ?_ | refine DrawP.go mixed rfl ?_)
    conv => whnf
    exact FinP.data (.pair (.d .nil) (.d (.d _))) rfl rfl ⟨rfl, rfl⟩
end Go.Proofs.Ytnkfifkgbkgcjaa
