/-
  fixtures.Breaks: how often a club plays twice in a row on one side.
-/
import Derived.Test.YtfhigmdfocbajaaFixB
namespace Go.Proofs.Ytfhigmdfocbajaa
open Go.Tidy
set_option maxRecDepth 100000
set_option maxHeartbeats 0
set_option linter.unusedSimpArgs false
set_option linter.unusedVariables false
variable {L : List Blk} {k : V → List Blk → Prop}
def nzL (x : List Int) : List Int := x.filter fun v => !decide (v = 0)
/-- The row after the numbers up to j have been looked at: those that stay, some others, and the rest. -/
structure DelR (x : List Int) where
  (j : Nat) (mid : List Int)
def DelR.row {x : List Int} (s : DelR x) : List Int := nzL (x.take s.j) ++ s.mid ++ x.drop s.j
def DelR.Ok {x : List Int} (s : DelR x) : Prop := s.j ≤ x.length ∧ 0 < s.mid.length ∧ (nzL (x.take s.j)).length + s.mid.length = s.j
theorem nzL_snoc (x : List Int) (v : Int) : nzL (x ++ [v]) = if v = 0 then nzL x else nzL x ++ [v] := by
  unfold nzL; rw [List.filter_append]
  by_cases h : v = 0
  · rw [if_pos h, h]; simp
  · rw [if_neg h]; simp [h]
theorem nzL_of_no {x : List Int} (h : ∀ (j : Nat) (hj : j < x.length), x[j] ≠ 0) : nzL x = x := by
  unfold nzL
  rw [List.filter_eq_self]
  intro v hv
  obtain ⟨j, hj, rfl⟩ := List.getElem_of_mem hv
  simp [h j hj]
theorem DelR.skip {x : List Int} {s : DelR x} (ok : s.Ok) (hj : s.j < x.length) (h0 : x[s.j] = 0) : (⟨s.j + 1, s.mid ++ [0]⟩ : DelR x).Ok ∧ (⟨s.j + 1, s.mid ++ [0]⟩ : DelR x).row = s.row ∧ (nzL (x.take (s.j + 1))).length = (nzL (x.take s.j)).length := by
  obtain ⟨h1, h2, h3⟩ := ok
  have e : nzL (x.take (s.j + 1)) = nzL (x.take s.j) := by rw [take_next hj, nzL_snoc, if_pos h0]
  refine ⟨⟨hj, by simp, by simp only [e, List.length_append, List.length_singleton]; omega⟩, ?_, by rw [e]⟩
  unfold DelR.row
  rw [e, List.drop_eq_getElem_cons hj, h0]; simp
theorem DelR.put {x : List Int} {s : DelR x} (ok : s.Ok) (hj : s.j < x.length) (h0 : x[s.j] ≠ 0) : (⟨s.j + 1, s.mid.tail ++ [x[s.j]]⟩ : DelR x).Ok ∧ (⟨s.j + 1, s.mid.tail ++ [x[s.j]]⟩ : DelR x).row = s.row.set (nzL (x.take s.j)).length x[s.j] ∧ (nzL (x.take (s.j + 1))).length = (nzL (x.take s.j)).length + 1 := by
  obtain ⟨h1, h2, h3⟩ := ok
  have e : nzL (x.take (s.j + 1)) = nzL (x.take s.j) ++ [x[s.j]] := by rw [take_next hj, nzL_snoc, if_neg h0]
  rcases s with ⟨j, mid⟩
  simp only at h1 h2 h3 hj h0 e ⊢
  cases mid with
  | nil => simp at h2
  | cons a mid =>
    simp only [List.length_cons] at h3
    refine ⟨⟨hj, by simp, by simp only [e, List.length_append, List.length_singleton, List.tail_cons]; omega⟩, ?_, by rw [e]; simp⟩
    unfold DelR.row
    simp only [e, List.tail_cons]
    rw [List.drop_eq_getElem_cons hj, List.append_assoc, List.append_assoc, List.append_assoc, List.append_assoc, List.set_append_right _ _ (Nat.le_refl _), Nat.sub_self]; simp
theorem brkF_nz (x : List Int) : brkF x = brkF (nzL x) := by
  unfold brkF nzL
  generalize ((0 : Int), (0 : Int)) = a
  induction x generalizing a with
  | nil => rfl
  | cons v x ih =>
    by_cases h : v = 0
    · rw [List.filter_cons_of_neg (by simp [h]), List.foldl_cons, ← ih, brkStep, if_pos h]
    · rw [List.filter_cons_of_pos (by simp [h]), List.foldl_cons, List.foldl_cons, ← ih]
theorem rdI_set (x : List Int) (i : Nat) (v : Int) : rdI (x.set i v) = (rdI x).set i [I v] := by
  unfold rdI; rw [List.map_set]
theorem rdI_get {x : List Int} {i : Nat} (h : i < x.length) : (rdI x)[i]? = some [I x[i]] := by
  unfold rdI; rw [List.getElem?_map, List.getElem?_eq_getElem h]; rfl
theorem rdI_rows {S : Nat → Prop} {L : List Blk} : ∀ x : List Int, CvLL S L (rdI x) (x.map fun v => [DI v])
  | [] => .nil
  | _ :: x => .cons (.cons (.d _) .nil) (rdI_rows x)
theorem rdI_rows' {S : Nat → Prop} {L : List Blk} (x : List Int) : CvLL S L (((rdI x).drop 0).take x.length) (x.map fun v => [DI v]) := by
  rw [List.drop_zero, List.take_of_length_le (by simp [rdI])]; exact rdI_rows x
theorem rdI_e (x : List Int) : ∀ e ∈ x.map (fun v => [DI v]), e.length = 1 := by
  intro e he; obtain ⟨v, _, rfl⟩ := List.mem_map.1 he; rfl
theorem rdI_sh (m : Nat) : ∀ x : List Int, shR m (rdI x) = rdI x
  | [] => rfl
  | v :: x => by
    have := rdI_sh m x
    unfold rdI at this ⊢
    rw [List.map_cons, shR, this]; rfl
theorem rdI_shB (m n : Nat) (x : List Int) : (Blk.row n 1 (rdI x)).sh m = .row n 1 (rdI x) := by rw [Blk.sh, rdI_sh]
def dzL (x : List Int) : List Int := nzL x ++ List.replicate (x.length - (nzL x).length) 0
theorem delF_c (x : List Int) (g : Nat) (hl : x.length ≤ 1073741824) :
    CallP C 41 [.own 0 g 0 x.length, .fn 43 []] [.row g 1 (rdI x)] fun X L' => L' = [.row g 1 (rdI (dzL x))] ∧ X = .own 0 g 0 (nzL x).length := by
  refine callP_of C_ok Try.func41 rfl rfl (n := _) rfl (Nat.le_of_ble_eq_true rfl) (rs := _) rfl ?_
  rcases findI_spec (fun v : Int => decide (v = 0)) x with ⟨hf, hno⟩ | ⟨j, hj, hf, hp, hno⟩
  · have e : nzL x = x := nzL_of_no fun j hj => by simpa using hno j hj
    repeat' (conv => whnf
             first | refine CallP.lent (iindexFunc_c x (by omega) 43 (fun v => decide (v = 0)) (fun n L k h => brk1_c n h) ⟨rfl, congrArg I hf⟩) (.cv (.d (.rowL trivial rfl (rdI_rows' x) (by simp) (rdI_e x))) (.cv (.d (.fnL .nil)) .nil)) rfl rfl ?_ | refine Br.tt ?_ | refine Br.ff ?_ | refine Br.dec (fun h => ?_) (fun h => ?_) | refine Br.not ?_ | refine Br.intro (fun h => ?_) (fun h => ?_) | refine GetE.intro _ rfl ?_ | refine Need.intro rfl ?_ | refine DrawP.go mixed rfl ?_)
    conv => whnf
    exact FinP.same ⟨Eq.trans (b := [.row g 1 (rdI x)]) rfl (by rw [dzL, e, Nat.sub_self, List.replicate_zero, List.append_nil]), Eq.trans (b := V.own 0 g 0 x.length) rfl (by rw [e])⟩
  · have hp' : x[j] = 0 := of_decide_eq_true hp
    have hw : IntKind.i64.wrap ((j : Int) + 1) = ((j + 1 : Nat) : Int) := by rw [wrap_in (by omega)]; omega
    have e0 : nzL (x.take (j + 1)) = x.take j := by
      rw [take_next hj, nzL_snoc, if_pos hp']
      refine nzL_of_no fun m hm => ?_
      rw [List.length_take] at hm
      rw [List.getElem_take]
      simpa using hno m (by omega) (by omega)
    have hl0 : (nzL (x.take (j + 1))).length = j := by rw [e0, List.length_take]; omega
    have ok0 : (⟨j + 1, [0]⟩ : DelR x).Ok := ⟨hj, Nat.zero_lt_one, by rw [hl0]; rfl⟩
    have hrow : (⟨j + 1, [0]⟩ : DelR x).row = x := by
      unfold DelR.row
      simp only [e0]
      rw [List.append_assoc, show [(0 : Int)] ++ x.drop (j + 1) = x.drop j by rw [List.drop_eq_getElem_cons hj, hp']; rfl, List.take_append_drop]
    repeat' (conv => whnf
             first | refine CallP.lent (iindexFunc_c x (by omega) 43 (fun v => decide (v = 0)) (fun n L k h => brk1_c n h) ⟨rfl, congrArg I hf⟩) (.cv (.d (.rowL trivial rfl (rdI_rows' x) (by simp) (rdI_e x))) (.cv (.d (.fnL .nil)) .nil)) rfl rfl ?_ | refine Br.no (decide_eq_false (by omega)) ?_ | refine Br.tt ?_ | refine Br.ff ?_ | refine Br.dec (fun h => ?_) (fun h => ?_) | refine Br.not ?_ | refine Br.intro (fun h => ?_) (fun h => ?_) | refine GetE.intro _ rfl ?_ | refine Need.intro rfl ?_ | refine DrawP.go mixed rfl ?_)
    conv => whnf
    refine LoopP.inv (α := DelR x) DelR.Ok (fun s => ⟨[(0, .own 0 g 0 x.length), (1, .fn 43 []), (5, I (nzL (x.take s.j)).length), (6, I s.j)], Try.f41.ntmps, [.row g 1 (rdI s.row)], [], none⟩) (fun s => x.length - s.j) ⟨j + 1, [0]⟩ ok0 ?_ ?_
    · exact Weak.by ⟨rfl, rfl, congrArg I (congrArg Nat.cast hl0.symm), congrArg I hw, trivial⟩ (hL := by rw [hrow])
    intro s hs
    obtain ⟨h1, h2, h3⟩ := id hs
    have hrl : s.row.length = x.length := by unfold DelR.row; simp only [List.length_append, List.length_drop]; omega
    by_cases hi : s.j < x.length
    · have hlt : (s.j : Int) < (x.length : Int) := by omega
      have hw : IntKind.i64.wrap ((s.j : Int) + 1) = ((s.j + 1 : Nat) : Int) := by rw [wrap_in (by omega)]; omega
      have hw5 : IntKind.i64.wrap (((nzL (x.take s.j)).length : Int) + 1) = (((nzL (x.take s.j)).length + 1 : Nat) : Int) := by rw [wrap_in (by omega)]; omega
      have hg : (rdI s.row)[0 + s.j]? = some [I x[s.j]] := by
        rw [Nat.zero_add, rdI_get (by omega)]
        refine congrArg (fun v => some [I v]) ?_
        unfold DelR.row
        rw [List.getElem_append_right (by rw [List.length_append]; omega)]
        simp [List.length_append, h3]
      by_cases h0 : x[s.j] = 0
      · obtain ⟨ok, hr, hn⟩ := DelR.skip hs hi h0
        repeat' (conv => whnf
                 first | refine Br.yes (decide_eq_true hlt) ?_ | refine IdxN.intro s.j rfl hi ?_ | refine GetE.intro [I x[s.j]] hg ?_ | refine brk1_c _ ?_ | refine Br.yes (decide_eq_true h0) ?_ | simp only [Nat.beq_refl, Bool.and_self] | refine Br.tt ?_ | refine Br.ff ?_ | refine Br.dec (fun h => ?_) (fun h => ?_) | refine Br.not ?_ | refine Br.intro (fun h => ?_) (fun h => ?_) | refine GetE.intro _ rfl ?_ | refine Need.intro rfl ?_ | refine DrawP.go mixed rfl ?_)
        conv => whnf
        exact ⟨⟨s.j + 1, s.mid ++ [0]⟩, ok, by simp only; omega, Weak.by ⟨rfl, rfl, congrArg (fun n : Nat => I (n : Int)) hn.symm, congrArg I hw, trivial⟩ (hL := congrArg (fun r => [Blk.row g 1 (rdI r)]) hr.symm)⟩
      · obtain ⟨ok, hr, hn⟩ := DelR.put hs hi h0
        have hk : (nzL (x.take s.j)).length < s.row.length := by omega
        have hg2 : (rdI s.row)[0 + (nzL (x.take s.j)).length]? = some [I (s.row[(nzL (x.take s.j)).length]'hk)] := by rw [Nat.zero_add, rdI_get hk]
        repeat' (conv => whnf
                 first | refine Br.yes (decide_eq_true hlt) ?_ | refine IdxN.intro s.j rfl hi ?_ | refine IdxN.intro (nzL (x.take s.j)).length rfl (by omega) ?_ | refine GetE.intro [I x[s.j]] hg ?_ | refine GetE.intro _ hg2 ?_ | refine brk1_c _ ?_ | refine Br.no (decide_eq_false h0) ?_ | simp only [Nat.beq_refl, Bool.and_self] | refine Br.tt ?_ | refine Br.ff ?_ | refine Br.dec (fun h => ?_) (fun h => ?_) | refine Br.not ?_ | refine Br.intro (fun h => ?_) (fun h => ?_) | refine GetE.intro _ rfl ?_ | refine Need.intro rfl ?_ | refine DrawP.go mixed rfl ?_)
        conv => whnf
        refine ⟨⟨s.j + 1, s.mid.tail ++ [x[s.j]]⟩, ok, by simp only; omega, Weak.by ⟨rfl, rfl, ?_, congrArg I hw, trivial⟩ (hL := Eq.trans (b := [.row g 1 ((rdI s.row).set (0 + (nzL (x.take s.j)).length) [I x[s.j]])]) rfl ?_)⟩
        · exact Eq.trans (b := I (IntKind.i64.wrap (((nzL (x.take s.j)).length : Int) + 1))) rfl (by rw [hw5, hn]; rfl)
        · rw [Nat.zero_add, ← rdI_set, ← hr]
    · have hlt : ¬ (s.j : Int) < (x.length : Int) := by omega
      have hjx : s.j = x.length := by omega
      have hkx : x.take s.j = x := by rw [hjx, List.take_length]
      repeat' (conv => whnf
               first | refine Br.no (decide_eq_false hlt) ?_ | refine SliceP.intro (nzL (x.take s.j)).length x.length rfl rfl (by omega) (Nat.le_refl _) ?_ | refine SliceP.intro 0 (nzL (x.take s.j)).length rfl rfl (Nat.zero_le _) (by omega) ?_ | simp only [Nat.beq_refl, Bool.and_self] | refine Br.tt ?_ | refine Br.ff ?_ | refine Br.dec (fun h => ?_) (fun h => ?_) | refine Br.not ?_ | refine Br.intro (fun h => ?_) (fun h => ?_) | refine GetE.intro _ rfl ?_ | refine Need.intro rfl ?_ | refine DrawP.go mixed rfl ?_)
      conv => whnf
      obtain ⟨K, hK⟩ : ∃ K, K = (nzL (x.take s.j)).length := ⟨_, rfl⟩
      have hzl : (rdI s.row).take K ++ (List.replicate (x.length - K) [I 0] ++ (rdI s.row).drop (K + (x.length - K))) = rdI (nzL x ++ List.replicate (x.length - K) 0) := by
        have e1 : (rdI s.row).take K = rdI (nzL x) := by
          unfold rdI
          rw [← List.map_take, hK]
          unfold DelR.row
          rw [List.append_assoc, List.take_left, hkx]
        rw [e1, List.drop_of_length_le (by unfold rdI; rw [List.length_map]; omega), List.append_nil]
        unfold rdI
        rw [List.map_append, List.map_replicate]
      rw [hK] at hzl
      exact FinP.same ⟨Eq.trans (b := [.row g 1 ((rdI s.row).take (0 + (nzL (x.take s.j)).length) ++ (List.replicate (x.length - (nzL (x.take s.j)).length) [I 0] ++ (rdI s.row).drop (0 + (nzL (x.take s.j)).length + (x.length - (nzL (x.take s.j)).length))))]) rfl (by rw [Nat.zero_add, hzl, dzL, hkx]),
        Eq.trans (b := V.own 0 g (0 + 0) ((nzL (x.take s.j)).length - 0)) rfl (by rw [Nat.sub_zero, hkx])⟩
theorem breaks_c (l : List (List Mt)) (c : Int) (hl : l.length ≤ 1073741824) (hr : ∀ r ∈ l, r.length ≤ 4611686018427387904) (h : k (I (brkF (patL l c)).2) L) : CallP C 25 [lisV l, I c] L k := by
  obtain ⟨y, hy⟩ : ∃ y, y = nzL (patL l c) := ⟨_, rfl⟩
  rw [brkF_nz, ← hy] at h
  have hy0 : ∀ (j : Nat) (hj : j < y.length), y[j] ≠ 0 := fun j hj => by
    have h0 : ∀ v ∈ y, v ≠ 0 := fun v hv => by
      rw [hy] at hv
      simpa using (List.mem_filter.1 hv).2
    exact h0 _ (List.getElem_mem hj)
  have hpl : (patL l c).length = l.length := by unfold patL; rw [List.length_map]
  have hyl : y.length ≤ l.length := by rw [hy, ← hpl]; exact List.length_filter_le _ _
  have hpat := pattern_c l c hl hr
  have hdel := delF_c (patL l c) l.length (by omega)
  obtain ⟨z, hz⟩ : ∃ z, dzL (patL l c) = y ++ z := ⟨_, by rw [dzL, ← hy]⟩
  rw [hpl, ← hy, hz] at hdel
  refine CallP.pure ?_ rfl (fun _ => rfl) h
  clear h
  refine callP_of C_ok Try.func25 rfl rfl (n := _) rfl (Nat.le_of_ble_eq_true rfl) (rs := _) rfl ?_
  conv => whnf
  refine CallP.frame hpat rfl ?_
  rintro X L' ⟨rfl, rfl⟩
  conv => whnf
  refine CallP.at1 (b := 1) hdel rfl ((rdI_rnB _ _ _).trans (rdI_shB _ _ _).symm) rfl rfl ?_ rfl (by rw [Blk.bel]; exact rdI_bel 1 _) rfl
  conv => whnf
  refine LoopP.inv (fun i => 1 ≤ i ∧ (i ≤ y.length ∨ i = 1)) (fun i => ⟨[(4, I (brkF (y.take i)).2), (5, .own 1 l.length 0 y.length), (6, I i)], Try.f25.ntmps, [.cells [.d (lisD l)], .row l.length 1 (rdI (y ++ z))], [], none⟩) (fun i => y.length - i) 1 ⟨Nat.le_refl _, .inr rfl⟩ ?_ ?_
  · have e0 : (brkF (y.take 1)).2 = 0 := by
      cases y with
      | nil => rfl
      | cons a y => 
        have := hy0 0 (by simp)
        simp only [List.getElem_cons_zero] at this
        show (brkStep (0, 0) a).2 = 0
        rw [brkStep, if_neg this, if_neg this]
    exact Weak.by ⟨(by rw [e0]; rfl), rfl, rfl, trivial⟩ (hL := Eq.trans (b := [Blk.cells [.d (lisD l)], (Blk.row l.length 1 (rdI (y ++ z))).rn _]) rfl (by rw [rdI_rnB]))
  rintro i ⟨h1, h2⟩
  by_cases hi : i < y.length
  · have hlt : (i : Int) < (y.length : Int) := by omega
    have hw : IntKind.i64.wrap ((i : Int) + 1) = ((i + 1 : Nat) : Int) := by rw [wrap_in (by omega)]; omega
    have hw1 : IntKind.i64.wrap ((i : Int) - 1) = ((i - 1 : Nat) : Int) := by rw [wrap_in (by omega)]; omega
    have hb := brkF_bound (y.take i)
    have hbl : (y.take i).length ≤ y.length := by rw [List.length_take]; omega
    have hw4 : IntKind.i64.wrap ((brkF (y.take i)).2 + 1) = (brkF (y.take i)).2 + 1 := wrap_in (by omega)
    have hlast : (brkF (y.take i)).1 = y[i - 1] := by
      obtain ⟨m, rfl⟩ : ∃ m, i = m + 1 := ⟨i - 1, by omega⟩
      rw [take_next (by omega), brkF_snoc, brkStep, if_neg (hy0 m (by omega))]; rfl
    have hstep : (brkF (y.take (i + 1))).2 = if y[i] = y[i - 1] then (brkF (y.take i)).2 + 1 else (brkF (y.take i)).2 := by
      rw [take_next hi, brkF_snoc, brkStep, if_neg (hy0 i hi), hlast]
    have hg1 : (rdI (y ++ z))[0 + i]? = some [I y[i]] := by
      rw [Nat.zero_add, rdI_get (by rw [List.length_append]; omega), List.getElem_append_left hi]
    have hg2 : (rdI (y ++ z))[0 + (i - 1)]? = some [I y[i - 1]] := by
      rw [Nat.zero_add, rdI_get (by rw [List.length_append]; omega), List.getElem_append_left (by omega)]
    by_cases hq : y[i] = y[i - 1]
    all_goals
      first | rw [if_pos hq] at hstep | rw [if_neg hq] at hstep
      repeat' (conv => whnf
               first | refine Br.yes (decide_eq_true hlt) ?_ | refine IdxN.intro i rfl hi ?_ | refine IdxN.intro (i - 1) hw1 (by omega) ?_ | refine GetE.intro _ hg1 ?_ | refine GetE.intro _ hg2 ?_ | refine Br.yes (decide_eq_true hq) ?_ | refine Br.no (decide_eq_false hq) ?_ | simp only [Nat.beq_refl, Bool.and_self] | refine Br.tt ?_ | refine Br.ff ?_ | refine Br.dec (fun h => ?_) (fun h => ?_) | refine Br.not ?_ | refine Br.intro (fun h => ?_) (fun h => ?_) | refine GetE.intro _ rfl ?_ | refine Need.intro rfl ?_ | refine DrawP.go mixed rfl ?_)
    all_goals conv => whnf
    all_goals exact ⟨i + 1, ⟨by omega, .inl hi⟩, by omega, Weak.by ⟨(by first | exact congrArg I (hw4.trans hstep.symm) | exact congrArg I hstep.symm), rfl, congrArg I hw, trivial⟩⟩
  · have hlt : ¬ (i : Int) < (y.length : Int) := by omega
    have ht : y.take i = y := List.take_of_length_le (by omega)
    repeat' (conv => whnf
             first | refine Br.no (decide_eq_false hlt) ?_ | simp only [Nat.beq_refl, Bool.and_self] | refine Br.tt ?_ | refine Br.ff ?_ | refine Br.dec (fun h => ?_) (fun h => ?_) | refine Br.not ?_ | refine Br.intro (fun h => ?_) (fun h => ?_) | refine GetE.intro _ rfl ?_ | refine Need.intro rfl ?_ | refine DrawP.go mixed rfl ?_)
    conv => whnf
    exact FinP.drop (n := 0) rfl (Nat.le_refl 0) rfl rfl ⟨rfl, Eq.trans (b := I (brkF (y.take i)).2) rfl (by rw [ht])⟩
end Go.Proofs.Ytfhigmdfocbajaa
