/-
  The statement StatsSums.
-/
import Derived.Test.YtnkfifkgbkgcjaaLawB
import Derived.Test.YtnkfifkgbkgcjaaStatsP
import Derived.Test.YtnkfifkgbkgcjaaTidyZ7
namespace Go.Proofs.Ytnkfifkgbkgcjaa.sums
open Go.Tidy Go.ChangeShapes Go.WideShapes Go.ChangeAt Go.RowKit
set_option maxRecDepth 100000
set_option maxHeartbeats 0
set_option linter.unusedSimpArgs false
set_option linter.unusedVariables false
theorem few_b {L : List Blk} {k : V → List Blk → Prop} {l : List Res} {clubs : List Int} (h : l.length ≤ 40 ∧ clubs.length ≤ 30) (hk : k (B true) L) : CallP C 12 [.d (ress l), .d (ints clubs)] L k := by
  refine few_c l clubs ?_
  rw [decide_eq_true h]; exact hk
theorem cells_all (l : List Res) : ∀ e ∈ l.map Res.cells, e.length = 13 := by
  intro e he
  obtain ⟨r, _, rfl⟩ := List.mem_map.1 he
  rfl
theorem bad (l m : List Res) (clubs : List Int) (w : Worth) {R1 R2 : List Row} {e1 e2 e3 : Int} (hf1 : l.length ≤ 40 ∧ clubs.length ≤ 30) (hf2 : m.length ≤ 40 ∧ clubs.length ≤ 30) (hra : rowsF l clubs w = (R1, e1)) (hrb : rowsF m clubs w = (R2, e2))
    (hrc : rowsF (m ++ l) clubs w = ([], e3)) (h12 : e1 ≠ 0 ∨ e2 ≠ 0) (h3 : e3 ≠ 0) : CallP C 6 [.d (ress l), .d (ress m), .d (ints clubs), I w.win, I w.draw, I w.loss] [] fun X L => L = [] ∧ X = .d (.bool true) := by
  refine callP_of C_ok Try.func6 rfl rfl (n := _) rfl (Nat.le_of_ble_eq_true rfl) (rs := _) rfl ?_
  conv => whnf
  refine sane_c ?_
  repeat' (conv => whnf
           first | refine Br.tt ?_ | refine Br.ff ?_ | refine Br.dec (fun h => ?_) (fun h => ?_) | refine Br.not ?_ | refine Br.intro (fun h => ?_) (fun h => ?_) | refine GetE.intro _ rfl ?_ | refine Need.intro rfl ?_ | refine DrawP.go mixed rfl ?_ | refine few_b hf1 ?_ | refine few_b hf2 ?_ | refine rows_e hra (by omega) (by omega) ?_ | refine rows_e hrb (by omega) (by omega) ?_ | refine Need.intro (cells_all _) ?_ | refine Need.intro (by first | omega | (simp; omega)) ?_)
  conv => whnf
  refine CallP.freeze [0] rfl rfl (.cv (.d (.row ((m ++ l).map Res.cells) (.head _) rfl ?_ ?_ ?_)) (.keep (.keep (.keep (.keep .nil))))) (rows_e hrc (by simp; omega) (by omega) ?_)
  · simp only [List.take_zero, List.nil_append, List.drop_zero, List.length_map, List.map_append, Nat.zero_add]
    rw [List.take_of_length_le (l := List.map _ _) (by simp), List.take_of_length_le (by simp)]
  · simp
  · exact cells_all _
  repeat' (conv => whnf
           first | refine Br.tt ?_ | refine Br.ff ?_ | refine Br.dec (fun h => ?_) (fun h => ?_) | refine Br.not ?_ | refine Br.intro (fun h => ?_) (fun h => ?_) | refine GetE.intro _ rfl ?_ | refine Need.intro rfl ?_ | refine DrawP.go mixed rfl ?_)
  all_goals first | (exfalso; omega) | skip
  all_goals conv => whnf
  all_goals exact FinP.drop (n := 0) rfl (Nat.le_refl 0) rfl rfl ⟨rfl, congrArg B (by simp [h3])⟩
theorem good (l m : List Res) (clubs : List Int) (w : Worth) (hf1 : l.length ≤ 40 ∧ clubs.length ≤ 30) (hf2 : m.length ≤ 40 ∧ clubs.length ≤ 30) (ha : AllOk l clubs w) (hb : AllOk m clubs w) : CallP C 6 [.d (ress l), .d (ress m), .d (ints clubs), I w.win, I w.draw, I w.loss] [] fun X L => L = [] ∧ X = .d (.bool true) := by
  have hra := rowsF_ok ha
  have hrb := rowsF_ok hb
  have hrc := rowsF_ok (AllOk.append.2 ⟨ha, hb⟩)
  refine callP_of C_ok Try.func6 rfl rfl (n := _) rfl (Nat.le_of_ble_eq_true rfl) (rs := _) rfl ?_
  conv => whnf
  refine sane_c ?_
  repeat' (conv => whnf
           first | refine Br.tt ?_ | refine Br.ff ?_ | refine Br.dec (fun h => ?_) (fun h => ?_) | refine Br.not ?_ | refine Br.intro (fun h => ?_) (fun h => ?_) | refine GetE.intro _ rfl ?_ | refine Need.intro rfl ?_ | refine DrawP.go mixed rfl ?_ | refine few_b hf1 ?_ | refine few_b hf2 ?_ | refine rows_e hra (by omega) (by omega) ?_ | refine rows_e hrb (by omega) (by omega) ?_ | refine Need.intro (cells_all _) ?_ | refine Need.intro (by first | omega | (simp; omega)) ?_)
  conv => whnf
  refine CallP.freeze [0] rfl rfl (.cv (.d (.row ((m ++ l).map Res.cells) (.head _) rfl ?_ ?_ ?_)) (.keep (.keep (.keep (.keep .nil))))) (rows_e hrc (by simp; omega) (by omega) ?_)
  · simp only [List.take_zero, List.nil_append, List.drop_zero, List.length_map, List.map_append, Nat.zero_add]
    rw [List.take_of_length_le (l := List.map _ _) (by simp), List.take_of_length_le (by simp)]
  · simp
  · exact cells_all _
  repeat' (conv => whnf
           first | refine Br.tt ?_ | refine Br.ff ?_ | refine Br.dec (fun h => ?_) (fun h => ?_) | refine Br.not ?_ | refine Br.intro (fun h => ?_) (fun h => ?_) | refine GetE.intro _ rfl ?_ | refine Need.intro rfl ?_ | refine DrawP.go mixed rfl ?_)
  all_goals first | (exfalso; refine h ?_; simp; done) | skip
  conv => whnf
  refine LoopP.intro (ι := { i : Nat // i ≤ clubs.length })
    (fun i => ⟨[(2, .d (ints clubs)), (13, .d (rowsD (clubs.map (tally w l rowC)))), (15, .d (rowsD (clubs.map (tally w m rowC)))), (17, .d (rowsD (clubs.map (tally w (m ++ l) rowC)))), (19, I i.1)], 147, [.dead], [], none⟩) (fun i => clubs.length - i.1) ⟨0, Nat.zero_le _⟩ ?_ ?_
  · exact Weak.by ⟨rfl, rfl, rfl, rfl, rfl, trivial⟩
  rintro ⟨i, hi⟩
  conv => whnf
  refine Br.dec (fun hb' => ?_) (fun hb' => ?_)
  · have hi' : i < clubs.length := by simpa using hb'
    have hrow : ∀ X : Int → Row, (List.map Row.cells (List.map X clubs))[i]? = some (X clubs[i]).cells := fun X => by simp [List.getElem?_eq_getElem hi']
    have hc := field_at ha.1 (List.getElem_mem hi')
    have e1 : tally w l rowC clubs[i] = sumRow w clubs[i] l := (tally_sum ha.2.1 ha.2.2.1 (by omega) _).1
    have e2 : tally w m rowC clubs[i] = sumRow w clubs[i] m := (tally_sum ha.2.1 hb.2.2.1 (by omega) _).1
    have e3 : tally w (m ++ l) rowC clubs[i] = sumRow w clubs[i] (m ++ l) := (tally_sum ha.2.1 (AllOk.append.2 ⟨ha, hb⟩).2.2.1 (by simp; omega) _).1
    have r1 := hrow (tally w l rowC)
    have r2 := hrow (tally w m rowC)
    have r3 := hrow (tally w (m ++ l) rowC)
    rw [e1] at r1
    rw [e2] at r2
    rw [e3] at r3
    have a1 := add_sums ha.2.1 ha.2.2.1 hb.2.2.1 (by omega) (by omega) hc
    have a2 := add_sums ha.2.1 hb.2.2.1 ha.2.2.1 (by omega) (by omega) hc
    rw [sumRow_comm] at a2
    repeat' (conv => whnf
             first | refine Br.tt ?_ | refine Br.ff ?_ | refine Br.dec (fun h => ?_) (fun h => ?_) | refine Br.not ?_ | refine Br.intro (fun h => ?_) (fun h => ?_) | refine GetE.intro _ rfl ?_ | refine Need.intro rfl ?_ | refine DrawP.go mixed rfl ?_)
    conv => whnf
    refine DrawP.por mixed [[(0, false), (1, false), (2, true), (3, true), (4, false), (5, false), (6, true), (7, true), (8, true), (9, false), (10, false), (11, false), (12, false), (13, false), (14, false)]] (by kernel_rfl) ?_
    repeat' (conv => whnf
             first | refine Idx.intro i _ rfl r1 ?_ | refine Idx.intro i _ rfl r2 ?_ | refine QCall.intro _ (add_e a1 ⟨rfl, rfl⟩) ?_ | refine Br.tt ?_ | refine Br.ff ?_ | refine Br.dec (fun h => ?_) (fun h => ?_) | refine Br.not ?_ | refine Br.intro (fun h => ?_) (fun h => ?_) | refine GetE.intro _ rfl ?_ | refine Need.intro rfl ?_ | refine DrawP.go mixed rfl ?_)
    conv => whnf
    refine DrawP.por mixed [[(0, false), (1, false), (2, true), (3, true), (4, false), (5, false), (6, true), (7, true), (8, true), (9, false), (10, false), (11, false), (12, false), (13, false), (14, false)]] (by kernel_rfl) ?_
    repeat' (conv => whnf
             first | refine Idx.intro i _ rfl r1 ?_ | refine Idx.intro i _ rfl r2 ?_ | refine QCall.intro _ (add_e a2 ⟨rfl, rfl⟩) ?_ | refine Idx.intro i _ rfl r3 ?_ | refine Br.no (by simp) ?_ | refine Br.tt ?_ | refine Br.ff ?_ | refine Br.dec (fun h => ?_) (fun h => ?_) | refine Br.not ?_ | refine Br.intro (fun h => ?_) (fun h => ?_) | refine GetE.intro _ rfl ?_ | refine Need.intro rfl ?_ | refine DrawP.go mixed rfl ?_)
    conv => whnf
    exact ⟨⟨i + 1, hi'⟩, by simp only []; omega, Weak.to 1 rfl (Nat.zero_le _) (Nat.le_of_ble_eq_true rfl) ⟨rfl, rfl, rfl, rfl, congrArg I (by rw [wrap_id] <;> (try simp only []) <;> omega), trivial⟩⟩
  · repeat' (conv => whnf
             first | refine Br.tt ?_ | refine Br.ff ?_ | refine Br.dec (fun h => ?_) (fun h => ?_) | refine Br.not ?_ | refine Br.intro (fun h => ?_) (fun h => ?_) | refine GetE.intro _ rfl ?_ | refine Need.intro rfl ?_ | refine DrawP.go mixed rfl ?_)
    conv => whnf
    exact FinP.drop (n := 0) rfl (Nat.le_refl 0) rfl rfl ⟨rfl, rfl⟩
theorem law (l m : List Res) (clubs : List Int) (w : Worth) : CallP C 6 [.d (ress l), .d (ress m), .d (ints clubs), I w.win, I w.draw, I w.loss] [] fun X L => L = [] ∧ X = .d (.bool true) := by
  by_cases hf1 : l.length ≤ 40 ∧ clubs.length ≤ 30
  · by_cases hf2 : m.length ≤ 40 ∧ clubs.length ≤ 30
    · by_cases ha : AllOk l clubs w
      · by_cases hb : AllOk m clubs w
        · exact good l m clubs w hf1 hf2 ha hb
        · obtain ⟨e, he, hrb⟩ := rowsF_bad hb
          obtain ⟨e', he', hrc⟩ := rowsF_bad (l := m ++ l) (clubs := clubs) (w := w) fun h => hb (AllOk.append.1 h).2
          exact bad l m clubs w hf1 hf2 (rowsF_ok ha) hrb hrc (.inr he) he'
      · obtain ⟨e, he, hra⟩ := rowsF_bad ha
        obtain ⟨e', he', hrc⟩ := rowsF_bad (l := m ++ l) (clubs := clubs) (w := w) fun h => ha (AllOk.append.1 h).1
        rcases hrb : rowsF m clubs w with ⟨R, e2⟩
        exact bad l m clubs w hf1 hf2 hra hrb hrc (.inl he) he'
    · refine callP_of C_ok Try.func6 rfl rfl (n := _) rfl (Nat.le_of_ble_eq_true rfl) (rs := _) rfl ?_
      conv => whnf
      refine sane_c ?_
      repeat' (conv => whnf
               first | refine Br.tt ?_ | refine Br.ff ?_ | refine Br.dec (fun h => ?_) (fun h => ?_) | refine Br.not ?_ | refine Br.intro (fun h => ?_) (fun h => ?_) | refine GetE.intro _ rfl ?_ | refine Need.intro rfl ?_ | refine DrawP.go mixed rfl ?_ | refine few_b hf1 ?_ | refine few_c m clubs ?_)
      all_goals first | (exfalso; exact hf2 h) | skip
      conv => whnf
      exact FinP.drop (n := 0) rfl (Nat.le_refl 0) rfl rfl ⟨rfl, rfl⟩
  · refine callP_of C_ok Try.func6 rfl rfl (n := _) rfl (Nat.le_of_ble_eq_true rfl) (rs := _) rfl ?_
    conv => whnf
    refine sane_c ?_
    repeat' (conv => whnf
             first | refine Br.tt ?_ | refine Br.ff ?_ | refine Br.dec (fun h => ?_) (fun h => ?_) | refine Br.not ?_ | refine Br.intro (fun h => ?_) (fun h => ?_) | refine GetE.intro _ rfl ?_ | refine Need.intro rfl ?_ | refine DrawP.go mixed rfl ?_ | refine few_c l clubs ?_ | refine few_c m clubs ?_)
    all_goals first | (exfalso; omega) | skip
    conv => whnf
    exact FinP.drop (n := 0) rfl (Nat.le_refl 0) rfl rfl ⟨rfl, rfl⟩
theorem call_closed : ∀ xss, TyA C.P Try.f6.params.toList xss → CallP C 6 (argVs C.P Try.f6.params.toList xss) [] fun X L => L = [] ∧ X = .d (.bool true) := by
  intro xss h
  match xss, h with
  | [x1, x2, x3, x4, x5, x6], ⟨h1, h2, h3, h4, h5, h6, _⟩ =>
    obtain ⟨x1, rfl, _⟩ := ressT h1
    obtain ⟨x2, rfl, _⟩ := ressT h2
    obtain ⟨x3, rfl, _⟩ := intsT h3
    obtain ⟨x4, rfl⟩ := intT h4
    obtain ⟨x5, rfl⟩ := intT h5
    obtain ⟨x6, rfl⟩ := intT h6
    exact law x1 x2 x3 ⟨x4, x5, x6⟩
set_option maxRecDepth 100000 in
theorem lifted (os : Os) (started : os.Started) (H : Type) (enc : TypeId × Value → H) :
    ReturnsInHanded {} Try.checked os 6 .any (Rows.statsSumsSpec.pre6 enc Try.prog Try.f6 Rows.statsSumsRow.domain false) (Rows.statsSumsSpec.post enc Try.prog Try.f6 false true false false) := by
  refine returnsInHanded_of_change (C := Try.checked) own started (by kernel_rfl) Try.func6
    (ChangeSpec.witness6 (enc := enc) (C := Try.checked) false ⟨#[], #[.slice none 0 0, .slice none 0 0, .slice none 0 0, .int .i64 0, .int .i64 0, .int .i64 0], []⟩ 8 (by kernel_rfl) (by kernel_rfl) (by kernel_rfl) (by kernel_rfl)) ?_
  intro W base args ds gs before hval hW _ _
  refine law_of (C := C) (l := plainTys) kids full plainOk plainLt (fun t ht => ?_) rfl rfl Try.underlying4 (fun ds hd => ?_) call_closed hval hW
  · have : Try.f6.params.toList.all (fun t => plainTys.contains t) = true := by kernel_rfl
    simpa using List.all_eq_true.1 this t ht
  · match ds, hd with
    | [d1, d2, d3, d4, d5, d6], _ => rfl
theorem proved : Rows.StatsSumsSaid :=
  OpenClaim.holds_of_wide 6 Try.f6 rfl rfl rfl rfl rfl rfl rfl ⟨rfl, rfl, rfl, rfl, rfl⟩ rfl rfl rfl rfl rfl (by kernel_rfl) Try.func6 (by kernel_rfl)
    (of_decide_eq_true (by kernel_rfl)) (by unfold Func.isWrapper; first | (rw [if_pos (by decide +kernel)]; kernel_rfl) | (rw [if_neg (by decide +kernel)]; exact ⟨rfl, rfl⟩))
    (fun os started H enc _ => lifted os started H enc)
end Go.Proofs.Ytnkfifkgbkgcjaa.sums
