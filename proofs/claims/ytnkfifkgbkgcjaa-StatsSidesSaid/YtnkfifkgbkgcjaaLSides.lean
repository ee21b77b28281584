/-
  The statement StatsSides.
-/
import Derived.Test.YtnkfifkgbkgcjaaLawB
import Derived.Test.YtnkfifkgbkgcjaaStatsP
import Derived.Test.YtnkfifkgbkgcjaaTidyZ7
namespace Go.Proofs.Ytnkfifkgbkgcjaa.sides
open Go.Tidy Go.ChangeShapes Go.WideShapes Go.ChangeAt Go.RowKit
set_option maxRecDepth 100000
set_option maxHeartbeats 0
set_option linter.unusedSimpArgs false
set_option linter.unusedVariables false
theorem few_b {L : List Blk} {k : V → List Blk → Prop} {l : List Res} {clubs : List Int} (h : l.length ≤ 40 ∧ clubs.length ≤ 30) (hk : k (B true) L) : CallP C 12 [.d (ress l), .d (ints clubs)] L k := by
  refine few_c l clubs ?_
  rw [decide_eq_true h]; exact hk
theorem cells_all (l : List Res) : ∀ e ∈ l.map Res.cells, e.length = 13 := by
  intro e he
  obtain ⟨r, _, rfl⟩ := List.mem_map.1 he
  rfl
def outs (l : List Res) (j : Nat) : List (List V) := ((swapL l).take j).map fun r => r.cells.map V.d
theorem swapL_len (l : List Res) : (swapL l).length = l.length := by simp [swapL]
theorem swapL_get {l : List Res} {j : Nat} (hj : j < l.length) : (swapL l)[j]'(by rw [swapL_len]; exact hj) = swapR (l[l.length - 1 - j]'(by omega)) := by
  simp [swapL]
theorem outs_next {l : List Res} {j : Nat} (hj : j < l.length) : (outs l j).take j ++ [(swapR (l[l.length - 1 - j]'(by omega))).cells.map V.d] = outs l (j + 1) := by
  have h1 : (outs l j).take j = outs l j := List.take_of_length_le (by simp [outs]; omega)
  rw [h1, outs, outs, take_next (by rw [swapL_len]; exact hj), List.map_append, swapL_get hj]
  rfl
theorem outs_bel (n g : Nat) (l : List Res) (j : Nat) : belB n [.row g 13 (outs l j)] = true := by
  simp only [belB, Blk.bel, Bool.and_true]
  refine belR_of fun x hx => ?_
  obtain ⟨c, _, rfl⟩ := List.mem_map.1 hx
  exact V.belL_d _ _
theorem rowEq0 {a b : Row} (h : { a with awayFor := 0, awayWon := 0 } = { b with awayFor := 0, awayWon := 0 }) :
    (decide (a.club = b.club) && (decide (a.played = b.played) && (decide (a.won = b.won) && (decide (a.drawn = b.drawn) && (decide (a.lost = b.lost) && (decide (a.goals = b.goals) && (decide (a.against = b.against) && (decide ((0 : Int) = 0) && (decide ((0 : Int) = 0) &&
      (decide (a.cards = b.cards) && (decide (a.points = b.points) && true))))))))))) = true := by
  rcases a with ⟨a1, a2, a3, a4, a5, a6, a7, a8, a9, a10, a11⟩
  rcases b with ⟨b1, b2, b3, b4, b5, b6, b7, b8, b9, b10, b11⟩
  simp only [Row.mk.injEq] at h
  simp [h]
theorem law1 (l : List Res) (clubs : List Int) (w : Worth) (hf : l.length ≤ 40 ∧ clubs.length ≤ 30) {R1 R2 : List Row} {e1 e2 : Int} (hra : rowsF l clubs w = (R1, e1)) (hrb : rowsF (swapL l) clubs w = (R2, e2))
    (hbd : ∀ c, (0 ≤ (sumRow w c l).goals ∧ (sumRow w c l).goals ≤ 100000) ∧ (0 ≤ (sumRow w c l).won ∧ (sumRow w c l).won ≤ 100000) ∨ e1 ≠ 0) (hc : (e1 = 0 ∧ e2 = 0 ∧ R1 = clubs.map (fun c => sumRow w c l) ∧ R2 = clubs.map (fun c => sumRow w c (swapL l))) ∨ (e1 ≠ 0 ∧ e2 ≠ 0)) : CallP C 7 [.d (ress l), .d (ints clubs), I w.win, I w.draw, I w.loss] [] fun X L => L = [] ∧ X = .d (.bool true) := by
  refine callP_of C_ok Try.func7 rfl rfl (n := _) rfl (Nat.le_of_ble_eq_true rfl) (rs := _) rfl ?_
  conv => whnf
  refine sane_c ?_
  repeat' (conv => whnf
           first | refine Br.tt ?_ | refine Br.ff ?_ | refine Br.dec (fun h => ?_) (fun h => ?_) | refine Br.not ?_ | refine Br.intro (fun h => ?_) (fun h => ?_) | refine GetE.intro _ rfl ?_ | refine Need.intro rfl ?_ | refine DrawP.go mixed rfl ?_ | refine few_b hf ?_)
  conv => whnf
  refine LoopP.intro (ι := { j : Nat // j ≤ l.length })
    (fun j => ⟨[(0, .d (ress l)), (1, .d (ints clubs)), (2, I w.win), (3, I w.draw), (4, I w.loss), (11, .own 0 j.1 0 j.1), (12, I (l.length - j.1 - 1))], 144, [.row j.1 13 (outs l j.1)], [], none⟩) (fun j => l.length - j.1) ⟨0, Nat.zero_le _⟩ ?_ ?_
  · exact Weak.by ⟨rfl, rfl, rfl, rfl, rfl, rfl, congrArg I (by rw [List.length_map, wrap_in (by omega)]; simp), trivial⟩
  rintro ⟨j, hj⟩
  conv => whnf
  refine Br.dec (fun hb' => ?_) (fun hb' => ?_)
  · have hj' : j < l.length := by simp at hb'; omega
    have hidx : l.length - 1 - j < l.length := by omega
    have hi0 : (l.length : Int) - j - 1 = ((l.length - 1 - j : Nat) : Int) := by omega
    have hidx2 : IntKind.i64.wrap ((l.length : Int) - j - 1 - 1) = (l.length : Int) - (j + 1 : Nat) - 1 := by rw [wrap_in (by omega)]; omega
    repeat' (conv => whnf
             first | refine Br.tt ?_ | refine Br.ff ?_ | refine Br.dec (fun h => ?_) (fun h => ?_) | refine Br.not ?_ | refine Br.intro (fun h => ?_) (fun h => ?_) | refine GetE.intro _ rfl ?_ | refine Need.intro rfl ?_ | refine DrawP.go mixed rfl ?_ | refine Idx.map (l.length - 1 - j) hi0 hidx ?_ | simp only [Nat.beq_refl, Bool.and_self] | refine Need.intro (by first | omega | (simp; omega)) ?_)
    conv => whnf
    exact ⟨⟨j + 1, hj'⟩, by simp only []; omega, Weak.to 1 (congrArg (fun e => [Blk.row (j + 1) 13 e]) (outs_next hj')) (Nat.zero_le _) (Nat.le_of_ble_eq_true rfl) ⟨rfl, rfl, rfl, rfl, rfl, rfl, congrArg I hidx2, trivial⟩ (hB := outs_bel _ _ _ _)⟩
  · have hje : j = l.length := by simp at hb'; omega
    subst hje
    repeat' (conv => whnf
             first | refine Br.tt ?_ | refine Br.ff ?_ | refine Br.dec (fun h => ?_) (fun h => ?_) | refine Br.not ?_ | refine Br.intro (fun h => ?_) (fun h => ?_) | refine GetE.intro _ rfl ?_ | refine Need.intro rfl ?_ | refine DrawP.go mixed rfl ?_ | refine rows_e hra (by omega) (by omega) ?_)
    conv => whnf
    refine CallP.freeze [0] rfl rfl (.cv (.d (.row ((swapL l).map Res.cells) (.head _) rfl ?_ ?_ ?_)) (.keep (.keep (.keep (.keep .nil))))) (rows_e hrb (by rw [swapL_len]; omega) (by omega) ?_)
    · simp only [List.drop_zero, outs, List.take_of_length_le (Nat.le_of_eq (swapL_len l)), List.map_map]
      exact List.take_of_length_le (by simp [swapL_len])
    · simp [swapL_len]
    · exact cells_all _
    repeat' (conv => whnf
             first | refine Br.tt ?_ | refine Br.ff ?_ | refine Br.dec (fun h => ?_) (fun h => ?_) | refine Br.not ?_ | refine Br.intro (fun h => ?_) (fun h => ?_) | refine GetE.intro _ rfl ?_ | refine Need.intro rfl ?_ | refine DrawP.go mixed rfl ?_)
    all_goals first | (exfalso; omega) | skip
    all_goals conv => whnf
    · rcases hc with ⟨rfl, rfl, rfl, rfl⟩ | hc
      · clear hra hrb h
        refine LoopP.intro (ι := { i : Nat // i ≤ clubs.length })
          (fun i => ⟨[(14, .d (rowsD (clubs.map fun c => sumRow w c l))), (16, .d (rowsD (clubs.map fun c => sumRow w c (swapL l)))), (18, I i.1)], 144, [.dead], [], none⟩) (fun i => clubs.length - i.1) ⟨0, Nat.zero_le _⟩ ?_ ?_
        · exact Weak.by ⟨rfl, rfl, rfl, trivial⟩
        rintro ⟨i, hi⟩
        conv => whnf
        refine Br.dec (fun hb' => ?_) (fun hb' => ?_)
        · have hi' : i < clubs.length := by simpa using hb'
          have hrow : ∀ X : Int → Row, (List.map Row.cells (List.map X clubs))[i]? = some (X clubs[i]).cells := fun X => by simp [List.getElem?_eq_getElem hi']
          have r1 := hrow fun c => sumRow w c l
          have r2 := hrow fun c => sumRow w c (swapL l)
          obtain ⟨q1, q2, q3⟩ := sides_law w clubs[i] l
          obtain ⟨b1, b2⟩ := (hbd clubs[i]).resolve_right (fun h => h rfl)
          have s1 : IntKind.i64.wrap ((sumRow w clubs[i] l).awayFor + (sumRow w clubs[i] (swapL l)).awayFor) = (sumRow w clubs[i] l).goals := by rw [q1]; exact wrap_in (by omega)
          have s2 : IntKind.i64.wrap ((sumRow w clubs[i] l).awayWon + (sumRow w clubs[i] (swapL l)).awayWon) = (sumRow w clubs[i] l).won := by rw [q2]; exact wrap_in (by omega)
          have s3 := rowEq0 q3
          repeat' (conv => whnf
                   first | refine Br.tt ?_ | refine Br.ff ?_ | refine Br.dec (fun h => ?_) (fun h => ?_) | refine Br.not ?_ | refine Br.intro (fun h => ?_) (fun h => ?_) | refine GetE.intro _ rfl ?_ | refine Need.intro rfl ?_ | refine DrawP.go mixed rfl ?_)
          conv => whnf
          refine DrawP.por mixed [[(0, false), (1, false), (2, true), (3, true), (4, false), (5, false), (6, true), (7, true), (8, false), (9, false), (10, false), (11, false)], [(0, false), (1, false), (2, true), (3, true), (4, false), (5, false), (6, true), (7, true), (9, false), (8, false), (10, false), (11, false)]] (by kernel_rfl) ?_
          conv => whnf
          refine And.intro ?_ ?_
          all_goals
            repeat' (conv => whnf
                     first | refine Idx.intro i _ rfl r1 ?_ | refine Idx.intro i _ rfl r2 ?_ | refine Br.no (Bool.not_eq_false'.2 (decide_eq_true s1)) ?_ | refine Br.no (Bool.not_eq_false'.2 (decide_eq_true s2)) ?_ | refine Br.no (Bool.not_eq_false'.2 s3) ?_ | refine Br.tt ?_ | refine Br.ff ?_ | refine Br.dec (fun h => ?_) (fun h => ?_) | refine Br.not ?_ | refine Br.intro (fun h => ?_) (fun h => ?_) | refine GetE.intro _ rfl ?_ | refine Need.intro rfl ?_ | refine DrawP.go mixed rfl ?_)
          all_goals conv => whnf
          all_goals first | exact absurd (s3.symm.trans h) (by decide) | exact absurd s2 h | exact absurd s1 h | skip
          all_goals exact ⟨⟨i + 1, hi'⟩, by simp only []; omega, Weak.to 1 rfl (Nat.zero_le _) (Nat.le_of_ble_eq_true rfl) ⟨rfl, rfl, congrArg I (by rw [wrap_id] <;> (try simp only []) <;> omega), trivial⟩⟩
        · repeat' (conv => whnf
                   first | refine Br.tt ?_ | refine Br.ff ?_ | refine Br.dec (fun h => ?_) (fun h => ?_) | refine Br.not ?_ | refine Br.intro (fun h => ?_) (fun h => ?_) | refine GetE.intro _ rfl ?_ | refine Need.intro rfl ?_ | refine DrawP.go mixed rfl ?_)
          conv => whnf
          exact FinP.drop (n := 0) rfl (Nat.le_refl 0) rfl rfl ⟨rfl, rfl⟩
      · exfalso; omega
    · exfalso
      rcases hc with ⟨_, _, rfl, rfl⟩ | hc
      · exact h (by simp)
      · omega
    · rcases hc with ⟨h1, _⟩ | ⟨h1, h2⟩
      · exact absurd h1 h
      · exact FinP.drop (n := 0) rfl (Nat.le_refl 0) rfl rfl ⟨rfl, congrArg B (by simp [h1, h2])⟩
theorem law (l : List Res) (clubs : List Int) (w : Worth) : CallP C 7 [.d (ress l), .d (ints clubs), I w.win, I w.draw, I w.loss] [] fun X L => L = [] ∧ X = .d (.bool true) := by
  by_cases hf : l.length ≤ 40 ∧ clubs.length ≤ 30
  · by_cases ha : AllOk l clubs w
    · have hb := swapL_ok.2 ha
      have e1 : ∀ c, tally w l rowC c = sumRow w c l := fun c => (tally_sum ha.2.1 ha.2.2.1 (by omega) c).1
      have e2 : ∀ c, tally w (swapL l) rowC c = sumRow w c (swapL l) := fun c => (tally_sum ha.2.1 hb.2.2.1 (by rw [swapL_len]; omega) c).1
      refine law1 l clubs w hf (rowsF_ok ha) (rowsF_ok hb) (fun c => .inl ?_) (.inl ⟨rfl, rfl, List.map_congr_left fun c _ => e1 c, List.map_congr_left fun c _ => e2 c⟩)
      have h := (tally_sum ha.2.1 ha.2.2.1 (by omega) c).2
      have h2 := hits_le c l
      have := h.goals; have := h.won; have := h.parts; have := h.drawn; have := h.lost
      omega
    · obtain ⟨e, he, hra⟩ := rowsF_bad ha
      obtain ⟨e', he', hrb⟩ := rowsF_bad fun h => ha (swapL_ok.1 h)
      exact law1 l clubs w hf hra hrb (fun c => .inr he) (.inr ⟨he, he'⟩)
  · refine callP_of C_ok Try.func7 rfl rfl (n := _) rfl (Nat.le_of_ble_eq_true rfl) (rs := _) rfl ?_
    conv => whnf
    refine sane_c ?_
    repeat' (conv => whnf
             first | refine Br.tt ?_ | refine Br.ff ?_ | refine Br.dec (fun h => ?_) (fun h => ?_) | refine Br.not ?_ | refine Br.intro (fun h => ?_) (fun h => ?_) | refine GetE.intro _ rfl ?_ | refine Need.intro rfl ?_ | refine DrawP.go mixed rfl ?_ | refine few_c l clubs ?_)
    all_goals first | (exfalso; omega) | skip
    conv => whnf
    exact FinP.drop (n := 0) rfl (Nat.le_refl 0) rfl rfl ⟨rfl, rfl⟩
theorem call_closed : ∀ xss, TyA C.P Try.f7.params.toList xss → CallP C 7 (argVs C.P Try.f7.params.toList xss) [] fun X L => L = [] ∧ X = .d (.bool true) := by
  intro xss h
  match xss, h with
  | [x1, x2, x3, x4, x5], ⟨h1, h2, h3, h4, h5, _⟩ =>
    obtain ⟨x1, rfl, _⟩ := ressT h1
    obtain ⟨x2, rfl, _⟩ := intsT h2
    obtain ⟨x3, rfl⟩ := intT h3
    obtain ⟨x4, rfl⟩ := intT h4
    obtain ⟨x5, rfl⟩ := intT h5
    exact law x1 x2 ⟨x3, x4, x5⟩
set_option maxRecDepth 100000 in
theorem lifted (os : Os) (started : os.Started) (H : Type) (enc : TypeId × Value → H) :
    ReturnsInHanded {} Try.checked os 7 .any (Rows.statsSidesSpec.pre6 enc Try.prog Try.f7 Rows.statsSidesRow.domain false) (Rows.statsSidesSpec.post enc Try.prog Try.f7 false true false false) := by
  refine returnsInHanded_of_change (C := Try.checked) own started (by kernel_rfl) Try.func7
    (ChangeSpec.witness6 (enc := enc) (C := Try.checked) false ⟨#[], #[.slice none 0 0, .slice none 0 0, .int .i64 0, .int .i64 0, .int .i64 0], []⟩ 8 (by kernel_rfl) (by kernel_rfl) (by kernel_rfl) (by kernel_rfl)) ?_
  intro W base args ds gs before hval hW _ _
  refine law_of (C := C) (l := plainTys) kids full plainOk plainLt (fun t ht => ?_) rfl rfl Try.underlying4 (fun ds hd => ?_) call_closed hval hW
  · have : Try.f7.params.toList.all (fun t => plainTys.contains t) = true := by kernel_rfl
    simpa using List.all_eq_true.1 this t ht
  · match ds, hd with
    | [d1, d2, d3, d4, d5], _ => rfl
theorem proved : Rows.StatsSidesSaid :=
  OpenClaim.holds_of_wide 7 Try.f7 rfl rfl rfl rfl rfl rfl rfl ⟨rfl, rfl, rfl, rfl, rfl⟩ rfl rfl rfl rfl rfl (by kernel_rfl) Try.func7 (by kernel_rfl)
    (of_decide_eq_true (by kernel_rfl)) (by unfold Func.isWrapper; first | (rw [if_pos (by decide +kernel)]; kernel_rfl) | (rw [if_neg (by decide +kernel)]; exact ⟨rfl, rfl⟩))
    (fun os started H enc _ => lifted os started H enc)
end Go.Proofs.Ytnkfifkgbkgcjaa.sides
