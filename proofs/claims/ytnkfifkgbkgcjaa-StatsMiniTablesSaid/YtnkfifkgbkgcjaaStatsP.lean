/-
  Rows as sums: what a club's row is, by its fields.
-/
import Derived.Test.YtnkfifkgbkgcjaaStatsN
namespace Go.Proofs.Ytnkfifkgbkgcjaa
open Go.Tidy
set_option maxRecDepth 100000
set_option maxHeartbeats 0
set_option linter.unusedSimpArgs false
set_option linter.unusedVariables false
theorem checkF_zero {l : List Res} {clubs : List Int} {w : Worth} : checkF l clubs w = 0 ↔ fieldOk clubs 1 = true ∧ worthOk w ∧ ∀ r ∈ l, resOk r := by
  unfold checkF
  by_cases h1 : fieldOk clubs 1 = true
  · by_cases h2 : worthOk w
    · by_cases h3 : ressOk l = true
      · simp only [h1, h2, h3, if_true, true_and, true_iff]
        intro r hr
        exact of_decide_eq_true (List.all_eq_true.1 h3 r hr)
      · simp only [h1, h2, h3, if_true, true_and, Bool.false_eq_true, if_false]
        refine Iff.intro (fun h => absurd h (by decide)) (fun h => absurd ?_ h3)
        exact List.all_eq_true.2 fun r hr => decide_eq_true (h r hr)
    · simp [h1, h2]
  · simp [h1]
/-- All is in order. -/
def AllOk (l : List Res) (clubs : List Int) (w : Worth) : Prop := fieldOk clubs 1 = true ∧ worthOk w ∧ (∀ r ∈ l, resOk r) ∧ ∀ r ∈ l, known clubs r = true
theorem rowsF_ok {l : List Res} {clubs : List Int} {w : Worth} (h : AllOk l clubs w) : rowsF l clubs w = (clubs.map (tally w l rowC), 0) := by
  obtain ⟨h1, h2, h3, h4⟩ := h
  have : l.all (known clubs) = true := List.all_eq_true.2 h4
  rw [rowsF, if_pos (checkF_zero.2 ⟨h1, h2, h3⟩), if_pos this]
theorem rowsF_bad {l : List Res} {clubs : List Int} {w : Worth} (h : ¬ AllOk l clubs w) : ∃ e, e ≠ 0 ∧ rowsF l clubs w = ([], e) := by
  by_cases h0 : checkF l clubs w = 0
  · refine ⟨190, by decide, ?_⟩
    rw [rowsF, if_pos h0, if_neg]
    intro h4
    obtain ⟨h1, h2, h3⟩ := checkF_zero.1 h0
    exact h ⟨h1, h2, h3, List.all_eq_true.1 h4⟩
  · exact ⟨_, h0, by rw [rowsF, if_neg h0]⟩
instance (l : List Res) (clubs : List Int) (w : Worth) : Decidable (AllOk l clubs w) := by unfold AllOk; infer_instance
theorem AllOk.append {l m : List Res} {clubs : List Int} {w : Worth} : AllOk (m ++ l) clubs w ↔ AllOk l clubs w ∧ AllOk m clubs w := by
  simp only [AllOk, List.mem_append]
  constructor
  · rintro ⟨h1, h2, h3, h4⟩
    exact ⟨⟨h1, h2, fun r h => h3 r (.inr h), fun r h => h4 r (.inr h)⟩, ⟨h1, h2, fun r h => h3 r (.inl h), fun r h => h4 r (.inl h)⟩⟩
  · rintro ⟨⟨h1, h2, h3, h4⟩, ⟨_, _, h5, h6⟩⟩
    exact ⟨h1, h2, fun r h => h.elim (h5 r) (h3 r), fun r h => h.elim (h6 r) (h4 r)⟩
/-! ### The fields -/
def dLost (s : Side) : Int := if s.both = true ∨ s.own < s.other then 1 else 0
def dDrawn (s : Side) : Int := if s.both = true ∨ s.own < s.other then 0 else if s.own = s.other then 1 else 0
def dWon (s : Side) : Int := if s.both = true ∨ s.own < s.other then 0 else if s.own = s.other then 0 else 1
def dAway (s : Side) : Int := bif s.away then s.own else 0
def dAwayWon (s : Side) : Int := bif s.away then dWon s else 0
def dPoints (w : Worth) (s : Side) : Int := if s.both = true ∨ s.own < s.other then w.loss else if s.own = s.other then w.draw else w.win
def sumRow (w : Worth) (c : Int) (l : List Res) : Row :=
  ⟨c, tsum (fun _ => 1) c l, tsum dWon c l, tsum dDrawn c l, tsum dLost c l, tsum (·.own) c l, tsum (·.other) c l, tsum dAway c l, tsum dAwayWon c l, tsum (·.cards) c l, tsum (dPoints w) c l⟩
theorem nT_club (w : Worth) : ∀ (l : List Res) (g : Int → Row) (c : Int), (nTally w l g c).club = (g c).club
  | [], _, _ => rfl
  | r :: l, g, c => by
    rw [nTally, nT_club w l]
    have step : ∀ (g : Int → Row) (s : Side), (nTallyS w g s c).club = (g c).club := fun g s => by
      unfold nTallyS
      split
      · unfold nCount
        split
        · rfl
        · split <;> rfl
      · rfl
    rw [step, step]
theorem nTally_sum (w : Worth) (l : List Res) (c : Int) : nTally w l rowC c = sumRow w c l := by
  have key : ∀ (φ : Row → Int) (δ : Side → Int), (∀ r s, φ (nCount r s w) = φ r + δ s) → φ (rowC c) = 0 → φ (nTally w l rowC c) = tsum δ c l := fun φ δ h h0 => by
    rw [field_sum h, h0, Int.zero_add]
  have a1 := key (·.played) (fun _ => 1) (fun r s => by unfold nCount; split <;> (try split) <;> rfl) rfl
  have a2 := key (·.won) dWon (fun r s => by unfold nCount dWon; split <;> (try split) <;> simp [nBase]) rfl
  have a3 := key (·.drawn) dDrawn (fun r s => by unfold nCount dDrawn; split <;> (try split) <;> simp [nBase]) rfl
  have a4 := key (·.lost) dLost (fun r s => by unfold nCount dLost; split <;> (try split) <;> simp [nBase]) rfl
  have a5 := key (·.goals) (·.own) (fun r s => by unfold nCount; split <;> (try split) <;> rfl) rfl
  have a6 := key (·.against) (·.other) (fun r s => by unfold nCount; split <;> (try split) <;> rfl) rfl
  have a7 := key (·.awayFor) dAway (fun r s => by unfold nCount dAway; split <;> (try split) <;> (simp only [nBase]; cases s.away <;> simp)) rfl
  have a8 := key (·.awayWon) dAwayWon (fun r s => by unfold nCount dAwayWon dWon; split <;> (try split) <;> (simp only [nBase]; cases s.away <;> simp)) rfl
  have a9 := key (·.cards) (·.cards) (fun r s => by unfold nCount; split <;> (try split) <;> rfl) rfl
  have a10 := key (·.points) (dPoints w) (fun r s => by unfold nCount dPoints; split <;> (try split) <;> simp [nBase]) rfl
  have a0 := nT_club w l rowC c
  generalize nTally w l rowC c = R at *
  rcases R with ⟨b0, b1, b2, b3, b4, b5, b6, b7, b8, b9, b10⟩
  simp only at a0 a1 a2 a3 a4 a5 a6 a7 a8 a9 a10
  subst a0 a1 a2 a3 a4 a5 a6 a7 a8 a9 a10
  rfl
theorem tally_sum {w : Worth} (hw : worthOk w) {l : List Res} (hr : ∀ r ∈ l, resOk r) (hl : l.length ≤ 400) (c : Int) : tally w l rowC c = sumRow w c l ∧ RowInv w (hits c l) (sumRow w c l) := by
  have h := tally_inv hw l rowC rowC c 0 hr (by omega) rfl (RowInv.zero w c)
  rw [nTally_sum] at h
  exact ⟨h.1, by simpa using h.2⟩
theorem tsum_append (δ : Side → Int) (c : Int) : ∀ l m : List Res, tsum δ c (l ++ m) = tsum δ c l + tsum δ c m
  | [], m => by simp [tsum]
  | r :: l, m => by simp only [List.cons_append, tsum, tsum_append δ c l m]; omega
theorem sumRow_append (w : Worth) (c : Int) (l m : List Res) : rowAdd (sumRow w c l) (sumRow w c m) = sumRow w c (m ++ l) := by
  simp only [rowAdd, sumRow, tsum_append]
  congr 1 <;> omega
theorem sumRow_comm (w : Worth) (c : Int) (l m : List Res) : sumRow w c (l ++ m) = sumRow w c (m ++ l) := by
  simp only [sumRow, tsum_append]
  congr 1 <;> omega
theorem inv_ok {w : Worth} {n : Int} {r : Row} (h : RowInv w n r) (hc : 0 ≤ r.club ∧ r.club ≤ 191) (hn : n ≤ 1000) : rowOk r := by
  obtain ⟨h1, h2, h3, h4, h5, h6, h7, h8, h9, h10, h11, h12⟩ := h
  unfold rowOk
  omega
theorem field_at {clubs : List Int} (h : fieldOk clubs 1 = true) {c : Int} (hc : c ∈ clubs) : 0 ≤ c ∧ c ≤ 191 := by
  simp only [fieldOk, Bool.and_eq_true, decide_eq_true_eq] at h
  obtain ⟨j, hj, rfl⟩ := List.mem_iff_getElem.1 hc
  have := ((okAt_at hj).1 ((incr_iff clubs).1 h.1.1 j)).1
  omega
theorem sum_ok {w : Worth} (hw : worthOk w) {l : List Res} (hr : ∀ r ∈ l, resOk r) (hl : l.length ≤ 400) {c : Int} (hc : 0 ≤ c ∧ c ≤ 191) : rowOk (sumRow w c l) :=
  inv_ok (tally_sum hw hr hl c).2 hc (by have := hits_le c l; omega)
theorem add_sums {w : Worth} (hw : worthOk w) {l m : List Res} (hr : ∀ r ∈ l, resOk r) (hm : ∀ r ∈ m, resOk r) (hl : l.length ≤ 100) (hml : m.length ≤ 100) {c : Int} (hc : 0 ≤ c ∧ c ≤ 191) :
    addF (sumRow w c l) (sumRow w c m) = (sumRow w c (m ++ l), 0) := by
  have h3 : rowOk (sumRow w c (m ++ l)) := sum_ok hw (fun r h => (List.mem_append.1 h).elim (hm r) (hr r)) (by simp; omega) hc
  unfold addF
  rw [if_pos ⟨sum_ok hw hr (by omega) hc, sum_ok hw hm (by omega) hc⟩, if_pos (show (sumRow w c l).club = (sumRow w c m).club from rfl), sumRow_append, if_pos h3]
/-! ### Sides exchanged -/
def swapR (r : Res) : Res := ⟨⟨r.game.season, r.game.comp, r.game.away, r.game.home⟩, r.ag, r.hg, r.ap, r.hp, r.ac, r.hc, r.day, r.forfeit, r.both⟩
theorem swap_ok {r : Res} : resOk (swapR r) ↔ resOk r := by
  unfold resOk swapR Game.ok
  simp only
  rw [show r.ap + r.hp = r.hp + r.ap by omega, show r.hp + r.ap + r.ac + r.hc = r.hp + r.ap + r.hc + r.ac by omega, show r.ag + r.hg = r.hg + r.ag by omega, show (r.ag = 3 ∧ r.hg = 0 ∨ r.ag = 0 ∧ r.hg = 3) ↔ (r.hg = 3 ∧ r.ag = 0 ∨ r.hg = 0 ∧ r.ag = 3) by omega, ne_comm]
  constructor <;> (rintro ⟨⟨g1, g2, g3, g4, g5⟩, a1, a2, a3, a4, a5, a6, a7, a8⟩; exact ⟨⟨g1, g2, g4, g3, g5⟩, a2, a1, a4, a3, a6, a5, a7, a8⟩)
theorem swap_known {clubs : List Int} {r : Res} : known clubs (swapR r) = known clubs r := by
  unfold known swapR; exact Bool.and_comm _ _
def swapL (l : List Res) : List Res := l.reverse.map swapR
theorem swapL_ok {l : List Res} {clubs : List Int} {w : Worth} : AllOk (swapL l) clubs w ↔ AllOk l clubs w := by
  simp only [AllOk, swapL, List.mem_map, List.mem_reverse, forall_exists_index, and_imp, forall_apply_eq_imp_iff₂, swap_ok, swap_known]
theorem tsum_rev (δ : Side → Int) (c : Int) : ∀ l : List Res, tsum δ c l.reverse = tsum δ c l
  | [] => rfl
  | r :: l => by rw [List.reverse_cons, tsum_append, tsum_rev δ c l]; simp only [tsum]; omega
def flip (s : Side) : Side := { s with away := !s.away }
theorem tsum_swap (δ : Side → Int) (c : Int) : ∀ l : List Res, tsum δ c (l.map swapR) = tsum (fun s => δ (flip s)) c l
  | [] => rfl
  | r :: l => by
    simp only [List.map_cons, tsum, tsum_swap δ c l]
    have e1 : homeS (swapR r) = flip (awayS r) := rfl
    have e2 : awayS (swapR r) = flip (homeS r) := rfl
    rw [e1, e2]
    simp only [swapR]
    omega
theorem tsum_swapL (δ : Side → Int) (c : Int) (l : List Res) : tsum δ c (swapL l) = tsum (fun s => δ (flip s)) c l := by
  rw [swapL, List.map_reverse, tsum_rev, tsum_swap]
theorem tsum_add (δ ε : Side → Int) (c : Int) : ∀ l : List Res, tsum δ c l + tsum ε c l = tsum (fun s => δ s + ε s) c l
  | [] => rfl
  | r :: l => by
    simp only [tsum, ← tsum_add δ ε c l]
    split <;> split <;> omega
theorem tsum_congr {δ ε : Side → Int} (h : ∀ s, δ s = ε s) (c : Int) (l : List Res) : tsum δ c l = tsum ε c l := by rw [show δ = ε from funext h]
theorem sides_law (w : Worth) (c : Int) (l : List Res) : (sumRow w c l).awayFor + (sumRow w c (swapL l)).awayFor = (sumRow w c l).goals ∧ (sumRow w c l).awayWon + (sumRow w c (swapL l)).awayWon = (sumRow w c l).won ∧
    { sumRow w c l with awayFor := 0, awayWon := 0 } = { sumRow w c (swapL l) with awayFor := 0, awayWon := 0 } := by
  simp only [sumRow, tsum_swapL]
  refine ⟨?_, ?_, rfl⟩
  · rw [tsum_add]; exact tsum_congr (fun s => by unfold dAway flip; cases s.away <;> simp) c l
  · rw [tsum_add]; exact tsum_congr (fun s => by unfold dAwayWon flip dWon; cases s.away <;> simp) c l
end Go.Proofs.Ytnkfifkgbkgcjaa
