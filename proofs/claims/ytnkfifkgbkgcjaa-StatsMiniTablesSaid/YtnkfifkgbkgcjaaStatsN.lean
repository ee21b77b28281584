/-
  Rows as numbers: counting does not leave the range of the numbers.
-/
import Derived.Test.YtnkfifkgbkgcjaaStatsT
namespace Go.Proofs.Ytnkfifkgbkgcjaa
open Go.Tidy
set_option maxRecDepth 100000
set_option maxHeartbeats 0
set_option linter.unusedSimpArgs false
set_option linter.unusedVariables false
def sideOk (s : Side) : Prop := (0 ≤ s.own ∧ s.own ≤ 99) ∧ (0 ≤ s.other ∧ s.other ≤ 99) ∧ (0 ≤ s.cards ∧ s.cards ≤ 120)
theorem sideOk_home {r : Res} (h : resOk r) : sideOk (homeS r) := by
  unfold resOk at h; exact ⟨h.2.1, h.2.2.1, h.2.2.2.2.2.1⟩
theorem sideOk_away {r : Res} (h : resOk r) : sideOk (awayS r) := by
  unfold resOk at h; exact ⟨h.2.2.1, h.2.1, h.2.2.2.2.2.2.1⟩
/-- Counting, without wraps. -/
def nBase (r : Row) (s : Side) : Row :=
  { r with played := r.played + 1, goals := r.goals + s.own, against := r.against + s.other, cards := r.cards + s.cards, awayFor := bif s.away then r.awayFor + s.own else r.awayFor }
def nCount (r : Row) (s : Side) (w : Worth) : Row :=
  if s.both = true ∨ s.own < s.other then { nBase r s with lost := r.lost + 1, points := r.points + w.loss }
  else if s.own = s.other then { nBase r s with drawn := r.drawn + 1, points := r.points + w.draw }
  else { nBase r s with won := r.won + 1, points := r.points + w.win, awayWon := bif s.away then r.awayWon + 1 else r.awayWon }
structure RowInv (w : Worth) (n : Int) (r : Row) : Prop where
  played : r.played = n
  parts : r.won + r.drawn + r.lost = n
  won : 0 ≤ r.won
  drawn : 0 ≤ r.drawn
  lost : 0 ≤ r.lost
  goals : 0 ≤ r.goals ∧ r.goals ≤ 99 * n
  against : 0 ≤ r.against ∧ r.against ≤ 99 * n
  awayFor : 0 ≤ r.awayFor ∧ r.awayFor ≤ r.goals
  awayWon : 0 ≤ r.awayWon ∧ r.awayWon ≤ r.won
  cards : 0 ≤ r.cards ∧ r.cards ≤ 120 * n
  points : r.points = w.win * r.won + w.draw * r.drawn + w.loss * r.lost
  bound : -99 * n ≤ r.points ∧ r.points ≤ 99 * n
theorem RowInv.zero (w : Worth) (c : Int) : RowInv w 0 (rowC c) := by
  constructor <;> simp [rowC]
theorem W_id {n : Int} (h : -9223372036854775808 ≤ n ∧ n ≤ 9223372036854775807) : W n = n := wrap_in h
theorem RowInv.count {w : Worth} (hw : worthOk w) {n : Int} (hn : n ≤ 1000) {r : Row} (h : RowInv w n r) {s : Side} (hs : sideOk s) : countF r s w = nCount r s w ∧ RowInv w (n + 1) (nCount r s w) := by
  obtain ⟨h1, h2, h3, h4, h5, h6, h7, h8, h9, h10, h11, h12⟩ := h
  obtain ⟨s1, s2, s3⟩ := hs
  obtain ⟨w1, w2, w3⟩ := hw
  have e1 : W (r.played + 1) = r.played + 1 := W_id (by omega)
  have e2 : W (r.goals + s.own) = r.goals + s.own := W_id (by omega)
  have e3 : W (r.against + s.other) = r.against + s.other := W_id (by omega)
  have e4 : W (r.cards + s.cards) = r.cards + s.cards := W_id (by omega)
  have e5 : W (r.awayFor + s.own) = r.awayFor + s.own := W_id (by omega)
  have e6 : W (r.lost + 1) = r.lost + 1 := W_id (by omega)
  have e7 : W (r.drawn + 1) = r.drawn + 1 := W_id (by omega)
  have e8 : W (r.won + 1) = r.won + 1 := W_id (by omega)
  have e9 : W (r.awayWon + 1) = r.awayWon + 1 := W_id (by omega)
  have e10 : W (r.points + w.loss) = r.points + w.loss := W_id (by omega)
  have e11 : W (r.points + w.draw) = r.points + w.draw := W_id (by omega)
  have e12 : W (r.points + w.win) = r.points + w.win := W_id (by omega)
  refine ⟨by simp only [countF, nCount, cLost, cDrawn, cWon, cBase, nBase, e1, e2, e3, e4, e5, e6, e7, e8, e9, e10, e11, e12], ?_⟩
  unfold nCount
  split
  · constructor <;> (simp only [nBase]; (try (cases s.away <;> simp only [cond_true, cond_false])) <;> (try rw [Int.mul_add]) <;> omega)
  · split
    · constructor <;> (simp only [nBase]; (try (cases s.away <;> simp only [cond_true, cond_false])) <;> (try rw [Int.mul_add]) <;> omega)
    · constructor <;> (simp only [nBase]; (try (cases s.away <;> simp only [cond_true, cond_false])) <;> (try rw [Int.mul_add]) <;> omega)

/-! ### The tally of a club -/
def nTallyS (w : Worth) (f : Int → Row) (s : Side) (c : Int) : Row := if c = s.club then nCount (f c) s w else f c
def nTally (w : Worth) : List Res → (Int → Row) → Int → Row
  | [], f => f
  | r :: l, f => nTally w l (nTallyS w (nTallyS w f (homeS r)) (awayS r))
def hits (c : Int) : List Res → Int
  | [] => 0
  | r :: l => (if c = r.game.home then 1 else 0) + (if c = r.game.away then 1 else 0) + hits c l
theorem hits_le (c : Int) : ∀ l : List Res, 0 ≤ hits c l ∧ hits c l ≤ 2 * l.length
  | [] => by simp [hits]
  | r :: l => by
    have := hits_le c l
    simp only [hits, List.length_cons]
    split <;> split <;> omega
theorem step_inv {w : Worth} (hw : worthOk w) {f g : Int → Row} {c n : Int} (hn : n ≤ 1000) (he : f c = g c) (h : RowInv w n (g c)) {s : Side} (hs : sideOk s) :
    tallyS w f s c = nTallyS w g s c ∧ RowInv w (n + if c = s.club then 1 else 0) (nTallyS w g s c) := by
  unfold tallyS nTallyS
  by_cases hc : c = s.club
  · simp only [if_pos hc, he]
    exact h.count hw hn hs
  · simp only [if_neg hc, he, Int.add_zero, true_and]
    exact h
theorem tally_inv {w : Worth} (hw : worthOk w) : ∀ (l : List Res) (f g : Int → Row) (c n : Int), (∀ r ∈ l, resOk r) → n + 2 * l.length ≤ 1000 → f c = g c → RowInv w n (g c) →
    tally w l f c = nTally w l g c ∧ RowInv w (n + hits c l) (nTally w l g c)
  | [], f, g, c, n, _, _, he, h => by simpa [tally, nTally, hits] using ⟨he, h⟩
  | r :: l, f, g, c, n, hr, hn, he, h => by
    simp only [List.length_cons] at hn
    obtain ⟨a1, a2⟩ := step_inv hw (by omega) he h (sideOk_home (hr r (by simp)))
    obtain ⟨b1, b2⟩ := step_inv hw (by split <;> omega) a1 a2 (sideOk_away (hr r (by simp)))
    have := tally_inv hw l (tallyS w (tallyS w f (homeS r)) (awayS r)) (nTallyS w (nTallyS w g (homeS r)) (awayS r)) c _ (fun x hx => hr x (by simp [hx])) (by split <;> split <;> omega) b1 b2
    refine ⟨this.1, ?_⟩
    have h2 := this.2
    simp only [hits, homeS, awayS] at h2 ⊢
    rw [show n + ((if c = r.game.home then (1 : Int) else 0) + (if c = r.game.away then 1 else 0) + hits c l) = n + (if c = r.game.home then 1 else 0) + (if c = r.game.away then 1 else 0) + hits c l by omega]
    exact h2

def tsum (δ : Side → Int) (c : Int) : List Res → Int
  | [] => 0
  | r :: l => (if c = r.game.home then δ (homeS r) else 0) + (if c = r.game.away then δ (awayS r) else 0) + tsum δ c l
theorem field_sum {w : Worth} {φ : Row → Int} {δ : Side → Int} (h : ∀ r s, φ (nCount r s w) = φ r + δ s) : ∀ (l : List Res) (g : Int → Row) (c : Int), φ (nTally w l g c) = φ (g c) + tsum δ c l
  | [], g, c => by simp [nTally, tsum]
  | r :: l, g, c => by
    rw [nTally, field_sum h l]
    have step : ∀ (g : Int → Row) (s : Side), φ (nTallyS w g s c) = φ (g c) + if c = s.club then δ s else 0 := fun g s => by
      unfold nTallyS
      by_cases hc : c = s.club
      · rw [if_pos hc, if_pos hc, h]
      · rw [if_neg hc, if_neg hc, Int.add_zero]
    rw [step, step]
    simp only [tsum, homeS, awayS]
    omega
def both2 (δ : Side → Int) (r : Res) : Int := δ (homeS r) + δ (awayS r)
theorem sum_pick {clubs : List Int} (hnd : clubs.Nodup) (a x : Int) (ha : a ∈ clubs) : (clubs.map fun c => if c = a then x else 0).sum = x := by
  induction clubs with
  | nil => cases ha
  | cons b cl ih =>
    rw [List.nodup_cons] at hnd
    simp only [List.map_cons, List.sum_cons]
    by_cases hb : b = a
    · subst hb
      rw [if_pos rfl]
      have : (cl.map fun c => if c = b then x else 0).sum = 0 := by
        rw [List.map_congr_left (g := fun _ => (0 : Int)) fun c hc => if_neg fun (e : c = b) => hnd.1 (e ▸ hc)]
        clear ih ha hnd
        induction cl with
        | nil => rfl
        | cons _ _ ih => simpa using ih
      omega
    · rw [if_neg hb, ih hnd.2 (by simpa [Ne.symm hb] using ha)]
      omega
theorem sum_add {α : Type} (f g : α → Int) : ∀ l : List α, (l.map fun c => f c + g c).sum = (l.map f).sum + (l.map g).sum
  | [] => rfl
  | c :: l => by
    simp only [List.map_cons, List.sum_cons, sum_add f g l]; omega
theorem sum_clubs {clubs : List Int} (hnd : clubs.Nodup) (δ : Side → Int) : ∀ (l : List Res), (∀ r ∈ l, known clubs r = true) → (clubs.map fun c => tsum δ c l).sum = (l.map (both2 δ)).sum
  | [], _ => by
    simp only [tsum, List.map_nil, List.sum_nil]
    clear hnd
    induction clubs with
    | nil => rfl
    | cons _ _ ih => simpa using ih
  | r :: l, h => by
    have hk := h r (by simp)
    simp only [known, Bool.and_eq_true, List.contains_iff_mem] at hk
    simp only [tsum, List.map_cons, List.sum_cons, both2]
    rw [sum_add, sum_add, sum_pick hnd _ _ hk.1, sum_pick hnd _ _ hk.2, sum_clubs hnd δ l fun x hx => h x (by simp [hx])]
end Go.Proofs.Ytnkfifkgbkgcjaa
