/-
  stats: what a side counts.
-/
import Derived.Test.YtnkfifkgbkgcjaaStatsA
namespace Go.Proofs.Ytnkfifkgbkgcjaa
open Go.Tidy
set_option maxRecDepth 100000
set_option maxHeartbeats 0
set_option linter.unusedSimpArgs false
set_option linter.unusedVariables false
variable {L : List Blk} {k : V → List Blk → Prop}
structure Side where
  (club own other cards : Int) (away both : Bool)
def Side.cells (s : Side) : List D := [DI s.club, DI s.own, DI s.other, DI s.cards, .bool s.away, .bool s.both]
abbrev sideV (s : Side) : V := .agg (s.cells.map .d)
def W (n : Int) : Int := IntKind.i64.wrap n
def cBase (r : Row) (s : Side) : Row :=
  { r with played := W (r.played + 1), goals := W (r.goals + s.own), against := W (r.against + s.other), cards := W (r.cards + s.cards), awayFor := bif s.away then W (r.awayFor + s.own) else r.awayFor }
def cLost (r : Row) (s : Side) (w : Worth) : Row := { cBase r s with lost := W (r.lost + 1), points := W (r.points + w.loss) }
def cDrawn (r : Row) (s : Side) (w : Worth) : Row := { cBase r s with drawn := W (r.drawn + 1), points := W (r.points + w.draw) }
def cWon (r : Row) (s : Side) (w : Worth) : Row := { cBase r s with won := W (r.won + 1), points := W (r.points + w.win), awayWon := bif s.away then W (r.awayWon + 1) else r.awayWon }
def countF (r : Row) (s : Side) (w : Worth) : Row := if s.both = true ∨ s.own < s.other then cLost r s w else if s.own = s.other then cDrawn r s w else cWon r s w
theorem countF_lost {r : Row} {s : Side} {w : Worth} (h : s.both = true ∨ s.own < s.other) : countF r s w = cLost r s w := if_pos h
theorem countF_drawn {r : Row} {s : Side} {w : Worth} (h : ¬ (s.both = true ∨ s.own < s.other)) (h' : s.own = s.other) : countF r s w = cDrawn r s w := by rw [countF, if_neg h, if_pos h']
theorem countF_won {r : Row} {s : Side} {w : Worth} (h : ¬ (s.both = true ∨ s.own < s.other)) (h' : ¬ s.own = s.other) : countF r s w = cWon r s w := by rw [countF, if_neg h, if_neg h']
theorem rowL {r r' : Row} (h : r' = r) : [Blk.cells (r.cells.map V.d)] = [Blk.cells (r'.cells.map V.d)] := by rw [h]
theorem count_0 (r : Row) (s : Side) (w : Worth) : CallP C 27 [.ptr 0 0, sideV s, worthV w] [.cells (r.cells.map .d)] fun X L => L = [.cells ((countF r s w).cells.map .d)] ∧ X = .tup [] := by
  rcases s with ⟨club, own, other, cards, away, both⟩
  cases away <;> cases both
  all_goals
    refine callP_of C_ok Try.func27 rfl rfl (n := _) rfl (Nat.le_of_ble_eq_true rfl) (rs := _) rfl ?_
  all_goals
    repeat' (conv => whnf
             first | refine Br.tt ?_ | refine Br.ff ?_ | refine Br.dec (fun h => ?_) (fun h => ?_) | refine Br.not ?_ | refine Br.intro (fun h => ?_) (fun h => ?_) | refine GetE.intro _ rfl ?_ | refine Need.intro rfl ?_ | refine DrawP.go mixed rfl ?_ | refine FinP.drop (n := 1) rfl (Nat.le_refl 1) rfl rfl ⟨?_, rfl⟩)
  all_goals first | exact rowL (countF_lost (.inl rfl)) | exact rowL (countF_lost (.inr h)) | (rename_i h0; exact rowL (countF_drawn (fun e => e.elim (fun e => by cases e) h0) h)) | (rename_i h0; exact rowL (countF_won (fun e => e.elim (fun e => by cases e) h0) h))
theorem count_c {b : Nat} (r : Row) (s : Side) (w : Worth) (hb : L[b]? = some (.cells (r.cells.map .d))) (h : k (.tup []) (L.set b (.cells ((countF r s w).cells.map .d)))) : CallP C 27 [.ptr b 0, sideV s, worthV w] L k :=
  (count_0 r s w).at1 hb rfl rfl rfl h rfl rfl rfl
theorem sides_c (l : List Res) (h : k (.d (.fn 41 [.rptr [ress l]])) L) : CallP C 26 [.d (ress l)] L k := by
  refine CallP.pure ?_ rfl (fun _ => rfl) h
  clear h
  refine callP_of C_ok Try.func26 rfl rfl (n := _) rfl (Nat.le_of_ble_eq_true rfl) (rs := _) rfl ?_
  conv => whnf
  exact FinP.data (.d (.fnL (.cons (.ptrL (Nat.zero_le _) rfl (.data [ress l])) .nil))) rfl rfl ⟨rfl, rfl⟩
end Go.Proofs.Ytnkfifkgbkgcjaa
