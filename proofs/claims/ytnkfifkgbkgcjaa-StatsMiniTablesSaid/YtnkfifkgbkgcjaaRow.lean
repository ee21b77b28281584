/-
  Rows: the contracts of Check, Add and Value.
-/
import Derived.Test.YtnkfifkgbkgcjaaRes
namespace Go.Proofs.Ytnkfifkgbkgcjaa
open Go.Tidy
set_option maxRecDepth 100000
set_option maxHeartbeats 0
set_option linter.unusedSimpArgs false
set_option linter.unusedVariables false
variable {L : List Blk} {k : V → List Blk → Prop}
structure Row where
  (club played won drawn lost goals against awayFor awayWon cards points : Int)
  deriving DecidableEq, Inhabited
def Row.cells (r : Row) : List D := [DI r.club, DI r.played, DI r.won, DI r.drawn, DI r.lost, DI r.goals, DI r.against, DI r.awayFor, DI r.awayWon, DI r.cards, DI r.points]
abbrev rowV (r : Row) : V := .agg (r.cells.map .d)

def rowOk (r : Row) : Prop := (0 ≤ r.club ∧ r.club ≤ 191) ∧ (0 ≤ r.played ∧ r.played ≤ 1048576) ∧ (0 ≤ r.won ∧ r.won ≤ r.played) ∧ (0 ≤ r.drawn ∧ r.drawn ≤ r.played) ∧ (0 ≤ r.lost ∧ r.lost ≤ r.played) ∧ r.won + r.drawn + r.lost = r.played ∧
  (0 ≤ r.goals ∧ r.goals ≤ 99 * r.played) ∧ (0 ≤ r.against ∧ r.against ≤ 99 * r.played) ∧ (0 ≤ r.awayFor ∧ r.awayFor ≤ r.goals) ∧ (0 ≤ r.awayWon ∧ r.awayWon ≤ r.won) ∧ (0 ≤ r.cards ∧ r.cards ≤ 120 * r.played) ∧ (-99 * r.played ≤ r.points ∧ r.points ≤ 99 * r.played)
instance (r : Row) : Decidable (rowOk r) := by unfold rowOk; infer_instance

theorem cwithin_c (n a b : Int) (h : k (B (decide (a ≤ n ∧ n ≤ b))) L) : CallP C 31 [I n, I a, I b] L k := by
  refine CallP.pure ?_ rfl (fun _ => rfl) h
  clear h
  refine callP_of C_ok Try.func31 rfl rfl (n := _) rfl (Nat.le_of_ble_eq_true rfl) (rs := _) rfl ?_
  repeat' (first | (refine Br.intro (fun h => ?_) (fun h => ?_)) | (refine FinP.same ⟨rfl, congrArg B ?_⟩))
  all_goals (simp_all; try omega)

theorem rowcheck_c (r : Row) (h : k (I (if rowOk r then 0 else 1)) L) : CallP C 18 [rowV r] L k := by
  refine CallP.pure ?_ rfl (fun _ => rfl) h
  clear h
  refine callP_of C_ok Try.func18 rfl rfl (n := _) rfl (Nat.le_of_ble_eq_true rfl) (rs := _) rfl ?_
  obtain ⟨R, hR, hR0, hR1⟩ := ite_int (P := rowOk r)
  rw [hR]; clear hR
  rcases r with ⟨club, played, won, drawn, lost, goals, against, awayFor, awayWon, cards, points⟩
  simp only [rowOk] at hR0 hR1
  have e1 : 0 ≤ played ∧ played ≤ 1048576 ∧ 0 ≤ won ∧ won ≤ played ∧ 0 ≤ drawn ∧ drawn ≤ played → IntKind.i64.wrap (won + drawn) = won + drawn := fun h => wrap_in (by omega)
  have e2 : 0 ≤ played ∧ played ≤ 1048576 ∧ 0 ≤ won ∧ won ≤ played ∧ 0 ≤ drawn ∧ drawn ≤ played ∧ 0 ≤ lost ∧ lost ≤ played → IntKind.i64.wrap (IntKind.i64.wrap (won + drawn) + lost) = won + drawn + lost := fun h => by rw [e1 (by omega)]; exact wrap_in (by omega)
  have e3 : 0 ≤ played ∧ played ≤ 1048576 → IntKind.i64.wrap (99 * played) = 99 * played := fun h => wrap_in (by omega)
  have e4 : 0 ≤ played ∧ played ≤ 1048576 → IntKind.i64.wrap (120 * played) = 120 * played := fun h => wrap_in (by omega)
  have e5 : 0 ≤ played ∧ played ≤ 1048576 → IntKind.i64.wrap (-99 * played) = -99 * played := fun h => wrap_in (by omega)
  repeat' (conv => whnf
           first | refine Br.tt ?_ | refine Br.ff ?_ | refine Br.dec (fun h => ?_) (fun h => ?_) | refine Br.not ?_ | refine Br.intro (fun h => ?_) (fun h => ?_) | refine GetE.intro _ rfl ?_ | refine Need.intro rfl ?_ | refine DrawP.go mixed rfl ?_ | refine cwithin_c _ _ _ ?_ | refine FinP.drop (n := 0) rfl (Nat.le_refl 0) rfl rfl ⟨rfl, congrArg I ?_⟩)
  all_goals (try dsimp only at *)
  all_goals first | omega

theorem rrowcheck_c (r : Row) (h : k (I (if rowOk r then 0 else 1)) L) : CallP C 19 [rowV r] L k := by
  refine CallP.pure ?_ rfl (fun _ => rfl) h
  clear h
  refine callP_of C_ok Try.func19 rfl rfl (n := _) rfl (Nat.le_of_ble_eq_true rfl) (rs := _) rfl ?_
  obtain ⟨R, hR, hR0, hR1⟩ := ite_int (P := rowOk r)
  rw [hR]; clear hR
  rcases r with ⟨club, played, won, drawn, lost, goals, against, awayFor, awayWon, cards, points⟩
  simp only [rowOk] at hR0 hR1
  have e1 : 0 ≤ played ∧ played ≤ 1048576 ∧ 0 ≤ won ∧ won ≤ played ∧ 0 ≤ drawn ∧ drawn ≤ played → IntKind.i64.wrap (won + drawn) = won + drawn := fun h => wrap_in (by omega)
  have e2 : 0 ≤ played ∧ played ≤ 1048576 ∧ 0 ≤ won ∧ won ≤ played ∧ 0 ≤ drawn ∧ drawn ≤ played ∧ 0 ≤ lost ∧ lost ≤ played → IntKind.i64.wrap (IntKind.i64.wrap (won + drawn) + lost) = won + drawn + lost := fun h => by rw [e1 (by omega)]; exact wrap_in (by omega)
  have e3 : 0 ≤ played ∧ played ≤ 1048576 → IntKind.i64.wrap (99 * played) = 99 * played := fun h => wrap_in (by omega)
  have e4 : 0 ≤ played ∧ played ≤ 1048576 → IntKind.i64.wrap (120 * played) = 120 * played := fun h => wrap_in (by omega)
  have e5 : 0 ≤ played ∧ played ≤ 1048576 → IntKind.i64.wrap (-99 * played) = -99 * played := fun h => wrap_in (by omega)
  repeat' (conv => whnf
           first | refine Br.tt ?_ | refine Br.ff ?_ | refine Br.dec (fun h => ?_) (fun h => ?_) | refine Br.not ?_ | refine Br.intro (fun h => ?_) (fun h => ?_) | refine GetE.intro _ rfl ?_ | refine Need.intro rfl ?_ | refine DrawP.go mixed rfl ?_ | refine FinP.drop (n := 0) rfl (Nat.le_refl 0) rfl rfl ⟨rfl, congrArg I ?_⟩)
  all_goals (try dsimp only at *)
  all_goals first | omega

theorem rowcheck_b (r : Row) (h1 : rowOk r → k (I 0) L) (h2 : ¬ rowOk r → k (I 1) L) : CallP C 18 [rowV r] L k := by
  refine rowcheck_c r ?_
  by_cases h : rowOk r
  · rw [if_pos h]; exact h1 h
  · rw [if_neg h]; exact h2 h
theorem rrowcheck_b (r : Row) (h1 : rowOk r → k (I 0) L) (h2 : ¬ rowOk r → k (I 1) L) : CallP C 19 [rowV r] L k := by
  refine rrowcheck_c r ?_
  by_cases h : rowOk r
  · rw [if_pos h]; exact h1 h
  · rw [if_neg h]; exact h2 h
end Go.Proofs.Ytnkfifkgbkgcjaa
