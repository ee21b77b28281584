/-
  Rows: Add.
-/
import Derived.Test.YtnkfifkgbkgcjaaRow
namespace Go.Proofs.Ytnkfifkgbkgcjaa
open Go.Tidy
set_option maxRecDepth 100000
set_option maxHeartbeats 0
set_option linter.unusedSimpArgs false
set_option linter.unusedVariables false
variable {L : List Blk} {k : V → List Blk → Prop}
def rowAdd (a b : Row) : Row := ⟨a.club, a.played + b.played, a.won + b.won, a.drawn + b.drawn, a.lost + b.lost, a.goals + b.goals, a.against + b.against, a.awayFor + b.awayFor, a.awayWon + b.awayWon, a.cards + b.cards, a.points + b.points⟩
def row0 : Row := ⟨0, 0, 0, 0, 0, 0, 0, 0, 0, 0, 0⟩
def addF (a b : Row) : Row × Int := if rowOk a ∧ rowOk b then if a.club = b.club then if rowOk (rowAdd a b) then (rowAdd a b, 0) else (row0, 1) else (row0, 190) else (row0, 1)
def rowAddW (a b : Row) : Row := ⟨a.club, IntKind.i64.wrap (a.played + b.played), IntKind.i64.wrap (a.won + b.won), IntKind.i64.wrap (a.drawn + b.drawn), IntKind.i64.wrap (a.lost + b.lost), IntKind.i64.wrap (a.goals + b.goals), IntKind.i64.wrap (a.against + b.against),
  IntKind.i64.wrap (a.awayFor + b.awayFor), IntKind.i64.wrap (a.awayWon + b.awayWon), IntKind.i64.wrap (a.cards + b.cards), IntKind.i64.wrap (a.points + b.points)⟩
theorem rowAddW_eq {a b : Row} (ha : rowOk a) (hb : rowOk b) : rowAddW a b = rowAdd a b := by
  unfold rowOk at ha hb
  unfold rowAddW rowAdd
  congr 1 <;> exact wrap_in (by omega)
def zeros (n : Nat) : List V := List.replicate n (I 0)
theorem addF_sum {a b : Row} (ha : rowOk a) (hb : rowOk b) (h : a.club = b.club) (hs : rowOk (rowAddW a b)) : addF a b = (rowAddW a b, 0) := by
  rw [rowAddW_eq ha hb] at hs ⊢
  simp only [addF, ha, hb, h, hs, and_self, if_true]
theorem addF_big {a b : Row} (ha : rowOk a) (hb : rowOk b) (h : a.club = b.club) (hs : ¬ rowOk (rowAddW a b)) : addF a b = (row0, 1) := by
  rw [rowAddW_eq ha hb] at hs
  simp only [addF, ha, hb, h, hs, and_self, if_true, if_false]
theorem addF_club {a b : Row} (ha : rowOk a) (hb : rowOk b) (h : ¬ a.club = b.club) : addF a b = (row0, 190) := by
  simp only [addF, ha, hb, h, and_self, if_true, if_false]
theorem addF_a {a b : Row} (ha : ¬ rowOk a) : addF a b = (row0, 1) := by
  simp only [addF, ha, false_and, if_false]
theorem addF_b {a b : Row} (hb : ¬ rowOk b) : addF a b = (row0, 1) := by
  simp only [addF, hb, and_false, if_false]
theorem tupR {a b : Row} {p : Row × Int} (h : addF a b = p) : V.tup [rowV p.1, I p.2] = V.tup [rowV (addF a b).1, I (addF a b).2] := by rw [h]
theorem add_c (a b : Row) (h : k (.tup [rowV (addF a b).1, I (addF a b).2]) L) : CallP C 16 [rowV a, rowV b] L k := by
  refine CallP.pure ?_ rfl (fun _ => rfl) h
  clear h
  refine callP_of C_ok Try.func16 rfl rfl (n := _) rfl (Nat.le_of_ble_eq_true rfl) (rs := _) rfl ?_
  conv => whnf
  refine LoopP.intro (ι := { i : Nat // (i = 0 ∨ (i = 1 ∧ rowOk a)) ∨ (i = 2 ∧ rowOk a ∧ rowOk b) })
    (fun i => ⟨[(2, .ptr 0 0), (3, .ptr 1 0), (4, .ptr 2 0), (5, I 0), (13, .own 3 0 0 2), (14, I 2), (15, I i.1)], 92, [.cells (a.cells.map .d), .cells (b.cells.map .d), .cells (row0.cells.map .d), .row 0 11 [a.cells.map .d, b.cells.map .d]], [], none⟩)
    (fun i => 2 - i.1) ⟨0, .inl (.inl rfl)⟩ ?_ ?_
  · exact Weak.forget ⟨rfl, rfl, rfl, rfl, rfl, rfl, rfl, trivial⟩
  rintro ⟨i, (rfl | ⟨rfl, ha⟩) | ⟨rfl, ha, hb⟩⟩
  · repeat' (conv => whnf
             first | refine Br.tt ?_ | refine Br.ff ?_ | refine Br.dec (fun h => ?_) (fun h => ?_) | refine Br.not ?_ | refine Br.intro (fun h => ?_) (fun h => ?_) | refine GetE.intro _ rfl ?_ | refine Need.intro rfl ?_ | refine DrawP.go mixed rfl ?_ | refine IdxN.intro 0 rfl (Nat.le_of_ble_eq_true rfl) ?_ | refine rowcheck_b a (fun ha => ?_) (fun ha => ?_) | refine FinP.drop (n := 0) rfl (Nat.le_refl 0) rfl rfl ⟨rfl, ?_⟩)
    · exact ⟨⟨1, .inl (.inr ⟨rfl, ha⟩)⟩, by simp, Weak.to 4 rfl (Nat.zero_le _) (Nat.le_of_ble_eq_true rfl) ⟨rfl, rfl, rfl, rfl, rfl, rfl, rfl, trivial⟩⟩
    · exact tupR (addF_a ha)
  · repeat' (conv => whnf
             first | refine Br.tt ?_ | refine Br.ff ?_ | refine Br.dec (fun h => ?_) (fun h => ?_) | refine Br.not ?_ | refine Br.intro (fun h => ?_) (fun h => ?_) | refine GetE.intro _ rfl ?_ | refine Need.intro rfl ?_ | refine DrawP.go mixed rfl ?_ | refine IdxN.intro 1 rfl (Nat.le_of_ble_eq_true rfl) ?_ | refine rowcheck_b b (fun hb => ?_) (fun hb => ?_) | refine FinP.drop (n := 0) rfl (Nat.le_refl 0) rfl rfl ⟨rfl, ?_⟩)
    · exact ⟨⟨2, .inr ⟨rfl, ha, hb⟩⟩, by simp, Weak.to 4 rfl (Nat.zero_le _) (Nat.le_of_ble_eq_true rfl) ⟨rfl, rfl, rfl, rfl, rfl, rfl, rfl, trivial⟩⟩
    · exact tupR (addF_b hb)
  · repeat' (conv => whnf
             first | refine Br.tt ?_ | refine Br.ff ?_ | refine Br.dec (fun h => ?_) (fun h => ?_) | refine Br.not ?_ | refine Br.intro (fun h => ?_) (fun h => ?_) | refine GetE.intro _ rfl ?_ | refine Need.intro rfl ?_ | refine DrawP.go mixed rfl ?_ | refine rowcheck_b (rowAddW a b) (fun hs => ?_) (fun hs => ?_) | refine FinP.drop (n := 0) rfl (Nat.le_refl 0) rfl rfl ⟨rfl, ?_⟩)
    · exact tupR (addF_sum ha hb h hs)
    · exact tupR (addF_big ha hb h hs)
    · exact tupR (addF_club ha hb h)
theorem radd_c (a b : Row) (h : k (.tup [rowV (addF a b).1, I (addF a b).2]) L) : CallP C 17 [rowV a, rowV b] L k := by
  refine CallP.pure ?_ rfl (fun _ => rfl) h
  clear h
  refine callP_of C_ok Try.func17 rfl rfl (n := _) rfl (Nat.le_of_ble_eq_true rfl) (rs := _) rfl ?_
  conv => whnf
  refine rrowcheck_b a (fun ha => ?_) (fun ha => ?_)
  · repeat' (conv => whnf
             first | refine Br.tt ?_ | refine Br.ff ?_ | refine Br.dec (fun h => ?_) (fun h => ?_) | refine Br.not ?_ | refine Br.intro (fun h => ?_) (fun h => ?_) | refine GetE.intro _ rfl ?_ | refine Need.intro rfl ?_ | refine DrawP.go mixed rfl ?_)
    refine rrowcheck_b b (fun hb => ?_) (fun hb => ?_)
    · repeat' (conv => whnf
               first | refine Br.tt ?_ | refine Br.ff ?_ | refine Br.dec (fun h => ?_) (fun h => ?_) | refine Br.not ?_ | refine Br.intro (fun h => ?_) (fun h => ?_) | refine GetE.intro _ rfl ?_ | refine Need.intro rfl ?_ | refine DrawP.go mixed rfl ?_)
      · refine rrowcheck_b (rowAddW a b) (fun hs => ?_) (fun hs => ?_)
        · repeat' (conv => whnf
                   first | refine Br.tt ?_ | refine Br.ff ?_ | refine Br.dec (fun h => ?_) (fun h => ?_) | refine Br.not ?_ | refine Br.intro (fun h => ?_) (fun h => ?_) | refine GetE.intro _ rfl ?_ | refine Need.intro rfl ?_ | refine DrawP.go mixed rfl ?_ | refine FinP.drop (n := 0) rfl (Nat.le_refl 0) rfl rfl ⟨rfl, ?_⟩)
          exact tupR (addF_sum ha hb h hs)
        · repeat' (conv => whnf
                   first | refine Br.tt ?_ | refine Br.ff ?_ | refine Br.dec (fun h => ?_) (fun h => ?_) | refine Br.not ?_ | refine Br.intro (fun h => ?_) (fun h => ?_) | refine GetE.intro _ rfl ?_ | refine Need.intro rfl ?_ | refine DrawP.go mixed rfl ?_ | refine FinP.drop (n := 0) rfl (Nat.le_refl 0) rfl rfl ⟨rfl, ?_⟩)
          exact tupR (addF_big ha hb h hs)
      · refine FinP.drop (n := 0) rfl (Nat.le_refl 0) rfl rfl ⟨rfl, ?_⟩
        exact tupR (addF_club ha hb h)
    · repeat' (conv => whnf
               first | refine Br.tt ?_ | refine Br.ff ?_ | refine Br.dec (fun h => ?_) (fun h => ?_) | refine Br.not ?_ | refine Br.intro (fun h => ?_) (fun h => ?_) | refine GetE.intro _ rfl ?_ | refine Need.intro rfl ?_ | refine DrawP.go mixed rfl ?_ | refine FinP.drop (n := 0) rfl (Nat.le_refl 0) rfl rfl ⟨rfl, ?_⟩)
      exact tupR (addF_b hb)
  · repeat' (conv => whnf
             first | refine Br.tt ?_ | refine Br.ff ?_ | refine Br.dec (fun h => ?_) (fun h => ?_) | refine Br.not ?_ | refine Br.intro (fun h => ?_) (fun h => ?_) | refine GetE.intro _ rfl ?_ | refine Need.intro rfl ?_ | refine DrawP.go mixed rfl ?_ | refine FinP.drop (n := 0) rfl (Nat.le_refl 0) rfl rfl ⟨rfl, ?_⟩)
    exact tupR (addF_a ha)
end Go.Proofs.Ytnkfifkgbkgcjaa
