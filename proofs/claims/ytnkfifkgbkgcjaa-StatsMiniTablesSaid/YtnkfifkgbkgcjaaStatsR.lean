/-
  The reference of stats: equality of rows; the sample of the chapter.
-/
import Derived.Test.YtnkfifkgbkgcjaaStatsC
import Derived.Test.YtnkfifkgbkgcjaaRowAdd
import Derived.Test.YtnkfifkgbkgcjaaRowVal
namespace Go.Proofs.Ytnkfifkgbkgcjaa
open Go.Tidy
set_option maxRecDepth 100000
set_option maxHeartbeats 0
set_option linter.unusedSimpArgs false
set_option linter.unusedVariables false
variable {L : List Blk} {k : V → List Blk → Prop}
theorem rowEqB (a b : Row) : (decide (a.club = b.club) && (decide (a.played = b.played) && (decide (a.won = b.won) && (decide (a.drawn = b.drawn) && (decide (a.lost = b.lost) && (decide (a.goals = b.goals) && (decide (a.against = b.against) &&
    (decide (a.awayFor = b.awayFor) && (decide (a.awayWon = b.awayWon) && (decide (a.cards = b.cards) && (decide (a.points = b.points) && true))))))))))) = decide (a = b) := by
  rcases a with ⟨a1, a2, a3, a4, a5, a6, a7, a8, a9, a10, a11⟩
  rcases b with ⟨b1, b2, b3, b4, b5, b6, b7, b8, b9, b10, b11⟩
  rw [Bool.eq_iff_iff]
  simp
theorem same_c (a b : List Row) (ha : a.length ≤ 4611686018427387904) (h : k (B (decide (a = b))) L) : CallP C 15 [.d (rowsD a), .d (rowsD b)] L k := by
  refine CallP.pure ?_ rfl (fun _ => rfl) h
  clear h
  refine callP_of C_ok Try.func15 rfl rfl (n := _) rfl (Nat.le_of_ble_eq_true rfl) (rs := _) rfl ?_
  conv => whnf
  refine Br.not ?_
  conv => whnf
  refine Br.dec (fun hl => ?_) (fun hl => ?_)
  · have hlen : a.length = b.length := by simp at hl; omega
    conv => whnf
    refine LoopP.intro (ι := { i : Nat // i ≤ a.length ∧ ∀ j, j < i → a[j]? = b[j]? }) (fun i => ⟨[(0, .d (rowsD a)), (1, .d (rowsD b)), (5, I i.1)], 26, [], [], none⟩) (fun i => a.length - i.1) ⟨0, Nat.zero_le _, fun j h => absurd h (Nat.not_lt_zero j)⟩ ?_ ?_
    · exact Weak.by ⟨rfl, rfl, rfl, trivial⟩
    rintro ⟨i, hi, he⟩
    conv => whnf
    refine Br.dec (fun h => ?_) (fun h => ?_)
    · have hia : i < a.length := by simpa using h
      have hib : i < b.length := by omega
      repeat' (conv => whnf
               first | refine Br.tt ?_ | refine Br.ff ?_ | refine Br.dec (fun h => ?_) (fun h => ?_) | refine Br.not ?_ | refine Br.intro (fun h => ?_) (fun h => ?_) | refine GetE.intro _ rfl ?_ | refine Need.intro rfl ?_ | refine DrawP.go mixed rfl ?_ | refine Idx.map i rfl hia ?_ | refine Idx.map i rfl hib ?_)
      · repeat' (conv => whnf
                 first | refine Br.tt ?_ | refine Br.ff ?_ | refine Br.dec (fun h => ?_) (fun h => ?_) | refine Br.not ?_ | refine Br.intro (fun h => ?_) (fun h => ?_) | refine GetE.intro _ rfl ?_ | refine Need.intro rfl ?_ | refine DrawP.go mixed rfl ?_ | refine FinP.drop (n := 0) rfl (Nat.le_refl 0) rfl rfl ⟨rfl, congrArg B ?_⟩)
        rw [rowEqB] at h
        exact ⟨⟨i + 1, hia, fun j hj => by
          by_cases e : j = i
          · subst e
            rw [List.getElem?_eq_getElem hia, List.getElem?_eq_getElem hib, of_decide_eq_true h]
          · exact he j (by omega)⟩, by simp only []; omega, Weak.by ⟨rfl, rfl, congrArg I (by rw [wrap_id] <;> (try simp only []) <;> omega), trivial⟩⟩
      · repeat' (conv => whnf
                 first | refine Br.tt ?_ | refine Br.ff ?_ | refine Br.dec (fun h => ?_) (fun h => ?_) | refine Br.not ?_ | refine Br.intro (fun h => ?_) (fun h => ?_) | refine GetE.intro _ rfl ?_ | refine Need.intro rfl ?_ | refine DrawP.go mixed rfl ?_ | refine FinP.drop (n := 0) rfl (Nat.le_refl 0) rfl rfl ⟨rfl, congrArg B ?_⟩)
        rw [rowEqB] at h
        refine (decide_eq_false ?_).symm
        rintro rfl
        exact of_decide_eq_false h rfl
    · repeat' (conv => whnf
               first | refine Br.tt ?_ | refine Br.ff ?_ | refine Br.dec (fun h => ?_) (fun h => ?_) | refine Br.not ?_ | refine Br.intro (fun h => ?_) (fun h => ?_) | refine GetE.intro _ rfl ?_ | refine Need.intro rfl ?_ | refine DrawP.go mixed rfl ?_ | refine FinP.drop (n := 0) rfl (Nat.le_refl 0) rfl rfl ⟨rfl, congrArg B ?_⟩)
      refine (decide_eq_true ?_).symm
      apply List.ext_getElem?
      intro j
      rcases Nat.lt_or_ge j i with hj | hj
      · exact he j hj
      · have : ¬ i < a.length := by simpa using h
        rw [List.getElem?_eq_none (by omega), List.getElem?_eq_none (by omega)]
  · repeat' (conv => whnf
             first | refine Br.tt ?_ | refine Br.ff ?_ | refine Br.dec (fun h => ?_) (fun h => ?_) | refine Br.not ?_ | refine Br.intro (fun h => ?_) (fun h => ?_) | refine GetE.intro _ rfl ?_ | refine Need.intro rfl ?_ | refine DrawP.go mixed rfl ?_ | refine FinP.drop (n := 0) rfl (Nat.le_refl 0) rfl rfl ⟨rfl, congrArg B ?_⟩)
    refine (decide_eq_false ?_).symm
    rintro rfl
    exact hl rfl
theorem few_c (l : List Res) (clubs : List Int) (h : k (B (decide (l.length ≤ 40 ∧ clubs.length ≤ 30))) L) : CallP C 12 [.d (ress l), .d (ints clubs)] L k := by
  refine CallP.pure ?_ rfl (fun _ => rfl) h
  clear h
  refine callP_of C_ok Try.func12 rfl rfl (n := _) rfl (Nat.le_of_ble_eq_true rfl) (rs := _) rfl ?_
  repeat' (conv => whnf
           first | refine Br.tt ?_ | refine Br.ff ?_ | refine Br.dec (fun h => ?_) (fun h => ?_) | refine Br.not ?_ | refine Br.intro (fun h => ?_) (fun h => ?_) | refine GetE.intro _ rfl ?_ | refine Need.intro rfl ?_ | refine DrawP.go mixed rfl ?_ | refine FinP.drop (n := 0) rfl (Nat.le_refl 0) rfl rfl ⟨rfl, congrArg B ?_⟩)
  all_goals (refine dec_of (fun ho => ?_) (fun ho => ?_) <;> simp at * <;> omega)
def wonF : Res := ⟨⟨0, 0, 5, 7⟩, 2, 1, 0, 0, 0, 0, 0, false, false⟩
theorem won_c (h : k (resV wonF) L) : CallP C 24 [] L k := by
  refine CallP.pure ?_ rfl (fun _ => rfl) h
  clear h
  refine callP_of C_ok Try.func24 rfl rfl (n := _) rfl (Nat.le_of_ble_eq_true rfl) (rs := _) rfl ?_
  repeat' (conv => whnf
           first | refine Br.tt ?_ | refine Br.ff ?_ | refine Br.dec (fun h => ?_) (fun h => ?_) | refine Br.not ?_ | refine Br.intro (fun h => ?_) (fun h => ?_) | refine GetE.intro _ rfl ?_ | refine Need.intro rfl ?_ | refine DrawP.go mixed rfl ?_)
  conv => whnf
  exact FinP.drop (n := 0) rfl (Nat.le_refl 0) rfl rfl ⟨rfl, rfl⟩

theorem rows_e {l : List Res} {clubs : List Int} {w : Worth} {R : List Row} {e : Int} (he : rowsF l clubs w = (R, e)) (hl : l.length ≤ 4611686018427387904) (hc : clubs.length ≤ 4611686018427387904) (h : k (.tup [.d (rowsD R), I e]) L) :
    CallP C 13 [.d (ress l), .d (ints clubs), I w.win, I w.draw, I w.loss] L k := by
  refine rows_c l clubs w hl hc ?_
  rw [he]; exact h
theorem add_e {a b r : Row} {e : Int} (he : addF a b = (r, e)) (h : k (.tup [rowV r, I e]) L) : CallP C 16 [rowV a, rowV b] L k := by
  refine add_c a b ?_
  rw [he]; exact h
theorem value_e {r : Row} {n m : Int} (he : valueF r n = m) (h : k (I m) L) : CallP C 20 [rowV r, I n] L k := by
  refine value_c r n ?_
  rw [he]; exact h
theorem rowcheck_e {r : Row} {m : Int} (he : (if rowOk r then 0 else 1 : Int) = m) (h : k (I m) L) : CallP C 18 [rowV r] L k := by
  refine rowcheck_c r ?_
  rw [he]; exact h
theorem same_e {a b : List Row} {t : Bool} (he : decide (a = b) = t) (ha : a.length ≤ 4611686018427387904) (h : k (B t) L) : CallP C 15 [.d (rowsD a), .d (rowsD b)] L k := by
  refine same_c a b ha ?_
  rw [he]; exact h
def won5 : Row := ⟨5, 1, 1, 0, 0, 2, 1, 0, 0, 0, 3⟩
def won7 : Row := ⟨7, 1, 0, 0, 1, 1, 2, 1, 0, 0, 0⟩
theorem sane_c (h : k (B true) L) : CallP C 11 [] L k := by
  refine CallP.pure ?_ rfl (fun _ => rfl) h
  clear h
  refine callP_of C_ok Try.func11 rfl rfl (n := _) rfl (Nat.le_of_ble_eq_true rfl) (rs := _) rfl ?_
  conv => whnf
  refine won_c ?_
  repeat' (conv => whnf
           first | refine Br.tt ?_ | refine Br.ff ?_ | refine Br.dec (fun h => ?_) (fun h => ?_) | refine Br.not ?_ | refine Br.intro (fun h => ?_) (fun h => ?_) | refine GetE.intro _ rfl ?_ | refine Need.intro rfl ?_ | refine DrawP.go mixed rfl ?_)
  refine CallP.freeze [0, 1] rfl rfl (.cv (.d (.row [wonF.cells] (.head _) rfl rfl rfl (by simp; rfl))) (.cv (.d (.row [[DI 5], [DI 7]] (.tail _ (.head _)) rfl rfl rfl (by simp))) (.keep (.keep (.keep .nil)))))
    (rows_e (l := [wonF]) (clubs := [5, 7]) (w := ⟨3, 1, 0⟩) (R := [won5, won7]) (e := 0) (by decide +kernel) (by simp) (by simp) ?_)
  repeat' (conv => whnf
           first | refine Br.tt ?_ | refine Br.ff ?_ | refine Br.dec (fun h => ?_) (fun h => ?_) | refine Br.not ?_ | refine Br.intro (fun h => ?_) (fun h => ?_) | refine GetE.intro _ rfl ?_ | refine Need.intro rfl ?_ | refine DrawP.go mixed rfl ?_)
  refine CallP.freeze [2] rfl rfl (.cv (.d .nil) (.cv (.d (.row [[DI 3]] (.head _) rfl rfl rfl (by simp))) (.keep (.keep (.keep .nil)))))
    (rows_e (l := []) (clubs := [3]) (w := ⟨3, 1, 0⟩) (R := [rowC 3]) (e := 0) (by decide +kernel) (by simp) (by simp) ?_)
  repeat' (conv => whnf
           first | refine Br.tt ?_ | refine Br.ff ?_ | refine Br.dec (fun h => ?_) (fun h => ?_) | refine Br.not ?_ | refine Br.intro (fun h => ?_) (fun h => ?_) | refine GetE.intro _ rfl ?_ | refine Need.intro rfl ?_ | refine DrawP.go mixed rfl ?_)
  refine CallP.freeze [] rfl rfl (.cv (.d .nil) (.cv (.d .nil) (.keep (.keep (.keep .nil)))))
    (rows_e (l := []) (clubs := []) (w := ⟨3, 1, 0⟩) (R := []) (e := 190) (by decide +kernel) (by simp) (by simp) ?_)
  repeat' (conv => whnf
           first | refine Br.tt ?_ | refine Br.ff ?_ | refine Br.dec (fun h => ?_) (fun h => ?_) | refine Br.not ?_ | refine Br.intro (fun h => ?_) (fun h => ?_) | refine GetE.intro _ rfl ?_ | refine Need.intro rfl ?_ | refine DrawP.go mixed rfl ?_)
  refine CallP.freeze [3] rfl rfl (.cv (.d .nil) (.cv (.d (.row [[DI 3]] (.head _) rfl rfl rfl (by simp))) (.keep (.keep (.keep .nil)))))
    (rows_e (l := []) (clubs := [3]) (w := ⟨100, 1, 0⟩) (R := []) (e := 1) (by decide +kernel) (by simp) (by simp) ?_)
  repeat' (conv => whnf
           first | refine Br.tt ?_ | refine Br.ff ?_ | refine Br.dec (fun h => ?_) (fun h => ?_) | refine Br.not ?_ | refine Br.intro (fun h => ?_) (fun h => ?_) | refine GetE.intro _ rfl ?_ | refine Need.intro rfl ?_ | refine DrawP.go mixed rfl ?_)
  refine add_e (a := rowC 3) (b := rowC 3) (r := rowC 3) (e := 0) (by decide +kernel) ?_
  repeat' (conv => whnf
           first | refine Br.tt ?_ | refine Br.ff ?_ | refine Br.dec (fun h => ?_) (fun h => ?_) | refine Br.not ?_ | refine Br.intro (fun h => ?_) (fun h => ?_) | refine GetE.intro _ rfl ?_ | refine Need.intro rfl ?_ | refine DrawP.go mixed rfl ?_)
  refine rowcheck_e (r := rowC 0) (m := 0) (by decide +kernel) ?_
  repeat' (conv => whnf
           first | refine Br.tt ?_ | refine Br.ff ?_ | refine Br.dec (fun h => ?_) (fun h => ?_) | refine Br.not ?_ | refine Br.intro (fun h => ?_) (fun h => ?_) | refine GetE.intro _ rfl ?_ | refine Need.intro rfl ?_ | refine DrawP.go mixed rfl ?_)
  refine CallP.freeze [5] rfl rfl (.keep (.cv (.d (.row [won5.cells, won7.cells] (.head _) rfl rfl rfl (by simp; exact ⟨rfl, rfl⟩))) .nil)) (same_e (a := [won5, won7]) (b := [won5, won7]) (t := true) (by decide +kernel) (by simp) ?_)
  repeat' (conv => whnf
           first | refine Br.tt ?_ | refine Br.ff ?_ | refine Br.dec (fun h => ?_) (fun h => ?_) | refine Br.not ?_ | refine Br.intro (fun h => ?_) (fun h => ?_) | refine GetE.intro _ rfl ?_ | refine Need.intro rfl ?_ | refine DrawP.go mixed rfl ?_)
  refine CallP.freeze [6] rfl rfl (.keep (.cv (.d (.row [(rowC 3).cells] (.head _) rfl rfl rfl (by simp; rfl))) .nil)) (same_e (a := [rowC 3]) (b := [rowC 3]) (t := true) (by decide +kernel) (by simp) ?_)
  repeat' (conv => whnf
           first | refine Br.tt ?_ | refine Br.ff ?_ | refine Br.dec (fun h => ?_) (fun h => ?_) | refine Br.not ?_ | refine Br.intro (fun h => ?_) (fun h => ?_) | refine GetE.intro _ rfl ?_ | refine Need.intro rfl ?_ | refine DrawP.go mixed rfl ?_)
  refine value_e (r := ⟨0, 0, 0, 0, 0, 0, 0, 0, 0, 2, 0⟩) (n := 7) (m := -2) (by decide +kernel) ?_
  repeat' (conv => whnf
           first | refine Br.tt ?_ | refine Br.ff ?_ | refine Br.dec (fun h => ?_) (fun h => ?_) | refine Br.not ?_ | refine Br.intro (fun h => ?_) (fun h => ?_) | refine GetE.intro _ rfl ?_ | refine Need.intro rfl ?_ | refine DrawP.go mixed rfl ?_)
  refine value_e (r := ⟨0, 0, 0, 0, 0, 0, 0, 0, 0, 1, 0⟩) (n := 7) (m := -1) (by decide +kernel) ?_
  repeat' (conv => whnf
           first | refine Br.tt ?_ | refine Br.ff ?_ | refine Br.dec (fun h => ?_) (fun h => ?_) | refine Br.not ?_ | refine Br.intro (fun h => ?_) (fun h => ?_) | refine GetE.intro _ rfl ?_ | refine Need.intro rfl ?_ | refine DrawP.go mixed rfl ?_)
  refine value_e (r := ⟨0, 0, 0, 0, 0, 0, 0, 0, 0, 0, 3⟩) (n := 0) (m := 0) (by decide +kernel) ?_
  repeat' (conv => whnf
           first | refine Br.tt ?_ | refine Br.ff ?_ | refine Br.dec (fun h => ?_) (fun h => ?_) | refine Br.not ?_ | refine Br.intro (fun h => ?_) (fun h => ?_) | refine GetE.intro _ rfl ?_ | refine Need.intro rfl ?_ | refine DrawP.go mixed rfl ?_)
  conv => whnf
  exact FinP.drop (n := 0) rfl (Nat.le_refl 0) rfl rfl ⟨rfl, rfl⟩
end Go.Proofs.Ytnkfifkgbkgcjaa
