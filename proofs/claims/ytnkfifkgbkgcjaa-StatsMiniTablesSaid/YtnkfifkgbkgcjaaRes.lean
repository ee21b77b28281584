/-
  Games and results: the contracts of their checks.
-/
import Derived.Test.YtnkfifkgbkgcjaaTab
import Derived.Test.YtnkfifkgbkgcjaaTidyZ3
namespace Go.Proofs.Ytnkfifkgbkgcjaa
open Go.Tidy
set_option maxRecDepth 100000
set_option maxHeartbeats 0
set_option linter.unusedSimpArgs false
set_option linter.unusedVariables false
structure Game where
  (season comp home away : Int)
def Game.cells (g : Game) : List D := [DI g.season, DI g.comp, DI g.home, DI g.away]
abbrev gameV (g : Game) : V := .agg (g.cells.map .d)
def Game.ok (g : Game) : Prop := (0 ≤ g.season ∧ g.season < 64) ∧ (0 ≤ g.comp ∧ g.comp < 16) ∧ (0 ≤ g.home ∧ g.home < 192) ∧ (0 ≤ g.away ∧ g.away < 192) ∧ g.home ≠ g.away
instance (g : Game) : Decidable g.ok := by unfold Game.ok; infer_instance

variable {L : List Blk} {k : V → List Blk → Prop}
theorem below_c (n m : Int) (h : k (B (decide (0 ≤ n ∧ n < m))) L) : CallP C 64 [I n, I m] L k := by
  refine CallP.pure ?_ rfl (fun _ => rfl) h
  clear h
  refine callP_of C_ok Try.func64 rfl rfl (n := _) rfl (Nat.le_of_ble_eq_true rfl) (rs := _) rfl ?_
  repeat' (first | (refine Br.intro (fun h => ?_) (fun h => ?_)) | (refine FinP.same ⟨rfl, congrArg B ?_⟩))
  all_goals (simp_all; try omega)
theorem contest_c (n m : Int) (h : k (B (decide ((0 ≤ n ∧ n < 64) ∧ (0 ≤ m ∧ m < 16)))) L) : CallP C 59 [I n, I m] L k := by
  refine CallP.pure ?_ rfl (fun _ => rfl) h
  clear h
  refine callP_of C_ok Try.func59 rfl rfl (n := _) rfl (Nat.le_of_ble_eq_true rfl) (rs := _) rfl ?_
  refine below_c _ _ ?_
  refine Br.intro (fun h => ?_) (fun h => ?_)
  · refine below_c _ _ ?_
    refine FinP.same ⟨rfl, congrArg B ?_⟩
    simp_all
  · refine FinP.same ⟨rfl, congrArg B ?_⟩
    simp_all; omega
theorem club_c (n : Int) (h : k (B (decide (0 ≤ n ∧ n < 192))) L) : CallP C 60 [I n] L k := by
  refine CallP.pure ?_ rfl (fun _ => rfl) h
  clear h
  refine callP_of C_ok Try.func60 rfl rfl (n := _) rfl (Nat.le_of_ble_eq_true rfl) (rs := _) rfl ?_
  refine below_c _ _ ?_
  exact FinP.same ⟨rfl, rfl⟩
theorem ite_dec {P : Prop} [Decidable P] {a b x : Int} (h1 : P → x = a) (h2 : ¬ P → x = b) : x = if P then a else b := by
  by_cases h : P
  · rw [if_pos h]; exact h1 h
  · rw [if_neg h]; exact h2 h
theorem dec_of {P : Prop} [Decidable P] {x : Bool} (h1 : P → x = true) (h2 : ¬ P → x = false) : x = decide P := by
  by_cases h : P
  · rw [decide_eq_true h]; exact h1 h
  · rw [decide_eq_false h]; exact h2 h
theorem game_c (g : Game) (h : k (I (if g.ok then 0 else 70)) L) : CallP C 55 [gameV g] L k := by
  refine CallP.pure ?_ rfl (fun _ => rfl) h
  clear h
  refine callP_of C_ok Try.func55 rfl rfl (n := _) rfl (Nat.le_of_ble_eq_true rfl) (rs := _) rfl ?_
  refine contest_c _ _ ?_
  repeat' (first | (refine Br.intro (fun h => ?_) (fun h => ?_)) | refine club_c _ ?_ | refine FinP.drop (n := 0) rfl (Nat.le_refl 0) rfl rfl ⟨rfl, congrArg I ?_⟩)
  all_goals (refine ite_dec (fun ho => ?_) (fun ho => ?_) <;> simp [Game.ok] at * <;> omega)
theorem in_c (n a b : Int) (h : k (B (decide (a ≤ n ∧ n ≤ b))) L) : CallP C 69 [I n, I a, I b] L k := by
  refine CallP.pure ?_ rfl (fun _ => rfl) h
  clear h
  refine callP_of C_ok Try.func69 rfl rfl (n := _) rfl (Nat.le_of_ble_eq_true rfl) (rs := _) rfl ?_
  repeat' (first | (refine Br.intro (fun h => ?_) (fun h => ?_)) | (refine FinP.same ⟨rfl, congrArg B ?_⟩))
  all_goals (simp_all; try omega)
theorem season_c (n : Int) (h : k (B (decide (0 ≤ n ∧ n ≤ 63))) L) : CallP C 66 [I n] L k := by
  refine CallP.pure ?_ rfl (fun _ => rfl) h
  clear h
  refine callP_of C_ok Try.func66 rfl rfl (n := _) rfl (Nat.le_of_ble_eq_true rfl) (rs := _) rfl ?_
  refine in_c _ _ _ ?_
  exact FinP.same ⟨rfl, rfl⟩
theorem comp_c (n : Int) (h : k (B (decide (0 ≤ n ∧ n ≤ 15))) L) : CallP C 67 [I n] L k := by
  refine CallP.pure ?_ rfl (fun _ => rfl) h
  clear h
  refine callP_of C_ok Try.func67 rfl rfl (n := _) rfl (Nat.le_of_ble_eq_true rfl) (rs := _) rfl ?_
  refine in_c _ _ _ ?_
  exact FinP.same ⟨rfl, rfl⟩
theorem rclub_c (n : Int) (h : k (B (decide (0 ≤ n ∧ n ≤ 191))) L) : CallP C 68 [I n] L k := by
  refine CallP.pure ?_ rfl (fun _ => rfl) h
  clear h
  refine callP_of C_ok Try.func68 rfl rfl (n := _) rfl (Nat.le_of_ble_eq_true rfl) (rs := _) rfl ?_
  refine in_c _ _ _ ?_
  exact FinP.same ⟨rfl, rfl⟩
theorem gvalid_c (g : Game) (h : k (B (decide g.ok)) L) : CallP C 63 [gameV g] L k := by
  refine CallP.pure ?_ rfl (fun _ => rfl) h
  clear h
  refine callP_of C_ok Try.func63 rfl rfl (n := _) rfl (Nat.le_of_ble_eq_true rfl) (rs := _) rfl ?_
  refine season_c _ ?_
  repeat' (first | (refine Br.intro (fun h => ?_) (fun h => ?_)) | refine comp_c _ ?_ | refine rclub_c _ ?_ | refine FinP.drop (n := 0) rfl (Nat.le_refl 0) rfl rfl ⟨rfl, congrArg B ?_⟩)
  all_goals (refine dec_of (fun ho => ?_) (fun ho => ?_) <;> simp [Game.ok] at * <;> omega)
theorem rgame_c (g : Game) (h : k (I (if g.ok then 0 else 70)) L) : CallP C 57 [gameV g] L k := by
  refine CallP.pure ?_ rfl (fun _ => rfl) h
  clear h
  refine callP_of C_ok Try.func57 rfl rfl (n := _) rfl (Nat.le_of_ble_eq_true rfl) (rs := _) rfl ?_
  refine gvalid_c g ?_
  repeat' (first | (refine Br.intro (fun h => ?_) (fun h => ?_)) | refine FinP.drop (n := 0) rfl (Nat.le_refl 0) rfl rfl ⟨rfl, congrArg I ?_⟩)
  all_goals (refine ite_dec (fun ho => ?_) (fun ho => ?_) <;> simp_all)
theorem game_b (g : Game) (h1 : g.ok → k (I 0) L) (h2 : ¬ g.ok → k (I 70) L) : CallP C 55 [gameV g] L k := by
  refine game_c g ?_
  by_cases h : g.ok
  · rw [if_pos h]; exact h1 h
  · rw [if_neg h]; exact h2 h
theorem rgame_b (g : Game) (h1 : g.ok → k (I 0) L) (h2 : ¬ g.ok → k (I 70) L) : CallP C 57 [gameV g] L k := by
  refine rgame_c g ?_
  by_cases h : g.ok
  · rw [if_pos h]; exact h1 h
  · rw [if_neg h]; exact h2 h
theorem rwithin_c (n m : Int) (h : k (B (decide (0 ≤ n ∧ n ≤ m))) L) : CallP C 58 [I n, I m] L k := by
  refine CallP.pure ?_ rfl (fun _ => rfl) h
  clear h
  refine callP_of C_ok Try.func58 rfl rfl (n := _) rfl (Nat.le_of_ble_eq_true rfl) (rs := _) rfl ?_
  repeat' (first | (refine Br.intro (fun h => ?_) (fun h => ?_)) | (refine FinP.same ⟨rfl, congrArg B ?_⟩))
  all_goals (simp_all; try omega)
theorem outside_c (n m : Int) (h : k (B (decide (n < 0 ∨ m < n))) L) : CallP C 62 [I n, .d (.rptr [DI m])] L k := by
  refine CallP.pure ?_ rfl (fun _ => rfl) h
  clear h
  refine callP_of C_ok Try.func62 rfl rfl (n := _) rfl (Nat.le_of_ble_eq_true rfl) (rs := _) rfl ?_
  repeat' (first | (refine Br.intro (fun h => ?_) (fun h => ?_)) | (refine FinP.same ⟨rfl, congrArg B ?_⟩))
  all_goals (simp_all; try omega)

/-- slices.IndexFunc over numbers -/
theorem indexFunc_c (l : List Int) (hl : l.length ≤ 4611686018427387904) (f : FuncId) (caps : List D) (p : Int → Bool) (hp : ∀ n (L : List Blk) (k : V → List Blk → Prop), k (B (p n)) L → CallP C f ([I n] ++ caps.map .d) L k)
    (h : k (I (findI p l)) L) : CallP C 65 [.d (ints l), .d (.fn f caps)] L k := by
  refine CallP.pure ?_ rfl (fun _ => rfl) h
  clear h
  refine callP_of C_ok Try.func65 rfl rfl (n := _) rfl (Nat.le_of_ble_eq_true rfl) (rs := _) rfl ?_
  refine LoopP.intro (ι := Far p l) (fun s => ⟨[(0, .d (ints l)), (1, .d (.fn f caps)), (7, I l.length), (8, I s.i)], 19, [], [], none⟩) (fun s => l.length - s.i) (Far.zero p l) ?_ ?_
  · exact Weak.forget ⟨rfl, rfl, congrArg I (by simp), rfl, trivial⟩
  · intro s
    refine Br.intro (fun h => ?_) (fun h => ?_)
    · have hi : s.i < l.length := by simpa using h
      refine Idx.map s.i rfl hi ?_
      refine Need.intro rfl ?_
      refine hp _ _ _ ?_
      refine Br.intro (fun h => ?_) (fun h => ?_)
      · exact FinP.same ⟨rfl, congrArg I (findI_hit hi h s.no).symm⟩
      · refine ⟨s.next hi h, by simp only [Far.next]; omega, Weak.forget ⟨rfl, rfl, rfl, congrArg I ?_, trivial⟩⟩
        rw [wrap_id] <;> (try simp only [Far.next]) <;> omega
    · have hi : ¬ s.i < l.length := by simpa using h
      exact FinP.same ⟨rfl, congrArg I (findI_miss fun j hj => s.no j hj (by omega)).symm⟩
theorem containsFunc_c (l : List Int) (hl : l.length ≤ 4611686018427387904) (f : FuncId) (caps : List D) (p : Int → Bool) (hp : ∀ n (L : List Blk) (k : V → List Blk → Prop), k (B (p n)) L → CallP C f ([I n] ++ caps.map .d) L k)
    (h : k (B (l.any p)) L) : CallP C 61 [.d (ints l), .d (.fn f caps)] L k := by
  refine CallP.pure ?_ rfl (fun _ => rfl) h
  clear h
  refine callP_of C_ok Try.func61 rfl rfl (n := _) rfl (Nat.le_of_ble_eq_true rfl) (rs := _) rfl ?_
  refine indexFunc_c l hl f caps p hp ?_
  exact FinP.same ⟨rfl, congrArg B (findI_any p l)⟩
structure Res where
  (game : Game) (hg ag hp ap hc ac day : Int) (forfeit both : Bool)
def Res.cells (r : Res) : List D := r.game.cells ++ [DI r.hg, DI r.ag, DI r.hp, DI r.ap, DI r.hc, DI r.ac, DI r.day, .bool r.forfeit, .bool r.both]
abbrev resV (r : Res) : V := .agg (r.cells.map .d)

theorem within_c (m : Int) (l : List Int) (hl : l.length ≤ 4611686018427387904) (h : k (B (!l.any fun n => decide (n < 0 ∨ m < n))) L) : CallP C 56 [I m, .d (ints l)] L k := by
  refine CallP.pure ?_ rfl (fun _ => rfl) h
  clear h
  refine callP_of C_ok Try.func56 rfl rfl (n := _) rfl (Nat.le_of_ble_eq_true rfl) (rs := _) rfl ?_
  refine CallP.lent (containsFunc_c l hl 62 [.rptr [DI m]] _ (fun n L k h => outside_c n m h) ⟨rfl, rfl⟩) (.keep (.cv (.d (.fnL (.cons (.ptrL trivial rfl (.data [DI m])) .nil))) .nil)) rfl rfl ?_
  exact FinP.drop (n := 0) rfl (Nat.le_refl 0) rfl rfl ⟨rfl, rfl⟩

def resOk (r : Res) : Prop := r.game.ok ∧ (0 ≤ r.hg ∧ r.hg ≤ 99) ∧ (0 ≤ r.ag ∧ r.ag ≤ 99) ∧ (0 ≤ r.hp ∧ r.hp ≤ 99) ∧ (0 ≤ r.ap ∧ r.ap ≤ 99) ∧ (0 ≤ r.hc ∧ r.hc ≤ 120) ∧ (0 ≤ r.ac ∧ r.ac ≤ 120) ∧ (0 ≤ r.day ∧ r.day ≤ 1048576) ∧
  ¬ (r.game.comp < 8 ∧ r.hp + r.ap > 0) ∧ ¬ (r.forfeit = true ∧ r.hp + r.ap + r.hc + r.ac > 0) ∧ ¬ (r.forfeit = true ∧ r.both = false ∧ ¬ (r.hg = 3 ∧ r.ag = 0 ∨ r.hg = 0 ∧ r.ag = 3)) ∧ ¬ (r.both = true ∧ (r.forfeit = false ∨ r.hg + r.ag > 0))
instance (r : Res) : Decidable (resOk r) := by unfold resOk; infer_instance
theorem resOk_iff (r : Res) (hr : r.game.ok ∧ (0 ≤ r.hg ∧ r.hg ≤ 99) ∧ (0 ≤ r.ag ∧ r.ag ≤ 99) ∧ (0 ≤ r.hp ∧ r.hp ≤ 99) ∧ (0 ≤ r.ap ∧ r.ap ≤ 99) ∧ (0 ≤ r.hc ∧ r.hc ≤ 120) ∧ (0 ≤ r.ac ∧ r.ac ≤ 120) ∧ (0 ≤ r.day ∧ r.day ≤ 1048576)) :
    ∃ R : Int, (if resOk r then 0 else 1) = R ∧ ((¬ (r.game.comp < 8 ∧ r.hp + r.ap > 0) ∧ ¬ (r.forfeit = true ∧ r.hp + r.ap + r.hc + r.ac > 0) ∧ ¬ (r.forfeit = true ∧ r.both = false ∧ ¬ (r.hg = 3 ∧ r.ag = 0 ∨ r.hg = 0 ∧ r.ag = 3)) ∧ ¬ (r.both = true ∧ (r.forfeit = false ∨ r.hg + r.ag > 0))) → R = 0) ∧
      (¬ (¬ (r.game.comp < 8 ∧ r.hp + r.ap > 0) ∧ ¬ (r.forfeit = true ∧ r.hp + r.ap + r.hc + r.ac > 0) ∧ ¬ (r.forfeit = true ∧ r.both = false ∧ ¬ (r.hg = 3 ∧ r.ag = 0 ∨ r.hg = 0 ∧ r.ag = 3)) ∧ ¬ (r.both = true ∧ (r.forfeit = false ∨ r.hg + r.ag > 0))) → R = 1) := by
  obtain ⟨g0, g1, g2, g3, g4, g5, g6, g7⟩ := hr
  refine ⟨_, rfl, fun h => if_pos ?_, fun h => if_neg fun hh => h ?_⟩
  · unfold resOk
    exact ⟨g0, g1, g2, g3, g4, g5, g6, g7, h⟩
  · unfold resOk at hh
    exact hh.2.2.2.2.2.2.2.2
theorem rescheck_c (r : Res) (h : k (I (if resOk r then 0 else 1)) L) : CallP C 40 [resV r] L k := by
  refine CallP.pure ?_ rfl (fun _ => rfl) h
  clear h
  refine callP_of C_ok Try.func40 rfl rfl (n := _) rfl (Nat.le_of_ble_eq_true rfl) (rs := _) rfl ?_
  refine game_c r.game ?_
  refine Br.intro (fun h => ?_) (fun h => ?_)
  · conv => whnf
    refine FinP.drop (n := 0) rfl (Nat.le_refl 0) rfl rfl ⟨rfl, congrArg I ?_⟩
    (refine ite_dec (fun ho => ?_) (fun ho => ?_) <;> simp_all [resOk] <;> (try omega))
  refine CallP.lent (within_c 99 [r.hg, r.ag, r.hp, r.ap] (by simp) ⟨rfl, rfl⟩) (.keep (.cv (.d (.row [[DI r.hg], [DI r.ag], [DI r.hp], [DI r.ap]] trivial rfl rfl rfl (by simp))) .nil)) rfl rfl ?_
  refine Br.intro (fun h => ?_) (fun h => ?_)
  · conv => whnf
    refine FinP.drop (n := 0) rfl (Nat.le_refl 0) rfl rfl ⟨rfl, congrArg I ?_⟩
    (refine ite_dec (fun ho => ?_) (fun ho => ?_) <;> simp_all [resOk] <;> (try omega))
  refine CallP.lent (within_c 120 [r.hc, r.ac] (by simp) ⟨rfl, rfl⟩) (.keep (.cv (.d (.row [[DI r.hc], [DI r.ac]] trivial rfl rfl rfl (by simp))) .nil)) rfl rfl ?_
  refine Br.intro (fun h => ?_) (fun h => ?_)
  · conv => whnf
    refine FinP.drop (n := 0) rfl (Nat.le_refl 0) rfl rfl ⟨rfl, congrArg I ?_⟩
    (refine ite_dec (fun ho => ?_) (fun ho => ?_) <;> simp_all [resOk] <;> (try omega))
  refine CallP.lent (within_c 1048576 [r.day] (by simp) ⟨rfl, rfl⟩) (.keep (.cv (.d (.row [[DI r.day]] trivial rfl rfl rfl (by simp))) .nil)) rfl rfl ?_
  refine Br.intro (fun h => ?_) (fun h => ?_)
  · conv => whnf
    refine FinP.drop (n := 0) rfl (Nat.le_refl 0) rfl rfl ⟨rfl, congrArg I ?_⟩
    (refine ite_dec (fun ho => ?_) (fun ho => ?_) <;> simp_all [resOk] <;> (try omega))
  rename_i h1 h2 h3
  have hr : r.game.ok ∧ (0 ≤ r.hg ∧ r.hg ≤ 99) ∧ (0 ≤ r.ag ∧ r.ag ≤ 99) ∧ (0 ≤ r.hp ∧ r.hp ≤ 99) ∧ (0 ≤ r.ap ∧ r.ap ≤ 99) ∧ (0 ≤ r.hc ∧ r.hc ≤ 120) ∧ (0 ≤ r.ac ∧ r.ac ≤ 120) ∧ (0 ≤ r.day ∧ r.day ≤ 1048576) := by
    simp at h h1 h2 h3
    exact ⟨h1, by omega, by omega, by omega, by omega, by omega, by omega, by omega⟩
  clear h h1 h2 h3
  obtain ⟨R, hR, hR0, hR1⟩ := resOk_iff r hr
  rw [hR]
  obtain ⟨g0, g1, g2, g3, g4, g5, g6, g7⟩ := hr
  clear hR g0
  rcases r with ⟨gm, hg, ag, hp, ap, hc, ac, day, forfeit, both⟩
  dsimp only at *
  have e1 : IntKind.i64.wrap (hp + ap) = hp + ap := wrap_id (by omega) (by omega)
  have e2 : IntKind.i64.wrap (IntKind.i64.wrap (hp + ap) + hc) = hp + ap + hc := by rw [e1]; exact wrap_id (by omega) (by omega)
  have e3 : IntKind.i64.wrap (IntKind.i64.wrap (IntKind.i64.wrap (hp + ap) + hc) + ac) = hp + ap + hc + ac := by rw [e2]; exact wrap_id (by omega) (by omega)
  cases forfeit <;> cases both <;> simp at hR0 hR1
  all_goals
    repeat' (conv => whnf
             first | refine Br.tt ?_ | refine Br.ff ?_ | refine Br.dec (fun h => ?_) (fun h => ?_) | refine Br.not ?_ | refine Br.intro (fun h => ?_) (fun h => ?_) | refine GetE.intro _ rfl ?_ | refine Need.intro rfl ?_ | refine DrawP.go mixed rfl ?_ | (refine IdxN.intro 0 rfl (Nat.le_of_ble_eq_true rfl) ?_) | (refine IdxN.intro 1 rfl (Nat.le_of_ble_eq_true rfl) ?_) | refine FinP.drop (n := 0) rfl (Nat.le_refl 0) rfl rfl ⟨rfl, congrArg I ?_⟩)
  all_goals (try dsimp only at *)
  all_goals omega

theorem ite_int {P : Prop} [Decidable P] : ∃ R : Int, (if P then 0 else 1) = R ∧ (P → R = 0) ∧ (¬ P → R = 1) := ⟨_, rfl, fun h => if_pos h, fun h => if_neg h⟩
theorem wrap_in {n : Int} (h : -9223372036854775808 ≤ n ∧ n ≤ 9223372036854775807) : IntKind.i64.wrap n = n := wrap_id h.1 h.2
theorem rrescheck_c (r : Res) (h : k (I (if resOk r then 0 else 1)) L) : CallP C 44 [resV r] L k := by
  refine CallP.pure ?_ rfl (fun _ => rfl) h
  clear h
  refine callP_of C_ok Try.func44 rfl rfl (n := _) rfl (Nat.le_of_ble_eq_true rfl) (rs := _) rfl ?_
  refine rgame_b r.game (fun h0 => ?_) (fun h0 => ?_)
  · obtain ⟨R, hR, hR0, hR1⟩ := ite_int (P := resOk r)
    rw [hR]; clear hR
    rcases r with ⟨gm, hg, ag, hp, ap, hc, ac, day, forfeit, both⟩
    dsimp only at *
    have e1 : 0 ≤ hp ∧ hp ≤ 99 ∧ 0 ≤ ap ∧ ap ≤ 99 → IntKind.i64.wrap (hp + ap) = hp + ap := fun h => wrap_in (by omega)
    have e2 : 0 ≤ hp ∧ hp ≤ 99 ∧ 0 ≤ ap ∧ ap ≤ 99 ∧ 0 ≤ hc ∧ hc ≤ 120 → IntKind.i64.wrap (IntKind.i64.wrap (hp + ap) + hc) = hp + ap + hc := fun h => by rw [e1 (by omega)]; exact wrap_in (by omega)
    have e3 : 0 ≤ hp ∧ hp ≤ 99 ∧ 0 ≤ ap ∧ ap ≤ 99 ∧ 0 ≤ hc ∧ hc ≤ 120 ∧ 0 ≤ ac ∧ ac ≤ 120 → IntKind.i64.wrap (IntKind.i64.wrap (IntKind.i64.wrap (hp + ap) + hc) + ac) = hp + ap + hc + ac := fun h => by rw [e2 (by omega)]; exact wrap_in (by omega)
    have e4 : 0 ≤ hg ∧ hg ≤ 99 ∧ 0 ≤ ag ∧ ag ≤ 99 → IntKind.i64.wrap (hg + ag) = hg + ag := fun h => wrap_in (by omega)
    cases forfeit <;> cases both <;> simp only [resOk, h0, true_and, false_and, and_false, not_false_eq_true, not_true_eq_false, reduceCtorEq, and_true, true_or, false_or, Bool.false_eq_true] at hR0 hR1
    all_goals clear h0
    all_goals
      repeat' (conv => whnf
               first | refine Br.tt ?_ | refine Br.ff ?_ | refine Br.dec (fun h => ?_) (fun h => ?_) | refine Br.not ?_ | refine Br.intro (fun h => ?_) (fun h => ?_) | refine GetE.intro _ rfl ?_ | refine Need.intro rfl ?_ | refine DrawP.go mixed rfl ?_ | refine rwithin_c _ _ ?_ | refine FinP.drop (n := 0) rfl (Nat.le_refl 0) rfl rfl ⟨rfl, congrArg I ?_⟩)
    all_goals (try dsimp only at *)
    all_goals first | omega | exact (hR1 trivial).symm
  · have : ¬ resOk r := fun hr => h0 hr.1
    rw [if_neg this]
    repeat' (conv => whnf
             first | refine Br.tt ?_ | refine Br.ff ?_ | refine Br.dec (fun h => ?_) (fun h => ?_) | refine Br.not ?_ | refine Br.intro (fun h => ?_) (fun h => ?_) | refine GetE.intro _ rfl ?_ | refine Need.intro rfl ?_ | refine DrawP.go mixed rfl ?_ | refine FinP.drop (n := 0) rfl (Nat.le_refl 0) rfl rfl ⟨rfl, congrArg I ?_⟩)
    rfl
end Go.Proofs.Ytnkfifkgbkgcjaa
