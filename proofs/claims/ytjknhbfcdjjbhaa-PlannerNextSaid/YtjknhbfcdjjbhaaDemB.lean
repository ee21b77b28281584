/-
  demands: clubs, rounds, searching.
-/
import Derived.Test.YtjknhbfcdjjbhaaDemA
namespace Go.Proofs.Ytjknhbfcdjjbhaa
open Go.Tidy
set_option maxRecDepth 100000
set_option maxHeartbeats 0
set_option linter.unusedSimpArgs false
set_option linter.unusedVariables false
variable {L : List Blk} {k : V → List Blk → Prop}
theorem dIsField_c (l : List Int) (hl : l.length ≤ 4611686018427387904) (h : k (B (fieldOk l 2)) L) : CallP C 40 [.d (ints l)] L k := by
  refine CallP.pure ?_ rfl (fun _ => rfl) h
  clear h
  refine callP_of C_ok Try.func40 rfl rfl (n := _) rfl (Nat.le_of_ble_eq_true rfl) (rs := _) rfl ?_
  conv => whnf
  refine LoopP.intro (ι := FarOk l) (fun s => ⟨[(0, .d (ints l)), (2, B false), (5, .d (ints l)), (6, I l.length), (7, I s.i)], 40, [], [], none⟩) (fun s => l.length - s.i) (FarOk.zero l) ?_ ?_
  · exact Weak.forget ⟨rfl, rfl, rfl, congrArg I (by simp), rfl, trivial⟩
  intro s
  conv => whnf
  refine Br.dec (fun h => ?_) (fun h => ?_)
  · have hi : s.i < l.length := by simpa using h
    conv => whnf
    refine Idx.map s.i rfl hi ?_
    repeat' (conv => whnf
             first | refine Br.tt ?_ | refine Br.ff ?_ | refine Br.dec (fun h => ?_) (fun h => ?_) | refine Br.not ?_ | refine Br.intro (fun h => ?_) (fun h => ?_) | refine GetE.intro _ rfl ?_ | refine Need.intro rfl ?_ | refine DrawP.go mixed rfl ?_ | refine Idx.map (s.i - 1) (by rw [wrap_id] <;> omega) (by omega) ?_ | refine FinP.drop (n := 0) rfl (Nat.le_refl 0) rfl rfl ⟨rfl, congrArg B ?_⟩)
    · exact fieldOk_no (j := s.i) fun ho => by have := ((okAt_at hi).1 ho).1; omega
    · exact fieldOk_no (j := s.i) fun ho => by have := ((okAt_at hi).1 ho).1; omega
    · rename_i h0 h2
      exact fieldOk_no (j := s.i) fun ho => by have := ((okAt_at hi).1 ho).2 (by omega); omega
    · rename_i h3 h2 h1 h0
      exact ⟨s.next hi ((okAt_at hi).2 ⟨by omega, fun _ => by omega⟩), by simp only [FarOk.next]; omega, Weak.by ⟨rfl, rfl, rfl, rfl, congrArg I (by rw [wrap_id] <;> (try simp only [FarOk.next]) <;> omega), trivial⟩⟩
    · rename_i h2 h1 h0
      exact ⟨s.next hi ((okAt_at hi).2 ⟨by omega, fun _ => by omega⟩), by simp only [FarOk.next]; omega, Weak.by ⟨rfl, rfl, rfl, rfl, congrArg I (by rw [wrap_id] <;> (try simp only [FarOk.next]) <;> omega), trivial⟩⟩
  · have hi : ¬ s.i < l.length := by simpa using h
    have hin := s.all hi
    repeat' (conv => whnf
             first | refine Br.tt ?_ | refine Br.ff ?_ | refine Br.dec (fun h => ?_) (fun h => ?_) | refine Br.not ?_ | refine Br.intro (fun h => ?_) (fun h => ?_) | refine GetE.intro _ rfl ?_ | refine Need.intro rfl ?_ | refine DrawP.go mixed rfl ?_ | refine FinP.drop (n := 0) rfl (Nat.le_refl 0) rfl rfl ⟨rfl, congrArg B ?_⟩)
    all_goals (simp at *)
    all_goals (rw [Bool.eq_iff_iff]; simp [fieldOk, hin]; omega)
theorem sindex_c (l : List Int) (n : Int) (hl : l.length ≤ 4611686018427387904) (h : k (I (findI (fun m => decide (n = m)) l)) L) : CallP C 112 [.d (ints l), I n] L k := by
  refine CallP.pure ?_ rfl (fun _ => rfl) h
  clear h
  refine callP_of C_ok Try.func112 rfl rfl (n := _) rfl (Nat.le_of_ble_eq_true rfl) (rs := _) rfl ?_
  conv => whnf
  refine LoopP.intro (ι := Far (fun m => decide (n = m)) l) (fun s => ⟨[(0, .d (ints l)), (1, I n), (7, I l.length), (8, I s.i)], 19, [], [], none⟩) (fun s => l.length - s.i) (Far.zero _ l) ?_ ?_
  · exact Weak.by ⟨rfl, rfl, congrArg I (by simp), rfl, trivial⟩
  intro s
  conv => whnf
  refine Br.dec (fun h => ?_) (fun h => ?_)
  · have hi : s.i < l.length := by simpa using h
    repeat' (conv => whnf
             first | refine Br.tt ?_ | refine Br.ff ?_ | refine Br.dec (fun h => ?_) (fun h => ?_) | refine Br.not ?_ | refine Br.intro (fun h => ?_) (fun h => ?_) | refine GetE.intro _ rfl ?_ | refine Need.intro rfl ?_ | refine DrawP.go mixed rfl ?_ | refine Idx.map s.i rfl hi ?_ | refine FinP.drop (n := 0) rfl (Nat.le_refl 0) rfl rfl ⟨rfl, congrArg I ?_⟩)
    · exact (findI_hit hi (decide_eq_true (by assumption)) s.no).symm
    · exact ⟨s.next hi (decide_eq_false (by assumption)), by simp only [Far.next]; omega, Weak.by ⟨rfl, rfl, rfl, congrArg I (by rw [wrap_id] <;> (try simp only [Far.next]) <;> omega), trivial⟩⟩
  · have hi : ¬ s.i < l.length := by simpa using h
    repeat' (conv => whnf
             first | refine Br.tt ?_ | refine Br.ff ?_ | refine Br.dec (fun h => ?_) (fun h => ?_) | refine Br.not ?_ | refine Br.intro (fun h => ?_) (fun h => ?_) | refine GetE.intro _ rfl ?_ | refine Need.intro rfl ?_ | refine DrawP.go mixed rfl ?_ | refine FinP.drop (n := 0) rfl (Nat.le_refl 0) rfl rfl ⟨rfl, congrArg I ?_⟩)
    exact (findI_miss fun j hj => s.no j hj (by omega)).symm
theorem contains_c (l : List Int) (n : Int) (hl : l.length ≤ 4611686018427387904) (h : k (B (l.contains n)) L) : CallP C 90 [.d (ints l), I n] L k := by
  refine CallP.pure ?_ rfl (fun _ => rfl) h
  clear h
  refine callP_of C_ok Try.func90 rfl rfl (n := _) rfl (Nat.le_of_ble_eq_true rfl) (rs := _) rfl ?_
  conv => whnf
  refine sindex_c l n hl ?_
  repeat' (conv => whnf
           first | refine Br.tt ?_ | refine Br.ff ?_ | refine Br.dec (fun h => ?_) (fun h => ?_) | refine Br.not ?_ | refine Br.intro (fun h => ?_) (fun h => ?_) | refine GetE.intro _ rfl ?_ | refine Need.intro rfl ?_ | refine DrawP.go mixed rfl ?_)
  conv => whnf
  refine FinP.drop (n := 0) rfl (Nat.le_refl 0) rfl rfl ⟨rfl, congrArg B ?_⟩
  rw [findI_any, List.contains_eq_any_beq]
  exact congrArg (fun f => List.any l f) (funext fun m => by simp [Bool.beq_eq_decide_eq])
theorem mEq (a b : Mt) : (decide (a.home = b.home) && (decide (a.away = b.away) && true)) = decide (a = b) := by
  cases a; cases b; rw [Bool.eq_iff_iff]; simp
theorem mindex_c (l : List Mt) (n : Mt) (hl : l.length ≤ 4611686018427387904) (h : k (I (findI (fun m => decide (n = m)) l)) L) : CallP C 116 [.d (mts l), mtV n] L k := by
  refine CallP.pure ?_ rfl (fun _ => rfl) h
  clear h
  refine callP_of C_ok Try.func116 rfl rfl (n := _) rfl (Nat.le_of_ble_eq_true rfl) (rs := _) rfl ?_
  conv => whnf
  refine LoopP.intro (ι := Far (fun m => decide (n = m)) l) (fun s => ⟨[(0, .d (mts l)), (3, .ptr 0 0), (7, I l.length), (8, I s.i)], 19, [.cells (n.cells.map .d)], [], none⟩) (fun s => l.length - s.i) (Far.zero _ l) ?_ ?_
  · exact Weak.by ⟨rfl, rfl, congrArg I (by simp), rfl, trivial⟩
  intro s
  conv => whnf
  refine Br.dec (fun h => ?_) (fun h => ?_)
  · have hi : s.i < l.length := by simpa using h
    repeat' (conv => whnf
             first | refine Br.tt ?_ | refine Br.ff ?_ | refine Br.dec (fun h => ?_) (fun h => ?_) | refine Br.not ?_ | refine Br.intro (fun h => ?_) (fun h => ?_) | refine GetE.intro _ rfl ?_ | refine Need.intro rfl ?_ | refine DrawP.go mixed rfl ?_ | refine Idx.map s.i rfl hi ?_ | refine FinP.drop (n := 0) rfl (Nat.le_refl 0) rfl rfl ⟨rfl, congrArg I ?_⟩)
    · exact (findI_hit hi ((mEq _ _).symm.trans h) s.no).symm
    · exact ⟨s.next hi ((mEq _ _).symm.trans h), by simp only [Far.next]; omega, Weak.by ⟨rfl, rfl, rfl, congrArg I (by rw [wrap_id] <;> (try simp only [Far.next]) <;> omega), trivial⟩⟩
  · have hi : ¬ s.i < l.length := by simpa using h
    repeat' (conv => whnf
             first | refine Br.tt ?_ | refine Br.ff ?_ | refine Br.dec (fun h => ?_) (fun h => ?_) | refine Br.not ?_ | refine Br.intro (fun h => ?_) (fun h => ?_) | refine GetE.intro _ rfl ?_ | refine Need.intro rfl ?_ | refine DrawP.go mixed rfl ?_ | refine FinP.drop (n := 0) rfl (Nat.le_refl 0) rfl rfl ⟨rfl, congrArg I ?_⟩)
    exact (findI_miss fun j hj => s.no j hj (by omega)).symm
theorem mcontains_c (l : List Mt) (n : Mt) (hl : l.length ≤ 4611686018427387904) (h : k (B (l.contains n)) L) : CallP C 107 [.d (mts l), mtV n] L k := by
  refine CallP.pure ?_ rfl (fun _ => rfl) h
  clear h
  refine callP_of C_ok Try.func107 rfl rfl (n := _) rfl (Nat.le_of_ble_eq_true rfl) (rs := _) rfl ?_
  conv => whnf
  refine mindex_c l n hl ?_
  repeat' (conv => whnf
           first | refine Br.tt ?_ | refine Br.ff ?_ | refine Br.dec (fun h => ?_) (fun h => ?_) | refine Br.not ?_ | refine Br.intro (fun h => ?_) (fun h => ?_) | refine GetE.intro _ rfl ?_ | refine Need.intro rfl ?_ | refine DrawP.go mixed rfl ?_)
  conv => whnf
  refine FinP.drop (n := 0) rfl (Nat.le_refl 0) rfl rfl ⟨rfl, congrArg B ?_⟩
  rw [findI_any, List.contains_eq_any_beq]
  exact congrArg (fun f => List.any l f) (funext fun m => by rw [Bool.eq_iff_iff]; simp)
def roundsN (p : Pl) : Nat := (if p.double then 2 else 1) * ((p.clubs.length - 1) / 2 * 2 + 1)
theorem rounds_e (n : Nat) (h : 1 ≤ n ∧ n ≤ 1000) : IntKind.i64.wrap (IntKind.i64.wrap (IntKind.i64.wrap ((IntKind.i64.wrap ((n : Int) - 1)).tdiv 2) * 2) + 1) = (((n - 1) / 2 * 2 + 1 : Nat) : Int) := by
  rw [wrap_in (n := (n : Int) - 1) (by omega), show ((n : Int) - 1) = ((n - 1 : Nat) : Int) by omega]
  have e : ((n - 1 : Nat) : Int).tdiv 2 = (((n - 1) / 2 : Nat) : Int) := (Int.ofNat_tdiv _ _).symm
  rw [e, wrap_in (n := (((n - 1) / 2 : Nat) : Int)) (by omega), wrap_in (n := (((n - 1) / 2 : Nat) : Int) * 2) (by omega), wrap_in (by omega)]
  omega
theorem rounds_c (p : Pl) (h1 : 1 ≤ p.clubs.length ∧ p.clubs.length ≤ 1000) (h : k (I (roundsN p)) L) : CallP C 44 [plV p] L k := by
  refine CallP.pure ?_ rfl (fun _ => rfl) h
  clear h
  refine callP_of C_ok Try.func44 rfl rfl (n := _) rfl (Nat.le_of_ble_eq_true rfl) (rs := _) rfl ?_
  repeat' (conv => whnf
           first | refine Br.tt ?_ | refine Br.ff ?_ | refine Br.dec (fun h => ?_) (fun h => ?_) | refine Br.not ?_ | refine Br.intro (fun h => ?_) (fun h => ?_) | refine GetE.intro _ rfl ?_ | refine Need.intro rfl ?_ | refine DrawP.go mixed rfl ?_ | refine Need.intro (show (2 : Int) ≠ 0 by decide) ?_)
  all_goals conv => whnf
  · refine FinP.drop (n := 0) rfl (Nat.le_refl 0) rfl rfl ⟨rfl, congrArg I ?_⟩
    simp only [List.length_map]
    rw [rounds_e _ h1, wrap_in (by omega), roundsN, h]
    simp only [if_true]; omega
  · refine FinP.drop (n := 0) rfl (Nat.le_refl 0) rfl rfl ⟨rfl, congrArg I ?_⟩
    simp only [List.length_map]
    rw [rounds_e _ h1, roundsN, h]
    simp
theorem hasClub_c (d : Dm) (p : Pl) (hl : p.clubs.length ≤ 4611686018427387904) (h : k (B (p.clubs.contains d.club)) L) : CallP C 67 [dmV d, plV p] L k := by
  refine CallP.pure ?_ rfl (fun _ => rfl) h
  clear h
  refine callP_of C_ok Try.func67 rfl rfl (n := _) rfl (Nat.le_of_ble_eq_true rfl) (rs := _) rfl ?_
  conv => whnf
  refine contains_c p.clubs d.club hl ?_
  repeat' (conv => whnf
           first | refine Br.tt ?_ | refine Br.ff ?_ | refine Br.dec (fun h => ?_) (fun h => ?_) | refine Br.not ?_ | refine Br.intro (fun h => ?_) (fun h => ?_) | refine GetE.intro _ rfl ?_ | refine Need.intro rfl ?_ | refine DrawP.go mixed rfl ?_)
  conv => whnf
  exact FinP.drop (n := 0) rfl (Nat.le_refl 0) rfl rfl ⟨rfl, rfl⟩
theorem hasOther_c (d : Dm) (p : Pl) (hl : p.clubs.length ≤ 4611686018427387904) (h : k (B (p.clubs.contains d.other && decide (d.other ≠ d.club))) L) : CallP C 70 [dmV d, plV p] L k := by
  refine CallP.pure ?_ rfl (fun _ => rfl) h
  clear h
  refine callP_of C_ok Try.func70 rfl rfl (n := _) rfl (Nat.le_of_ble_eq_true rfl) (rs := _) rfl ?_
  conv => whnf
  refine contains_c p.clubs d.other hl ?_
  repeat' (conv => whnf
           first | refine Br.tt ?_ | refine Br.ff ?_ | refine Br.dec (fun h => ?_) (fun h => ?_) | refine Br.not ?_ | refine Br.intro (fun h => ?_) (fun h => ?_) | refine GetE.intro _ rfl ?_ | refine Need.intro rfl ?_ | refine DrawP.go mixed rfl ?_)
  all_goals conv => whnf
  all_goals refine FinP.drop (n := 0) rfl (Nat.le_refl 0) rfl rfl ⟨rfl, congrArg B ?_⟩
  all_goals simp_all
theorem hasRound_c (d : Dm) (p : Pl) (hl : 1 ≤ p.clubs.length ∧ p.clubs.length ≤ 1000) (h : k (B (decide (0 ≤ d.round ∧ d.round < roundsN p))) L) : CallP C 68 [dmV d, plV p] L k := by
  refine CallP.pure ?_ rfl (fun _ => rfl) h
  clear h
  refine callP_of C_ok Try.func68 rfl rfl (n := _) rfl (Nat.le_of_ble_eq_true rfl) (rs := _) rfl ?_
  conv => whnf
  repeat' (conv => whnf
           first | refine Br.tt ?_ | refine Br.ff ?_ | refine Br.dec (fun h => ?_) (fun h => ?_) | refine Br.not ?_ | refine Br.intro (fun h => ?_) (fun h => ?_) | refine GetE.intro _ rfl ?_ | refine Need.intro rfl ?_ | refine DrawP.go mixed rfl ?_ | refine QCall.intro _ (rounds_c p hl ⟨rfl, rfl⟩) ?_ | refine rounds_c p hl ?_)
  all_goals conv => whnf
  all_goals refine FinP.drop (n := 0) rfl (Nat.le_refl 0) rfl rfl ⟨rfl, congrArg B ?_⟩
  all_goals (rw [Bool.eq_iff_iff]; simp_all; try omega)
theorem within1_c (d : Dm) (p : Pl) (low high : Int) (h : k (B (decide (low ≤ d.n ∧ d.n ≤ high))) L) : CallP C 104 [dmV d, plV p, .d (.rptr [DI low]), .d (.rptr [DI high])] L k := by
  refine CallP.pure ?_ rfl (fun _ => rfl) h
  clear h
  refine callP_of C_ok Try.func104 rfl rfl (n := _) rfl (Nat.le_of_ble_eq_true rfl) (rs := _) rfl ?_
  repeat' (conv => whnf
           first | refine Br.tt ?_ | refine Br.ff ?_ | refine Br.dec (fun h => ?_) (fun h => ?_) | refine Br.not ?_ | refine Br.intro (fun h => ?_) (fun h => ?_) | refine GetE.intro _ rfl ?_ | refine Need.intro rfl ?_ | refine DrawP.go mixed rfl ?_)
  all_goals conv => whnf
  all_goals refine FinP.drop (n := 0) rfl (Nat.le_refl 0) rfl rfl ⟨rfl, congrArg B ?_⟩
  all_goals (rw [Bool.eq_iff_iff]; simp_all; try omega)
theorem first_c (m : Mt) (h : k (I (if m.away < m.home then m.away else m.home)) L) : CallP C 91 [mtV m] L k := by
  refine CallP.pure ?_ rfl (fun _ => rfl) h
  clear h
  refine callP_of C_ok Try.func91 rfl rfl (n := _) rfl (Nat.le_of_ble_eq_true rfl) (rs := _) rfl ?_
  repeat' (conv => whnf
           first | refine Br.tt ?_ | refine Br.ff ?_ | refine Br.dec (fun h => ?_) (fun h => ?_) | refine Br.not ?_ | refine Br.intro (fun h => ?_) (fun h => ?_) | refine GetE.intro _ rfl ?_ | refine Need.intro rfl ?_ | refine DrawP.go mixed rfl ?_)
  all_goals conv => whnf
  exact FinP.drop (n := 0) rfl (Nat.le_refl 0) rfl rfl ⟨rfl, rfl⟩
structure Rnd where
  l : List Mt
  kn : Int → Bool
  f : FuncId
  caps : List D
  len : l.length ≤ 4611686018427387904
  ok : ∀ (n : Int) (L : List Blk) (k : V → List Blk → Prop), k (B (kn n)) L → CallP C f ([I n] ++ caps.map .d) L k
def Rnd.cells (r : Rnd) : List D := [mts r.l, .fn r.f r.caps]
abbrev rndV (r : Rnd) : V := .agg (r.cells.map .d)
def stateF : List Mt → (Int → Bool) → Int → Int
  | [], kn, c => if kn c then 0 else 2
  | m :: l, kn, c => if c = m.home then 1 else if c = m.away then -1 else stateF l kn c
theorem stateF_home {kn : Int → Bool} {c : Int} : ∀ {l : List Mt} {i : Nat} (hi : i < l.length), (∀ (j : Nat) (hj : j < l.length), j < i → c ≠ l[j].home ∧ c ≠ l[j].away) → c = l[i].home → stateF l kn c = 1
  | m :: l, 0, _, _, h => by simp only [stateF]; rw [if_pos (by simpa using h)]
  | m :: l, i + 1, hi, hb, h => by
    have h0 := hb 0 (by simp) (by omega)
    simp only [List.getElem_cons_zero] at h0
    rw [stateF, if_neg h0.1, if_neg h0.2]
    exact stateF_home (i := i) (by simpa using hi) (fun j hj hji => hb (j + 1) (by simpa using hj) (by omega)) (by simpa using h)
theorem stateF_away {kn : Int → Bool} {c : Int} : ∀ {l : List Mt} {i : Nat} (hi : i < l.length), (∀ (j : Nat) (hj : j < l.length), j < i → c ≠ l[j].home ∧ c ≠ l[j].away) → c ≠ l[i].home → c = l[i].away → stateF l kn c = -1
  | m :: l, 0, _, _, h, h' => by simp only [stateF]; rw [if_neg (by simpa using h), if_pos (by simpa using h')]
  | m :: l, i + 1, hi, hb, h, h' => by
    have h0 := hb 0 (by simp) (by omega)
    simp only [List.getElem_cons_zero] at h0
    rw [stateF, if_neg h0.1, if_neg h0.2]
    exact stateF_away (i := i) (by simpa using hi) (fun j hj hji => hb (j + 1) (by simpa using hj) (by omega)) (by simpa using h) (by simpa using h')
theorem stateF_none {kn : Int → Bool} {c : Int} : ∀ {l : List Mt}, (∀ (j : Nat) (hj : j < l.length), c ≠ l[j].home ∧ c ≠ l[j].away) → stateF l kn c = if kn c then 0 else 2
  | [], _ => rfl
  | m :: l, hb => by
    have h0 := hb 0 (by simp)
    simp only [List.getElem_cons_zero] at h0
    rw [stateF, if_neg h0.1, if_neg h0.2]
    exact stateF_none (fun j hj => hb (j + 1) (by simpa using hj))
structure FarS (l : List Mt) (c : Int) where
  i : Nat
  le : i ≤ l.length
  no : ∀ (j : Nat) (hj : j < l.length), j < i → c ≠ l[j].home ∧ c ≠ l[j].away
theorem state_c (r : Rnd) (c : Int) (h : k (I (stateF r.l r.kn c)) L) : CallP C 77 [rndV r, I c] L k := by
  have hlr := r.len
  refine CallP.pure ?_ rfl (fun _ => rfl) h
  clear h
  refine callP_of C_ok Try.func77 rfl rfl (n := _) rfl (Nat.le_of_ble_eq_true rfl) (rs := _) rfl ?_
  conv => whnf
  refine LoopP.intro (ι := FarS r.l c) (fun s => ⟨[(1, I c), (2, .ptr 0 0), (8, .d (mts r.l)), (9, I r.l.length), (10, I s.i)], 28, [.cells (r.cells.map .d)], [], none⟩) (fun s => r.l.length - s.i) ⟨0, Nat.zero_le _, fun j _ h => absurd h (Nat.not_lt_zero j)⟩ ?_ ?_
  · exact Weak.by ⟨rfl, rfl, rfl, congrArg I (by simp), rfl, trivial⟩
  intro s
  conv => whnf
  refine Br.dec (fun h => ?_) (fun h => ?_)
  · have hi : s.i < r.l.length := by simpa using h
    repeat' (conv => whnf
             first | refine Br.tt ?_ | refine Br.ff ?_ | refine Br.dec (fun h => ?_) (fun h => ?_) | refine Br.not ?_ | refine Br.intro (fun h => ?_) (fun h => ?_) | refine GetE.intro _ rfl ?_ | refine Need.intro rfl ?_ | refine DrawP.go mixed rfl ?_ | refine Idx.map s.i rfl hi ?_)
    all_goals conv => whnf
    · exact FinP.drop (n := 0) rfl (Nat.le_refl 0) rfl rfl ⟨rfl, congrArg I (stateF_home hi s.no h).symm⟩
    · rename_i h1
      exact FinP.drop (n := 0) rfl (Nat.le_refl 0) rfl rfl ⟨rfl, congrArg I (stateF_away hi s.no h1 h).symm⟩
    · rename_i h1
      exact ⟨⟨s.i + 1, hi, fun j hj hji => by
        by_cases e : j = s.i
        · subst e; exact ⟨h1, h⟩
        · exact s.no j hj (by omega)⟩, by simp only []; omega, Weak.to 1 rfl (Nat.zero_le _) (Nat.le_of_ble_eq_true rfl) ⟨rfl, rfl, rfl, rfl, congrArg I (by rw [wrap_in (by omega)]; simp only []; omega), trivial⟩⟩
  · have hi : ¬ s.i < r.l.length := by simpa using h
    have hs := stateF_none (kn := r.kn) (c := c) (l := r.l) fun j hj => s.no j hj (by omega)
    repeat' (conv => whnf
             first | refine Br.tt ?_ | refine Br.ff ?_ | refine Br.dec (fun h => ?_) (fun h => ?_) | refine Br.not ?_ | refine Br.intro (fun h => ?_) (fun h => ?_) | refine GetE.intro _ rfl ?_ | refine Need.intro rfl ?_ | refine DrawP.go mixed rfl ?_ | refine r.ok _ _ _ ?_)
    all_goals conv => whnf
    · rename_i h1
      exact FinP.drop (n := 0) rfl (Nat.le_refl 0) rfl rfl ⟨rfl, congrArg I (by rw [hs, h]; rfl)⟩
    · rename_i h1
      exact FinP.drop (n := 0) rfl (Nat.le_refl 0) rfl rfl ⟨rfl, congrArg I (by rw [hs, h]; rfl)⟩
def meetF (l : List Mt) (a b : Int) : Bool := l.contains ⟨a, b⟩ || l.contains ⟨b, a⟩
theorem meet_c (r : Rnd) (a b : Int) (h : k (B (meetF r.l a b)) L) : CallP C 76 [rndV r, I a, I b] L k := by
  refine CallP.pure ?_ rfl (fun _ => rfl) h
  clear h
  refine callP_of C_ok Try.func76 rfl rfl (n := _) rfl (Nat.le_of_ble_eq_true rfl) (rs := _) rfl ?_
  conv => whnf
  refine mcontains_c r.l ⟨a, b⟩ r.len ?_
  repeat' (conv => whnf
           first | refine Br.tt ?_ | refine Br.ff ?_ | refine Br.dec (fun h => ?_) (fun h => ?_) | refine Br.not ?_ | refine Br.intro (fun h => ?_) (fun h => ?_) | refine GetE.intro _ rfl ?_ | refine Need.intro rfl ?_ | refine DrawP.go mixed rfl ?_ | refine mcontains_c r.l ⟨b, a⟩ r.len ?_)
  all_goals conv => whnf
  all_goals refine FinP.drop (n := 0) rfl (Nat.le_refl 0) rfl rfl ⟨rfl, congrArg B ?_⟩
  all_goals simp_all [meetF]
def atF (r : Rnd) (clubs : List Int) : Nat := clubs.countP fun c => decide (stateF r.l r.kn c = 1)
theorem at_c (r : Rnd) (clubs : List Int) (hl : clubs.length ≤ 4611686018427387904) (h : k (I (atF r clubs)) L) : CallP C 110 [rndV r, .d (ints clubs)] L k := by
  refine CallP.pure ?_ rfl (fun _ => rfl) h
  clear h
  refine callP_of C_ok Try.func110 rfl rfl (n := _) rfl (Nat.le_of_ble_eq_true rfl) (rs := _) rfl ?_
  conv => whnf
  refine LoopP.intro (ι := { j : Nat // j ≤ clubs.length }) (fun j => ⟨[(1, .d (ints clubs)), (2, .ptr 0 0), (4, I (atF r (clubs.take j.1))), (7, .d (ints clubs)), (8, I clubs.length), (9, I j.1)], Try.f110.ntmps, [.cells (r.cells.map .d)], [], none⟩) (fun j => clubs.length - j.1) ⟨0, Nat.zero_le _⟩ ?_ ?_
  · exact Weak.by ⟨rfl, rfl, rfl, rfl, congrArg I (by simp), rfl, trivial⟩
  rintro ⟨j, hj⟩
  conv => whnf
  refine Br.dec (fun hb => ?_) (fun hb => ?_)
  · have hj' : j < clubs.length := by simpa using hb
    have hcnt : atF r (clubs.take j) ≤ j := Nat.le_trans List.countP_le_length (by simp; omega)
    have hw : IntKind.i64.wrap ((j : Int) + 1) = ((j + 1 : Nat) : Int) := by rw [wrap_in (by omega)]; omega
    have hw2 : IntKind.i64.wrap ((atF r (clubs.take j) : Int) + 1) = ((atF r (clubs.take j) + 1 : Nat) : Int) := by rw [wrap_in (by omega)]; omega
    have hnext : atF r (clubs.take (j + 1)) = atF r (clubs.take j) + if stateF r.l r.kn clubs[j] = 1 then 1 else 0 := by
      unfold atF; rw [take_next hj', List.countP_append]; simp [List.countP_cons]
    repeat' (conv => whnf
             first | refine Br.tt ?_ | refine Br.ff ?_ | refine Br.dec (fun h => ?_) (fun h => ?_) | refine Br.not ?_ | refine Br.intro (fun h => ?_) (fun h => ?_) | refine GetE.intro _ rfl ?_ | refine Need.intro rfl ?_ | refine DrawP.go mixed rfl ?_ | refine Idx.map j rfl hj' ?_ | refine state_c r _ ?_ | refine QCall.intro _ (state_c r _ ⟨rfl, rfl⟩) ?_)
    all_goals conv => whnf
    · rw [if_pos h] at hnext
      exact ⟨⟨j + 1, hj'⟩, by simp only []; omega, Weak.by ⟨rfl, rfl, congrArg I (hw2.trans (congrArg Nat.cast hnext.symm)), rfl, rfl, congrArg I hw, trivial⟩⟩
    · rw [if_neg h] at hnext
      exact ⟨⟨j + 1, hj'⟩, by simp only []; omega, Weak.by ⟨rfl, rfl, congrArg I (congrArg Nat.cast hnext.symm), rfl, rfl, congrArg I hw, trivial⟩⟩
  · have hje : clubs.take j = clubs := List.take_of_length_le (by simp at hb; omega)
    repeat' (conv => whnf
             first | refine Br.tt ?_ | refine Br.ff ?_ | refine Br.dec (fun h => ?_) (fun h => ?_) | refine Br.not ?_ | refine Br.intro (fun h => ?_) (fun h => ?_) | refine GetE.intro _ rfl ?_ | refine Need.intro rfl ?_ | refine DrawP.go mixed rfl ?_)
    conv => whnf
    exact FinP.drop (n := 0) rfl (Nat.le_refl 0) rfl rfl ⟨rfl, congrArg I (by simp only [hje])⟩
end Go.Proofs.Ytjknhbfcdjjbhaa
