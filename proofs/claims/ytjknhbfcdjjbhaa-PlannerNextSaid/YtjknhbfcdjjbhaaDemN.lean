/-
  demands' reference: matches and rounds.
-/
import Derived.Test.YtjknhbfcdjjbhaaDemM
namespace Go.Proofs.Ytjknhbfcdjjbhaa
open Go.Tidy
set_option maxRecDepth 100000
set_option maxHeartbeats 0
set_option linter.unusedSimpArgs false
set_option linter.unusedVariables false
variable {L : List Blk} {k : V → List Blk → Prop}
def playsM (m : Mt) (c : Int) : Bool := decide (m.home = c) || decide (m.away = c)
theorem rplays_c (m : Mt) (c : Int) (h : k (B (playsM m c)) L) : CallP C 99 [mtV m, I c] L k := by
  refine CallP.pure ?_ rfl (fun _ => rfl) h
  clear h
  refine callP_of C_ok Try.func99 rfl rfl (n := _) rfl (Nat.le_of_ble_eq_true rfl) (rs := _) rfl ?_
  repeat' (conv => whnf
           first | refine Br.tt ?_ | refine Br.ff ?_ | refine Br.dec (fun h => ?_) (fun h => ?_) | refine Br.not ?_ | refine Br.intro (fun h => ?_) (fun h => ?_) | refine GetE.intro _ rfl ?_ | refine Need.intro rfl ?_ | refine DrawP.go mixed rfl ?_)
  all_goals conv => whnf
  all_goals refine FinP.drop (n := 0) rfl (Nat.le_refl 0) rfl rfl ⟨rfl, congrArg B ?_⟩
  all_goals simp_all [playsM]
def betwM (m : Mt) (a b : Int) : Bool := (decide (m.home = a) && decide (m.away = b)) || (decide (m.home = b) && decide (m.away = a))
theorem rbetween_c (m : Mt) (a b : Int) (h : k (B (betwM m a b)) L) : CallP C 55 [mtV m, I a, I b] L k := by
  refine CallP.pure ?_ rfl (fun _ => rfl) h
  clear h
  refine callP_of C_ok Try.func55 rfl rfl (n := _) rfl (Nat.le_of_ble_eq_true rfl) (rs := _) rfl ?_
  repeat' (conv => whnf
           first | refine Br.tt ?_ | refine Br.ff ?_ | refine Br.dec (fun h => ?_) (fun h => ?_) | refine Br.not ?_ | refine Br.intro (fun h => ?_) (fun h => ?_) | refine GetE.intro _ rfl ?_ | refine Need.intro rfl ?_ | refine DrawP.go mixed rfl ?_)
  all_goals conv => whnf
  all_goals refine FinP.drop (n := 0) rfl (Nat.le_refl 0) rfl rfl ⟨rfl, congrArg B ?_⟩
  all_goals simp_all [betwM]
theorem rfirst_c (m : Mt) (h : k (I (firstM m)) L) : CallP C 98 [mtV m] L k := by
  refine CallP.pure ?_ rfl (fun _ => rfl) h
  clear h
  refine callP_of C_ok Try.func98 rfl rfl (n := _) rfl (Nat.le_of_ble_eq_true rfl) (rs := _) rfl ?_
  repeat' (conv => whnf
           first | refine Br.tt ?_ | refine Br.ff ?_ | refine Br.dec (fun h => ?_) (fun h => ?_) | refine Br.not ?_ | refine Br.intro (fun h => ?_) (fun h => ?_) | refine GetE.intro _ rfl ?_ | refine Need.intro rfl ?_ | refine DrawP.go mixed rfl ?_)
  all_goals conv => whnf
  exact FinP.drop (n := 0) rfl (Nat.le_refl 0) rfl rfl ⟨rfl, rfl⟩
def busyB (r : List Mt) (c : Int) : Bool := r.any fun m => playsM m c
theorem rbusy_c (r : List Mt) (c : Int) (hl : r.length ≤ 4611686018427387904) (h : k (B (busyB r c)) L) : CallP C 100 [.d (mts r), I c] L k := by
  refine CallP.pure ?_ rfl (fun _ => rfl) h
  clear h
  refine callP_of C_ok Try.func100 rfl rfl (n := _) rfl (Nat.le_of_ble_eq_true rfl) (rs := _) rfl ?_
  conv => whnf
  refine LoopP.inv (fun i => i ≤ r.length ∧ ∀ (j : Nat) (hj : j < r.length), j < i → playsM r[j] c = false) (fun i => ⟨[(0, .d (mts r)), (1, I c), (4, B false), (5, I i)], Try.f100.ntmps, [], [], none⟩) (fun i => r.length - i) 0 ⟨Nat.zero_le _, fun j _ h => absurd h (Nat.not_lt_zero j)⟩ ?_ ?_
  · exact Weak.by ⟨rfl, rfl, rfl, rfl, trivial⟩
  rintro i ⟨hi, hno⟩
  conv => whnf
  refine Br.dec (fun hb => ?_) (fun hb => ?_)
  · have hi' : i < r.length := by simpa using hb
    have hw : IntKind.i64.wrap ((i : Int) + 1) = ((i + 1 : Nat) : Int) := by rw [wrap_in (by omega)]; omega
    repeat' (conv => whnf
             first | refine Idx.map i rfl hi' ?_ | refine rplays_c r[i] c ?_ | refine QCall.intro _ (rplays_c r[i] c ⟨rfl, rfl⟩) ?_ | refine Br.tt ?_ | refine Br.ff ?_ | refine Br.dec (fun h => ?_) (fun h => ?_) | refine Br.not ?_ | refine Br.intro (fun h => ?_) (fun h => ?_) | refine GetE.intro _ rfl ?_ | refine Need.intro rfl ?_ | refine DrawP.go mixed rfl ?_)
    all_goals conv => whnf
    · exact FinP.drop (n := 0) rfl (Nat.le_refl 0) rfl rfl ⟨rfl, congrArg B (List.any_eq_true.2 ⟨r[i], List.getElem_mem hi', h⟩).symm⟩
    · exact ⟨i + 1, ⟨hi', fun j hj hji => by
        by_cases e : j = i
        · subst e; exact h
        · exact hno j hj (by omega)⟩, by omega, Weak.by ⟨rfl, rfl, rfl, congrArg I hw, trivial⟩⟩
  · have hie : i = r.length := by simp at hb; omega
    repeat' (conv => whnf
             first | refine Br.tt ?_ | refine Br.ff ?_ | refine Br.dec (fun h => ?_) (fun h => ?_) | refine Br.not ?_ | refine Br.intro (fun h => ?_) (fun h => ?_) | refine GetE.intro _ rfl ?_ | refine Need.intro rfl ?_ | refine DrawP.go mixed rfl ?_)
    conv => whnf
    refine FinP.drop (n := 0) rfl (Nat.le_refl 0) rfl rfl ⟨rfl, congrArg B ?_⟩
    symm
    unfold busyB
    rw [List.any_eq_false]
    intro m hm
    obtain ⟨j, hj, rfl⟩ := List.getElem_of_mem hm
    rw [hno j hj (by omega)]; decide
def OkR (cl : List Int) (r : List Mt) (i : Nat) (hi : i < r.length) : Prop :=
  r[i].home ≠ r[i].away ∧ r[i].home ∈ cl ∧ r[i].away ∈ cl ∧ (0 < i → firstM (r[i - 1]'(by omega)) < firstM r[i]) ∧ ∀ (j : Nat) (hj : j < r.length), j < i → playsM r[j] r[i].home = false ∧ playsM r[j] r[i].away = false
def leftR (cl : List Int) (r : List Mt) : Nat := cl.countP fun c => decide (c < lastM r) && !busyB r c
def RndR (cl : List Int) (r : List Mt) : Prop := (∀ (i : Nat) (hi : i < r.length), OkR cl r i hi) ∧ r ≠ [] ∧ leftR cl r ≤ cl.length % 2
instance (cl : List Int) (r : List Mt) (i : Nat) (hi : i < r.length) : Decidable (OkR cl r i hi) := by unfold OkR; infer_instance
instance (cl : List Int) (r : List Mt) : Decidable (RndR cl r) := by unfold RndR; infer_instance
theorem rround_c (r : List Mt) (cl : List Int) (hl : r.length ≤ 4611686018427387904) (hc : cl.length ≤ 4611686018427387904) (h : k (B (decide (RndR cl r))) L) : CallP C 54 [.d (mts r), .d (ints cl)] L k := by
  refine CallP.pure ?_ rfl (fun _ => rfl) h
  clear h
  refine callP_of C_ok Try.func54 rfl rfl (n := _) rfl (Nat.le_of_ble_eq_true rfl) (rs := _) rfl ?_
  conv => whnf
  refine LoopP.inv (fun i => i ≤ r.length ∧ ∀ (j : Nat) (hj : j < r.length), j < i → OkR cl r j hj) (fun i => ⟨[(0, .d (mts r)), (1, .d (ints cl)), (4, B false), (5, I i)], Try.f54.ntmps, [], [], none⟩) (fun i => r.length - i) 0 ⟨Nat.zero_le _, fun j _ h => absurd h (Nat.not_lt_zero j)⟩ ?_ ?_
  · exact Weak.by ⟨rfl, rfl, rfl, rfl, trivial⟩
  rintro i ⟨hi, hok⟩
  conv => whnf
  refine Br.dec (fun hb => ?_) (fun hb => ?_)
  · have hi' : i < r.length := by simpa using hb
    have hw : IntKind.i64.wrap ((i : Int) + 1) = ((i + 1 : Nat) : Int) := by rw [wrap_in (by omega)]; omega
    obtain ⟨m, hm⟩ : ∃ m, m = r[i] := ⟨_, rfl⟩
    have r1 : (r.map Mt.cells)[i]? = some m.cells := by rw [List.getElem?_map, List.getElem?_eq_getElem hi', hm]; rfl
    have hfail : ¬ OkR cl r i hi' → false = decide (RndR cl r) := fun h => (decide_eq_false fun hr => h (hr.1 i hi')).symm
    have hO : OkR cl r i hi' ↔ m.home ≠ m.away ∧ m.home ∈ cl ∧ m.away ∈ cl ∧ (0 < i → firstM (r[i - 1]'(by omega)) < firstM m) ∧ ∀ (j : Nat) (hj : j < r.length), j < i → playsM r[j] m.home = false ∧ playsM r[j] m.away = false := by
      subst hm; exact Iff.rfl
    repeat' (conv => whnf
             first | refine Idx.intro i _ rfl r1 ?_ | refine member_c cl _ hc ?_ | refine QCall.intro _ (member_c cl _ hc ⟨rfl, rfl⟩) ?_ | refine Idx.map (i - 1) (by rw [wrap_in] <;> omega) (by omega) ?_ | refine QCall.intro _ (rfirst_c _ ⟨rfl, rfl⟩) ?_ | refine Br.tt ?_ | refine Br.ff ?_ | refine Br.dec (fun h => ?_) (fun h => ?_) | refine Br.not ?_ | refine Br.intro (fun h => ?_) (fun h => ?_) | refine GetE.intro _ rfl ?_ | refine Need.intro rfl ?_ | refine DrawP.go mixed rfl ?_)
    all_goals conv => whnf
    all_goals first
      | exact FinP.drop (n := 0) rfl (Nat.le_refl 0) rfl rfl ⟨rfl, congrArg B (hfail fun h0 => (hO.1 h0).1 ‹m.home = m.away›)⟩
      | exact FinP.drop (n := 0) rfl (Nat.le_refl 0) rfl rfl ⟨rfl, congrArg B (hfail fun h0 => Bool.noConfusion ((‹cl.contains m.home = false›).symm.trans (List.contains_iff_mem.2 (hO.1 h0).2.1)))⟩
      | exact FinP.drop (n := 0) rfl (Nat.le_refl 0) rfl rfl ⟨rfl, congrArg B (hfail fun h0 => Bool.noConfusion ((‹cl.contains m.away = false›).symm.trans (List.contains_iff_mem.2 (hO.1 h0).2.2.1)))⟩
      | exact FinP.drop (n := 0) rfl (Nat.le_refl 0) rfl rfl ⟨rfl, congrArg B (hfail fun h0 => by have := (hO.1 h0).2.2.2.1 (by omega); omega)⟩
      | skip
    all_goals
      have hfst : 0 < i → firstM (r[i - 1]'(by omega)) < firstM m := fun h0 => by omega
      refine LoopP.inv (fun c => c ≤ i ∧ ∀ (j : Nat) (hj : j < r.length), j < c → playsM r[j] m.home = false ∧ playsM r[j] m.away = false) (fun c => ⟨[(0, .d (mts r)), (1, .d (ints cl)), (4, B false), (5, I i), (6, .ptr 0 0), (7, I c)], Try.f54.ntmps, [.cells (m.cells.map .d)], [], none⟩) (fun c => i - c) 0 ⟨Nat.zero_le _, fun j _ h => absurd h (Nat.not_lt_zero j)⟩ ?_ ?_
      · exact Weak.by ⟨rfl, rfl, rfl, rfl, rfl, rfl, trivial⟩
      rintro c ⟨hc1, hno⟩
      conv => whnf
      refine Br.dec (fun hb2 => ?_) (fun hb2 => ?_)
      · have hc' : c < i := by omega
        have hcr : c < r.length := by omega
        have hw2 : IntKind.i64.wrap ((c : Int) + 1) = ((c + 1 : Nat) : Int) := by rw [wrap_in (by omega)]; omega
        repeat' (conv => whnf
                 first | refine Idx.map c rfl hcr ?_ | refine QCall.intro _ (rplays_c r[c] _ ⟨rfl, rfl⟩) ?_ | refine Br.tt ?_ | refine Br.ff ?_ | refine Br.dec (fun h => ?_) (fun h => ?_) | refine Br.not ?_ | refine Br.intro (fun h => ?_) (fun h => ?_) | refine GetE.intro _ rfl ?_ | refine Need.intro rfl ?_ | refine DrawP.go mixed rfl ?_)
        all_goals conv => whnf
        · exact FinP.drop (n := 0) rfl (Nat.le_refl 0) rfl rfl ⟨rfl, congrArg B (hfail fun h0 => by have := ((hO.1 h0).2.2.2.2 c hcr hc').1; rw [h] at this; cases this)⟩
        · exact FinP.drop (n := 0) rfl (Nat.le_refl 0) rfl rfl ⟨rfl, congrArg B (hfail fun h0 => by have := ((hO.1 h0).2.2.2.2 c hcr hc').2; rw [h] at this; cases this)⟩
        · rename_i h1
          exact ⟨c + 1, ⟨hc', fun j hj hji => by
            by_cases e : j = c
            · subst e; exact ⟨h1, h⟩
            · exact hno j hj (by omega)⟩, by omega, Weak.to 1 rfl (Nat.zero_le _) (Nat.le_of_ble_eq_true rfl) ⟨rfl, rfl, rfl, rfl, rfl, congrArg I hw2, trivial⟩⟩
      · have hce : c = i := by omega
        subst hce
        have hok1 : OkR cl r c hi' := hO.2 ⟨‹¬ m.home = m.away›, List.contains_iff_mem.1 ‹cl.contains m.home = true›, List.contains_iff_mem.1 ‹cl.contains m.away = true›, hfst, fun j hj hji => hno j hj hji⟩
        repeat' (conv => whnf
                 first | refine Br.tt ?_ | refine Br.ff ?_ | refine Br.dec (fun h => ?_) (fun h => ?_) | refine Br.not ?_ | refine Br.intro (fun h => ?_) (fun h => ?_) | refine GetE.intro _ rfl ?_ | refine Need.intro rfl ?_ | refine DrawP.go mixed rfl ?_)
        conv => whnf
        exact ⟨c + 1, ⟨hi', fun j hj hji => by
          by_cases e : j = c
          · subst e; exact hok1
          · exact hok j hj (by omega)⟩, by omega, Weak.to 0 rfl (Nat.zero_le _) (Nat.zero_le _) ⟨rfl, rfl, rfl, congrArg I hw, trivial⟩⟩
  · have hie : i = r.length := by simp at hb; omega
    repeat' (conv => whnf
             first | refine Br.tt ?_ | refine Br.ff ?_ | refine Br.dec (fun h => ?_) (fun h => ?_) | refine Br.not ?_ | refine Br.intro (fun h => ?_) (fun h => ?_) | refine GetE.intro _ rfl ?_ | refine Need.intro rfl ?_ | refine DrawP.go mixed rfl ?_)
    all_goals conv => whnf
    · exact FinP.drop (n := 0) rfl (Nat.le_refl 0) rfl rfl ⟨rfl, congrArg B (decide_eq_false fun hr => hr.2.1 (List.eq_nil_of_length_eq_zero (by simp only [List.length_map] at h; omega))).symm⟩
    · have hne : r.length ≠ 0 := by simp only [List.length_map] at h; omega
      have hlm : lastM r = firstM (r[r.length - 1]'(by omega)) := by unfold lastM; rw [List.getLast?_eq_getElem?, List.getElem?_eq_getElem (by omega)]
      refine LoopP.inv (fun c => c ≤ cl.length) (fun c => ⟨[(0, .d (mts r)), (1, .d (ints cl)), (4, B false), (8, I (leftR (cl.take c) r)), (9, I c)], Try.f54.ntmps, [], [], none⟩) (fun c => cl.length - c) 0 (Nat.zero_le _) ?_ ?_
      · exact Weak.by ⟨rfl, rfl, rfl, rfl, rfl, trivial⟩
      intro c hc1
      conv => whnf
      refine Br.dec (fun hb2 => ?_) (fun hb2 => ?_)
      · have hc' : c < cl.length := by simpa using hb2
        have hw2 : IntKind.i64.wrap ((c : Int) + 1) = ((c + 1 : Nat) : Int) := by rw [wrap_in (by omega)]; omega
        have hcnt : leftR (cl.take c) r ≤ c := Nat.le_trans List.countP_le_length (by simp; omega)
        have hw3 : IntKind.i64.wrap ((leftR (cl.take c) r : Int) + 1) = ((leftR (cl.take c) r + 1 : Nat) : Int) := by rw [wrap_in (by omega)]; omega
        have hnext : leftR (cl.take (c + 1)) r = leftR (cl.take c) r + if decide (cl[c] < lastM r) && !busyB r cl[c] then 1 else 0 := by
          unfold leftR; rw [take_next hc', List.countP_append]; simp [List.countP_cons]
        rw [hlm] at hnext
        repeat' (conv => whnf
                 first | refine Idx.map c rfl hc' ?_ | refine Idx.map (r.length - 1) (by rw [List.length_map, wrap_in] <;> omega) (by omega) ?_ | refine QCall.intro _ (rfirst_c _ ⟨rfl, rfl⟩) ?_ | refine QCall.intro _ (rbusy_c r _ hl ⟨rfl, rfl⟩) ?_ | refine Br.tt ?_ | refine Br.ff ?_ | refine Br.dec (fun h => ?_) (fun h => ?_) | refine Br.not ?_ | refine Br.intro (fun h => ?_) (fun h => ?_) | refine GetE.intro _ rfl ?_ | refine Need.intro rfl ?_ | refine DrawP.go mixed rfl ?_)
        all_goals conv => whnf
        · rename_i h1
          have hn : leftR (cl.take (c + 1)) r = leftR (cl.take c) r := by rw [hnext, h, decide_eq_true h1]; rfl
          exact ⟨c + 1, hc', by omega, Weak.to 0 rfl (Nat.zero_le _) (Nat.zero_le _) ⟨rfl, rfl, rfl, congrArg (fun n : Nat => I n) hn.symm, congrArg I hw2, trivial⟩⟩
        · rename_i h1
          have hn : leftR (cl.take (c + 1)) r = leftR (cl.take c) r + 1 := by rw [hnext, h, decide_eq_true h1]; rfl
          exact ⟨c + 1, hc', by omega, Weak.to 0 rfl (Nat.zero_le _) (Nat.zero_le _) ⟨rfl, rfl, rfl, congrArg I (hw3.trans (congrArg (fun n : Nat => (n : Int)) hn.symm)), congrArg I hw2, trivial⟩⟩
        · have hn : leftR (cl.take (c + 1)) r = leftR (cl.take c) r := by rw [hnext, decide_eq_false h]; rfl
          exact ⟨c + 1, hc', by omega, Weak.to 0 rfl (Nat.zero_le _) (Nat.zero_le _) ⟨rfl, rfl, rfl, congrArg (fun n : Nat => I n) hn.symm, congrArg I hw2, trivial⟩⟩
      · have hce : c = cl.length := by simp at hb2; omega
        subst hce
        have hmod : ((cl.map fun n => [DI n]).length : Int).tmod 2 = ((cl.length % 2 : Nat) : Int) := by rw [List.length_map]; rfl
        repeat' (conv => whnf
                 first | refine Br.tt ?_ | refine Br.ff ?_ | refine Br.dec (fun h => ?_) (fun h => ?_) | refine Br.not ?_ | refine Br.intro (fun h => ?_) (fun h => ?_) | refine GetE.intro _ rfl ?_ | refine Need.intro rfl ?_ | refine DrawP.go mixed rfl ?_ | refine Need.intro (show (2 : Int) ≠ 0 by decide) ?_)
        conv => whnf
        refine FinP.drop (n := 0) rfl (Nat.le_refl 0) rfl rfl ⟨rfl, congrArg B ?_⟩
        rw [hmod, List.take_length]
        exact decide_eq_decide.2 ⟨fun h => ⟨fun j hj => hok j hj (by omega), fun e => hne (by rw [e]; rfl), by omega⟩, fun h => by have := h.2.2; omega⟩
end Go.Proofs.Ytjknhbfcdjjbhaa
