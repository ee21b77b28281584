/-
  The reference of demands: Check.
-/
import Derived.Test.YtjknhbfcdjjbhaaDemE
namespace Go.Proofs.Ytjknhbfcdjjbhaa
open Go.Tidy
set_option maxRecDepth 100000
set_option maxHeartbeats 0
set_option linter.unusedSimpArgs false
set_option linter.unusedVariables false
variable {L : List Blk} {k : V → List Blk → Prop}
theorem rclubs_c (l : List Int) (hl : l.length ≤ 4611686018427387904) (h : k (B (fieldOk l 2)) L) : CallP C 51 [.d (ints l)] L k := by
  refine CallP.pure ?_ rfl (fun _ => rfl) h
  clear h
  refine callP_of C_ok Try.func51 rfl rfl (n := _) rfl (Nat.le_of_ble_eq_true rfl) (rs := _) rfl ?_
  conv => whnf
  refine LoopP.intro (ι := FarOk l) (fun s => ⟨[(0, .d (ints l)), (3, I s.i)], 46, [], [], none⟩) (fun s => l.length - s.i) (FarOk.zero l) ?_ ?_
  · exact Weak.by ⟨rfl, rfl, trivial⟩
  intro s
  conv => whnf
  refine Br.dec (fun h => ?_) (fun h => ?_)
  · have hi : s.i < l.length := by simpa using h
    repeat' (conv => whnf
             first | refine Br.tt ?_ | refine Br.ff ?_ | refine Br.dec (fun h => ?_) (fun h => ?_) | refine Br.not ?_ | refine Br.intro (fun h => ?_) (fun h => ?_) | refine GetE.intro _ rfl ?_ | refine Need.intro rfl ?_ | refine DrawP.go mixed rfl ?_ | refine Idx.map s.i rfl hi ?_ | refine Idx.map (s.i - 1) (by rw [wrap_id] <;> omega) (by omega) ?_ | refine DrawP.all mixed rfl ?_ | refine FinP.drop (n := 0) rfl (Nat.le_refl 0) rfl rfl ⟨rfl, congrArg B ?_⟩)
    all_goals first
      | exact fieldOk_no (j := s.i) fun ho => by have := ((okAt_at hi).1 ho).1; omega
      | exact fieldOk_no (j := s.i) fun ho => by have := ((okAt_at hi).1 ho).2 (by omega); omega
      | exact ⟨s.next hi ((okAt_at hi).2 ⟨by omega, fun _ => by omega⟩), by simp only [FarOk.next]; omega, Weak.by ⟨rfl, congrArg I (by rw [wrap_id] <;> (try simp only [FarOk.next]) <;> omega), trivial⟩⟩
  · have hi : ¬ s.i < l.length := by simpa using h
    have hin := s.all hi
    repeat' (conv => whnf
             first | refine Br.tt ?_ | refine Br.ff ?_ | refine Br.dec (fun h => ?_) (fun h => ?_) | refine Br.not ?_ | refine Br.intro (fun h => ?_) (fun h => ?_) | refine GetE.intro _ rfl ?_ | refine Need.intro rfl ?_ | refine DrawP.go mixed rfl ?_ | refine FinP.drop (n := 0) rfl (Nat.le_refl 0) rfl rfl ⟨rfl, congrArg B ?_⟩)
    all_goals (simp at *)
    all_goals (rw [Bool.eq_iff_iff]; simp [fieldOk, hin]; omega)
structure FarN (l : List Int) (n : Int) where
  i : Nat
  le : i ≤ l.length
  no : ∀ (j : Nat) (hj : j < l.length), j < i → l[j] ≠ n
theorem member_c (l : List Int) (n : Int) (hl : l.length ≤ 4611686018427387904) (h : k (B (l.contains n)) L) : CallP C 95 [.d (ints l), I n] L k := by
  refine CallP.pure ?_ rfl (fun _ => rfl) h
  clear h
  refine callP_of C_ok Try.func95 rfl rfl (n := _) rfl (Nat.le_of_ble_eq_true rfl) (rs := _) rfl ?_
  conv => whnf
  refine LoopP.intro (ι := FarN l n) (fun s => ⟨[(0, .d (ints l)), (1, I n), (5, I s.i)], Try.f95.ntmps, [], [], none⟩) (fun s => l.length - s.i) ⟨0, Nat.zero_le _, fun j _ h => absurd h (Nat.not_lt_zero j)⟩ ?_ ?_
  · exact Weak.by ⟨rfl, rfl, rfl, trivial⟩
  intro s
  conv => whnf
  refine Br.dec (fun h => ?_) (fun h => ?_)
  · have hi : s.i < l.length := by simpa using h
    repeat' (conv => whnf
             first | refine Br.tt ?_ | refine Br.ff ?_ | refine Br.dec (fun h => ?_) (fun h => ?_) | refine Br.not ?_ | refine Br.intro (fun h => ?_) (fun h => ?_) | refine GetE.intro _ rfl ?_ | refine Need.intro rfl ?_ | refine DrawP.go mixed rfl ?_ | refine Idx.map s.i rfl hi ?_)
    all_goals conv => whnf
    · exact FinP.drop (n := 0) rfl (Nat.le_refl 0) rfl rfl ⟨rfl, congrArg B (by symm; simpa using h ▸ List.getElem_mem hi)⟩
    · exact ⟨⟨s.i + 1, hi, fun j hj hji => by
        by_cases e : j = s.i
        · subst e; exact h
        · exact s.no j hj (by omega)⟩, by simp only []; omega, Weak.by ⟨rfl, rfl, congrArg I (by rw [wrap_in (by omega)]; simp only []; omega), trivial⟩⟩
  · have hi : ¬ s.i < l.length := by simpa using h
    have hno : l.contains n = false := by
      rw [contains_dec]
      refine decide_eq_false fun hm => ?_
      obtain ⟨j, hj, rfl⟩ := List.getElem_of_mem hm
      exact s.no j hj (by omega) rfl
    repeat' (conv => whnf
             first | refine Br.tt ?_ | refine Br.ff ?_ | refine Br.dec (fun h => ?_) (fun h => ?_) | refine Br.not ?_ | refine Br.intro (fun h => ?_) (fun h => ?_) | refine GetE.intro _ rfl ?_ | refine Need.intro rfl ?_ | refine DrawP.go mixed rfl ?_)
    conv => whnf
    exact FinP.drop (n := 0) rfl (Nat.le_refl 0) rfl rfl ⟨rfl, congrArg B hno.symm⟩
theorem rrounds_c (p : Pl) (h1 : 1 ≤ p.clubs.length ∧ p.clubs.length ≤ 1000) (h : k (I (roundsN p)) L) : CallP C 53 [plV p] L k := by
  refine CallP.pure ?_ rfl (fun _ => rfl) h
  clear h
  refine callP_of C_ok Try.func53 rfl rfl (n := _) rfl (Nat.le_of_ble_eq_true rfl) (rs := _) rfl ?_
  have e : (p.clubs.length : Int).tmod 2 = ((p.clubs.length % 2 : Nat) : Int) := (Int.ofNat_tmod _ _).symm
  repeat' (conv => whnf
           first | refine Br.tt ?_ | refine Br.ff ?_ | refine Br.dec (fun h => ?_) (fun h => ?_) | refine Br.not ?_ | refine Br.intro (fun h => ?_) (fun h => ?_) | refine GetE.intro _ rfl ?_ | refine Need.intro rfl ?_ | refine DrawP.go mixed rfl ?_ | refine Need.intro (show (2 : Int) ≠ 0 by decide) ?_)
  all_goals conv => whnf
  all_goals refine FinP.drop (n := 0) rfl (Nat.le_refl 0) rfl rfl ⟨rfl, congrArg I ?_⟩
  all_goals simp only [List.length_map] at *
  all_goals rename_i hd
  all_goals rw [e] at h
  all_goals (unfold roundsN; rw [hd]; simp only [if_true, Bool.false_eq_true, if_false])
  · rw [wrap_in (n := (p.clubs.length : Int) - 1) (by omega), wrap_in (by omega)]; omega
  · rw [wrap_in (by omega)]; omega
  · rw [wrap_in (by omega)]; omega
  · omega
def onlyF (d : Dm) (a b c n cl : Bool) : Bool := (a || decide (d.club = 0)) && ((b || decide (d.other = 0)) && ((c || decide (d.round = 0)) && ((n || decide (d.n = 0)) && (cl || decide (d.clubs.length = 0)))))
theorem only_c (d : Dm) (a b c n cl : Bool) (h : k (B (onlyF d a b c n cl)) L) : CallP C 96 [dmV d, B a, B b, B c, B n, B cl] L k := by
  refine CallP.pure ?_ rfl (fun _ => rfl) h
  clear h
  refine callP_of C_ok Try.func96 rfl rfl (n := _) rfl (Nat.le_of_ble_eq_true rfl) (rs := _) rfl ?_
  repeat' (conv => whnf
           first | refine Br.tt ?_ | refine Br.ff ?_ | refine Br.dec (fun h => ?_) (fun h => ?_) | refine Br.not ?_ | refine Br.intro (fun h => ?_) (fun h => ?_) | refine GetE.intro _ rfl ?_ | refine Need.intro rfl ?_ | refine DrawP.go mixed rfl ?_)
  all_goals conv => whnf
  all_goals refine FinP.drop (n := 0) rfl (Nat.le_refl 0) rfl rfl ⟨rfl, congrArg B ?_⟩
  all_goals (try simp only [List.length_map] at *)
  all_goals simp_all [onlyF]
theorem some_c (d : Dm) (p : Pl) (hl : p.clubs.length ≤ 4611686018427387904) (hd : d.clubs.length ≤ 4611686018427387904) (h : k (B (someF p.clubs.contains d.clubs)) L) : CallP C 97 [dmV d, plV p] L k := by
  refine CallP.pure ?_ rfl (fun _ => rfl) h
  clear h
  refine callP_of C_ok Try.func97 rfl rfl (n := _) rfl (Nat.le_of_ble_eq_true rfl) (rs := _) rfl ?_
  conv => whnf
  refine LoopP.intro (ι := FarP p.clubs.contains d.clubs) (fun s => ⟨[(2, .ptr 0 0), (3, .ptr 1 0), (5, I s.i)], Try.f97.ntmps, [.cells (d.cells.map .d), .cells (p.cells.map .d)], [], none⟩) (fun s => d.clubs.length - s.i) (FarP.zero _ _) ?_ ?_
  · exact Weak.by ⟨rfl, rfl, rfl, trivial⟩
  intro s
  conv => whnf
  refine Br.dec (fun h => ?_) (fun h => ?_)
  · have hi : s.i < d.clubs.length := by simpa using h
    repeat' (conv => whnf
             first | refine Br.tt ?_ | refine Br.ff ?_ | refine Br.dec (fun h => ?_) (fun h => ?_) | refine Br.not ?_ | refine Br.intro (fun h => ?_) (fun h => ?_) | refine GetE.intro _ rfl ?_ | refine Need.intro rfl ?_ | refine DrawP.go mixed rfl ?_ | refine Idx.map s.i rfl hi ?_ | refine member_c p.clubs _ hl ?_ | refine QCall.intro _ (member_c p.clubs _ hl ⟨rfl, rfl⟩) ?_ | refine Idx.map (s.i - 1) (by rw [wrap_id] <;> omega) (by omega) ?_)
    all_goals conv => whnf
    · exact FinP.drop (n := 0) rfl (Nat.le_refl 0) rfl rfl ⟨rfl, congrArg B (someF_no (j := s.i) fun ho => by have := ((okAtP_at hi).1 ho).2 (by omega); omega)⟩
    · rename_i h2 h1
      exact ⟨s.next hi ((okAtP_at hi).2 ⟨h2, fun _ => by omega⟩), by simp only [FarP.next]; omega, Weak.by ⟨rfl, rfl, congrArg I (by rw [wrap_id] <;> (try simp only [FarP.next]) <;> omega), trivial⟩⟩
    · rename_i h2
      exact ⟨s.next hi ((okAtP_at hi).2 ⟨h2, fun _ => by omega⟩), by simp only [FarP.next]; omega, Weak.by ⟨rfl, rfl, congrArg I (by rw [wrap_id] <;> (try simp only [FarP.next]) <;> omega), trivial⟩⟩
    · exact FinP.drop (n := 0) rfl (Nat.le_refl 0) rfl rfl ⟨rfl, congrArg B (someF_no (j := s.i) fun ho => by rw [((okAtP_at hi).1 ho).1] at h; cases h)⟩
  · have hi : ¬ s.i < d.clubs.length := by simpa using h
    have hall := s.all hi
    repeat' (conv => whnf
             first | refine Br.tt ?_ | refine Br.ff ?_ | refine Br.dec (fun h => ?_) (fun h => ?_) | refine Br.not ?_ | refine Br.intro (fun h => ?_) (fun h => ?_) | refine GetE.intro _ rfl ?_ | refine Need.intro rfl ?_ | refine DrawP.go mixed rfl ?_)
    conv => whnf
    refine FinP.drop (n := 0) rfl (Nat.le_refl 0) rfl rfl ⟨rfl, congrArg B ?_⟩
    rw [someF, hall, Bool.true_and]
    exact decide_eq_decide.2 (by simp only [List.length_map]; omega)
theorem rvalid_c (d : Dm) (p : Pl) (hp : 1 ≤ p.clubs.length ∧ p.clubs.length ≤ 1000) (hd : d.clubs.length ≤ 4611686018427387904) (h : k (B (validF p d)) L) : CallP C 52 [dmV d, plV p] L k := by
  refine CallP.pure ?_ rfl (fun _ => rfl) h
  clear h
  refine callP_of C_ok Try.func52 rfl rfl (n := _) rfl (Nat.le_of_ble_eq_true rfl) (rs := _) rfl ?_
  have hl : p.clubs.length ≤ 4611686018427387904 := by omega
  rcases d with ⟨kd, cl, ot, ro, nn, cs⟩
  have hk : kd = 1 ∨ kd = 2 ∨ kd = 3 ∨ kd = 4 ∨ kd = 5 ∨ kd = 6 ∨ kd = 7 ∨ kd = 8 ∨ kd = 9 ∨ kd = 10 ∨ kd ∉ kindKs := by simp only [kindKs, List.mem_cons, List.not_mem_nil, or_false]; omega
  rcases hk with rfl | rfl | rfl | rfl | rfl | rfl | rfl | rfl | rfl | rfl | hk
  · skip
    have hv : validF p ⟨1, cl, ot, ro, nn, cs⟩ = v1 p ⟨1, cl, ot, ro, nn, cs⟩ := by simp [validF]
    conv => whnf
    refine member_c p.clubs cl hl ?_
    repeat' (conv => whnf
             first | refine Br.tt ?_ | refine Br.ff ?_ | refine Br.dec (fun h => ?_) (fun h => ?_) | refine Br.not ?_ | refine Br.intro (fun h => ?_) (fun h => ?_) | refine GetE.intro _ rfl ?_ | refine Need.intro rfl ?_ | refine DrawP.go mixed rfl ?_ | refine member_c p.clubs _ hl ?_ | refine QCall.intro _ (member_c p.clubs _ hl ⟨rfl, rfl⟩) ?_ | refine rrounds_c p hp ?_ | refine QCall.intro _ (rrounds_c p hp ⟨rfl, rfl⟩) ?_ | refine only_c _ _ _ _ _ _ ?_ | refine QCall.intro _ (only_c _ _ _ _ _ _ ⟨rfl, rfl⟩) ?_ | refine some_c _ p hl hd ?_ | refine QCall.intro _ (some_c _ p hl hd ⟨rfl, rfl⟩) ?_)
    all_goals conv => whnf
    all_goals refine FinP.drop (n := 0) rfl (Nat.le_refl 0) rfl rfl ⟨rfl, congrArg B ?_⟩
    all_goals (rw [hv]; clear hv hp hl hd; simp_all [v1, qClub, qOther, qRound, qClubs, qN, onlyF, zeroF] <;> (try (intros; first | omega | (exfalso; omega))))
  · skip
    have hv : validF p ⟨2, cl, ot, ro, nn, cs⟩ = v1 p ⟨2, cl, ot, ro, nn, cs⟩ := by simp [validF]
    conv => whnf
    refine member_c p.clubs cl hl ?_
    repeat' (conv => whnf
             first | refine Br.tt ?_ | refine Br.ff ?_ | refine Br.dec (fun h => ?_) (fun h => ?_) | refine Br.not ?_ | refine Br.intro (fun h => ?_) (fun h => ?_) | refine GetE.intro _ rfl ?_ | refine Need.intro rfl ?_ | refine DrawP.go mixed rfl ?_ | refine member_c p.clubs _ hl ?_ | refine QCall.intro _ (member_c p.clubs _ hl ⟨rfl, rfl⟩) ?_ | refine rrounds_c p hp ?_ | refine QCall.intro _ (rrounds_c p hp ⟨rfl, rfl⟩) ?_ | refine only_c _ _ _ _ _ _ ?_ | refine QCall.intro _ (only_c _ _ _ _ _ _ ⟨rfl, rfl⟩) ?_ | refine some_c _ p hl hd ?_ | refine QCall.intro _ (some_c _ p hl hd ⟨rfl, rfl⟩) ?_)
    all_goals conv => whnf
    all_goals refine FinP.drop (n := 0) rfl (Nat.le_refl 0) rfl rfl ⟨rfl, congrArg B ?_⟩
    all_goals (rw [hv]; clear hv hp hl hd; simp_all [v1, qClub, qOther, qRound, qClubs, qN, onlyF, zeroF] <;> (try (intros; first | omega | (exfalso; omega))))
  · skip
    have hv : validF p ⟨3, cl, ot, ro, nn, cs⟩ = v1 p ⟨3, cl, ot, ro, nn, cs⟩ := by simp [validF]
    conv => whnf
    refine member_c p.clubs cl hl ?_
    repeat' (conv => whnf
             first | refine Br.tt ?_ | refine Br.ff ?_ | refine Br.dec (fun h => ?_) (fun h => ?_) | refine Br.not ?_ | refine Br.intro (fun h => ?_) (fun h => ?_) | refine GetE.intro _ rfl ?_ | refine Need.intro rfl ?_ | refine DrawP.go mixed rfl ?_ | refine member_c p.clubs _ hl ?_ | refine QCall.intro _ (member_c p.clubs _ hl ⟨rfl, rfl⟩) ?_ | refine rrounds_c p hp ?_ | refine QCall.intro _ (rrounds_c p hp ⟨rfl, rfl⟩) ?_ | refine only_c _ _ _ _ _ _ ?_ | refine QCall.intro _ (only_c _ _ _ _ _ _ ⟨rfl, rfl⟩) ?_ | refine some_c _ p hl hd ?_ | refine QCall.intro _ (some_c _ p hl hd ⟨rfl, rfl⟩) ?_)
    all_goals conv => whnf
    all_goals refine FinP.drop (n := 0) rfl (Nat.le_refl 0) rfl rfl ⟨rfl, congrArg B ?_⟩
    all_goals (rw [hv]; clear hv hp hl hd; simp_all [v1, qClub, qOther, qRound, qClubs, qN, onlyF, zeroF] <;> (try (intros; first | omega | (exfalso; omega))))
  · skip
    have hv : validF p ⟨4, cl, ot, ro, nn, cs⟩ = v4 p ⟨4, cl, ot, ro, nn, cs⟩ := by simp [validF]
    conv => whnf
    refine member_c p.clubs cl hl ?_
    repeat' (conv => whnf
             first | refine Br.tt ?_ | refine Br.ff ?_ | refine Br.dec (fun h => ?_) (fun h => ?_) | refine Br.not ?_ | refine Br.intro (fun h => ?_) (fun h => ?_) | refine GetE.intro _ rfl ?_ | refine Need.intro rfl ?_ | refine DrawP.go mixed rfl ?_ | refine member_c p.clubs _ hl ?_ | refine QCall.intro _ (member_c p.clubs _ hl ⟨rfl, rfl⟩) ?_ | refine rrounds_c p hp ?_ | refine QCall.intro _ (rrounds_c p hp ⟨rfl, rfl⟩) ?_ | refine only_c _ _ _ _ _ _ ?_ | refine QCall.intro _ (only_c _ _ _ _ _ _ ⟨rfl, rfl⟩) ?_ | refine some_c _ p hl hd ?_ | refine QCall.intro _ (some_c _ p hl hd ⟨rfl, rfl⟩) ?_)
    all_goals conv => whnf
    all_goals refine FinP.drop (n := 0) rfl (Nat.le_refl 0) rfl rfl ⟨rfl, congrArg B ?_⟩
    all_goals (rw [hv]; clear hv hp hl hd; simp_all [v4, qClub, qOther, qRound, qClubs, qN, onlyF, zeroF] <;> (try (intros; first | omega | (exfalso; omega))))
  · skip
    have hv : validF p ⟨5, cl, ot, ro, nn, cs⟩ = v4 p ⟨5, cl, ot, ro, nn, cs⟩ := by simp [validF]
    conv => whnf
    refine member_c p.clubs cl hl ?_
    repeat' (conv => whnf
             first | refine Br.tt ?_ | refine Br.ff ?_ | refine Br.dec (fun h => ?_) (fun h => ?_) | refine Br.not ?_ | refine Br.intro (fun h => ?_) (fun h => ?_) | refine GetE.intro _ rfl ?_ | refine Need.intro rfl ?_ | refine DrawP.go mixed rfl ?_ | refine member_c p.clubs _ hl ?_ | refine QCall.intro _ (member_c p.clubs _ hl ⟨rfl, rfl⟩) ?_ | refine rrounds_c p hp ?_ | refine QCall.intro _ (rrounds_c p hp ⟨rfl, rfl⟩) ?_ | refine only_c _ _ _ _ _ _ ?_ | refine QCall.intro _ (only_c _ _ _ _ _ _ ⟨rfl, rfl⟩) ?_ | refine some_c _ p hl hd ?_ | refine QCall.intro _ (some_c _ p hl hd ⟨rfl, rfl⟩) ?_)
    all_goals conv => whnf
    all_goals refine FinP.drop (n := 0) rfl (Nat.le_refl 0) rfl rfl ⟨rfl, congrArg B ?_⟩
    all_goals (rw [hv]; clear hv hp hl hd; simp_all [v4, qClub, qOther, qRound, qClubs, qN, onlyF, zeroF] <;> (try (intros; first | omega | (exfalso; omega))))
  · skip
    have hv : validF p ⟨6, cl, ot, ro, nn, cs⟩ = v6 p ⟨6, cl, ot, ro, nn, cs⟩ := by simp [validF]
    conv => whnf
    refine member_c p.clubs cl hl ?_
    repeat' (conv => whnf
             first | refine Br.tt ?_ | refine Br.ff ?_ | refine Br.dec (fun h => ?_) (fun h => ?_) | refine Br.not ?_ | refine Br.intro (fun h => ?_) (fun h => ?_) | refine GetE.intro _ rfl ?_ | refine Need.intro rfl ?_ | refine DrawP.go mixed rfl ?_ | refine member_c p.clubs _ hl ?_ | refine QCall.intro _ (member_c p.clubs _ hl ⟨rfl, rfl⟩) ?_ | refine rrounds_c p hp ?_ | refine QCall.intro _ (rrounds_c p hp ⟨rfl, rfl⟩) ?_ | refine only_c _ _ _ _ _ _ ?_ | refine QCall.intro _ (only_c _ _ _ _ _ _ ⟨rfl, rfl⟩) ?_ | refine some_c _ p hl hd ?_ | refine QCall.intro _ (some_c _ p hl hd ⟨rfl, rfl⟩) ?_)
    all_goals conv => whnf
    all_goals refine FinP.drop (n := 0) rfl (Nat.le_refl 0) rfl rfl ⟨rfl, congrArg B ?_⟩
    all_goals (rw [hv]; clear hv hp hl hd; simp_all [v6, qClub, qOther, qRound, qClubs, qN, onlyF, zeroF] <;> (try (intros; first | omega | (exfalso; omega))))
  · skip
    have hv : validF p ⟨7, cl, ot, ro, nn, cs⟩ = v7 p ⟨7, cl, ot, ro, nn, cs⟩ := by simp [validF]
    conv => whnf
    refine member_c p.clubs cl hl ?_
    repeat' (conv => whnf
             first | refine Br.tt ?_ | refine Br.ff ?_ | refine Br.dec (fun h => ?_) (fun h => ?_) | refine Br.not ?_ | refine Br.intro (fun h => ?_) (fun h => ?_) | refine GetE.intro _ rfl ?_ | refine Need.intro rfl ?_ | refine DrawP.go mixed rfl ?_ | refine member_c p.clubs _ hl ?_ | refine QCall.intro _ (member_c p.clubs _ hl ⟨rfl, rfl⟩) ?_ | refine rrounds_c p hp ?_ | refine QCall.intro _ (rrounds_c p hp ⟨rfl, rfl⟩) ?_ | refine only_c _ _ _ _ _ _ ?_ | refine QCall.intro _ (only_c _ _ _ _ _ _ ⟨rfl, rfl⟩) ?_ | refine some_c _ p hl hd ?_ | refine QCall.intro _ (some_c _ p hl hd ⟨rfl, rfl⟩) ?_)
    all_goals conv => whnf
    all_goals refine FinP.drop (n := 0) rfl (Nat.le_refl 0) rfl rfl ⟨rfl, congrArg B ?_⟩
    all_goals (rw [hv]; clear hv hp hl hd; simp_all [v7, qClub, qOther, qRound, qClubs, qN, onlyF, zeroF] <;> (try (intros; first | omega | (exfalso; omega))))
  · skip
    have hv : validF p ⟨8, cl, ot, ro, nn, cs⟩ = v8 p ⟨8, cl, ot, ro, nn, cs⟩ := by simp [validF]
    conv => whnf
    refine member_c p.clubs cl hl ?_
    repeat' (conv => whnf
             first | refine Br.tt ?_ | refine Br.ff ?_ | refine Br.dec (fun h => ?_) (fun h => ?_) | refine Br.not ?_ | refine Br.intro (fun h => ?_) (fun h => ?_) | refine GetE.intro _ rfl ?_ | refine Need.intro rfl ?_ | refine DrawP.go mixed rfl ?_ | refine member_c p.clubs _ hl ?_ | refine QCall.intro _ (member_c p.clubs _ hl ⟨rfl, rfl⟩) ?_ | refine rrounds_c p hp ?_ | refine QCall.intro _ (rrounds_c p hp ⟨rfl, rfl⟩) ?_ | refine only_c _ _ _ _ _ _ ?_ | refine QCall.intro _ (only_c _ _ _ _ _ _ ⟨rfl, rfl⟩) ?_ | refine some_c _ p hl hd ?_ | refine QCall.intro _ (some_c _ p hl hd ⟨rfl, rfl⟩) ?_)
    all_goals conv => whnf
    all_goals refine FinP.drop (n := 0) rfl (Nat.le_refl 0) rfl rfl ⟨rfl, congrArg B ?_⟩
    all_goals (rw [hv]; clear hv hp hl hd; simp_all [v8, qClub, qOther, qRound, qClubs, qN, onlyF, zeroF] <;> (try (intros; first | omega | (exfalso; omega))))
  · skip
    have hv : validF p ⟨9, cl, ot, ro, nn, cs⟩ = v9 p ⟨9, cl, ot, ro, nn, cs⟩ := by simp [validF]
    conv => whnf
    refine member_c p.clubs cl hl ?_
    repeat' (conv => whnf
             first | refine Br.tt ?_ | refine Br.ff ?_ | refine Br.dec (fun h => ?_) (fun h => ?_) | refine Br.not ?_ | refine Br.intro (fun h => ?_) (fun h => ?_) | refine GetE.intro _ rfl ?_ | refine Need.intro rfl ?_ | refine DrawP.go mixed rfl ?_ | refine member_c p.clubs _ hl ?_ | refine QCall.intro _ (member_c p.clubs _ hl ⟨rfl, rfl⟩) ?_ | refine rrounds_c p hp ?_ | refine QCall.intro _ (rrounds_c p hp ⟨rfl, rfl⟩) ?_ | refine only_c _ _ _ _ _ _ ?_ | refine QCall.intro _ (only_c _ _ _ _ _ _ ⟨rfl, rfl⟩) ?_ | refine some_c _ p hl hd ?_ | refine QCall.intro _ (some_c _ p hl hd ⟨rfl, rfl⟩) ?_)
    all_goals conv => whnf
    all_goals refine FinP.drop (n := 0) rfl (Nat.le_refl 0) rfl rfl ⟨rfl, congrArg B ?_⟩
    all_goals (rw [hv]; clear hv hp hl hd; simp_all [v9, qClub, qOther, qRound, qClubs, qN, onlyF, zeroF] <;> (try (intros; first | omega | (exfalso; omega))))
  · skip
    have hv : validF p ⟨10, cl, ot, ro, nn, cs⟩ = v9 p ⟨10, cl, ot, ro, nn, cs⟩ := by simp [validF]
    conv => whnf
    refine member_c p.clubs cl hl ?_
    repeat' (conv => whnf
             first | refine Br.tt ?_ | refine Br.ff ?_ | refine Br.dec (fun h => ?_) (fun h => ?_) | refine Br.not ?_ | refine Br.intro (fun h => ?_) (fun h => ?_) | refine GetE.intro _ rfl ?_ | refine Need.intro rfl ?_ | refine DrawP.go mixed rfl ?_ | refine member_c p.clubs _ hl ?_ | refine QCall.intro _ (member_c p.clubs _ hl ⟨rfl, rfl⟩) ?_ | refine rrounds_c p hp ?_ | refine QCall.intro _ (rrounds_c p hp ⟨rfl, rfl⟩) ?_ | refine only_c _ _ _ _ _ _ ?_ | refine QCall.intro _ (only_c _ _ _ _ _ _ ⟨rfl, rfl⟩) ?_ | refine some_c _ p hl hd ?_ | refine QCall.intro _ (some_c _ p hl hd ⟨rfl, rfl⟩) ?_)
    all_goals conv => whnf
    all_goals refine FinP.drop (n := 0) rfl (Nat.le_refl 0) rfl rfl ⟨rfl, congrArg B ?_⟩
    all_goals (rw [hv]; clear hv hp hl hd; simp_all [v9, qClub, qOther, qRound, qClubs, qN, onlyF, zeroF] <;> (try (intros; first | omega | (exfalso; omega))))
  · skip
    simp only [kindKs, List.mem_cons, List.not_mem_nil, or_false, not_or] at hk
    obtain ⟨k1, k2, k3, k4, k5, k6, k7, k8, k9, k10⟩ := hk
    have hv : validF p ⟨kd, cl, ot, ro, nn, cs⟩ = false := by simp [validF, *]
    conv => whnf
    refine member_c p.clubs cl hl ?_
    repeat' (conv => whnf
             first | refine member_c p.clubs _ hl ?_ | refine QCall.intro _ (member_c p.clubs _ hl ⟨rfl, rfl⟩) ?_ | refine rrounds_c p hp ?_ | refine QCall.intro _ (rrounds_c p hp ⟨rfl, rfl⟩) ?_ | refine only_c _ _ _ _ _ _ ?_ | refine QCall.intro _ (only_c _ _ _ _ _ _ ⟨rfl, rfl⟩) ?_ | refine some_c _ p hl hd ?_ | refine QCall.intro _ (some_c _ p hl hd ⟨rfl, rfl⟩) ?_ | refine Br.no (decide_eq_false k1) ?_ | refine Br.no (decide_eq_false k2) ?_ | refine Br.no (decide_eq_false k3) ?_ | refine Br.no (decide_eq_false k4) ?_ | refine Br.no (decide_eq_false k5) ?_ | refine Br.no (decide_eq_false k6) ?_ | refine Br.no (decide_eq_false k7) ?_ | refine Br.no (decide_eq_false k8) ?_ | refine Br.no (decide_eq_false k9) ?_ | refine Br.no (decide_eq_false k10) ?_ | refine Br.tt ?_ | refine Br.ff ?_ | refine Br.dec (fun h => ?_) (fun h => ?_) | refine Br.not ?_ | refine Br.intro (fun h => ?_) (fun h => ?_) | refine GetE.intro _ rfl ?_ | refine Need.intro rfl ?_ | refine DrawP.go mixed rfl ?_)
    all_goals conv => whnf
    all_goals refine FinP.drop (n := 0) rfl (Nat.le_refl 0) rfl rfl ⟨rfl, congrArg B ?_⟩
    all_goals exact hv.symm
theorem rcheck_c (p : Pl) (hl : p.clubs.length ≤ 4611686018427387904) (hd : ∀ d ∈ p.demands, d.clubs.length ≤ 4611686018427387904) (hD : p.demands.length ≤ 4611686018427387904) (h : k (I (checkP p)) L) : CallP C 30 [plV p] L k := by
  refine CallP.pure ?_ rfl (fun _ => rfl) h
  clear h
  refine callP_of C_ok Try.func30 rfl rfl (n := _) rfl (Nat.le_of_ble_eq_true rfl) (rs := _) rfl ?_
  conv => whnf
  refine rclubs_c p.clubs hl ?_
  cases hf : fieldOk p.clubs 2 with
  | false =>
    repeat' (conv => whnf
             first | refine Br.tt ?_ | refine Br.ff ?_ | refine Br.dec (fun h => ?_) (fun h => ?_) | refine Br.not ?_ | refine Br.intro (fun h => ?_) (fun h => ?_) | refine GetE.intro _ rfl ?_ | refine Need.intro rfl ?_ | refine DrawP.go mixed rfl ?_)
    conv => whnf
    exact FinP.drop (n := 0) rfl (Nat.le_refl 0) rfl rfl ⟨rfl, congrArg I (by rw [checkP, hf]; rfl)⟩
  | true =>
    have hlen : 1 ≤ p.clubs.length ∧ p.clubs.length ≤ 1000 := by
      simp only [fieldOk, Bool.and_eq_true, decide_eq_true_eq] at hf; omega
    repeat' (conv => whnf
             first | refine Br.tt ?_ | refine Br.ff ?_ | refine Br.dec (fun h => ?_) (fun h => ?_) | refine Br.not ?_ | refine Br.intro (fun h => ?_) (fun h => ?_) | refine GetE.intro _ rfl ?_ | refine Need.intro rfl ?_ | refine DrawP.go mixed rfl ?_)
    · conv => whnf
      exact FinP.drop (n := 0) rfl (Nat.le_refl 0) rfl rfl ⟨rfl, congrArg I (by rw [checkP, hf]; simp only [if_true]; rw [if_neg (by simp only [List.length_map] at h; omega)])⟩
    · have hc : checkP p = if p.demands.all (validF p) then 0 else 310 := by
        rw [checkP, hf]; simp only [if_true]; rw [if_pos (by simp only [List.length_map] at h; omega)]
      conv => whnf
      refine LoopP.intro (ι := FarV p) (fun s => ⟨[(1, .ptr 0 0), (3, I s.i)], Try.f30.ntmps, [.cells (p.cells.map .d)], [], none⟩) (fun s => p.demands.length - s.i) ⟨0, Nat.zero_le _, fun j _ h => absurd h (Nat.not_lt_zero j)⟩ ?_ ?_
      · exact Weak.by ⟨rfl, rfl, trivial⟩
      intro s
      conv => whnf
      refine Br.dec (fun hb => ?_) (fun hb => ?_)
      · have hi : s.i < p.demands.length := by simpa using hb
        have hdd : (p.demands[s.i]).clubs.length ≤ 4611686018427387904 := hd _ (List.getElem_mem hi)
        repeat' (conv => whnf
                 first | refine Br.tt ?_ | refine Br.ff ?_ | refine Br.dec (fun h => ?_) (fun h => ?_) | refine Br.not ?_ | refine Br.intro (fun h => ?_) (fun h => ?_) | refine GetE.intro _ rfl ?_ | refine Need.intro rfl ?_ | refine DrawP.go mixed rfl ?_ | refine Idx.map s.i rfl hi ?_ | refine rvalid_c p.demands[s.i] p hlen hdd ?_ | refine QCall.intro _ (rvalid_c p.demands[s.i] p hlen hdd ⟨rfl, rfl⟩) ?_)
        all_goals conv => whnf
        · exact ⟨⟨s.i + 1, hi, fun j hj hji => by
            by_cases e : j = s.i
            · subst e; exact h
            · exact s.ok j hj (by omega)⟩, by simp only []; omega, Weak.by ⟨rfl, congrArg I (by rw [wrap_in (by omega)]; simp only []; omega), trivial⟩⟩
        · refine FinP.drop (n := 0) rfl (Nat.le_refl 0) rfl rfl ⟨rfl, congrArg I ?_⟩
          rw [hc, if_neg]
          intro ha
          have := List.all_eq_true.1 ha _ (List.getElem_mem hi)
          rw [h] at this; cases this
      · have hi : ¬ s.i < p.demands.length := by simpa using hb
        have hall : p.demands.all (validF p) = true := List.all_eq_true.2 fun d hd => by
          obtain ⟨j, hj, rfl⟩ := List.getElem_of_mem hd
          exact s.ok j hj (by omega)
        repeat' (conv => whnf
                 first | refine Br.tt ?_ | refine Br.ff ?_ | refine Br.dec (fun h => ?_) (fun h => ?_) | refine Br.not ?_ | refine Br.intro (fun h => ?_) (fun h => ?_) | refine GetE.intro _ rfl ?_ | refine Need.intro rfl ?_ | refine DrawP.go mixed rfl ?_)
        conv => whnf
        exact FinP.drop (n := 0) rfl (Nat.le_refl 0) rfl rfl ⟨rfl, congrArg I (by rw [hc, hall]; rfl)⟩
end Go.Proofs.Ytjknhbfcdjjbhaa
