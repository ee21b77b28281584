/-
  planner: the choices of a list, one after the other.
-/
import Derived.Test.YtjknhbfcdjjbhaaPlaB
namespace Go.Proofs.Ytjknhbfcdjjbhaa
open Go.Tidy
set_option maxRecDepth 100000
set_option maxHeartbeats 0
set_option linter.unusedSimpArgs false
set_option linter.unusedVariables false
theorem choices1_it (pn : Nat) (pan : V → List Blk → Prop) (l : List (List Mt)) (p : Pl) (hl : l.length ≤ 1073741824) (hr : ∀ r ∈ l, r.length ≤ 4611686018427387904) (hp : p.clubs.length ≤ 1000) :
    IterQ (C.wp pn pan) 49 [.rptr [.rptr (planD p)], .rptr [lisD l]] ((chs l p).map fun m => [mtV m]) := by
  intro b N P S k hpn hS hbS hdS hb hy h0 hP
  have len : ((chs l p).map fun m => [mtV m]).length = (chs l p).length := List.length_map ..
  have hpn : (C.wp pn pan).pn ≤ (S 0).length := by rw [hS]; exact hpn
  have a0 : ∀ c X, (S c ++ X).length = N + X.length := fun c X => pre_len _ _ (hS c)
  have a1 : ∀ c X i, (S c ++ X)[N + i]? = X[i]? := fun c X i => pre_get _ _ (hS c) i
  have a2 : ∀ c X, (S c ++ X)[N]? = X[0]? := fun c X => pre_get0 _ _ (hS c)
  have a3 : ∀ c X i y, (S c ++ X).set (N + i) y = S c ++ X.set i y := fun c X i y => pre_set _ _ (hS c) i y
  have a4 : ∀ c X y, (S c ++ X).set N y = S c ++ X.set 0 y := fun c X y => pre_set0 _ _ (hS c) y
  refine callP_of (C := C.wp pn pan) (C_ok.wp pn pan) Try.func49 rfl rfl (n := _) rfl (Nat.le_of_ble_eq_true rfl) (rs := _) rfl ?_ hpn
  repeat' (conv => whnf
           first | refine Br.tt ?_ | refine Br.ff ?_ | refine Br.dec (fun h => ?_) (fun h => ?_) | refine Br.not ?_ | refine Br.intro (fun h => ?_) (fun h => ?_) | refine GetE.intro _ rfl ?_ | refine Need.intro rfl ?_ | refine DrawP.go mixed rfl ?_ | refine CallP.up (open_c l p hl ?_))
  all_goals conv => whnf
  rotate_left 1
  · refine FinP.drop (n := N) (L' := S 0) ?_ (Nat.le_of_eq (hS 0)) rfl (hbS 0) ?_
    · exact List.take_of_length_le (Nat.le_of_eq (hS 0))
    · have h1 : chs l p = [] := by rw [chs, if_neg]; rw [h]; decide
      have := h0
      rw [h1] at this
      exact this hP
  obtain ⟨r, hrd⟩ : ∃ r, r = (openR l p).1 := ⟨_, rfl⟩
  have hrl : r.length ≤ 4611686018427387904 := by
    rw [hrd, openR]
    split
    · rename_i r0 hr0
      split
      · exact hr r0 (List.mem_of_getLast? hr0)
      · exact Nat.zero_le _
    · exact Nat.zero_le _
  rw [← hrd]
  have hT : ∀ (ks' : List Int) (es2 : List (V × V)) (X : List Blk), X.take 1 = [.map es2] → es2 = boolM (intK ks') → (S 0 ++ X).take (N + 1) = S 0 ++ [.map (boolM (intK ks'))] := fun ks' es2 X h1 h2 => by
    rw [pre_take _ _ (hS 0), h1, h2]
  have hk1 : (S 0).length ≤ N + 1 := by rw [hS]; exact Nat.le_succ N
  have hB1 : ∀ ks' : List Int, belB (N + 1) (S 0 ++ [.map (boolM (intK ks'))]) = true := fun ks' => fewB_bel (hS 0) (hbS 0) 1 (by show (belM _ _ && true) = true; rw [intM_bel]; rfl)
  refine LoopP.inv (fun s : Nat × List Int => s.1 ≤ r.length ∧ ∀ n, n ∈ s.2 ↔ n ∈ clubsOf (r.take s.1)) (fun s => ⟨[(0, .yld b), (1, .d (.rptr [.rptr (planD p)])), (2, .d (.rptr [lisD l])), (4, .d (mts r)), (7, .map N), (34, .d (mts r)), (35, I r.length), (36, I s.1)], Try.f49.ntmps, S 0 ++ [.map (boolM (intK s.2))], [], none⟩) (fun s => r.length - s.1) (0, []) ⟨Nat.zero_le _, fun n => by simp [clubsOf]⟩ ?_ ?_
  · exact Weak.by ⟨rfl, rfl, rfl, rfl, congrArg V.map (hS 0), rfl, congrArg I (by simp), rfl, trivial⟩ (hL := rfl)
  rintro ⟨j, ks⟩ ⟨hj, hks⟩
  simp only at hj hks
  conv => whnf
  refine Br.dec (fun hb1 => ?_) (fun hb1 => ?_)
  · have hj' : j < r.length := by simpa using hb1
    have hw : IntKind.i64.wrap ((j : Int) + 1) = ((j + 1 : Nat) : Int) := by rw [wrap_in (by omega)]; omega
    have hnx : clubsOf (r.take (j + 1)) = clubsOf (r.take j) ++ [r[j].home, r[j].away] := by rw [take_next hj', clubsOf, List.flatMap_append]; simp [clubsOf]
    repeat' (conv => whnf
             first | refine Idx.map j rfl hj' ?_ | simp only [a0, a1, a2, a3, a4, List.append_assoc] | refine MapF.set (intK ks) rfl (intK_ok ks) (fun i hi he => ?_) (fun hi => ?_) | refine Br.tt ?_ | refine Br.ff ?_ | refine Br.dec (fun h => ?_) (fun h => ?_) | refine Br.not ?_ | refine Br.intro (fun h => ?_) (fun h => ?_) | refine GetE.intro _ rfl ?_ | refine Need.intro rfl ?_ | refine DrawP.go mixed rfl ?_)
    all_goals conv => whnf
    have hsn : boolM (intK ks) ++ [(V.d (DI r[j].home), V.d (D.bool true))] = boolM (intK (ks ++ [r[j].home])) := (boolM_snoc _ _).trans (congrArg boolM (intK_snoc _ _))
    have hM : ∀ ks' : List Int, (∀ n, n ∈ ks' ↔ n ∈ ks ∨ n = r[j].home ∨ n = r[j].away) → ∀ n, n ∈ ks' ↔ n ∈ clubsOf (r.take (j + 1)) := fun ks' h n => by
      rw [h, hnx, hks]; simp
    refine DrawP.por mixed [] [[(0, 0), (1, 0), (2, 0), (3, 0), (4, 0), (5, 3), (6, 0), (7, 0)]] (by kernel_rfl) ?_
    repeat' (conv => whnf
             first | refine Idx.map j rfl hj' ?_ | simp only [a0, a1, a2, a3, a4, List.append_assoc] | refine MapF.set (intK ks) rfl (intK_ok ks) (fun i hi he => ?_) (fun hi => ?_) | refine MapF.set (intK ks) ‹_› (intK_ok ks) (fun i hi he => ?_) (fun hi => ?_) | refine MapF.set (intK (ks ++ [r[j].home])) hsn (intK_ok _) (fun i hi he => ?_) (fun hi => ?_) | refine Br.tt ?_ | refine Br.ff ?_ | refine Br.dec (fun h => ?_) (fun h => ?_) | refine Br.not ?_ | refine Br.intro (fun h => ?_) (fun h => ?_) | refine GetE.intro _ rfl ?_ | refine Need.intro rfl ?_ | refine DrawP.go mixed rfl ?_)
    all_goals conv => whnf
    · rename_i hi1 he1
      exact ⟨(j + 1, ks), ⟨hj', hM ks fun n => ⟨.inl, fun h => h.elim id fun h => h.elim (fun e => e ▸ (intK_mem _ _).1 hi1) fun e => e ▸ (intK_mem _ _).1 hi⟩⟩, by simp only []; omega, Weak.to (N + 1) (hT ks _ _ rfl he) hk1 (by simp [hS]) ⟨rfl, rfl, rfl, rfl, rfl, rfl, rfl, congrArg I hw, trivial⟩ (hf := by simp [belF, V.bel]; omega) (hB := hB1 ks)⟩
    · rename_i hi1
      exact ⟨(j + 1, ks ++ [r[j].away]), ⟨hj', hM _ fun n => by
        have := (intK_mem _ _).1 hi1
        simp only [List.mem_append, List.mem_singleton]
        exact ⟨fun h => h.elim .inl fun h => .inr (.inr h), fun h => h.elim .inl fun h => h.elim (fun e => .inl (e ▸ this)) .inr⟩⟩, by simp only []; omega, Weak.to (N + 1) (hT (ks ++ [r[j].away]) _ _ rfl ((congrArg (· ++ [_]) he).trans ((boolM_snoc _ _).trans (congrArg boolM (intK_snoc _ _))))) hk1 (by simp [hS]) ⟨rfl, rfl, rfl, rfl, rfl, rfl, rfl, congrArg I hw, trivial⟩ (hf := by simp [belF, V.bel]; omega) (hB := hB1 _)⟩
    · rename_i hi1
      exact ⟨(j + 1, ks ++ [r[j].home]), ⟨hj', hM _ fun n => by
        have := (intK_mem _ _).1 hi
        simp only [List.mem_append, List.mem_singleton] at this ⊢
        exact ⟨fun h => h.elim .inl fun h => .inr (.inl h), fun h => h.elim .inl fun h => h.elim .inr fun e => e ▸ this⟩⟩, by simp only []; omega, Weak.to (N + 1) (hT (ks ++ [r[j].home]) _ _ rfl he) hk1 (by simp [hS]) ⟨rfl, rfl, rfl, rfl, rfl, rfl, rfl, congrArg I hw, trivial⟩ (hf := by simp [belF, V.bel]; omega) (hB := hB1 _)⟩
    · rename_i hi1
      exact ⟨(j + 1, ks ++ [r[j].home] ++ [r[j].away]), ⟨hj', hM _ fun n => by
        simp only [List.mem_append, List.mem_singleton, or_assoc]⟩, by simp only []; omega, Weak.to (N + 1) (hT (ks ++ [r[j].home] ++ [r[j].away]) _ _ rfl ((List.append_assoc _ _ _).symm.trans <| (congrArg (· ++ [_]) hsn).trans ((boolM_snoc _ _).trans (congrArg boolM (intK_snoc _ _))))) hk1 (by simp [hS]) ⟨rfl, rfl, rfl, rfl, rfl, rfl, rfl, congrArg I hw, trivial⟩ (hf := by simp [belF, V.bel]; omega) (hB := hB1 _)⟩
  have hje : j = r.length := by simp only at hb1; omega
  subst hje
  rw [List.take_length] at hks
  repeat' (conv => whnf
           first | refine Br.tt ?_ | refine Br.ff ?_ | refine Br.dec (fun h => ?_) (fun h => ?_) | refine Br.not ?_ | refine Br.intro (fun h => ?_) (fun h => ?_) | refine GetE.intro _ rfl ?_ | refine Need.intro rfl ?_ | refine DrawP.go mixed rfl ?_ | simp only [a0, a1, a2, a3, a4, List.append_assoc])
  conv => whnf
  have hT2 : ∀ (tk' : List Mt) (es2 : List (V × V)) (X : List Blk), X.take 2 = [.map (boolM (intK ks)), .map es2] → es2 = boolM (mtK tk') → (S 0 ++ X).take (N + 2) = S 0 ++ [.map (boolM (intK ks)), .map (boolM (mtK tk'))] := fun tk' es2 X h1 h2 => by
    rw [pre_take _ _ (hS 0), h1, h2]
  have hk2 : (S 0).length ≤ N + 2 := by rw [hS]; omega
  have hB2 : ∀ tk' : List Mt, belB (N + 2) (S 0 ++ [.map (boolM (intK ks)), .map (boolM (mtK tk'))]) = true := fun tk' => fewB_bel (hS 0) (hbS 0) 2 (by show (belM _ _ && (belM _ _ && true)) = true; rw [intM_bel, mtM_bel]; rfl)
  refine LoopP.inv (fun s : Nat × List Mt => s.1 ≤ l.length ∧ ∀ m, m ∈ s.2 ↔ m ∈ takenOf (l.take s.1) p) (fun s => ⟨[(0, .yld b), (1, .d (.rptr [.rptr (planD p)])), (2, .d (.rptr [lisD l])), (4, .d (mts r)), (7, .map N), (10, .map (N + 1)), (49, .d (lisD l)), (50, I l.length), (51, I s.1)], Try.f49.ntmps, S 0 ++ [.map (boolM (intK ks)), .map (boolM (mtK s.2))], [], none⟩) (fun s => l.length - s.1) (0, []) ⟨Nat.zero_le _, fun n => by simp [takenOf]⟩ ?_ ?_
  · exact Weak.by ⟨rfl, rfl, rfl, rfl, rfl, congrArg V.map (by simp [hS]), rfl, congrArg I (by simp), rfl, trivial⟩ (hL := by simp [boolM, mtK])
  rintro ⟨a, tk⟩ ⟨ha, htk⟩
  simp only at ha htk
  conv => whnf
  refine Br.dec (fun hb1 => ?_) (fun hb1 => ?_)
  · have ha' : a < l.length := by simpa using hb1
    have hwa : IntKind.i64.wrap ((a : Int) + 1) = ((a + 1 : Nat) : Int) := by rw [wrap_in (by omega)]; omega
    have hrow : (l[a]).length ≤ 4611686018427387904 := hr _ (List.getElem_mem ha')
    repeat' (conv => whnf
             first | refine Idx.map a rfl ha' ?_ | simp only [a0, a1, a2, a3, a4, List.append_assoc] | refine Br.tt ?_ | refine Br.ff ?_ | refine Br.dec (fun h => ?_) (fun h => ?_) | refine Br.not ?_ | refine Br.intro (fun h => ?_) (fun h => ?_) | refine GetE.intro _ rfl ?_ | refine Need.intro rfl ?_ | refine DrawP.go mixed rfl ?_)
    conv => whnf
    generalize hrow0 : l[a] = row at *
    refine LoopP.inv (fun s : Nat × List Mt => s.1 ≤ row.length ∧ ∀ m, m ∈ s.2 ↔ m ∈ takenOf (l.take a) p ∨ m ∈ (row.take s.1).flatMap (tkM p)) (fun s => ⟨[(0, .yld b), (1, .d (.rptr [.rptr (planD p)])), (2, .d (.rptr [lisD l])), (4, .d (mts r)), (7, .map N), (10, .map (N + 1)), (49, .d (lisD l)), (50, I l.length), (51, I a), (55, .d (mts row)), (56, I row.length), (57, I s.1)], Try.f49.ntmps, S 0 ++ [.map (boolM (intK ks)), .map (boolM (mtK s.2))], [], none⟩) (fun s => row.length - s.1) (0, tk) ⟨Nat.zero_le _, fun n => by simp [htk]⟩ ?_ ?_
    · exact Weak.by ⟨rfl, rfl, rfl, rfl, rfl, rfl, rfl, rfl, rfl, rfl, congrArg I (by simp), rfl, trivial⟩ (hL := rfl)
    rintro ⟨c, t2⟩ ⟨hc, ht2⟩
    simp only at hc ht2
    conv => whnf
    refine Br.dec (fun hb2 => ?_) (fun hb2 => ?_)
    · have hc' : c < row.length := by simpa using hb2
      have hwc : IntKind.i64.wrap ((c : Int) + 1) = ((c + 1 : Nat) : Int) := by rw [wrap_in (by omega)]; omega
      have hM : ∀ t' : List Mt, (∀ n, n ∈ t' ↔ n ∈ t2 ∨ n ∈ tkM p row[c]) → ∀ n, n ∈ t' ↔ n ∈ takenOf (l.take a) p ∨ n ∈ (row.take (c + 1)).flatMap (tkM p) := fun t' h n => by
        rw [h, ht2, take_next hc', List.flatMap_append, List.mem_append, or_assoc]; simp
      have hsn : boolM (mtK t2) ++ [(V.agg [V.d (DI row[c].home), V.d (DI row[c].away)], V.d (D.bool true))] = boolM (mtK (t2 ++ [row[c]])) := (boolM_snoc _ _).trans (congrArg boolM (mtK_snoc _ row[c]))
      repeat' (conv => whnf
               first | refine Idx.map c rfl hc' ?_ | simp only [a0, a1, a2, a3, a4, List.append_assoc] | refine MapF.set (mtK t2) rfl (mtK_ok t2) (fun i hi he => ?_) (fun hi => ?_) | refine MapF.set (mtK t2) ‹_› (mtK_ok t2) (fun i hi he => ?_) (fun hi => ?_) | refine MapF.set (mtK (t2 ++ [row[c]])) hsn (mtK_ok _) (fun i hi he => ?_) (fun hi => ?_) | refine Br.tt ?_ | refine Br.ff ?_ | refine Br.dec (fun h => ?_) (fun h => ?_) | refine Br.not ?_ | refine Br.intro (fun h => ?_) (fun h => ?_) | refine GetE.intro _ rfl ?_ | refine Need.intro rfl ?_ | refine DrawP.go mixed rfl ?_)
      all_goals conv => whnf
      · have e1 := (mtK_mem _ row[c]).1 hi
        exact ⟨(c + 1, t2), ⟨hc', hM _ fun n => by
        rw [tkM, if_pos h]; simp only [List.mem_singleton]; exact ⟨.inl, fun h => h.elim id fun e => e ▸ e1⟩⟩, by simp only []; omega, Weak.to (N + 2) (hT2 (t2) _ _ rfl he) hk2 (by simp [hS]) ⟨rfl, rfl, rfl, rfl, rfl, rfl, rfl, rfl, rfl, rfl, rfl, congrArg I hwc, trivial⟩ (hf := by simp [belF, V.bel]; omega) (hB := hB2 _)⟩
      · rename_i hi1 he1
        have e1 := (mtK_mem _ row[c]).1 hi1
        have e2 := (mtK_mem _ (Mt.swap row[c])).1 hi
        exact ⟨(c + 1, t2), ⟨hc', hM _ fun n => by
        rw [tkM, if_neg (by rw [h]; decide)]; simp only [List.mem_cons, List.not_mem_nil, or_false]; exact ⟨.inl, fun h => h.elim id fun h => h.elim (fun e => e ▸ e1) fun e => e ▸ e2⟩⟩, by simp only []; omega, Weak.to (N + 2) (hT2 (t2) _ _ rfl he) hk2 (by simp [hS]) ⟨rfl, rfl, rfl, rfl, rfl, rfl, rfl, rfl, rfl, rfl, rfl, congrArg I hwc, trivial⟩ (hf := by simp [belF, V.bel]; omega) (hB := hB2 _)⟩
      · rename_i hi1
        have e1 := (mtK_mem _ row[c]).1 hi1
        exact ⟨(c + 1, t2 ++ [Mt.swap row[c]]), ⟨hc', hM _ fun n => by
        rw [tkM, if_neg (by rw [h]; decide)]; simp only [List.mem_cons, List.mem_append, List.not_mem_nil, or_false]; exact ⟨fun h => h.elim .inl fun h => .inr (.inr h), fun h => h.elim .inl fun h => h.elim (fun e => .inl (e ▸ e1)) .inr⟩⟩, by simp only []; omega, Weak.to (N + 2) (hT2 (t2 ++ [Mt.swap row[c]]) _ _ rfl ((congrArg (· ++ [_]) he).trans ((boolM_snoc _ _).trans (congrArg boolM (mtK_snoc _ (Mt.swap row[c])))))) hk2 (by simp [hS]) ⟨rfl, rfl, rfl, rfl, rfl, rfl, rfl, rfl, rfl, rfl, rfl, congrArg I hwc, trivial⟩ (hf := by simp [belF, V.bel]; omega) (hB := hB2 _)⟩
      · exact ⟨(c + 1, t2 ++ [row[c]]), ⟨hc', hM _ fun n => by
        rw [tkM, if_pos h]; simp only [List.mem_append]⟩, by simp only []; omega, Weak.to (N + 2) (hT2 (t2 ++ [row[c]]) _ _ rfl hsn) hk2 (by simp [hS]) ⟨rfl, rfl, rfl, rfl, rfl, rfl, rfl, rfl, rfl, rfl, rfl, congrArg I hwc, trivial⟩ (hf := by simp [belF, V.bel]; omega) (hB := hB2 _)⟩
      · have e2 := (mtK_mem _ (Mt.swap row[c])).1 hi
        exact ⟨(c + 1, t2 ++ [row[c]]), ⟨hc', hM _ fun n => by
        rw [tkM, if_neg (by rw [h]; decide)]; simp only [List.mem_cons, List.mem_append, List.not_mem_nil, or_false] at e2 ⊢; exact ⟨fun h => h.elim .inl fun h => .inr (.inl h), fun h => h.elim .inl fun h => h.elim .inr fun e => e ▸ e2⟩⟩, by simp only []; omega, Weak.to (N + 2) (hT2 (t2 ++ [row[c]]) _ _ rfl he) hk2 (by simp [hS]) ⟨rfl, rfl, rfl, rfl, rfl, rfl, rfl, rfl, rfl, rfl, rfl, congrArg I hwc, trivial⟩ (hf := by simp [belF, V.bel]; omega) (hB := hB2 _)⟩
      · exact ⟨(c + 1, t2 ++ [row[c]] ++ [Mt.swap row[c]]), ⟨hc', hM _ fun n => by
        rw [tkM, if_neg (by rw [h]; decide)]; simp only [List.mem_cons, List.mem_append, List.not_mem_nil, or_false, or_assoc]⟩, by simp only []; omega, Weak.to (N + 2) (hT2 (t2 ++ [row[c]] ++ [Mt.swap row[c]]) _ _ rfl ((List.append_assoc _ _ _).symm.trans ((congrArg (· ++ [_]) hsn).trans ((boolM_snoc _ _).trans (congrArg boolM (mtK_snoc _ (Mt.swap row[c]))))))) hk2 (by simp [hS]) ⟨rfl, rfl, rfl, rfl, rfl, rfl, rfl, rfl, rfl, rfl, rfl, congrArg I hwc, trivial⟩ (hf := by simp [belF, V.bel]; omega) (hB := hB2 _)⟩
    · have hce : c = row.length := by simp only at hb2; omega
      subst hce
      rw [List.take_length] at ht2
      repeat' (conv => whnf
               first | refine Br.tt ?_ | refine Br.ff ?_ | refine Br.dec (fun h => ?_) (fun h => ?_) | refine Br.not ?_ | refine Br.intro (fun h => ?_) (fun h => ?_) | refine GetE.intro _ rfl ?_ | refine Need.intro rfl ?_ | refine DrawP.go mixed rfl ?_)
      conv => whnf
      exact ⟨(a + 1, t2), ⟨ha', fun m => by rw [ht2, take_next ha', takenOf_snoc, List.mem_append, hrow0]⟩, by simp only []; omega, Weak.by ⟨rfl, rfl, rfl, rfl, rfl, rfl, rfl, rfl, congrArg I hwa, trivial⟩⟩
  have hae : a = l.length := by simp only at hb1; omega
  subst hae
  rw [List.take_length] at htk
  have hlast : (0 : Int) < ((r.map Mt.cells).length : Int) → IntKind.i64.wrap (((r.map Mt.cells).length : Int) - 1) = ((r.length - 1 : Nat) : Int) := fun h => by
    rw [List.length_map] at h ⊢; rw [wrap_in (by omega)]; omega
  have hl1 : ∀ h : 0 < r.length, leastOf r = if (r[r.length - 1]'(by omega)).away < (r[r.length - 1]'(by omega)).home then (r[r.length - 1]'(by omega)).away else (r[r.length - 1]'(by omega)).home := fun h => by
    rw [leastOf, last_of h]
    show min _ _ = _
    split <;> omega
  have hl2 : r.length = 0 → leastOf r = -1 := fun h => by rw [leastOf, List.eq_nil_of_length_eq_zero h]; rfl
  have hlast2 : (0 : Int) < ((r.map Mt.cells).length : Int) → r.length - 1 < r.length := fun h => by
    rw [List.length_map] at h; omega
  repeat' (conv => whnf
           first | refine Br.tt ?_ | refine Br.ff ?_ | refine Br.dec (fun h => ?_) (fun h => ?_) | refine Br.not ?_ | refine Br.intro (fun h => ?_) (fun h => ?_) | refine GetE.intro _ rfl ?_ | refine Need.intro rfl ?_ | refine DrawP.go mixed rfl ?_ | simp only [a0, a1, a2, a3, a4, List.append_assoc] | refine Idx.map (r.length - 1) (hlast ‹_›) (hlast2 ‹_›) ?_ | refine Need.intro (show (2 : Int) ≠ 0 by decide) ?_)
  all_goals conv => whnf
  all_goals
    obtain ⟨lst, hlst⟩ : ∃ x, x = leastOf r := ⟨_, rfl⟩
    have hmay : ((p.clubs.map fun c => [DI c]).length : Int).tmod 2 = ((p.clubs.length % 2 : Nat) : Int) := by rw [List.length_map]; exact (Int.ofNat_tmod _ _).symm
    have hchs : chs l p = chOut (clubsOf r) (takenOf l p) lst (p.clubs.length % 2) p.clubs := by rw [chs, if_pos ‹_›, hlst, hrd]
    refine LoopP.inv (fun s : Nat × Nat × Nat => s.1 ≤ p.clubs.length ∧ s.2.1 ≤ 1 ∧ P s.2.2 ∧ ∃ pre : List Mt, pre.length = s.2.2 ∧ chs l p = pre ++ chOut (clubsOf r) (takenOf l p) lst s.2.1 (p.clubs.drop s.1)) (fun s => ⟨[(0, .yld b), (1, .d (.rptr [.rptr (planD p)])), (2, .d (.rptr [lisD l])), (7, .map N), (10, .map (N + 1)), (15, I lst), (17, I s.2.1), (105, .d (ints p.clubs)), (106, I p.clubs.length), (107, I s.1)], Try.f49.ntmps, S s.2.2 ++ [.map (boolM (intK ks)), .map (boolM (mtK tk))], [], none⟩) (fun s => p.clubs.length - s.1) (0, p.clubs.length % 2, 0) ⟨Nat.zero_le _, by show p.clubs.length % 2 ≤ 1; omega, hP, [], rfl, hchs⟩ ?_ ?_
    · refine Weak.by ⟨rfl, rfl, rfl, rfl, rfl, ?_, congrArg I hmay, rfl, congrArg I (by simp), rfl, trivial⟩ (hL := rfl)
      rw [hlst]
      first
      | exact congrArg I (hl1 (by have := hlast2 h; omega)).symm
      | exact congrArg I (hl2 (by rw [List.length_map] at h; omega)).symm
    clear hlast hlast2 hl1 hl2
    rintro ⟨i, may, c⟩ ⟨hi, hm, hPc, pre, hpre, heq⟩
    simp only at hi hm hPc hpre heq
    conv => whnf
    refine Br.dec (fun hb1 => ?_) (fun hb1 => ?_)
    · have hi' : i < p.clubs.length := by simpa using hb1
      have hwi : IntKind.i64.wrap ((i : Int) + 1) = ((i + 1 : Nat) : Int) := by rw [wrap_in (by omega)]; omega
      rw [List.drop_eq_getElem_cons hi', chOut_cons] at heq
      have hwm : IntKind.i64.wrap ((may : Int) - 1) = (may : Int) - 1 := wrap_in (by omega)
      have hend : ∀ c' : Nat, ∀ pre' : List Mt, pre'.length = c' → P c' → chs l p = pre' → k (.tup []) (S c') := fun c' pre' h1 h2 h3 => by
        have := h0
        rw [len, h3, h1] at this
        exact this h2
      repeat' (conv => whnf
               first | refine Idx.map i rfl hi' ?_ | simp only [a0, a1, a2, a3, a4, List.append_assoc] | refine MapF.set (intK ks) rfl (intK_ok ks) (fun q hq he => ?_) (fun hq => ?_) | refine Br.tt ?_ | refine Br.ff ?_ | refine Br.dec (fun h => ?_) (fun h => ?_) | refine Br.not ?_ | refine Br.intro (fun h => ?_) (fun h => ?_) | refine GetE.intro _ rfl ?_ | refine Need.intro rfl ?_ | refine DrawP.go mixed rfl ?_)
      all_goals conv => whnf
      · have hbz : p.clubs[i] ∈ clubsOf r := (hks _).1 ((intK_mem _ _).1 hq)
        rw [if_pos hbz] at heq
        exact ⟨(i + 1, may, c), ⟨hi', hm, hPc, pre, hpre, heq⟩, by simp only []; omega, Weak.by ⟨rfl, rfl, rfl, rfl, rfl, rfl, rfl, rfl, rfl, congrArg I hwi, trivial⟩⟩
      · have hbz : p.clubs[i] ∉ clubsOf r := fun hh => hq ((intK_mem _ _).2 ((hks _).2 hh))
        have hlt : lst < p.clubs[i] := by omega
        rw [if_neg hbz, if_pos hlt] at heq
        obtain ⟨os, hos⟩ : ∃ os, os = p.clubs.drop (i + 1) := ⟨_, rfl⟩
        obtain ⟨fi, hfi⟩ : ∃ fi, fi = p.clubs[i] := ⟨_, rfl⟩
        obtain ⟨rest, hrest⟩ : ∃ rest, rest = if may = 0 then [] else chOut (clubsOf r) (takenOf l p) lst (may - 1) os := ⟨_, rfl⟩
        have hosl : os.length = p.clubs.length - (i + 1) := by rw [hos, List.length_drop]
        rw [← hos, ← hrest, ← hfi] at heq
        have hsl : (((p.clubs.map fun n => [DI n]).drop (i + 1)).take ((p.clubs.map fun n => [DI n]).length - (i + 1))) = os.map fun n => [DI n] := by
          rw [hos, List.map_drop, List.take_of_length_le (by rw [List.length_drop]; exact Nat.le_refl _)]
        repeat' (conv => whnf
                 first | refine Need.intro (fun e he => by obtain ⟨x, _, rfl⟩ := List.mem_map.1 he; rfl) ?_ | refine SliceP.intro (i + 1) (p.clubs.map fun n => [DI n]).length hwi rfl (by rw [List.length_map]; omega) (Nat.le_refl _) ?_ | simp only [hsl] | refine Br.tt ?_ | refine Br.ff ?_ | refine Br.dec (fun h => ?_) (fun h => ?_) | refine Br.not ?_ | refine Br.intro (fun h => ?_) (fun h => ?_) | refine GetE.intro _ rfl ?_ | refine Need.intro rfl ?_ | refine DrawP.go mixed rfl ?_)
        conv => whnf
        refine LoopP.inv (fun s : Nat × Nat => s.1 ≤ os.length ∧ P s.2 ∧ ∃ pre : List Mt, pre.length = s.2 ∧ chs l p = pre ++ (chIn (clubsOf r) (takenOf l p) fi (os.drop s.1) ++ rest)) (fun s => ⟨[(0, .yld b), (1, .d (.rptr [.rptr (planD p)])), (2, .d (.rptr [lisD l])), (7, .map N), (10, .map (N + 1)), (15, I lst), (17, I may), (19, I fi), (105, .d (ints p.clubs)), (106, I p.clubs.length), (107, I i), (125, .d (ints os)), (126, I os.length), (127, I s.1)], Try.f49.ntmps, S s.2 ++ [.map (boolM (intK ks)), .map (boolM (mtK tk))], [], none⟩) (fun s => os.length - s.1) (0, c) ⟨Nat.zero_le _, hPc, pre, hpre, heq⟩ ?_ ?_
        · exact Weak.by ⟨rfl, rfl, rfl, rfl, rfl, rfl, rfl, congrArg I hfi.symm, rfl, rfl, rfl, rfl, congrArg I (by rw [List.length_map]), rfl, trivial⟩ (hL := rfl)
        rintro ⟨q, c2⟩ ⟨hq2, hPc2, pre2, hpre2, heq2⟩
        simp only at hq2 hPc2 hpre2 heq2
        conv => whnf
        refine Br.dec (fun hb2 => ?_) (fun hb2 => ?_)
        · have hq2' : q < os.length := by simpa using hb2
          have hwq : IntKind.i64.wrap ((q : Int) + 1) = ((q + 1 : Nat) : Int) := by rw [wrap_in (by omega)]; omega
          obtain ⟨o, ho⟩ : ∃ o, o = os[q] := ⟨_, rfl⟩
          rw [List.drop_eq_getElem_cons hq2', ← ho, chIn] at heq2
          repeat' (conv => whnf
                   first | refine Idx.map q rfl hq2' ?_ | simp only [a0, a1, a2, a3, a4, List.append_assoc] | refine MapF.set (intK ks) rfl (intK_ok ks) (fun z hz he => ?_) (fun hz => ?_) | refine Br.tt ?_ | refine Br.ff ?_ | refine Br.dec (fun h => ?_) (fun h => ?_) | refine Br.not ?_ | refine Br.intro (fun h => ?_) (fun h => ?_) | refine GetE.intro _ rfl ?_ | refine Need.intro rfl ?_ | refine DrawP.go mixed rfl ?_)
          all_goals conv => whnf
          · have hbo : o ∈ clubsOf r := ho ▸ (hks _).1 ((intK_mem _ _).1 hz)
            rw [if_pos hbo] at heq2
            exact ⟨(q + 1, c2), ⟨hq2', hPc2, pre2, hpre2, heq2⟩, by simp only []; omega, Weak.by ⟨rfl, rfl, rfl, rfl, rfl, rfl, rfl, rfl, rfl, rfl, rfl, rfl, rfl, congrArg I hwq, trivial⟩⟩
          · have hbo : o ∉ clubsOf r := fun hh => hz ((intK_mem _ _).2 ((hks _).2 (ho ▸ hh)))
            rw [if_neg hbo, List.append_assoc] at heq2
            obtain ⟨rest2, hrest2⟩ : ∃ x, x = chIn (clubsOf r) (takenOf l p) fi (os.drop (q + 1)) ++ rest := ⟨_, rfl⟩
            obtain ⟨two, htwo⟩ : ∃ two : List Mt, two = [⟨fi, o⟩, ⟨o, fi⟩] := ⟨_, rfl⟩
            have htl : two.length = 2 := by rw [htwo]; rfl
            rw [← hrest2, ← htwo] at heq2
            refine LoopP.inv (fun s : Nat × Nat => s.1 ≤ 2 ∧ P s.2 ∧ ∃ pre : List Mt, pre.length = s.2 ∧ chs l p = pre ++ ((two.drop s.1).filter (fun m => decide (m ∉ takenOf l p)) ++ rest2)) (fun s => ⟨[(0, .yld b), (1, .d (.rptr [.rptr (planD p)])), (2, .d (.rptr [lisD l])), (7, .map N), (10, .map (N + 1)), (15, I lst), (17, I may), (19, I fi), (21, I o), (105, .d (ints p.clubs)), (106, I p.clubs.length), (107, I i), (125, .d (ints os)), (126, I os.length), (127, I q), (140, .own (N + 2) 0 0 2), (141, I 2), (142, I s.1)], Try.f49.ntmps, S s.2 ++ [.map (boolM (intK ks)), .map (boolM (mtK tk)), .row 0 2 (mR two)], [], none⟩) (fun s => 2 - s.1) (0, c2) ⟨Nat.zero_le _, hPc2, pre2, hpre2, heq2⟩ ?_ ?_
            · exact Weak.by ⟨rfl, rfl, rfl, rfl, rfl, rfl, rfl, rfl, congrArg I ho.symm, rfl, rfl, rfl, rfl, rfl, rfl, rfl, rfl, rfl, trivial⟩ (hL := by subst htwo; subst ho; rfl)
            rintro ⟨z, c3⟩ ⟨hz2, hPc3, pre3, hpre3, heq3⟩
            simp only at hz2 hPc3 hpre3 heq3
            conv => whnf
            refine Br.dec (fun hb3 => ?_) (fun hb3 => ?_)
            · have hz' : z < 2 := by simp only at hb3; omega
              have hwz : IntKind.i64.wrap ((z : Int) + 1) = ((z + 1 : Nat) : Int) := by rw [wrap_in (by omega)]; omega
              have hzt : z < two.length := by omega
              have hgz := mR_get hzt
              repeat' (conv => whnf
                       first | refine IdxN.intro z rfl hz' ?_ | refine GetE.intro _ hgz ?_ | simp only [a0, a1, a2, a3, a4, List.append_assoc] | refine MapF.set (mtK tk) rfl (mtK_ok tk) (fun y hy2 he => ?_) (fun hy2 => ?_) | refine Br.tt ?_ | refine Br.ff ?_ | refine Br.dec (fun h => ?_) (fun h => ?_) | refine Br.not ?_ | refine Br.intro (fun h => ?_) (fun h => ?_) | refine GetE.intro _ rfl ?_ | refine Need.intro rfl ?_ | refine DrawP.go mixed rfl ?_)
              all_goals conv => whnf
              · have htz : two[z] ∈ takenOf l p := (htk _).1 ((mtK_mem _ two[z]).1 hy2)
                rw [List.drop_eq_getElem_cons hzt, List.filter_cons_of_neg (by simpa using htz)] at heq3
                exact ⟨(z + 1, c3), ⟨hz', hPc3, pre3, hpre3, heq3⟩, by simp only []; omega, Weak.to (N + 3) (pre_take _ _ (hS c3) 3) (by rw [hS]; omega) (by simp [hS]) ⟨rfl, rfl, rfl, rfl, rfl, rfl, rfl, rfl, rfl, rfl, rfl, rfl, rfl, rfl, rfl, rfl, rfl, congrArg I hwz, trivial⟩ (hf := by simp [belF, V.bel]; omega) (hB := fewB_bel (hS c3) (hbS c3) 3 (by show (belM _ _ && (belM _ _ && (belR _ _ && true))) = true; rw [intM_bel, mtM_bel, mR_bel]; rfl))⟩
              · have htz : two[z] ∉ takenOf l p := fun hh => hy2 ((mtK_mem _ two[z]).2 ((htk _).2 hh))
                rw [List.drop_eq_getElem_cons hzt, List.filter_cons_of_pos (by simpa using htz), List.cons_append] at heq3
                have hlt3 : c3 < ((chs l p).map fun m => [mtV m]).length := by rw [len, heq3, List.length_append, List.length_cons]; omega
                have hxs : ((chs l p).map fun m => [mtV m])[c3] = [mtV two[z]] := by
                  rw [List.getElem_map]
                  have : (chs l p)[c3]? = some two[z] := by rw [heq3, List.getElem?_append_right (by omega), hpre3, Nat.sub_self]; rfl
                  rw [List.getElem?_eq_getElem (by rw [← len]; exact hlt3)] at this
                  exact congrArg (fun x => [mtV x]) (Option.some.inj this)
                have hyc := hy c3 hlt3 hPc3
                rw [hxs] at hyc
                refine YR.frameP ‹_› hyc (hS c3) (hS _) (hbS c3) (hbS _) (hdS c3) hb rfl ?_ ?_
                · intro M hM hP1
                  subst hM
                  repeat' (conv => whnf
                           first | refine Br.tt ?_ | refine Br.ff ?_ | refine Br.dec (fun h => ?_) (fun h => ?_) | refine Br.not ?_ | refine Br.intro (fun h => ?_) (fun h => ?_) | refine GetE.intro _ rfl ?_ | refine Need.intro rfl ?_ | refine DrawP.go mixed rfl ?_ | simp only [a0, a1, a2, a3, a4, List.append_assoc])
                  conv => whnf
                  exact ⟨(z + 1, c3 + 1), ⟨hz', hP1, pre3 ++ [two[z]], by simp [hpre3], by rw [heq3]; simp⟩, by simp only []; omega, Weak.to (N + 3) (pre_take _ _ (hS (c3 + 1)) 3) (by rw [hS]; omega) (by simp [hS]) ⟨rfl, rfl, rfl, rfl, rfl, rfl, rfl, rfl, rfl, rfl, rfl, rfl, rfl, rfl, rfl, rfl, rfl, congrArg I hwz, trivial⟩ (hf := by simp [belF, V.bel]; omega) (hB := fewB_bel (hS (c3 + 1)) (hbS (c3 + 1)) 3 (by show (belM _ _ && (belM _ _ && (belR _ _ && true))) = true; rw [intM_bel, mtM_bel, mR_bel]; rfl))⟩
                · rintro Z M rfl hz1 hz2 hz3
                  repeat' (conv => whnf
                           first | refine Br.tt ?_ | refine Br.ff ?_ | refine Br.dec (fun h => ?_) (fun h => ?_) | refine Br.not ?_ | refine Br.intro (fun h => ?_) (fun h => ?_) | refine GetE.intro _ rfl ?_ | refine Need.intro rfl ?_ | refine DrawP.go mixed rfl ?_)
                  conv => whnf
                  exact FinP.drop (n := N) (List.take_left' hz1) (Nat.le_of_eq (hS 0)) rfl hz2 hz3
            · have hze : z = 2 := by simp only at hb3; omega
              subst hze
              have hd2 : two.drop 2 = [] := List.drop_of_length_le (by omega)
              rw [hd2, List.filter_nil, List.nil_append, hrest2] at heq3
              repeat' (conv => whnf
                       first | refine Br.tt ?_ | refine Br.ff ?_ | refine Br.dec (fun h => ?_) (fun h => ?_) | refine Br.not ?_ | refine Br.intro (fun h => ?_) (fun h => ?_) | refine GetE.intro _ rfl ?_ | refine Need.intro rfl ?_ | refine DrawP.go mixed rfl ?_)
              conv => whnf
              exact ⟨(q + 1, c3), ⟨hq2', hPc3, pre3, hpre3, heq3⟩, by simp only []; omega, Weak.to (N + 2) (pre_take _ _ (hS c3) 2) (by rw [hS]; omega) (by simp [hS]) ⟨rfl, rfl, rfl, rfl, rfl, rfl, rfl, rfl, rfl, rfl, rfl, rfl, rfl, congrArg I hwq, trivial⟩ (hf := by simp [belF, V.bel]; omega) (hB := fewB_bel (hS c3) (hbS c3) 2 (by show (belM _ _ && (belM _ _ && true)) = true; rw [intM_bel, mtM_bel]; rfl))⟩
        · have hqe : q = os.length := by simp only at hb2; omega
          subst hqe
          rw [List.drop_length, chIn, List.nil_append] at heq2
          repeat' (conv => whnf
                   first | refine Br.tt ?_ | refine Br.ff ?_ | refine Br.dec (fun h => ?_) (fun h => ?_) | refine Br.not ?_ | refine Br.intro (fun h => ?_) (fun h => ?_) | refine GetE.intro _ rfl ?_ | refine Need.intro rfl ?_ | refine DrawP.go mixed rfl ?_)
          all_goals conv => whnf
          · have hm0 : may = 0 := by rw [hwm] at h; omega
            rw [hrest, if_pos hm0, List.append_nil] at heq2
            exact FinP.drop (n := N) (L' := S c2) (List.take_left' (hS c2)) (Nat.le_of_eq (hS 0)) rfl (hbS c2) (hend c2 pre2 hpre2 hPc2 heq2)
          · have hm0 : may ≠ 0 := by rw [hwm] at h; omega
            rw [hrest, if_neg hm0, hos] at heq2
            exact ⟨(i + 1, may - 1, c2), ⟨hi', by simp only []; omega, hPc2, pre2, hpre2, heq2⟩, by simp only []; omega, Weak.by ⟨rfl, rfl, rfl, rfl, rfl, rfl, congrArg I (hwm.trans (by show (may : Int) - 1 = ((may - 1 : Nat) : Int); omega)), rfl, rfl, congrArg I hwi, trivial⟩⟩
      · have hbz : p.clubs[i] ∉ clubsOf r := fun hh => hq ((intK_mem _ _).2 ((hks _).2 hh))
        have hlt : ¬ lst < p.clubs[i] := by omega
        have hm0 : may = 0 := by rw [hwm] at h; omega
        rw [if_neg hbz, if_neg hlt, if_pos hm0, List.append_nil, List.append_nil] at heq
        exact FinP.drop (n := N) (L' := S c) (List.take_left' (hS c)) (Nat.le_of_eq (hS 0)) rfl (hbS c) (hend c pre hpre hPc heq)
      · have hbz : p.clubs[i] ∉ clubsOf r := fun hh => hq ((intK_mem _ _).2 ((hks _).2 hh))
        have hlt : ¬ lst < p.clubs[i] := by omega
        have hm0 : may ≠ 0 := by rw [hwm] at h; omega
        rw [if_neg hbz, if_neg hlt, if_neg hm0, List.nil_append] at heq
        exact ⟨(i + 1, may - 1, c), ⟨hi', by simp only []; omega, hPc, pre, hpre, heq⟩, by simp only []; omega, Weak.by ⟨rfl, rfl, rfl, rfl, rfl, rfl, congrArg I (hwm.trans (by show (may : Int) - 1 = ((may - 1 : Nat) : Int); omega)), rfl, rfl, congrArg I hwi, trivial⟩⟩
    · have hie : i = p.clubs.length := by simp only at hb1; omega
      subst hie
      rw [List.drop_length] at heq
      repeat' (conv => whnf
               first | refine Br.tt ?_ | refine Br.ff ?_ | refine Br.dec (fun h => ?_) (fun h => ?_) | refine Br.not ?_ | refine Br.intro (fun h => ?_) (fun h => ?_) | refine GetE.intro _ rfl ?_ | refine Need.intro rfl ?_ | refine DrawP.go mixed rfl ?_)
      conv => whnf
      refine FinP.drop (n := N) (L' := S c) (List.take_left' (hS c)) (Nat.le_of_eq (hS 0)) rfl (hbS c) ?_
      have := h0
      rw [len, heq, chOut, List.append_nil, hpre] at this
      exact this hPc
end Go.Proofs.Ytjknhbfcdjjbhaa
