/-
  typing: what a valid order has; two lists of numbers the same; the environment of a number.
-/
import Derived.Test.YtddolfgmkpfmcaaDoorTypL
namespace Go.Proofs.YtddolfgmkpfmcaaDoor
open Go.Tidy
set_option maxRecDepth 100000
set_option maxHeartbeats 0
set_option linter.unusedSimpArgs false
set_option linter.unusedVariables false
variable {L : List Blk} {k : V → List Blk → Prop}
theorem vCos_mem : ∀ {l : List Co}, vCos l = true → ∀ c ∈ l, vCo c = true
  | [], _, c, hc => by cases hc
  | d :: l, h, c, hc => by
    rw [vCos, Bool.and_eq_true] at h
    rcases List.mem_cons.1 hc with rfl | hc
    · exact h.1
    · exact vCos_mem h.2 c hc
theorem vSps_mem : ∀ {l : List Sp}, vSps l = true → ∀ c ∈ l, vSp c = true
  | [], _, c, hc => by cases hc
  | d :: l, h, c, hc => by
    rw [vSps, Bool.and_eq_true] at h
    rcases List.mem_cons.1 hc with rfl | hc
    · exact h.1
    · exact vSps_mem h.2 c hc
theorem hco_of : ∀ (n : Nat) (c : Co), SizeOf.sizeOf c ≤ n → vCo c = true → LCo c → HCo c
  | 0, c, h, _, _ => absurd h (by cases c; simp)
  | n + 1, c, hsz, hv, hl => by
    have hlen := hl.len
    have hsub := hl.sub
    have ps : ∀ p ∈ c.parts, SizeOf.sizeOf p < SizeOf.sizeOf c := fun p hp => part_sizeC hp
    cases c with | mk kd v m ps0 =>
    simp only [Co.parts] at hlen hsub ps
    have key : (kd = 4 → 0 < ps0.length) ∧ ∀ p ∈ ps0, vCo p = true := by
      rw [vCo] at hv
      split at hv
      · simp only [Bool.and_eq_true, decide_eq_true_eq] at hv
        have h0 : ps0.length = 0 := by omega
        exact ⟨fun h => by omega, fun p hp => by rw [List.length_eq_zero_iff.1 h0] at hp; cases hp⟩
      · split at hv
        · simp only [Bool.and_eq_true, decide_eq_true_eq] at hv
          exact ⟨fun _ => by omega, vCos_mem hv.2⟩
        · split at hv
          · simp only [Bool.and_eq_true, decide_eq_true_eq] at hv
            exact ⟨fun _ => by omega, vCos_mem hv.2⟩
          · cases hv
    exact .mk key.1 (by simp only [Co.parts]; omega) fun p hp => hco_of n p (by have := ps p hp; omega) (key.2 p hp) (hsub p hp)
theorem dsp_of : ∀ (n : Nat) (s : Sp), SizeOf.sizeOf s ≤ n → vSp s = true → LSp s → DSp s
  | 0, s, h, _, _ => absurd h (by cases s; simp)
  | n + 1, s, hsz, hv, hl => by
    obtain ⟨h1, h2, hc, ht, he⟩ := hl
    cases s with | mk kd b c t e =>
    simp only [Sp.mk.sizeOf_spec] at hsz
    simp only [Sp.thn, Sp.els, Sp.cond] at h1 h2 hc ht he
    rw [vSp] at hv
    have hz : ∀ {l : List Sp} {p : Sp}, p ∈ l → SizeOf.sizeOf p < SizeOf.sizeOf l := fun h => List.sizeOf_lt_of_mem h
    split at hv
    · rename_i k1
      simp only [Bool.and_eq_true, decide_eq_true_eq] at hv
      have t0 : t.length = 0 := by omega
      have e0 : e.length = 0 := by omega
      refine .mk (fun h => by simp only [Sp.kind] at h; omega) (fun _ => hv.1.1) h1 h2 (fun p hp => ?_) (fun p hp => ?_)
      · simp only [Sp.thn] at hp; rw [List.length_eq_zero_iff.1 t0] at hp; cases hp
      · simp only [Sp.els] at hp; rw [List.length_eq_zero_iff.1 e0] at hp; cases hp
    · split at hv
      · rename_i k2
        simp only [Bool.and_eq_true, decide_eq_true_eq] at hv
        refine .mk (fun _ => hco_of _ _ (Nat.le_refl _) hv.1.1.1.2 hc) (fun h => absurd k2 h) h1 h2 (fun p hp => ?_) (fun p hp => ?_)
        · simp only [Sp.thn] at hp; exact dsp_of n p (by have := hz hp; omega) (vSps_mem hv.1.2 p hp) (ht p hp)
        · simp only [Sp.els] at hp; exact dsp_of n p (by have := hz hp; omega) (vSps_mem hv.2 p hp) (he p hp)
      · cases hv
theorem check_ok {l : List Fm} (h : checkF l = 0) : (wF 40 l 0 (0, 0)).1 = true ∧ l.length ≠ 0 ∧ ∀ f ∈ l, vFm f = true := by
  unfold checkF at h
  split at h
  · rename_i h1
    split at h
    · cases h
    · rename_i h2
      split at h
      · cases h
      · rename_i h3
        refine ⟨h1, h2, fun f hf => ?_⟩
        cases hv : vFm f with
        | true => rfl
        | false => exact absurd (List.any_eq_true.2 ⟨f, hf, by rw [hv]; rfl⟩) h3
  · cases h
theorem order_dsp {l : List Sp} (hl : LSs l) (h : orderF l = 0) : ∀ s ∈ l, DSp s := fun s hs =>
  dsp_of _ s (Nat.le_refl _) ((check_ok h).2.2 (.s s) (List.mem_map.2 ⟨s, hs, rfl⟩)) (hl.all s hs)
theorem cond_hco {c : Co} (hl : LCo c) (h : checkF [.c c] = 0) : HCo c :=
  hco_of _ c (Nat.le_refl _) ((check_ok h).2.2 (.c c) (List.mem_singleton.2 rfl)) hl
/-! ### The statements' functions -/
theorem same_c (a b : List Int) (ha : a.length ≤ 4611686018427387904) (hb : b.length ≤ 4611686018427387904) (h : k (B (decide (a = b))) L) : CallP C 26 [.d (ins a), .d (ins b)] L k := by
  refine CallP.pure ?_ rfl (fun _ => rfl) h
  clear h
  refine callP_of C_ok Tryd.func26 rfl rfl (n := _) rfl (Nat.le_of_ble_eq_true rfl) (rs := _) rfl ?_
  by_cases h1 : ((a.map fun n => [DI n]).length : Int) = ((b.map fun n => [DI n]).length : Int)
  rotate_left
  · have hne : a ≠ b := fun e => h1 (by rw [e])
    repeat' (conv => whnf
             first | refine Br.no (decide_eq_false h1) ?_ | refine Br.tt ?_ | refine Br.ff ?_ | refine Br.dec (fun h => ?_) (fun h => ?_) | refine Br.not ?_ | refine Br.intro (fun h => ?_) (fun h => ?_) | refine GetE.intro _ rfl ?_ | refine Need.intro rfl ?_ | refine DrawP.go mixed rfl ?_)
    conv => whnf
    exact FinP.drop (n := 0) rfl (Nat.le_refl 0) rfl rfl ⟨rfl, congrArg B (decide_eq_false hne).symm⟩
  have hl : a.length = b.length := by rw [List.length_map, List.length_map] at h1; omega
  repeat' (conv => whnf
           first | refine Br.yes (decide_eq_true h1) ?_ | refine Br.tt ?_ | refine Br.ff ?_ | refine Br.dec (fun h => ?_) (fun h => ?_) | refine Br.not ?_ | refine Br.intro (fun h => ?_) (fun h => ?_) | refine GetE.intro _ rfl ?_ | refine Need.intro rfl ?_ | refine DrawP.go mixed rfl ?_)
  conv => whnf
  refine LoopP.inv (fun i => i ≤ a.length ∧ ∀ (j : Nat) (h : j < a.length) (h' : j < b.length), j < i → a[j] = b[j]) (fun i => ⟨[(0, .d (ins a)), (1, .d (ins b)), (5, I i)], Tryd.f26.ntmps, [], [], none⟩) (fun i => a.length - i) 0 ⟨Nat.zero_le _, fun j _ _ h => absurd h (Nat.not_lt_zero j)⟩ ?_ ?_
  · exact Weak.to 0 rfl (Nat.zero_le _) (Nat.zero_le _) ⟨rfl, rfl, rfl, trivial⟩
  rintro i ⟨hi, heq⟩
  by_cases hi' : i < a.length
  · have hlt : (i : Int) < ((a.map fun n => [DI n]).length : Int) := by rw [List.length_map]; omega
    have hib : i < b.length := by omega
    have hw : IntKind.i64.wrap ((i : Int) + 1) = ((i + 1 : Nat) : Int) := by rw [wrap_in (by omega)]; omega
    have r1 : (a.map fun n => [DI n])[i]? = some [DI a[i]] := by rw [List.getElem?_map, List.getElem?_eq_getElem hi']; rfl
    have r2 : (b.map fun n => [DI n])[i]? = some [DI b[i]] := by rw [List.getElem?_map, List.getElem?_eq_getElem hib]; rfl
    by_cases hq : a[i] = b[i]
    · repeat' (conv => whnf
               first | refine Br.yes (decide_eq_true hlt) ?_ | refine Br.yes (decide_eq_true hq) ?_ | refine Br.tt ?_ | refine Br.ff ?_ | refine Br.dec (fun h => ?_) (fun h => ?_) | refine Br.not ?_ | refine Br.intro (fun h => ?_) (fun h => ?_) | refine GetE.intro _ rfl ?_ | refine Need.intro rfl ?_ | refine DrawP.go mixed rfl ?_ | refine Idx.intro i _ rfl r1 ?_ | refine Idx.intro i _ rfl r2 ?_)
      conv => whnf
      exact ⟨i + 1, ⟨hi', fun j hj hj' hji => by
        by_cases e : j = i
        · subst e; exact hq
        · exact heq j hj hj' (by omega)⟩, by omega, Weak.to 0 rfl (Nat.zero_le _) (Nat.zero_le _) ⟨rfl, rfl, congrArg I hw, trivial⟩⟩
    · have hne : a ≠ b := fun e => hq (by subst e; rfl)
      repeat' (conv => whnf
               first | refine Br.yes (decide_eq_true hlt) ?_ | refine Br.no (decide_eq_false hq) ?_ | refine Br.tt ?_ | refine Br.ff ?_ | refine Br.dec (fun h => ?_) (fun h => ?_) | refine Br.not ?_ | refine Br.intro (fun h => ?_) (fun h => ?_) | refine GetE.intro _ rfl ?_ | refine Need.intro rfl ?_ | refine DrawP.go mixed rfl ?_ | refine Idx.intro i _ rfl r1 ?_ | refine Idx.intro i _ rfl r2 ?_)
      conv => whnf
      exact FinP.drop (n := 0) rfl (Nat.le_refl 0) rfl rfl ⟨rfl, congrArg B (decide_eq_false hne).symm⟩
  · have hlt : ¬ (i : Int) < ((a.map fun n => [DI n]).length : Int) := by rw [List.length_map]; omega
    have hab : a = b := List.ext_getElem hl fun j h1 h2 => heq j h1 h2 (by omega)
    repeat' (conv => whnf
             first | refine Br.no (decide_eq_false hlt) ?_ | refine Br.tt ?_ | refine Br.ff ?_ | refine Br.dec (fun h => ?_) (fun h => ?_) | refine Br.not ?_ | refine Br.intro (fun h => ?_) (fun h => ?_) | refine GetE.intro _ rfl ?_ | refine Need.intro rfl ?_ | refine DrawP.go mixed rfl ?_)
    conv => whnf
    exact FinP.drop (n := 0) rfl (Nat.le_refl 0) rfl rfl ⟨rfl, congrArg B (decide_eq_true hab).symm⟩
def envN (n : Int) : Int := andI .i64 n 1073741823 % 49726
theorem and_rng (n m : Int) (hm : 0 ≤ m ∧ m ≤ 9223372036854775807) : 0 ≤ andI .i64 n m ∧ andI .i64 n m ≤ m := by
  unfold andI
  have h1 : (BitVec.ofInt IntKind.i64.bits n &&& BitVec.ofInt IntKind.i64.bits m).toNat ≤ m.toNat := by
    rw [BitVec.toNat_and]
    refine Nat.le_trans Nat.and_le_right ?_
    rw [BitVec.toNat_ofInt]
    have : (m % ((2 ^ IntKind.i64.bits : Nat) : Int)).toNat ≤ m.toNat := by
      have : m % ((2 ^ IntKind.i64.bits : Nat) : Int) = m := Int.emod_eq_of_lt hm.1 (by show m < 18446744073709551616; omega)
      rw [this]; exact Nat.le_refl _
    exact this
  rw [wrap_in (by omega)]
  omega
theorem envN_rng (n : Int) : 0 ≤ envN n ∧ envN n < 49726 := by unfold envN; omega
theorem env14_c (n : Int) (h : k (enV (En.at (envN n))) L) : CallP C 23 [I n] L k := by
  have hr := envN_rng n
  have ha := and_rng n 1073741823 (by decide)
  have e : (andI .i64 n 1073741823).tmod 49726 = envN n := by unfold envN; exact Int.tmod_eq_emod_of_nonneg ha.1
  have e2 : envsX ((andI .i64 n 1073741823).tmod 49726) = En.at (envN n) := by rw [e]; unfold envsX; rw [if_neg (by omega)]
  refine CallP.pure ?_ rfl (fun _ => rfl) h
  clear h
  refine callP_of C_ok Tryd.func23 rfl rfl (n := _) rfl (Nat.le_of_ble_eq_true rfl) (rs := _) rfl ?_
  repeat' (conv => whnf
           first | refine Br.tt ?_ | refine Br.ff ?_ | refine Br.dec (fun h => ?_) (fun h => ?_) | refine Br.not ?_ | refine Br.intro (fun h => ?_) (fun h => ?_) | refine GetE.intro _ rfl ?_ | refine Need.intro rfl ?_ | refine DrawP.go mixed rfl ?_ | refine refenvs_c _ ?_ | refine Need.intro (show (49726 : Int) ≠ 0 by decide) ?_)
  conv => whnf
  exact FinP.drop (n := 0) rfl (Nat.le_refl 0) rfl rfl ⟨rfl, Eq.trans (b := enV (envsX ((andI .i64 n 1073741823).tmod 49726))) rfl (by rw [e2])⟩
end Go.Proofs.YtddolfgmkpfmcaaDoor
