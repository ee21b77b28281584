/-
  planner's reference: the search.
-/
import Derived.Test.YtjknhbfcdjjbhaaPlaH
import Derived.Test.YtjknhbfcdjjbhaaPlaI
import Derived.Test.YtjknhbfcdjjbhaaDemV
namespace Go.Proofs.Ytjknhbfcdjjbhaa
open Go.Tidy
set_option maxRecDepth 100000
set_option maxHeartbeats 0
set_option linter.unusedSimpArgs false
set_option linter.unusedVariables false
variable {L : List Blk} {k : V → List Blk → Prop}
def fstV (fs : List Lst) : V := match fs.head? with
  | some l => .d (lisD l)
  | none => .nil
def scS (p : Pl) (bud : Nat) (all : Bool) (o : Sr) : List V := [.d (ints p.clubs), B p.double, .d (.sl (p.demands.map Dm.cells)), I bud, B all, I o.sp, I o.fs.length, fstV o.fs, B (decide (o.e = 3))]
def okS (all : Bool) : Sr → Prop
  | .go _ fs => all = false → fs = []
  | .stop e _ fs => e = 3 ∨ (e = 0 ∧ fs ≠ [] ∧ all = false)
theorem exam_okS (ch : Lst → List Mt) (ok : Lst → Bool) (p : Pl) (bud : Nat) (all : Bool) : ∀ (n : Nat) (l : Lst) (sp : Nat) (fs : List Lst), (all = false → fs = []) → okS all (exam ch ok p bud all n l sp fs)
  | 0, l, sp, fs, h => h
  | n + 1, l, sp, fs, h => by
    unfold exam
    split
    · split
      · rename_i ha; intro hb; rw [ha] at hb; cases hb
      · rename_i ha; exact .inr ⟨rfl, by simp, by simpa using ha⟩
    · have key : ∀ (ms : List Mt) (sp : Nat) (fs : List Lst), (all = false → fs = []) → okS all (exLoop (exam ch ok p bud all n) (extL l p) ok bud ms sp fs) := by
        intro ms
        induction ms with
        | nil => intro sp fs h; exact h
        | cons m ms ih =>
          intro sp fs h
          simp only [exLoop]
          split
          · exact .inl rfl
          · split
            · have h2 := exam_okS ch ok p bud all n (extL l p m) (sp + 1) fs h
              split
              · rename_i e; rw [e] at h2; exact ih _ _ h2
              · rename_i e; rw [e] at h2; exact h2
            · exact ih _ _ h
      exact key _ _ _ h
theorem exLoop_okS (ch : Lst → List Mt) (ok : Lst → Bool) (p : Pl) (bud : Nat) (all : Bool) (n : Nat) (ext : Mt → Lst) : ∀ (ms : List Mt) (sp : Nat) (fs : List Lst), (all = false → fs = []) → okS all (exLoop (exam ch ok p bud all n) ext ok bud ms sp fs)
  | [], sp, fs, h => h
  | m :: ms, sp, fs, h => by
    simp only [exLoop]
    split
    · exact .inl rfl
    · split
      · have h2 := exam_okS ch ok p bud all n (ext m) (sp + 1) fs h
        split
        · rename_i e; rw [e] at h2; exact exLoop_okS ch ok p bud all n ext ms _ _ h2
        · rename_i e; rw [e] at h2; exact h2
      · exact exLoop_okS ch ok p bud all n ext ms _ _ h
def Sr.endB : Sr → Bool
  | .go _ _ => false
  | .stop _ _ _ => true
theorem rended_c (p : Pl) (bud : Nat) (all : Bool) (o : Sr) (X : List Blk) (ho : okS all o) (hk : k (B o.endB) (.cells (scS p bud all o) :: X)) : CallP C 63 [.ptr 0 0] (.cells (scS p bud all o) :: X) k := by
  refine callP_of C_ok Try.func63 rfl rfl (n := _) rfl (Nat.le_of_ble_eq_true rfl) (rs := _) rfl ?_
  repeat' (conv => whnf
           first | refine Br.tt ?_ | refine Br.ff ?_ | refine Br.dec (fun h => ?_) (fun h => ?_) | refine Br.not ?_ | refine Br.intro (fun h => ?_) (fun h => ?_) | refine GetE.intro _ rfl ?_ | refine Need.intro rfl ?_ | refine DrawP.go mixed rfl ?_)
  all_goals conv => whnf
  all_goals refine FinP.same ?_
  · have e : o.endB = true := by cases o with
      | go a b => exact absurd h (fun h : (0 : Int) = 3 => by omega)
      | stop e a b => rfl
    rw [e] at hk; exact hk
  · rename_i h3
    have e : o.endB = !all := by cases o with
      | go a b =>
        cases all with
        | true => rfl
        | false => have := ho rfl; subst this; exact absurd h (Int.lt_irrefl 0)
      | stop e a b =>
        rcases ho with ho | ⟨_, _, ho⟩
        · exact absurd ho h3
        · simp [ho, Sr.endB]
    rw [e] at hk; exact hk
  · rename_i h3
    have e : o.endB = false := by cases o with
      | go a b => rfl
      | stop e a b =>
        rcases ho with ho | ⟨_, ho, _⟩
        · exact absurd ho h3
        · cases b with
          | nil => exact absurd rfl ho
          | cons x b => exact absurd (show (0 : Int) < ((x :: b).length : Int) by simp) h
    rw [e] at hk; exact hk
theorem ext_eq {l : Lst} {p : Pl} (h : (nxR l p).2.2 = true) (m : Mt) : extR l p m = extL l p m := by
  unfold extR extL nxR at *
  rcases openR_spec l p with ⟨h1, h2⟩ | ⟨h1, r, h2, h3, h4, h5⟩
  · rw [h1] at h ⊢
    simp only [Bool.true_eq_false, if_false] at h ⊢
    split at h
    · rename_i hlt; rw [if_pos hlt, h2]; simp
    · cases h
  · rw [if_pos h1, h1]; rfl
theorem rchs_is {l : Lst} {p : Pl} {i : Nat} (h : i < (rchs l p).length) : (nxR l p).2.2 = true := by
  unfold rchs at h
  split at h
  · assumption
  · simp at h
theorem full_eq {l : Lst} {p : Pl} (hP : PartR l p) : decide (FullR l p) = fullC l p := by
  have hr1 := roundsN_pos p
  rw [Bool.eq_iff_iff, decide_eq_true_eq]
  constructor
  · rintro ⟨_, h2, h3⟩
    have hl := last_of (l := l) (by omega)
    have h4 := h3 _ hl
    unfold fullC
    rw [hl, decide_eq_true h2]
    exact decide_eq_true h4
  · intro h
    unfold fullC at h
    rw [Bool.and_eq_true] at h
    refine ⟨hP, of_decide_eq_true h.1, fun r hr => ?_⟩
    have h2 := h.2
    rw [hr] at h2
    exact of_decide_eq_true h2
def examR (p : Pl) (bud : Nat) (all : Bool) : Nat → Lst → Nat → List Lst → Sr := exam (fun l => rchs l p) (fun x => decide (rdmA x p < 0)) p bud all
theorem rdmA_part {l : Lst} {p : Pl} (h : rdmA l p < 0) : checkP p = 0 ∧ PartR l p := by
  unfold rdmA at h
  split at h
  · assumption
  · omega
theorem rexamine_c (p : Pl) (bud : Nat) (all : Bool) (h0 : checkP p = 0) (hs0 : Small [] p) (hbud : bud ≤ 1073741824) :
    ∀ (n : Nat) (l : Lst) (sp : Nat) (fs : List Lst), PartR l p → roundsN p * halfN p < l.flatten.length + n → sp ≤ bud → (fullC l p = true → fs.length + 1 ≤ sp) → fs.length ≤ sp → (all = false → fs = []) →
      CallP C 37 [.ptr 0 0, lisV l] [.cells (scS p bud all (.go sp fs))] fun X L' => X = .tup [] ∧ L' = [.cells (scS p bud all (examR p bud all n l sp fs))]
  | 0, l, sp, fs, hP, hfu, _, _, _, _ => by have := part_total ((PartP_iff l p (checkP_field h0)).2 hP); omega
  | n + 1, l, sp, fs, hP, hfu, hsp, hf1, hf2, hall => by
    have hf := checkP_field h0
    have hPP := (PartP_iff l p hf).2 hP
    have hlen : 1 ≤ p.clubs.length ∧ p.clubs.length ≤ 1000 := by
      simp only [fieldOk, Bool.and_eq_true, decide_eq_true_eq] at hf; omega
    obtain ⟨hsl, -⟩ := part_small hs0 hlen.2 hPP ⟨0, 0⟩
    have b1 := roundsN_le hlen.2
    have b2 := halfN_le hlen.2
    have b3 := hPP.1
    have b4 : l.flatten.length ≤ 1001000 := Nat.le_trans (part_total hPP) (Nat.le_trans (Nat.mul_le_mul b1 b2) (by decide))
    have hfe := full_eq hP
    by_cases hfull : fullC l p = true
    · have hF : decide (FullR l p) = true := hfe.trans hfull
      have hroot : examR p bud all (n + 1) l sp fs = if all then .go sp (fs ++ [l]) else .stop 0 sp (fs ++ [l]) := by
        show exam _ _ _ _ _ (n + 1) l sp fs = _
        rw [exam, if_pos hfull]
      have hw : IntKind.i64.wrap ((fs.length : Int) + 1) = ((fs.length + 1 : Nat) : Int) := by have := hf1 hfull; rw [wrap_in (by omega)]; omega
      refine callP_of C_ok Try.func37 rfl rfl (n := _) rfl (Nat.le_of_ble_eq_true rfl) (rs := _) rfl ?_
      repeat' (conv => whnf
               first | refine QCall.intro _ (rfull_c l p hf hsl.hl hsl.hr (by omega) ⟨rfl, rfl⟩) ?_ | refine Br.yes hF ?_ | refine Br.tt ?_ | refine Br.ff ?_ | refine Br.dec (fun h => ?_) (fun h => ?_) | refine Br.not ?_ | refine Br.intro (fun h => ?_) (fun h => ?_) | refine GetE.intro _ rfl ?_ | refine Need.intro rfl ?_ | refine DrawP.go mixed rfl ?_)
      all_goals conv => whnf
      all_goals
        refine FinP.drop (n := 1) (L' := [.cells [.d (ints p.clubs), B p.double, .d (.sl (p.demands.map Dm.cells)), I bud, B all, I sp, I (fs.length + 1 : Nat), fstV (fs ++ [l]), B false]]) ?_ (Nat.le_refl _) rfl ?_ ⟨rfl, ?_⟩
        rotate_left 2
        · rw [hroot]
          have e : ((fs ++ [l]).length : Int) = ((fs.length + 1 : Nat) : Int) := by rw [List.length_append]; rfl
          cases all <;> (unfold scS; simp only [Bool.false_eq_true, if_false, if_true, Sr.sp, Sr.fs, Sr.e, e]; rfl)
        rotate_left 1
        · cases fs <;> rfl
      · have hz : fs = [] := List.eq_nil_of_length_eq_zero (by have : (fs.length : Int) = 0 := h; omega)
        subst hz
        exact congrArg (fun z : Int => [Blk.cells [.d (ints p.clubs), B p.double, .d (.sl (p.demands.map Dm.cells)), I bud, B all, I sp, I z, .d (lisD l), B false]]) hw
      · cases hfs : fs with
        | nil => subst hfs; exact absurd rfl h
        | cons x r =>
          subst hfs
          exact congrArg (fun z : Int => [Blk.cells [.d (ints p.clubs), B p.double, .d (.sl (p.demands.map Dm.cells)), I bud, B all, I sp, I z, .d (lisD x), B false]]) hw
    · have hF : decide (FullR l p) = false := hfe.trans (by simpa using hfull)
      have hroot : examR p bud all (n + 1) l sp fs = exLoop (examR p bud all n) (extL l p) (fun x => decide (rdmA x p < 0)) bud (rchs l p) sp fs := by
        show exam _ _ _ _ _ (n + 1) l sp fs = _
        rw [exam, if_neg hfull]; rfl
      have hsm := fun m => nx_small (l := l) (p := p) (by omega) (by omega) m
      refine callP_of C_ok Try.func37 rfl rfl (n := _) rfl (Nat.le_of_ble_eq_true rfl) (rs := _) rfl ?_
      repeat' (conv => whnf
               first | refine QCall.intro _ (rfull_c l p hf hsl.hl hsl.hr (by omega) ⟨rfl, rfl⟩) ?_ | refine Br.no hF ?_ | refine QCall.intro _ (rchoices_c l p hf (by omega) (by omega) ⟨rfl, rfl⟩) ?_ | refine QCall.intro _ (rnext_c l p (by omega) hlen ⟨rfl, rfl⟩) ?_ | refine Br.tt ?_ | refine Br.ff ?_ | refine Br.dec (fun h => ?_) (fun h => ?_) | refine Br.not ?_ | refine Br.intro (fun h => ?_) (fun h => ?_) | refine GetE.intro _ rfl ?_ | refine Need.intro rfl ?_ | refine DrawP.go mixed rfl ?_)
      conv => whnf
      obtain ⟨ms, hms⟩ : ∃ ms, ms = rchs l p := ⟨_, rfl⟩
      obtain ⟨f0, hf0⟩ : ∃ f0, f0 = examR p bud all n := ⟨_, rfl⟩
      have hmsl : ms.length ≤ 2000000 := by
        rw [hms]; unfold rchs; split
        · have := prs_len 1000 p.clubs hlen.2
          have h2 := List.length_filter_le (fun m => decide (PartR (extR l p m) p)) (prs p.clubs)
          omega
        · simp
      rw [← hms, ← hf0] at hroot
      rw [← hms]
      refine LoopP.inv (fun s : Nat × Sr => s.1 ≤ ms.length ∧ exLoop f0 (extL l p) (fun x => decide (rdmA x p < 0)) bud (ms.take s.1) sp fs = s.2) (fun s => ⟨[(0, .ptr 0 0), (3, .ptr 1 0), (4, .d (mts ms)), (5, .d (mts (nxR l p).1)), (6, .d (lisD (nxR l p).2.1)), (8, I s.1)], Try.f37.ntmps, [.cells (scS p bud all s.2), .cells [.d (lisD l)]], [], none⟩) (fun s => ms.length - s.1) (0, .go sp fs) ⟨Nat.zero_le _, rfl⟩ ?_ ?_
      · exact Weak.by ⟨rfl, rfl, rfl, rfl, rfl, rfl, trivial⟩
      rintro ⟨i, o⟩ ⟨hi, ho⟩
      simp only at hi ho
      have hok : okS all o := by rw [← ho, hf0]; exact exLoop_okS _ _ p bud all n (extL l p) _ sp fs hall
      conv => whnf
      refine Br.dec (fun hb => ?_) (fun hb => ?_)
      · have hi' : i < ms.length := by simp only [List.length_map] at hb; omega
        have hwi : IntKind.i64.wrap ((i : Int) + 1) = ((i + 1 : Nat) : Int) := by rw [wrap_in (by omega)]; omega
        cases o with
        | stop e a b =>
          have hst := exLoop_stop f0 (extL l p) (fun x => decide (rdmA x p < 0)) bud ho
          repeat' (conv => whnf
                   first | refine rended_c p bud all (.stop e a b) _ hok ?_ | refine Br.not ?_ | refine Br.yes rfl ?_ | refine Br.tt ?_ | refine Br.ff ?_ | refine Br.dec (fun h => ?_) (fun h => ?_) | refine Br.not ?_ | refine Br.intro (fun h => ?_) (fun h => ?_) | refine GetE.intro _ rfl ?_ | refine Need.intro rfl ?_ | refine DrawP.go mixed rfl ?_)
          conv => whnf
          exact FinP.drop (n := 1) rfl (Nat.le_refl _) rfl (by cases b <;> rfl) ⟨rfl, by rw [hroot, hst]; rfl⟩
        | go a b =>
          obtain ⟨k1, k2, k3⟩ := exLoop_keep _ _ p bud all n (extL l p) _ sp fs hsp hf2 a b (by rw [hf0] at ho; exact ho)
          have hnext := exLoop_next f0 (extL l p) (fun x => decide (rdmA x p < 0)) bud hi' ho
          obtain ⟨m, hm⟩ : ∃ m, m = ms[i] := ⟨_, rfl⟩
          rw [← hm] at hnext
          have his := rchs_is (l := l) (p := p) (i := i) (hms ▸ hi')
          have hxx := ext_eq his m
          obtain ⟨s1, s2, s3, s4, s5⟩ := hsm m
          have hallb : all = false → b = [] := hok
          subst hm
          by_cases hsb : a = bud
          · have hst : exLoop f0 (extL l p) (fun x => decide (rdmA x p < 0)) bud ms sp fs = .stop 3 a b := by
              refine exLoop_stop _ _ _ _ (i := i + 1) ?_
              rw [hnext, exLoop, if_pos hsb]
            repeat' (conv => whnf
                     first | refine rended_c p bud all (.go a b) _ hok ?_ | refine Br.not ?_ | refine Br.no (show (Sr.go a b).endB = false from rfl) ?_ | refine Br.yes (decide_eq_true (show (a : Int) = (bud : Int) by omega)) ?_ | refine Br.tt ?_ | refine Br.ff ?_ | refine Br.dec (fun h => ?_) (fun h => ?_) | refine Br.not ?_ | refine Br.intro (fun h => ?_) (fun h => ?_) | refine GetE.intro _ rfl ?_ | refine Need.intro rfl ?_ | refine DrawP.go mixed rfl ?_)
            conv => whnf
            refine FinP.drop (n := 1) (L' := [.cells (scS p bud all (.stop 3 a b))]) ?_ (Nat.le_refl _) rfl (by cases b <;> rfl) ⟨rfl, by rw [hroot, hst]⟩
            cases b <;> rfl
          · have hi64 : IntKind.i64.wrap ((a : Int) + 1) = ((a + 1 : Nat) : Int) := by rw [wrap_in (by omega)]; omega
            have hsx : SmallR (extR l p ms[i]) p := ⟨⟨s3, s4, hs0.hc, hs0.hd, hs0.hD⟩, s5⟩
            repeat' (conv => whnf
                     first | refine rended_c p bud all (.go a b) _ hok ?_ | refine Br.not ?_ | refine Br.no (show (Sr.go a b).endB = false from rfl) ?_ | refine Br.no (decide_eq_false (show ¬ (a : Int) = (bud : Int) by omega)) ?_ | refine Idx.map i rfl hi' ?_ | refine rext_c (nxR l p).1 (nxR l p).2.1 ms[i] (by omega) (by omega) ?_ | refine QCall.intro _ (rdmd_c (extR l p ms[i]) p hsx ⟨rfl, rfl⟩) ?_ | refine Br.tt ?_ | refine Br.ff ?_ | refine Br.dec (fun h => ?_) (fun h => ?_) | refine Br.not ?_ | refine Br.intro (fun h => ?_) (fun h => ?_) | refine GetE.intro _ rfl ?_ | refine Need.intro rfl ?_ | refine DrawP.go mixed rfl ?_)
            all_goals conv => whnf
            · have hneg : rdmA (extR l p ms[i]) p < 0 := ‹_›
              obtain ⟨-, hPx⟩ := rdmA_part hneg
              have hfx : roundsN p * halfN p < (extR l p ms[i]).flatten.length + n := by rw [hxx, extL_flat, List.length_append]; simp only [List.length_singleton]; omega
              have hih := rexamine_c p bud all h0 hs0 hbud n (extR l p ms[i]) (a + 1) b hPx hfx (by omega) (fun _ => by omega) (by omega) hallb
              obtain ⟨o2, ho2⟩ : ∃ o2, o2 = examR p bud all n (extR l p ms[i]) (a + 1) b := ⟨_, rfl⟩
              rw [← ho2] at hih
              have hF1 : exLoop f0 (extL l p) (fun x => decide (rdmA x p < 0)) bud (ms.take (i + 1)) sp fs = o2 := by
                rw [hnext, exLoop, if_neg hsb, if_pos (by rw [← hxx]; simpa using hneg), ← hxx, hf0, ← ho2]
                cases o2 <;> rfl
              refine CallP.cnv (args' := [.ptr 0 0, lisV (extR l p ms[i])]) (L' := ([Blk.cells (scS p bud all (Sr.go (a + 1) b))] : List Blk) ++ ([Blk.cells [V.d (lisD l)], Blk.cells [V.d (lisD (extR l p ms[i]))]] : List Blk)) rfl (congrArg (fun z : Int => [Blk.cells [.d (ints p.clubs), B p.double, .d (.sl (p.demands.map Dm.cells)), I bud, B all, I z, I b.length, fstV b, B false], .cells [.d (lisD l)], .cells [.d (lisD (extR l p ms[i]))]]) hi64) ?_
              refine CallP.frameP (Nat.zero_le _) hih (by cases b <;> rfl) rfl rfl ?_
              rintro X L1 ⟨rfl, rfl⟩
              refine ⟨rfl, by cases o2 <;> (rename_i bb; cases bb <;> rfl), rfl, ?_⟩
              repeat' (conv => whnf
                       first | refine Br.tt ?_ | refine Br.ff ?_ | refine Br.dec (fun h => ?_) (fun h => ?_) | refine Br.not ?_ | refine Br.intro (fun h => ?_) (fun h => ?_) | refine GetE.intro _ rfl ?_ | refine Need.intro rfl ?_ | refine DrawP.go mixed rfl ?_)
              conv => whnf
              exact ⟨(i + 1, o2), ⟨hi', hF1⟩, by simp only []; omega, Weak.to 2 rfl (Nat.le_succ 1) (Nat.le_of_ble_eq_true rfl) ⟨rfl, rfl, rfl, rfl, rfl, congrArg I hwi, trivial⟩ (hB := by cases o2 <;> (rename_i bb; cases bb <;> rfl))⟩
            · have hneg : ¬ rdmA (extR l p ms[i]) p < 0 := ‹_›
              have hF1 : exLoop f0 (extL l p) (fun x => decide (rdmA x p < 0)) bud (ms.take (i + 1)) sp fs = .go (a + 1) b := by
                rw [hnext, exLoop, if_neg hsb, if_neg (by rw [← hxx]; simpa using hneg)]; rfl
              refine ⟨(i + 1, .go (a + 1) b), ⟨hi', hF1⟩, by simp only []; omega, Weak.to 2 ?_ (Nat.le_succ 1) (Nat.le_of_ble_eq_true rfl) ⟨rfl, rfl, rfl, rfl, rfl, congrArg I hwi, trivial⟩ (hB := by cases b <;> rfl)⟩
              exact congrArg (fun z : Int => [Blk.cells [.d (ints p.clubs), B p.double, .d (.sl (p.demands.map Dm.cells)), I bud, B all, I z, I b.length, fstV b, B false], .cells [.d (lisD l)]]) hi64
      · have hie : i = ms.length := by simp only [List.length_map] at hb; omega
        subst hie
        rw [List.take_length] at ho
        repeat' (conv => whnf
                 first | refine Br.tt ?_ | refine Br.ff ?_ | refine Br.dec (fun h => ?_) (fun h => ?_) | refine Br.not ?_ | refine Br.intro (fun h => ?_) (fun h => ?_) | refine GetE.intro _ rfl ?_ | refine Need.intro rfl ?_ | refine DrawP.go mixed rfl ?_)
        conv => whnf
        exact FinP.drop (n := 1) rfl (Nat.le_refl _) rfl (by cases o <;> (rename_i b; cases b <;> rfl)) ⟨rfl, by rw [hroot, ho]; rfl⟩
end Go.Proofs.Ytjknhbfcdjjbhaa
