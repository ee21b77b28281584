/-
  typing: the counts of both sides, and that both sides judge alike.
-/
import Derived.Test.YtddolfgmkpfmcaaDoorTypY
namespace Go.Proofs.YtddolfgmkpfmcaaDoor
open Go.Tidy
set_option maxRecDepth 100000
set_option maxHeartbeats 0
set_option linter.unusedSimpArgs false
set_option linter.unusedVariables false
/-! ### Whole counts -/
mutual
def cN (d : Nat) : Co → Nat
  | .mk _ _ _ ps => if 16 < d then 1000 else 1 + cNs (d + 1) ps
def cNs (d : Nat) : List Co → Nat
  | [] => 0
  | c :: cs => cN d c + cNs d cs
end
def cz (c : Co) : Nat := if isZ c = true then 0 else cN 0 c
mutual
def sN (d : Nat) : Sp → Nat × Nat
  | .mk _ _ c t e => if 16 < d then (1000, 1000) else (1 + (sNs (d + 1) t).1 + (sNs (d + 1) e).1, (sNs (d + 1) t).2 + (sNs (d + 1) e).2 + cz c)
def sNs (d : Nat) : List Sp → Nat × Nat
  | [] => (0, 0)
  | s :: ss => ((sN d s).1 + (sNs d ss).1, (sN d s).2 + (sNs d ss).2)
end
def fits (a : Nat × Nat) : Prop := a.1 ≤ 64 ∧ a.2 ≤ 256
instance (a : Nat × Nat) : Decidable (fits a) := inferInstanceAs (Decidable (_ ∧ _))
theorem cn_s : ∀ (m : Nat) (c : Co), SizeOf.sizeOf c ≤ m → ∀ d, (cN d c ≤ 256 → cnF d c = cN d c) ∧ (256 < cN d c → 256 < cnF d c)
  | 0, c, h => absurd h (by cases c; simp)
  | m + 1, .mk kd v n ps, hsz => by
    intro d
    simp only [Co.mk.sizeOf_spec] at hsz
    rw [cN, cnF]
    by_cases hd : 16 < d
    · rw [if_pos hd, if_pos hd]; exact ⟨fun h => by omega, fun _ => by omega⟩
    rw [if_neg hd, if_neg hd]
    have key : ∀ l : List Co, (∀ c ∈ l, SizeOf.sizeOf c ≤ m) → ∀ n, (n + cNs (d + 1) l ≤ 256 → cnL (d + 1) l n = n + cNs (d + 1) l) ∧ (256 < n + cNs (d + 1) l → 256 < cnL (d + 1) l n) := by
      intro l
      induction l with
      | nil => intro _ n; rw [cnL, cNs]; exact ⟨fun _ => rfl, fun h => h⟩
      | cons c cs ih =>
        intro hl n
        have hc := cn_s m c (hl c (by simp)) (d + 1)
        rw [cnL, cNs]
        by_cases h : n ≤ 256
        · rw [if_pos h]
          have h2 := ih (fun c h => hl c (by simp [h])) (n + cnF (d + 1) c)
          by_cases h3 : cN (d + 1) c ≤ 256
          · rw [hc.1 h3] at h2 ⊢
            exact ⟨fun h => by rw [h2.1 (by omega)]; omega, fun h => h2.2 (by omega)⟩
          · have h4 := hc.2 (by omega)
            rw [cnL_big _ (by omega)]
            exact ⟨fun h => by omega, fun _ => by omega⟩
        · rw [if_neg h]; exact ⟨fun h => by omega, fun _ => by omega⟩
    have := key ps (fun c h => by have := List.sizeOf_lt_of_mem h; omega) 1
    exact this
theorem cn_of (c : Co) (d : Nat) : (cN d c ≤ 256 → cnF d c = cN d c) ∧ (256 < cN d c → 256 < cnF d c) := cn_s _ c (Nat.le_refl _) d
theorem cz_of (c : Co) : (cz c ≤ 256 → czF c = cz c) ∧ (256 < cz c → 256 < czF c) := by
  unfold cz czF
  split
  · exact ⟨fun _ => rfl, fun h => by omega⟩
  · exact cn_of c 0
theorem sz_s : ∀ (m : Nat) (s : Sp), SizeOf.sizeOf s ≤ m → ∀ d, d ≤ 16 → (fits (sN d s) → szS d s = sN d s) ∧ (¬ fits (sN d s) → ¬ fits (szS d s))
  | 0, s, h => absurd h (by cases s; simp)
  | m + 1, .mk kd b c t e, hsz => by
    intro d hd
    simp only [Sp.mk.sizeOf_spec] at hsz
    have key : ∀ d, d ≤ 16 → ∀ l : List Sp, (∀ c ∈ l, SizeOf.sizeOf c ≤ m) → ∀ a : Nat × Nat, (fits (a.1 + (sNs d l).1, a.2 + (sNs d l).2) → szL d l a = (a.1 + (sNs d l).1, a.2 + (sNs d l).2)) ∧ (¬ fits (a.1 + (sNs d l).1, a.2 + (sNs d l).2) → ¬ fits (szL d l a)) := by
      intro d hd l
      induction l with
      | nil => intro _ a; rw [szL, sNs]; exact ⟨fun _ => rfl, fun h => h⟩
      | cons s ss ih =>
        intro hl a
        have hc := sz_s m s (hl s (by simp)) d hd
        rw [szL, sNs]
        by_cases h : a.1 ≤ 64 ∧ a.2 ≤ 256
        · rw [if_pos h]
          have h2 := ih (fun c h => hl c (by simp [h])) (a.1 + (szS d s).1, a.2 + (szS d s).2)
          by_cases h3 : fits (sN d s)
          · rw [hc.1 h3] at h2 ⊢
            simp only [Nat.add_assoc] at h2 ⊢
            exact h2
          · have h4 := hc.2 h3
            rw [szL_big _ (by unfold fits at h4; simp only; omega)]
            refine ⟨fun h => absurd (show fits (sN d s) from ?_) h3, fun _ h => h4 ?_⟩
            · unfold fits at h ⊢; simp only at h; omega
            · unfold fits at h ⊢; simp only at h; omega
        · rw [if_neg h]
          refine ⟨fun h' => absurd ?_ h, fun _ h' => h h'⟩
          unfold fits at h'; simp only at h'; omega
    have keyT : ∀ l : List Sp, (∀ c ∈ l, SizeOf.sizeOf c ≤ m) → (fits (sNs (d + 1) l) → szT (d + 1) l = sNs (d + 1) l) ∧ (¬ fits (sNs (d + 1) l) → ¬ fits (szT (d + 1) l)) := by
      intro l hl
      unfold szT
      by_cases h : l ≠ [] ∧ 16 < d + 1
      · rw [if_pos h]
        obtain ⟨h1, h2⟩ := h
        cases l with
        | nil => exact absurd rfl h1
        | cons s ss =>
          have : sN (d + 1) s = (1000, 1000) := by cases s; rw [sN, if_pos h2]
          rw [sNs, this]
          exact ⟨fun h => by unfold fits at h; simp only at h; omega, fun _ h => by unfold fits at h; simp only at h; omega⟩
      · rw [if_neg h]
        by_cases hl0 : l = []
        · subst hl0; rw [szL, sNs]; exact ⟨fun _ => rfl, fun h => h⟩
        · have := key (d + 1) (by have : ¬ 16 < d + 1 := fun h2 => h ⟨hl0, h2⟩; omega) l hl (0, 0)
          simpa using this
    rw [szS_eq, sN, if_neg (by omega)]
    simp only [Sp.thn, Sp.els, Sp.cond]
    have ht := keyT t (fun c h => by have := List.sizeOf_lt_of_mem h; omega)
    have he := keyT e (fun c h => by have := List.sizeOf_lt_of_mem h; omega)
    have hc := cz_of c
    generalize sNs (d + 1) t = u at *
    generalize sNs (d + 1) e = v at *
    generalize szT (d + 1) t = u' at *
    generalize szT (d + 1) e = v' at *
    constructor
    · intro h
      unfold fits at h; simp only at h
      rw [ht.1 (by unfold fits; omega), he.1 (by unfold fits; omega), hc.1 (by omega)]
    · intro h h'
      unfold fits at h'; simp only at h'
      apply h
      by_cases f1 : fits u
      · by_cases f2 : fits v
        · by_cases f3 : cz c ≤ 256
          · rw [ht.1 f1, he.1 f2, hc.1 f3] at h'; exact h'
          · have := hc.2 (by omega); omega
        · have := he.2 f2; unfold fits at this; omega
      · have := ht.2 f1; unfold fits at this; omega
theorem szT_of (l : List Sp) : (fits (sNs 0 l) → szT 0 l = sNs 0 l) ∧ (¬ fits (sNs 0 l) → ¬ fits (szT 0 l)) := by
  have h := sz_s _ (.mk 0 0 (.mk 0 0 0 []) l []) (Nat.le_refl _) 0 (by decide)
  unfold szT
  rw [if_neg (by simp)]
  have key : ∀ l : List Sp, ∀ a : Nat × Nat, (fits (a.1 + (sNs 0 l).1, a.2 + (sNs 0 l).2) → szL 0 l a = (a.1 + (sNs 0 l).1, a.2 + (sNs 0 l).2)) ∧ (¬ fits (a.1 + (sNs 0 l).1, a.2 + (sNs 0 l).2) → ¬ fits (szL 0 l a)) := by
    intro l
    induction l with
    | nil => intro a; rw [szL, sNs]; exact ⟨fun _ => rfl, fun h => h⟩
    | cons s ss ih =>
      intro a
      have hc := sz_s _ s (Nat.le_refl _) 0 (by decide)
      rw [szL, sNs]
      by_cases h : a.1 ≤ 64 ∧ a.2 ≤ 256
      · rw [if_pos h]
        have h2 := ih (a.1 + (szS 0 s).1, a.2 + (szS 0 s).2)
        by_cases h3 : fits (sN 0 s)
        · rw [hc.1 h3] at h2 ⊢
          simp only [Nat.add_assoc] at h2 ⊢
          exact h2
        · have h4 := hc.2 h3
          rw [szL_big _ (by unfold fits at h4; simp only; omega)]
          refine ⟨fun h => absurd (show fits (sN 0 s) from ?_) h3, fun _ h => h4 ?_⟩
          · unfold fits at h ⊢; simp only at h; omega
          · unfold fits at h ⊢; simp only at h; omega
      · rw [if_neg h]
        refine ⟨fun h' => absurd ?_ h, fun _ h' => h h'⟩
        unfold fits at h'; simp only at h'; omega
  simpa using key l (0, 0)
/-! ### The count of forms -/
def fN (d : Nat) : Fm → Nat × Nat
  | .c x => (0, cN d x)
  | .s x => sN d x
def fNs (d : Nat) : List Fm → Nat × Nat
  | [] => (0, 0)
  | f :: fs => ((fN d f).1 + (fNs d fs).1, (fN d f).2 + (fNs d fs).2)
theorem fNs_c (d : Nat) : ∀ l : List Co, fNs d (l.map .c) = (0, cNs d l)
  | [] => by rw [cNs]; rfl
  | c :: cs => by rw [List.map_cons, fNs, fNs_c d cs, cNs]; simp [fN]
theorem fNs_s (d : Nat) : ∀ l : List Sp, fNs d (l.map .s) = sNs d l
  | [] => by rw [sNs]; rfl
  | c :: cs => by rw [List.map_cons, fNs, fNs_s d cs, sNs]; rfl
theorem sNs_app (d : Nat) : ∀ l m : List Sp, sNs d (l ++ m) = ((sNs d l).1 + (sNs d m).1, (sNs d l).2 + (sNs d m).2)
  | [], m => by rw [sNs]; simp
  | c :: cs, m => by rw [List.cons_append, sNs, sNs_app d cs m, sNs]; simp only [Nat.add_assoc]
def ci (a : Nat × Nat) : Int × Int := ((a.1 : Int), (a.2 : Int))
theorem over_ci (a : Nat × Nat) : over (ci a) = !decide (fits a) := by
  by_cases h : fits a
  · rw [decide_eq_true h]
    unfold fits at h; unfold over ci
    simp only [Bool.not_true, Bool.or_eq_false_iff, decide_eq_false_iff_not]; omega
  · rw [decide_eq_false h]
    unfold fits at h; unfold over ci
    simp only [Bool.not_false, Bool.or_eq_true, decide_eq_true_eq]; omega
def pl2 (a b : Nat × Nat) : Nat × Nat := (a.1 + b.1, a.2 + b.2)
/-- What a count of forms comes to. -/
def WOk (w : List Fm → Nat → Int × Int → W) (l : List Fm) (d : Nat) : Prop := ∀ a : Nat × Nat, (l = [] ∨ fits (pl2 a (fNs d l)) → w l d (ci a) = (true, ci (pl2 a (fNs d l)))) ∧ (¬ (l = [] ∨ fits (pl2 a (fNs d l))) → (w l d (ci a)).1 = false)
theorem wTail_of {w : List Fm → Nat → Int × Int → W} {f : Fm} {d : Nat} (h : WOk w f.parts (d + 1)) (a : Nat × Nat) : (fits (pl2 a (fNs (d + 1) f.parts)) → wTail w f d (ci a) = (true, ci (pl2 a (fNs (d + 1) f.parts)))) ∧ (¬ fits (pl2 a (fNs (d + 1) f.parts)) → (wTail w f d (ci a)).1 = false) := by
  unfold wTail
  rw [over_ci]
  by_cases hf : fits a
  · rw [decide_eq_true hf, if_neg (by decide)]
    refine ⟨fun h2 => (h a).1 (.inr h2), fun h2 => (h a).2 ?_⟩
    rintro (h3 | h3)
    · rw [h3, fNs] at h2; exact h2 hf
    · exact h2 h3
  · rw [decide_eq_false hf, if_pos (by decide)]
    refine ⟨fun h2 => absurd ?_ hf, fun _ => rfl⟩
    unfold fits pl2 at *; simp only at h2; omega
theorem wStep_of {w : List Fm → Nat → Int × Int → W} {f : Fm} {d : Nat} (hd : d ≤ 16) (h : WOk w f.parts (d + 1)) (hc : ∀ s, f = .s s → WOk w [.c s.cond] 0) (a : Nat × Nat) : (fits (pl2 a (fN d f)) → wStep w f d (ci a) = (true, ci (pl2 a (fN d f)))) ∧ (¬ fits (pl2 a (fN d f)) → (wStep w f d (ci a)).1 = false) := by
  cases f with
  | c x =>
    have ht := wTail_of h (a.1, a.2 + 1)
    have e : pl2 (a.1, a.2 + 1) (fNs (d + 1) (Fm.c x).parts) = pl2 a (fN d (.c x)) := by
      show pl2 _ (fNs (d + 1) (x.parts.map .c)) = _
      rw [fNs_c]
      cases x with | mk kd v n ps =>
      have e5 : cN d (.mk kd v n ps) = 1 + cNs (d + 1) ps := by rw [cN, if_neg (show ¬ 16 < d by omega)]
      show _ = pl2 a (0, cN d (.mk kd v n ps))
      rw [e5]
      exact Prod.ext rfl (by show a.2 + 1 + cNs (d + 1) ps = a.2 + (1 + cNs (d + 1) ps); omega)
    rw [e] at ht
    exact ht
  | s x =>
    have e : ∀ b : Nat × Nat, pl2 b (fNs (d + 1) (Fm.s x).parts) = (b.1 + ((sNs (d + 1) x.thn).1 + (sNs (d + 1) x.els).1), b.2 + ((sNs (d + 1) x.thn).2 + (sNs (d + 1) x.els).2)) := fun b => by
      show pl2 _ (fNs (d + 1) ((x.thn ++ x.els).map .s)) = _
      rw [fNs_s, sNs_app]; rfl
    have e2 : fN d (.s x) = (1 + (sNs (d + 1) x.thn).1 + (sNs (d + 1) x.els).1, (sNs (d + 1) x.thn).2 + (sNs (d + 1) x.els).2 + cz x.cond) := by
      cases x; show sN d _ = _; rw [sN, if_neg (by omega)]; rfl
    rw [e2]
    have ht := fun b => wTail_of h b
    simp only [e] at ht
    generalize sNs (d + 1) x.thn = u at *
    generalize sNs (d + 1) x.els = v at *
    unfold wStep
    simp only
    by_cases hz : isZ x.cond = true
    · rw [if_pos hz]
      have hcz : cz x.cond = 0 := by unfold cz; rw [if_pos hz]
      have := ht (a.1 + 1, a.2)
      have e3 : ((a.1 + 1, a.2).1 + (u.1 + v.1), (a.1 + 1, a.2).2 + (u.2 + v.2)) = pl2 a (1 + u.1 + v.1, u.2 + v.2 + cz x.cond) := by
        rw [hcz]; simp only [pl2, Prod.mk.injEq]; omega
      rw [e3] at this
      exact this
    · rw [if_neg hz]
      have hcz : cz x.cond = cN 0 x.cond := by unfold cz; rw [if_neg hz]
      rw [hcz]
      have hw := hc x rfl (a.1 + 1, a.2)
      have e4 : fNs 0 [.c x.cond] = (0, cN 0 x.cond) := by rw [fNs, fNs]; simp [fN]
      rw [e4] at hw
      have ea : ci (a.1 + 1, a.2) = ((ci a).1 + 1, (ci a).2) := rfl
      rw [← ea]
      have e3 : ∀ q, ((pl2 (a.1 + 1, a.2) (0, q)).1 + (u.1 + v.1), (pl2 (a.1 + 1, a.2) (0, q)).2 + (u.2 + v.2)) = pl2 a (1 + u.1 + v.1, u.2 + v.2 + q) := fun q => by
        simp only [pl2, Prod.mk.injEq]; omega
      by_cases hf : fits (pl2 (a.1 + 1, a.2) (0, cN 0 x.cond))
      · have h1 := hw.1 (.inr hf)
        rw [h1, if_pos rfl]
        have := ht (pl2 (a.1 + 1, a.2) (0, cN 0 x.cond))
        rw [e3] at this
        exact this
      · have h1 := hw.2 (fun h => h.elim (fun h => by cases h) hf)
        rw [if_neg (by rw [h1]; decide)]
        refine ⟨fun h2 => absurd ?_ hf, fun _ => h1⟩
        unfold fits pl2 at *; simp only at *; omega
theorem wF_of : ∀ n l d, Enough n l d → WOk (wF n) l d
  | 0, l, d, he => absurd he.pos (by omega)
  | n + 1, l, d, he => by
    intro a
    have ih := wF_of n
    have hdep := he.dep
    rw [wF]
    by_cases h0 : l ≠ [] ∧ 16 < d
    · rw [if_pos h0]
      refine ⟨fun h => ?_, fun _ => rfl⟩
      rcases h with h | h
      · exact absurd h h0.1
      · cases l with
        | nil => exact absurd rfl h0.1
        | cons f fs =>
          have : 1000 ≤ (fN d f).2 := by
            cases f with
            | c x => cases x; show 1000 ≤ cN d _; rw [cN, if_pos h0.2]; exact Nat.le_refl _
            | s x => cases x; show 1000 ≤ (sN d _).2; rw [sN, if_pos h0.2]; exact Nat.le_refl _
          rw [fNs] at h
          unfold fits pl2 at h; simp only at h; omega
    rw [if_neg h0]
    by_cases hl0 : l = []
    · subst hl0
      refine ⟨fun _ => ?_, fun h => absurd (.inl rfl) h⟩
      rw [wLoop, fNs]; rfl
    have hd : d ≤ 16 := by have : ¬ 16 < d := fun h => h0 ⟨hl0, h⟩; omega
    have key : ∀ m : List Fm, (∀ f ∈ m, f ∈ l) → ∀ a : Nat × Nat, fits a ∨ m ≠ [] → (fits (pl2 a (fNs d m)) → wLoop (wF n) m d (ci a) = (true, ci (pl2 a (fNs d m)))) ∧ (¬ fits (pl2 a (fNs d m)) → (wLoop (wF n) m d (ci a)).1 = false) := by
      intro m
      induction m with
      | nil =>
        intro _ a hfa
        rw [wLoop, fNs]
        exact ⟨fun _ => rfl, fun h => absurd (hfa.resolve_right (fun h => h rfl)) h⟩
      | cons f fs ihm =>
        intro hm a _
        have hf := hm f (by simp)
        have hst := wStep_of (a := a) hd (ih f.parts (d + 1) (he.parts hd hf)) (fun s hs => ih _ 0 (he.cond hd (hs ▸ hf)))
        rw [wLoop, fNs]
        have ep : pl2 (pl2 a (fN d f)) (fNs d fs) = pl2 a ((fN d f).1 + (fNs d fs).1, (fN d f).2 + (fNs d fs).2) := by
          simp only [pl2, Nat.add_assoc]
        by_cases h1 : fits (pl2 a (fN d f))
        · have h2 := hst.1 h1
          rw [h2, if_pos rfl, ← ep]
          exact ihm (fun f h => hm f (by simp [h])) _ (.inl h1)
        · have h2 := hst.2 h1
          rw [if_neg (by rw [h2]; decide)]
          refine ⟨fun h => absurd ?_ h1, fun _ => h2⟩
          unfold fits pl2 at *; simp only at *; omega
    have := key l (fun _ h => h) a (.inr hl0)
    exact ⟨fun h => this.1 (h.resolve_left hl0), fun h => this.2 fun h' => h (.inr h')⟩
/-! ### Both sides judge alike -/
theorem cond_eq (c : Co) : checkF [.c c] = rcondF c := by
  have hw := wF_of 40 [.c c] 0 ⟨by decide, by decide, by decide, fun f hf => by rw [List.mem_singleton.1 hf]; simp [need]⟩ (0, 0)
  have e4 : pl2 (0, 0) (fNs 0 [.c c]) = (0, cN 0 c) := by rw [fNs, fNs]; simp [fN, pl2]
  rw [e4] at hw
  have ez : ci (0, 0) = (0, 0) := rfl
  rw [ez] at hw
  have hc := cn_of c 0
  unfold checkF rcondF
  by_cases h : cN 0 c ≤ 256
  · rw [hw.1 (.inr ⟨by simp, h⟩), if_pos rfl, hc.1 h, if_neg (show ¬ (256 : Int) < (cN 0 c : Int) by omega), if_neg (show ¬ [Fm.c c].length = 0 by simp), List.any_cons, List.any_nil, Bool.or_false]
    show (if (!vCo c) = true then (140 : Int) else 0) = _
    cases vCo c <;> rfl
  · rw [hw.2 (fun hh => hh.elim (fun h => by cases h) (fun hh => h hh.2)), if_neg (by decide), if_pos (by have := hc.2 (by omega); omega)]
theorem isZ_kind {c : Co} (h : isZ c = true) : vCo c = false := by
  cases c with | mk kd v n ps =>
  unfold isZ at h
  simp only [Bool.and_eq_true, Co.kind] at h
  have h0 := of_decide_eq_true h.1.1.1
  subst h0
  rw [vCo]; rfl
theorem rcond_v {c : Co} (h : cz c ≤ 256) : decide (rcondF c = 0) = vCo c := by
  unfold rcondF
  by_cases hz : isZ c = true
  · rw [isZ_kind hz]
    apply decide_eq_false
    split
    · decide
    · simp
  · have : cz c = cN 0 c := by unfold cz; rw [if_neg hz]
    rw [this] at h
    rw [(cn_of c 0).1 h, if_neg (by omega)]
    cases vCo c <;> rfl
theorem v_s : ∀ (m : Nat) (s : Sp), SizeOf.sizeOf s ≤ m → ∀ d, fits (sN d s) → rSp s = vSp s
  | 0, s, h => absurd h (by cases s; simp)
  | m + 1, .mk kd b c t e, hsz => by
    intro d hf
    simp only [Sp.mk.sizeOf_spec] at hsz
    have key : ∀ l : List Sp, (∀ s ∈ l, SizeOf.sizeOf s ≤ m) → ∀ d, fits (sNs d l) → rSps l = vSps l := by
      intro l
      induction l with
      | nil => intro _ d _; rw [rSps, vSps]
      | cons s ss ih =>
        intro hl d hf
        rw [sNs] at hf
        rw [rSps, vSps, v_s m s (hl s (by simp)) d (by unfold fits at *; simp only at hf; omega), ih (fun s h => hl s (by simp [h])) d (by unfold fits at *; simp only at hf; omega)]
    rw [sN] at hf
    split at hf
    · unfold fits at hf; simp only at hf; omega
    unfold fits at hf; simp only at hf
    rw [rSp, vSp, key t (fun c h => by have := List.sizeOf_lt_of_mem h; omega) (d + 1) (by unfold fits; omega), key e (fun c h => by have := List.sizeOf_lt_of_mem h; omega) (d + 1) (by unfold fits; omega), rcond_v (by omega)]
    split
    · by_cases h1 : (t.length : Int) = 0
      · by_cases h2 : (e.length : Int) = 0
        · rw [decide_eq_true h1, decide_eq_true h2, decide_eq_true (show (t.length : Int) + e.length = 0 by omega)]; simp
        · rw [decide_eq_false h2, decide_eq_false (show ¬ (t.length : Int) + e.length = 0 by omega)]; simp
      · rw [decide_eq_false h1, decide_eq_false (show ¬ (t.length : Int) + e.length = 0 by omega)]; simp
    · split
      · by_cases h1 : (t.length : Int) = 0
        · rw [decide_eq_true h1, decide_eq_false (show ¬ 0 < (t.length : Int) by omega)]; rfl
        · rw [decide_eq_false h1, decide_eq_true (show 0 < (t.length : Int) by omega)]; rfl
      · rfl
theorem vs_of : ∀ l : List Sp, fits (sNs 0 l) → rSps l = vSps l
  | [], _ => by rw [rSps, vSps]
  | s :: ss, hf => by
    rw [sNs] at hf
    rw [rSps, vSps, v_s _ s (Nat.le_refl _) 0 (by unfold fits at *; simp only at hf; omega), vs_of ss (by unfold fits at *; simp only at hf; omega)]
theorem any_vs : ∀ l : List Sp, ((l.map Fm.s).any fun f => !vFm f) = !vSps l
  | [] => by rw [vSps]; rfl
  | s :: ss => by rw [List.map_cons, List.any_cons, any_vs ss, vSps]; simp [vFm, Bool.not_and]
theorem order_eq (l : List Sp) : orderF l = rorderF l := by
  have hw := wF_of 40 (l.map .s) 0 ⟨by decide, by decide, by decide, fun f hf => by
    obtain ⟨s, _, rfl⟩ := List.mem_map.1 hf
    simp [need]⟩ (0, 0)
  have e4 : pl2 (0, 0) (fNs 0 (l.map .s)) = sNs 0 l := by rw [fNs_s]; simp [pl2]
  rw [e4] at hw
  have ez : ci (0, 0) = (0, 0) := rfl
  rw [ez] at hw
  have hz := szT_of l
  unfold orderF checkF rorderF szBig
  by_cases h : fits (sNs 0 l)
  · rw [hw.1 (.inr h), if_pos rfl, hz.1 h, if_neg (show ¬ (64 < (sNs 0 l).1 ∨ 256 < (sNs 0 l).2) by unfold fits at h; omega), any_vs, vs_of l h, List.length_map]
    by_cases h0 : l.length = 0
    · rw [if_pos h0, if_pos (by omega)]
    · rw [if_neg h0, if_neg (show ¬ (l.length : Int) = 0 by omega)]
      cases vSps l <;> rfl
  · have hl : l ≠ [] := by
      rintro rfl
      exact h (by rw [sNs]; unfold fits; simp)
    have hb := hz.2 h
    rw [hw.2 (fun hh => hh.elim (fun h => hl (by simpa using h)) h), if_neg (by decide), if_pos (show 64 < (szT 0 l).1 ∨ 256 < (szT 0 l).2 by unfold fits at hb; omega)]
end Go.Proofs.YtddolfgmkpfmcaaDoor
