/-
  typing: the laws of valid orders and of what they apply.
-/
import Derived.Test.YtddolfgmkpfmcaaDoorTypT
namespace Go.Proofs.YtddolfgmkpfmcaaDoor
open Go.Tidy
set_option maxRecDepth 100000
set_option maxHeartbeats 0
set_option linter.unusedSimpArgs false
set_option linter.unusedVariables false
theorem big_iff (l : List Sp) : szBig l ↔ ¬ fits (sNs 0 l) := by
  have h := szT_of l
  unfold szBig
  by_cases hf : fits (sNs 0 l)
  · rw [h.1 hf]
    exact ⟨fun h => absurd hf (by unfold fits; omega), fun h => absurd hf h⟩
  · have := h.2 hf
    exact ⟨fun _ => hf, fun _ => by unfold fits at this; omega⟩
theorem order_ok {l : List Sp} : orderF l = 0 ↔ l ≠ [] ∧ fits (sNs 0 l) ∧ vSps l = true := by
  rw [order_eq]
  unfold rorderF
  by_cases hf : fits (sNs 0 l)
  · rw [if_neg (fun h => (big_iff l).1 h hf), vs_of l hf]
    by_cases h0 : (l.length : Int) = 0
    · rw [if_pos h0]
      have : l = [] := List.eq_nil_of_length_eq_zero (by omega)
      simp [this]
    · rw [if_neg h0]
      have : l ≠ [] := by rintro rfl; simp at h0
      cases h : vSps l <;> simp [this, hf]
  · rw [if_pos ((big_iff l).2 hf)]
    simp [hf]
theorem order_two {l : List Sp} (h0 : l ≠ []) (hv : vSps l = true) (h : orderF l ≠ 0) : orderF l = 2 := by
  rw [order_eq]
  unfold rorderF
  by_cases hf : fits (sNs 0 l)
  · exact absurd (order_ok.2 ⟨h0, hf, hv⟩) h
  · rw [if_pos ((big_iff l).2 hf)]
theorem cond_ok {c : Co} : checkF [.c c] = 0 ↔ cN 0 c ≤ 256 ∧ vCo c = true := by
  rw [cond_eq]
  unfold rcondF
  have hc := cn_of c 0
  by_cases h : cN 0 c ≤ 256
  · rw [hc.1 h, if_neg (by omega)]
    cases hv : vCo c <;> simp [h]
  · rw [if_pos (by have := hc.2 (by omega); omega)]
    simp [h]
theorem vSps_app : ∀ l m : List Sp, vSps (l ++ m) = (vSps l && vSps m)
  | [], m => by rw [vSps]; rfl
  | s :: ss, m => by rw [List.cons_append, vSps, vSps, vSps_app ss m, Bool.and_assoc]
/-! ### A lower depth -/
theorem down_s : ∀ (m : Nat) (s : Sp), SizeOf.sizeOf s ≤ m → ∀ d, fits (sN (d + 1) s) → sN d s = sN (d + 1) s
  | 0, s, h => absurd h (by cases s; simp)
  | m + 1, .mk kd b c t e, hsz => by
    intro d hf
    simp only [Sp.mk.sizeOf_spec] at hsz
    have key : ∀ l : List Sp, (∀ s ∈ l, SizeOf.sizeOf s ≤ m) → ∀ d, fits (sNs (d + 1) l) → sNs d l = sNs (d + 1) l := by
      intro l
      induction l with
      | nil => intro _ d _; rw [sNs, sNs]
      | cons s ss ih =>
        intro hl d hf
        rw [sNs] at hf
        rw [sNs, sNs, down_s m s (hl s (by simp)) d (by unfold fits at *; simp only at hf; omega), ih (fun s h => hl s (by simp [h])) d (by unfold fits at *; simp only at hf; omega)]
    have hd : ¬ 16 < d + 1 := fun h => by
      rw [sN, if_pos h] at hf
      unfold fits at hf; simp only at hf; omega
    rw [sN, if_neg hd] at hf
    rw [sN, sN, if_neg hd, if_neg (show ¬ 16 < d by omega)]
    unfold fits at hf; simp only at hf
    rw [key t (fun c h => by have := List.sizeOf_lt_of_mem h; omega) (d + 1) (by unfold fits; omega), key e (fun c h => by have := List.sizeOf_lt_of_mem h; omega) (d + 1) (by unfold fits; omega)]
theorem down_l : ∀ (l : List Sp) (d : Nat), fits (sNs (d + 1) l) → sNs d l = sNs (d + 1) l
  | [], d, _ => by rw [sNs, sNs]
  | s :: ss, d, hf => by
    rw [sNs] at hf
    rw [sNs, sNs, down_s _ s (Nat.le_refl _) d (by unfold fits at *; simp only at hf; omega), down_l ss d (by unfold fits at *; simp only at hf; omega)]
/-- A choice between orders that is valid. -/
theorem choice_ok {c : Co} {l m : List Sp} (h : orderF [.mk 2 0 c l m] = 0) : checkF [.c c] = 0 ∧ orderF l = 0 ∧ (m ≠ [] → orderF m = 0) := by
  obtain ⟨_, hf, hv⟩ := order_ok.1 h
  rw [vSps, vSps, vSp, if_neg (by decide), if_pos rfl, Bool.and_true] at hv
  simp only [Bool.and_eq_true, decide_eq_true_eq] at hv
  obtain ⟨⟨⟨⟨_, hc⟩, hl⟩, hvl⟩, hvm⟩ := hv
  rw [sNs, sNs, sN, if_neg (by decide)] at hf
  unfold fits at hf; simp only at hf
  have hz : cz c = cN 0 c := by
    unfold cz
    split
    · rename_i hz; rw [isZ_kind hz] at hc; cases hc
    · rfl
  have f1 : fits (sNs (0 + 1) l) := by unfold fits; omega
  have f2 : fits (sNs (0 + 1) m) := by unfold fits; omega
  refine ⟨cond_ok.2 ⟨by omega, hc⟩, order_ok.2 ⟨?_, by rw [down_l l 0 f1]; exact f1, hvl⟩, fun hm => order_ok.2 ⟨hm, by rw [down_l m 0 f2]; exact f2, hvm⟩⟩
  rintro rfl; simp at hl
theorem choice_dS (x : En) (c : Co) (l m : List Sp) : dSs x [] [.mk 2 0 c l m] = if hoF x c = true then dSs x [] l else dSs x [] m := by
  rw [dSs, dSs, dS, if_pos rfl]
theorem lss_choice {c : Co} {l m : List Sp} (hl : LSs l) (hm : LSs m) (hc : LCo c) : LSs [.mk 2 0 c l m] :=
  ⟨by simp, fun s hs => by rw [List.mem_singleton.1 hs]; exact .mk hl.len hm.len hc hl.all hm.all⟩
/-! ### What orders apply, one after the other -/
def addB (b : List Int) (k : Int) : List Int := if (b.any fun v => decide (k = v)) = true then b else b ++ [k]
mutual
def rawS (x : En) : Sp → List Int
  | .mk k b c t e => if k = 2 then (if hoF x c = true then rawL x t else rawL x e) else [b]
def rawL (x : En) : List Sp → List Int
  | [] => []
  | s :: ss => rawS x s ++ rawL x ss
end
theorem raw_s (x : En) : ∀ (m : Nat) (s : Sp), SizeOf.sizeOf s ≤ m → ∀ b, dS x b s = (rawS x s).foldl addB b
  | 0, s, h => absurd h (by cases s; simp)
  | m + 1, .mk kd bb c t e, hsz => by
    intro b
    simp only [Sp.mk.sizeOf_spec] at hsz
    have key : ∀ l : List Sp, (∀ s ∈ l, SizeOf.sizeOf s ≤ m) → ∀ b, dSs x b l = (rawL x l).foldl addB b := by
      intro l
      induction l with
      | nil => intro _ b; rw [dSs, rawL]; rfl
      | cons s ss ih =>
        intro hl b
        rw [dSs, rawL, List.foldl_append, raw_s x m s (hl s (by simp)), ih (fun s h => hl s (by simp [h]))]
    rw [dS, rawS]
    split
    · split
      · exact key t (fun c h => by have := List.sizeOf_lt_of_mem h; omega) b
      · exact key e (fun c h => by have := List.sizeOf_lt_of_mem h; omega) b
    · rfl
theorem raw_l (x : En) : ∀ (l : List Sp) (b : List Int), dSs x b l = (rawL x l).foldl addB b
  | [], b => by rw [dSs, rawL]; rfl
  | s :: ss, b => by rw [dSs, rawL, List.foldl_append, raw_s x _ s (Nat.le_refl _), raw_l x ss]
theorem addB_fold (b : List Int) (s : List Int) : s.foldl addB b = b ++ (s.foldl addB []).filter fun k => !(b.any fun v => decide (k = v)) := by
  have key : ∀ s : List Int, (s.reverse).foldl addB b = b ++ ((s.reverse).foldl addB []).filter fun k => !(b.any fun v => decide (k = v)) := by
    intro s
    induction s with
    | nil => simp
    | cons k s ih =>
      rw [List.reverse_cons, List.foldl_append, List.foldl_append, ih]
      simp only [List.foldl_cons, List.foldl_nil]
      generalize (s.reverse).foldl addB [] = F
      unfold addB
      by_cases h1 : (b.any fun v => decide (k = v)) = true
      · rw [if_pos (by rw [List.any_append, h1]; rfl)]
        split
        · rfl
        · rw [List.filter_append]; simp [h1]
      · by_cases h2 : (F.any fun v => decide (k = v)) = true
        · rw [if_pos h2, if_pos]
          rw [List.any_append, Bool.or_eq_true]
          refine .inr ?_
          obtain ⟨v, hv, he⟩ := List.any_eq_true.1 h2
          have he := of_decide_eq_true he
          subst he
          exact List.any_eq_true.2 ⟨k, List.mem_filter.2 ⟨hv, by rw [eq_false_of_ne_true h1]; rfl⟩, decide_eq_true rfl⟩
        · rw [if_neg h2, if_neg, List.filter_append, List.append_assoc]
          · simp [h1]
          · rw [List.any_append, Bool.or_eq_true]
            rintro (h | h)
            · exact h1 h
            · apply h2
              obtain ⟨v, hv, he⟩ := List.any_eq_true.1 h
              exact List.any_eq_true.2 ⟨v, (List.mem_filter.1 hv).1, he⟩
  simpa using key s.reverse
theorem dSs_app (x : En) (l m : List Sp) : dSs x [] (l ++ m) = dSs x [] l ++ (dSs x [] m).filter fun k => !((dSs x [] l).any fun v => decide (k = v)) := by
  have : ∀ l m : List Sp, rawL x (l ++ m) = rawL x l ++ rawL x m := by
    intro l m
    induction l with
    | nil => rw [rawL]; rfl
    | cons s ss ih => rw [List.cons_append, rawL, rawL, ih, List.append_assoc]
  rw [raw_l x (l ++ m), this, List.foldl_append, ← raw_l x l, addB_fold, ← raw_l x m]
theorem order_app {l m : List Sp} (hl : orderF l = 0) (hm : orderF m = 0) (h : orderF (l ++ m) ≠ 0) : orderF (l ++ m) = 2 := by
  obtain ⟨h1, _, h2⟩ := order_ok.1 hl
  obtain ⟨h3, _, h4⟩ := order_ok.1 hm
  exact order_two (by simp [h1]) (by rw [vSps_app, h2, h4]; rfl) h
theorem lss_app {l m : List Sp} (hl : LSs l) (hm : LSs m) (h : l.length + m.length ≤ 4398046511104) : LSs (l ++ m) :=
  ⟨by rw [List.length_append]; exact h, fun s hs => (List.mem_append.1 hs).elim (hl.all s) (hm.all s)⟩
theorem envAt_ok (n : Int) : envE (En.at (envN n)) = 0 := by
  have := envN_rng n
  unfold envE En.at
  exact if_pos (by simp only; omega)
theorem direct_ok {l : List Sp} {x : En} (h : orderF l = 0) (hx : envE x = 0) : directB l x = dSs x [] l ∧ directE l x = 0 := by
  unfold directB directE; rw [if_pos ⟨h, hx⟩, if_neg (fun hn => hn h), hx]; exact ⟨rfl, rfl⟩
theorem direct_no {l : List Sp} {x : En} (h : orderF l ≠ 0) : directB l x = [] ∧ directE l x = orderF l := by
  unfold directB directE; rw [if_neg (fun hn => h hn.1), if_pos h]; exact ⟨rfl, rfl⟩
theorem dSs_ok {l : List Sp} (hl : LSs l) (h : orderF l = 0) (x : En) : ByOk (dSs x [] l) := ((direct1_s x _ l (Nat.le_refl _) hl.len (order_dsp hl h)) [] byok0).1
theorem few_len {l : List Sp} (h : fewB l = true) : l.length ≤ 20 := by
  unfold fewB at h
  exact (of_decide_eq_true h).1
end Go.Proofs.YtddolfgmkpfmcaaDoor
