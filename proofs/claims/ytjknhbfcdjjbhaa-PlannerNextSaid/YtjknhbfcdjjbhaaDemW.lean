/-
  demands: beginnings of lists.
-/
import Derived.Test.YtjknhbfcdjjbhaaDemV
namespace Go.Proofs.Ytjknhbfcdjjbhaa
open Go.Tidy
set_option maxRecDepth 100000
set_option maxHeartbeats 0
set_option linter.unusedSimpArgs false
set_option linter.unusedVariables false
inductive Beg : List (List Mt) → List (List Mt) → Prop
  | nil (l : List (List Mt)) : Beg [] l
  | last (r : List Mt) (l : List (List Mt)) (m : Nat) (h : 0 < m) : Beg [r.take m] (r :: l)
  | cons (r : List Mt) {A l : List (List Mt)} (h : Beg A l) : Beg (r :: A) (r :: l)
theorem Beg.refl : ∀ l : List (List Mt), Beg l l
  | [] => .nil []
  | r :: l => .cons r (Beg.refl l)
theorem Beg.len {A l : List (List Mt)} (h : Beg A l) : A.length ≤ l.length := by
  induction h with
  | nil l => exact Nat.zero_le _
  | last r l m h => simp
  | cons r h ih => simpa using ih
theorem Beg.get {A l : List (List Mt)} (h : Beg A l) : ∀ (i : Nat) (hi : i < A.length) (hj : i < l.length), ∃ m, 0 < m ∧ A[i] = l[i].take m ∧ (i + 1 < A.length → A[i] = l[i]) := by
  induction h with
  | nil l => intro i hi; simp at hi
  | last r l m h =>
    intro i hi hj
    have : i = 0 := by simpa using hi
    subst this
    exact ⟨m, h, rfl, fun h => by simp at h⟩
  | cons r h ih =>
    intro i hi hj
    cases i with
    | zero => exact ⟨r.length + 1, by omega, by simp only [List.getElem_cons_zero]; exact (List.take_of_length_le (Nat.le_succ _)).symm, fun _ => rfl⟩
    | succ i =>
      obtain ⟨m, h1, h2, h3⟩ := ih i (by simpa using hi) (by simpa using hj)
      exact ⟨m, h1, h2, fun h => h3 (by simpa using h)⟩
theorem Beg.flat {A l : List (List Mt)} (h : Beg A l) : ∃ t, l.flatten = A.flatten ++ t := by
  induction h with
  | nil l => exact ⟨l.flatten, rfl⟩
  | last r l m h => exact ⟨r.drop m ++ l.flatten, by rw [List.flatten_cons, List.flatten_cons, List.flatten_nil, List.append_nil, ← List.append_assoc, List.take_append_drop]⟩
  | cons r h ih => obtain ⟨t, ht⟩ := ih; exact ⟨t, by rw [List.flatten_cons, List.flatten_cons, ht, List.append_assoc]⟩
section
variable {cl : List Int} {r : List Mt}
theorem first_mono (h : ∀ (i : Nat) (hi : i < r.length), OkR cl r i hi) : ∀ (j i : Nat) (hj : j < r.length) (hij : i < j), firstM (r[i]'(by omega)) < firstM r[j] := by
  intro j
  induction j with
  | zero => intro i hj hij; omega
  | succ j ih =>
    intro i hj hij
    have h1 := (h (j + 1) hj).2.2.2.1 (by omega)
    have e : j + 1 - 1 = j := by omega
    simp only [e] at h1
    by_cases he : i = j
    · subst he; exact h1
    · have := ih i (by omega) (by omega); omega
theorem lastM_get (hne : r ≠ []) : lastM r = firstM (r[r.length - 1]'(by have := List.length_pos_iff.2 hne; omega)) := by
  have := List.length_pos_iff.2 hne
  unfold lastM; rw [List.getLast?_eq_getElem?, List.getElem?_eq_getElem (by omega)]
theorem plays_first {m : Mt} {c : Int} (h : playsM m c = true) : firstM m ≤ c := by
  rcases playsM_iff.1 h with rfl | rfl <;> unfold firstM <;> split <;> omega
theorem take_last (h : RndR cl r) {m : Nat} (hm : 0 < m) : r.take m ≠ [] ∧ lastM (r.take m) ≤ lastM r ∧ ∀ (j : Nat) (hj : j < r.length), m ≤ j → lastM (r.take m) < firstM r[j] := by
  have hpos := List.length_pos_iff.2 h.2.1
  have hlen : (r.take m).length = min m r.length := List.length_take ..
  have hne : r.take m ≠ [] := fun e => by rw [e] at hlen; simp at hlen; omega
  have hl : lastM (r.take m) = firstM (r[min m r.length - 1]'(by omega)) := by
    rw [lastM_get hne]; simp only [List.getElem_take, hlen]
  refine ⟨hne, ?_, fun j hj hmj => ?_⟩
  · rw [hl, lastM_get h.2.1]
    by_cases e : min m r.length - 1 = r.length - 1
    · simp only [e]; exact Int.le_refl _
    · exact Int.le_of_lt (first_mono h.1 (r.length - 1) (min m r.length - 1) (by omega) (by omega))
  · rw [hl]; exact first_mono h.1 j _ hj (by omega)
theorem not_later (h : RndR cl r) {m : Nat} (hm : 0 < m) {c : Int} (hc : c < lastM (r.take m)) {j : Nat} (hj : j < r.length) (hp : playsM r[j] c = true) : j < m := by
  refine Nat.lt_of_not_le fun hmj => ?_
  have := (take_last h hm).2.2 j hj hmj
  have := plays_first hp
  omega
theorem RndR.take (h : RndR cl r) {m : Nat} (hm : 0 < m) : RndR cl (r.take m) := by
  obtain ⟨h1, h2, h3⟩ := take_last h hm
  refine ⟨fun i hi => ?_, h1, ?_⟩
  · have hi' : i < m ∧ i < r.length := by rw [List.length_take] at hi; omega
    obtain ⟨a1, a2, a3, a4, a5⟩ := h.1 i hi'.2
    have e : (r.take m)[i] = r[i] := List.getElem_take ..
    unfold OkR
    rw [e]
    refine ⟨a1, a2, a3, fun h0 => ?_, fun j hj hji => ?_⟩
    · have e2 : (r.take m)[i - 1]'(by omega) = r[i - 1]'(by omega) := List.getElem_take ..
      rw [e2]; exact a4 h0
    · have e2 : (r.take m)[j] = r[j]'(by omega) := List.getElem_take ..
      rw [e2]; exact a5 j (by omega) hji
  · refine Nat.le_trans (List.countP_mono_left fun c _ hc => ?_) h.2.2
    simp only [Bool.and_eq_true, decide_eq_true_eq, Bool.not_eq_true'] at hc ⊢
    refine ⟨by omega, ?_⟩
    cases e : busyB r c with
    | false => rfl
    | true =>
      obtain ⟨x, hx, hp⟩ := List.any_eq_true.1 e
      obtain ⟨j, hj, rfl⟩ := List.getElem_of_mem hx
      have hjm := not_later h hm hc.1 hj hp
      have : busyB (r.take m) c = true := List.any_eq_true.2 ⟨r[j], List.mem_take_iff_getElem.2 ⟨j, by omega, rfl⟩, hp⟩
      rw [hc.2] at this; cases this
end
theorem PartR.beg {A l : List (List Mt)} {p : Pl} (h : PartR l p) (hb : Beg A l) : PartR A p := by
  obtain ⟨h1, h2, h3⟩ := h
  have hlen := hb.len
  refine ⟨by omega, fun i hi => ?_, fun i hi j hj => ?_⟩
  · obtain ⟨m, hm, e1, e2⟩ := hb.get i hi (by omega)
    obtain ⟨a1, a2⟩ := h2 i (by omega)
    refine ⟨by rw [e1]; exact a1.take hm, fun hi1 => ?_⟩
    rw [e2 hi1]; exact a2 (by omega)
  · obtain ⟨t, ht⟩ := hb.flat
    have hi' : i < l.flatten.length := by rw [ht, List.length_append]; omega
    have := h3 i hi' j hj
    have e1 : l.flatten[i] = A.flatten[i] := by simp only [ht]; exact List.getElem_append_left hi
    have e2 : l.flatten[j]'(by omega) = A.flatten[j]'(by omega) := by simp only [ht]; exact List.getElem_append_left (by omega)
    rw [e1, e2] at this
    exact this
theorem stateF_append {kn kn' : Int → Bool} {c : Int} {b : List Mt} : ∀ {a : List Mt}, (∃ m ∈ a, playsM m c = true) → stateF (a ++ b) kn c = stateF a kn' c
  | [], ⟨m, hm, _⟩ => by simp at hm
  | x :: a, ⟨m, hm, hp⟩ => by
    rw [List.cons_append, stateF, stateF]
    by_cases h1 : c = x.home
    · rw [if_pos h1, if_pos h1]
    · by_cases h2 : c = x.away
      · rw [if_neg h1, if_neg h1, if_pos h2, if_pos h2]
      · rw [if_neg h1, if_neg h1, if_neg h2, if_neg h2]
        refine stateF_append ⟨m, ?_, hp⟩
        rcases List.mem_cons.1 hm with rfl | hm
        · rcases playsM_iff.1 hp with e | e
          · exact absurd e.symm h1
          · exact absurd e.symm h2
        · exact hm
theorem stateF_out {kn : Int → Bool} {c : Int} {a : List Mt} (h : ∀ m ∈ a, playsM m c = false) : stateF a kn c = if kn c then 0 else 2 :=
  stateF_none fun j hj => by
    have := h _ (List.getElem_mem hj)
    constructor
    · intro e; rw [playsM_iff.2 (.inl e.symm)] at this; cases this
    · intro e; rw [playsM_iff.2 (.inr e.symm)] at this; cases this
structure Kn (r' r : Rnd) : Prop where
  st : ∀ c, stR r' c ≠ 2 → stR r c = stR r' c
  pl : ∀ c, stR r' c ≠ 2 → ∀ m ∈ r.l, playsM m c = true → m ∈ r'.l
  sub : ∀ m ∈ r'.l, m ∈ r.l
theorem Kn.refl (r : Rnd) : Kn r r := ⟨fun _ _ => rfl, fun _ _ _ h _ => h, fun _ h => h⟩
theorem kn_take {p : Pl} {r : List Mt} {m : Nat} (h : RndR p.clubs r) (hle : r.length ≤ halfN p) (hm : 0 < m) (hs : r.length ≤ 4611686018427387904) : Kn (pRnd p (r.take m)) (pRnd p r) := by
  have hs' : (r.take m).length ≤ 4611686018427387904 := by rw [List.length_take]; omega
  have hst : ∀ c, stR (pRnd p r) c = stateF r (fun c => decide ((r.length : Int) = halfN p) || decide (c < lastM r)) c := fun c => by unfold stR pRnd; rw [dif_pos hs]
  have hst' : ∀ c, stR (pRnd p (r.take m)) c = stateF (r.take m) (fun c => decide (((r.take m).length : Int) = halfN p) || decide (c < lastM (r.take m))) c := fun c => by unfold stR pRnd; rw [dif_pos hs']
  have hl : (pRnd p r).l = r := pRnd_l hs
  have hl' : (pRnd p (r.take m)).l = r.take m := pRnd_l hs'
  have hlast := take_last h hm
  have uniq : ∀ c (i j : Nat) (hi : i < r.length) (hj : j < r.length), playsM r[i] c = true → playsM r[j] c = true → i = j := by
    intro c i j hi hj h1 h2
    have key : ∀ (i j : Nat) (hi : i < r.length) (hj : j < r.length), i < j → playsM r[i] c = true → playsM r[j] c = true → False := by
      intro i j hi hj hij h1 h2
      have := (h.1 j hj).2.2.2.2 i hi hij
      rcases playsM_iff.1 h2 with e | e
      · rw [e, h1] at this; cases this.1
      · rw [e, h1] at this; cases this.2
    rcases Nat.lt_trichotomy i j with hlt | rfl | hlt
    · exact (key i j hi hj hlt h1 h2).elim
    · rfl
    · exact (key j i hj hi hlt h2 h1).elim
  have main : ∀ c, stR (pRnd p (r.take m)) c ≠ 2 → stR (pRnd p r) c = stR (pRnd p (r.take m)) c ∧ ∀ x ∈ r, playsM x c = true → x ∈ r.take m := by
    intro c hc
    rw [hst'] at hc
    rw [hst, hst']
    by_cases hin : ∃ x ∈ r.take m, playsM x c = true
    · obtain ⟨x, hx, hp⟩ := hin
      refine ⟨?_, fun y hy hpy => ?_⟩
      · conv => lhs; rw [← List.take_append_drop m r]
        exact stateF_append ⟨x, hx, hp⟩
      · obtain ⟨i, hi, rfl⟩ := List.mem_take_iff_getElem.1 hx
        obtain ⟨j, hj, rfl⟩ := List.getElem_of_mem hy
        have := uniq c i j (by omega) hj hp hpy
        subst this
        exact hx
    · have hout : ∀ x ∈ r.take m, playsM x c = false := fun x hx => by
        cases e : playsM x c with
        | false => rfl
        | true => exact absurd ⟨x, hx, e⟩ hin
      rw [stateF_out hout] at hc ⊢
      have hk : (decide (((r.take m).length : Int) = halfN p) || decide (c < lastM (r.take m))) = true := by
        cases e : (decide (((r.take m).length : Int) = halfN p) || decide (c < lastM (r.take m))) with
        | true => rfl
        | false => simp only [e] at hc; exact absurd rfl hc
      rw [if_pos hk]
      have hout2 : ∀ x ∈ r, playsM x c = false := fun x hx => by
        cases e : playsM x c with
        | false => rfl
        | true =>
          obtain ⟨j, hj, rfl⟩ := List.getElem_of_mem hx
          have hjm : j < m := by
            simp only [Bool.or_eq_true, decide_eq_true_eq] at hk
            rcases hk with hk | hk
            · rw [List.length_take] at hk; omega
            · exact not_later h hm hk hj e
          exact absurd ⟨r[j], List.mem_take_iff_getElem.2 ⟨j, by omega, rfl⟩, e⟩ hin
      refine ⟨?_, fun x hx hp => by rw [hout2 x hx] at hp; cases hp⟩
      rw [stateF_out hout2, if_pos]
      simp only [Bool.or_eq_true, decide_eq_true_eq] at hk ⊢
      rcases hk with hk | hk
      · rw [List.length_take] at hk; left; omega
      · right; omega
  refine ⟨fun c hc => (main c hc).1, fun c hc x hx hp => ?_, fun x hx => ?_⟩
  · rw [hl'] ; rw [hl] at hx; exact (main c hc).2 x hx hp
  · rw [hl'] at hx; rw [hl]; exact List.mem_of_mem_take hx
inductive BegR : List Rnd → List Rnd → Prop
  | nil (l : List Rnd) : BegR [] l
  | last {r' r : Rnd} (l : List Rnd) (h : Kn r' r) : BegR [r'] (r :: l)
  | cons (r : Rnd) {A l : List Rnd} (h : BegR A l) : BegR (r :: A) (r :: l)
theorem Beg.rnds {p : Pl} {A l : List (List Mt)} (h : Beg A l) (hR : ∀ r ∈ l, RndR p.clubs r ∧ r.length ≤ halfN p ∧ r.length ≤ 4611686018427387904) : BegR (pR A p) (pR l p) := by
  induction h with
  | nil l => exact .nil _
  | last r l m h =>
    obtain ⟨h1, h2, h3⟩ := hR r (by simp)
    exact .last _ (kn_take h1 h2 h h3)
  | cons r h ih => exact .cons _ (ih fun x hx => hR x (by simp [hx]))
theorem BegR.get {A l : List Rnd} (h : BegR A l) : A.length ≤ l.length ∧ ∀ (i : Nat) (hi : i < A.length) (hj : i < l.length), Kn A[i] l[i] := by
  induction h with
  | nil l => exact ⟨Nat.zero_le _, fun i hi => by simp at hi⟩
  | last l h =>
    refine ⟨by simp, fun i hi hj => ?_⟩
    have : i = 0 := by simpa using hi
    subst this; exact h
  | cons r h ih =>
    refine ⟨by simpa using ih.1, fun i hi hj => ?_⟩
    cases i with
    | zero => exact Kn.refl _
    | succ i => exact ih.2 i (by simpa using hi) (by simpa using hj)
theorem Kn.none (r : Rnd) : Kn noRnd r := ⟨fun c hc => absurd rfl hc, fun c hc => absurd rfl hc, fun m hm => by simp [noRnd] at hm⟩
theorem BegR.at {A l : List Rnd} (h : BegR A l) (i : Int) : Kn (roundAt A i) (roundAt l i) := by
  obtain ⟨h1, h2⟩ := h.get
  by_cases hi : 0 ≤ i ∧ i < A.length
  · have hi' : 0 ≤ i ∧ i < l.length := by omega
    unfold roundAt
    rw [dif_pos hi, dif_pos hi']
    exact h2 _ _ _
  · have : roundAt A i = noRnd := by unfold roundAt; rw [dif_neg hi]
    rw [this]; exact Kn.none _
theorem meetF_iff {l : List Mt} {a b : Int} : meetF l a b = true ↔ ∃ m ∈ l, betwM m a b = true := by
  rw [meetF_any, List.any_eq_true]
theorem Kn.meet {r' r : Rnd} (h : Kn r' r) {a b : Int} (hm : meetF r'.l a b = true) : meetF r.l a b = true := by
  obtain ⟨m, h1, h2⟩ := meetF_iff.1 hm
  exact meetF_iff.2 ⟨m, h.sub m h1, h2⟩
theorem betw_plays {m : Mt} {a b : Int} (h : betwM m a b = true) : playsM m a = true ∧ playsM m b = true := by
  simp only [betwM, Bool.or_eq_true, Bool.and_eq_true, decide_eq_true_eq] at h
  rw [playsM_iff, playsM_iff]
  rcases h with ⟨h1, h2⟩ | ⟨h1, h2⟩
  · exact ⟨.inl h1, .inr h2⟩
  · exact ⟨.inr h2, .inl h1⟩
theorem Kn.at {r' r : Rnd} (h : Kn r' r) (cl : List Int) : atF r' cl ≤ atF r cl := by
  unfold atF
  refine List.countP_mono_left fun c _ hc => ?_
  simp only [decide_eq_true_eq] at hc ⊢
  have := h.st c (by unfold stR; rw [hc]; decide)
  unfold stR at this
  rw [this, hc]
theorem close_mono {d : Dm} {A l : List Rnd} (h : BegR A l) : ∀ (i last : Int) (met : Bool), closeGo d A i last met = true → closeGo d l i last met = true := by
  induction h with
  | nil l => intro i last met h; simp [closeGo] at h
  | last l h =>
    intro i last met hc
    rw [closeGo] at hc ⊢
    split at hc
    · rename_i hm
      rw [if_pos (h.meet hm)]
      split at hc
      · rename_i hq; rw [if_pos hq]
      · simp [closeGo] at hc
    · simp [closeGo] at hc
  | cons r h ih =>
    intro i last met hc
    rw [closeGo] at hc ⊢
    split
    · rename_i hm
      rw [if_pos hm] at hc
      split
      · rfl
      · rename_i hq; rw [if_neg hq] at hc; exact ih _ _ _ hc
    · rename_i hm
      rw [if_neg hm] at hc; exact ih _ _ _ hc
theorem kst_pre {A l : List Rnd} (h : BegR A l) (c : Int) : ∃ t, kst l c = kst A c ++ t := by
  induction h with
  | nil l => exact ⟨kst l c, rfl⟩
  | last l h =>
    rename_i r' r
    by_cases h2 : stR r' c = 2
    · have e0 : kst [r'] c = [] := by unfold kst; rw [List.map_cons, List.takeWhile_cons_of_neg (by simpa using h2)]
      exact ⟨kst (r :: l) c, by rw [e0]; rfl⟩
    · have e := h.st c h2
      refine ⟨kst l c, ?_⟩
      unfold kst
      rw [List.map_cons, List.map_cons, List.takeWhile_cons_of_pos (by simpa [e] using h2), List.takeWhile_cons_of_pos (by simpa using h2), e]; rfl
  | cons r h ih =>
    obtain ⟨t, ht⟩ := ih
    by_cases h2 : stR r c = 2
    · exact ⟨[], by unfold kst; rw [List.map_cons, List.map_cons, List.takeWhile_cons_of_neg (by simpa using h2), List.takeWhile_cons_of_neg (by simpa using h2)]; rfl⟩
    · refine ⟨t, ?_⟩
      unfold kst at ht ⊢
      rw [List.map_cons, List.map_cons, List.takeWhile_cons_of_pos (by simpa using h2), List.takeWhile_cons_of_pos (by simpa using h2), ht]; rfl
theorem brk_mono (S T : List Int) : (brkF S).2 ≤ (brkF (S ++ T)).2 := by
  unfold brkF
  rw [List.foldl_append]
  generalize S.foldl brkStep (0, 0) = a
  induction T generalizing a with
  | nil => exact Int.le_refl _
  | cons s T ih =>
    have h2 : a.2 ≤ (brkStep a s).2 := by
      unfold brkStep; split
      · exact Int.le_refl _
      · simp only; split <;> omega
    exact Int.le_trans h2 (ih _)
theorem tilt_mono {n : Int} : ∀ {S T : List Int} {sum : Int}, tiltGo n S sum = true → tiltGo n (S ++ T) sum = true
  | [], _, _, h => by simp [tiltGo] at h
  | s :: S, T, sum, h => by
    rw [List.cons_append, tiltGo]
    rw [tiltGo] at h
    split
    · rfl
    · rename_i hq; rw [if_neg hq] at h; exact tilt_mono h
theorem dooms_mono {A l : List Rnd} {d : Dm} (h : BegR A l) (hd : doomsF A d = true) : doomsF l d = true := by
  have hat := h.at d.round
  have does : ∀ w, doesF A w d = true → doesF l w d = true := fun w hw => by
    unfold doesF at hw ⊢
    simp only [Bool.and_eq_true, Bool.not_eq_true', decide_eq_false_iff_not] at hw ⊢
    rw [hat.st d.club hw.1]; exact hw
  unfold doomsF at hd ⊢
  by_cases k1 : d.kind = 1
  · rw [if_pos k1] at hd ⊢; exact does _ hd
  by_cases k2 : d.kind = 2
  · rw [if_neg k1, if_pos k2] at hd ⊢; exact does _ hd
  by_cases k3 : d.kind = 3
  · rw [if_neg k1, if_neg k2, if_pos k3] at hd ⊢; exact does _ hd
  by_cases k4 : d.kind = 4
  · rw [if_neg k1, if_neg k2, if_neg k3, if_pos k4] at hd ⊢
    unfold k4F meets at hd ⊢
    simp only [Bool.and_eq_true, Bool.or_eq_true, Bool.not_eq_true', decide_eq_false_iff_not] at hd ⊢
    obtain ⟨hm, hs⟩ := hd
    refine ⟨?_, hs.imp (fun h2 => by rw [hat.st _ h2]; exact h2) fun h2 => by rw [hat.st _ h2]; exact h2⟩
    cases e : meetF (roundAt l d.round).l d.club d.other with
    | false => rfl
    | true =>
      obtain ⟨x, hx, hb⟩ := meetF_iff.1 e
      have hxin : x ∈ (roundAt A d.round).l := by
        rcases hs with hs | hs
        · exact hat.pl _ hs x hx (betw_plays hb).1
        · exact hat.pl _ hs x hx (betw_plays hb).2
      rw [meetF_iff.2 ⟨x, hxin, hb⟩] at hm; cases hm
  by_cases k5 : d.kind = 5
  · rw [if_neg k1, if_neg k2, if_neg k3, if_neg k4, if_pos k5] at hd ⊢; exact hat.meet hd
  have any : ∀ m, A.any (overF d m) = true → l.any (overF d m) = true := fun m hm => by
    obtain ⟨x, hx, ho⟩ := List.any_eq_true.1 hm
    obtain ⟨i, hi, rfl⟩ := List.getElem_of_mem hx
    obtain ⟨g1, g2⟩ := h.get
    have hj : i < l.length := by omega
    refine List.any_eq_true.2 ⟨l[i], List.getElem_mem hj, ?_⟩
    have := (g2 i hi hj).at d.clubs
    unfold overF at ho ⊢
    simp only [decide_eq_true_eq] at ho ⊢
    omega
  rw [if_neg k1, if_neg k2, if_neg k3, if_neg k4, if_neg k5] at hd ⊢
  by_cases k6 : d.kind = 6
  · rw [if_pos k6] at hd ⊢; exact any _ hd
  by_cases k7 : d.kind = 7
  · rw [if_neg k6, if_pos k7] at hd ⊢; exact any _ hd
  by_cases k8 : d.kind = 8
  · rw [if_neg k6, if_neg k7, if_pos k8] at hd ⊢; exact close_mono h _ _ _ hd
  obtain ⟨t, ht⟩ := kst_pre h d.club
  by_cases k9 : d.kind = 9
  · rw [if_neg k6, if_neg k7, if_neg k8, if_pos k9] at hd ⊢
    simp only [decide_eq_true_eq] at hd ⊢
    have := brk_mono (kst A d.club) t
    rw [ht]; omega
  · rw [if_neg k6, if_neg k7, if_neg k8, if_neg k9] at hd ⊢
    rw [ht]; exact tilt_mono hd
end Go.Proofs.Ytjknhbfcdjjbhaa
