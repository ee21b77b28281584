/-
  demands: what dooms a demand is what dooms it in the reference.
-/
import Derived.Test.YtjknhbfcdjjbhaaDemU
import Derived.Test.YtjknhbfcdjjbhaaDemR
namespace Go.Proofs.Ytjknhbfcdjjbhaa
open Go.Tidy
set_option maxRecDepth 100000
set_option maxHeartbeats 0
set_option linter.unusedSimpArgs false
set_option linter.unusedVariables false
structure SameV (R : List Rnd) (v : Vw) : Prop where
  len : R.length = v.length
  l : ∀ (i : Nat) (hi : i < R.length) (hj : i < v.length), R[i].l = v[i].l
  kn : ∀ (i : Nat) (hi : i < R.length) (hj : i < v.length), R[i].kn = v[i].kn
theorem SameV.state {R : List Rnd} {v : Vw} (h : SameV R v) (i c : Int) : stR (roundAt R i) c = vState v i c := by
  unfold stR roundAt vState
  by_cases hi : 0 ≤ i ∧ i < R.length
  · have hi' : 0 ≤ i ∧ i < v.length := by rw [← h.len]; exact hi
    rw [dif_pos hi, dif_pos hi', h.l i.toNat (by omega) (by omega), h.kn i.toNat (by omega) (by omega)]
  · have hi' : ¬ (0 ≤ i ∧ i < v.length) := by rw [← h.len]; exact hi
    rw [dif_neg hi, dif_neg hi']; rfl
theorem roundAt_nat {R : List Rnd} {i : Nat} (hi : i < R.length) : roundAt R i = R[i] := by
  unfold roundAt; rw [dif_pos (by omega)]; rfl
theorem SameV.st {R : List Rnd} {v : Vw} (h : SameV R v) {i : Nat} (hi : i < R.length) (c : Int) : stR R[i] c = vState v i c := by
  rw [← h.state, roundAt_nat hi]
theorem meetF_any (l : List Mt) (a b : Int) : meetF l a b = l.any fun m => betwM m a b := by
  unfold meetF
  rw [Bool.eq_iff_iff]
  simp only [Bool.or_eq_true, List.contains_iff_mem, List.any_eq_true, betwM, Bool.and_eq_true, decide_eq_true_eq]
  constructor
  · rintro (h | h)
    · exact ⟨_, h, .inl ⟨rfl, rfl⟩⟩
    · exact ⟨_, h, .inr ⟨rfl, rfl⟩⟩
  · rintro ⟨⟨x, y⟩, hm, ⟨rfl, rfl⟩ | ⟨rfl, rfl⟩⟩
    · exact .inl hm
    · exact .inr hm
theorem SameV.meet {R : List Rnd} {v : Vw} (h : SameV R v) (i a b : Int) : meetF (roundAt R i).l a b = vMeet v i a b := by
  rw [meetF_any]
  unfold roundAt vMeet
  by_cases hi : 0 ≤ i ∧ i < R.length
  · have hi' : 0 ≤ i ∧ i < v.length := by rw [← h.len]; exact hi
    rw [dif_pos hi, dif_pos hi', h.l i.toNat (by omega) (by omega)]
  · have hi' : ¬ (0 ≤ i ∧ i < v.length) := by rw [← h.len]; exact hi
    rw [dif_neg hi, dif_neg hi']; rfl
theorem SameV.at {R : List Rnd} {v : Vw} (h : SameV R v) {i : Nat} (hi : i < R.length) (cl : List Int) : atF R[i] cl = vHome v i cl := by
  unfold atF vHome
  refine List.countP_congr fun c _ => ?_
  have : stateF R[i].l R[i].kn c = vState v i c := h.st hi c
  rw [this]
section
variable {R : List Rnd} {v : Vw} {d : Dm}
theorem dGo_crowd (h : SameV R v) (hk : d.kind = 6 ∨ d.kind = 7) (m : Int) (hm : (d.kind = 6 ∧ m = 1) ∨ (d.kind = 7 ∧ m = d.n)) : ∀ (f i : Nat) (s : DS), i + f = R.length → dGo d v f i s = (R.drop i).any (overF d m)
  | 0, i, s, hi => by
    have e9 : d.kind ≠ 9 := by omega
    rw [List.drop_of_length_le (by omega), dGo, decide_eq_false e9]; rfl
  | f + 1, i, s, hi => by
    have hlt : i < R.length := by omega
    rw [List.drop_eq_getElem_cons hlt, List.any_cons, dGo]
    have ho : overF d m R[i] = decide (m < (vHome v i d.clubs : Int)) := by unfold overF; rw [h.at hlt]
    rw [ho]
    rcases hm with ⟨h6, rfl⟩ | ⟨h7, rfl⟩
    · by_cases hc : 1 < (vHome v i d.clubs : Int)
      · simp only [dKind, if_pos h6, if_pos hc, decide_eq_true hc, Bool.true_or]
      · simp only [dKind, if_pos h6, if_neg hc, decide_eq_false hc, Bool.false_or]
        exact dGo_crowd h hk 1 (.inl ⟨h6, rfl⟩) f (i + 1) _ (by omega)
    · have h6 : d.kind ≠ 6 := by omega
      by_cases hc : d.n < (vHome v i d.clubs : Int)
      · simp only [dKind, if_neg h6, if_pos h7, if_pos hc, decide_eq_true hc, Bool.true_or]
      · simp only [dKind, if_neg h6, if_pos h7, if_neg hc, decide_eq_false hc, Bool.false_or]
        exact dGo_crowd h hk d.n (.inr ⟨h7, rfl⟩) f (i + 1) _ (by omega)
theorem dGo_close (h : SameV R v) (hk : d.kind = 8) : ∀ (f i : Nat) (s : DS) (last : Int) (met : Bool), i + f = R.length → (met = true → s.met = last ∧ 0 ≤ last) → (met = false → s.met = -1) → dGo d v f i s = closeGo d (R.drop i) i last met
  | 0, i, s, last, met, hi, _, _ => by
    have e9 : d.kind ≠ 9 := by omega
    rw [List.drop_of_length_le (by omega), dGo, decide_eq_false e9]; rfl
  | f + 1, i, s, last, met, hi, h1, h2 => by
    have hlt : i < R.length := by omega
    have h6 : d.kind ≠ 6 := by omega
    have h7 : d.kind ≠ 7 := by omega
    have hmt : meetF R[i].l d.club d.other = vMeet v i d.club d.other := by rw [← h.meet, roundAt_nat hlt]
    rw [List.drop_eq_getElem_cons hlt, closeGo, dGo, hmt]
    have ecast : (i : Int) + 1 = ((i + 1 : Nat) : Int) := by omega
    cases hv : vMeet v i d.club d.other with
    | false =>
      simp only [dKind, if_neg h6, if_neg h7, if_pos hk, hv]
      rw [if_neg (by decide), if_neg (by decide), ecast]
      exact dGo_close h hk f (i + 1) _ last met (by omega) h1 h2
    | true =>
      simp only [dKind, if_neg h6, if_neg h7, if_pos hk, hv, if_true]
      have hcond : (0 ≤ (dKnown d v i s).met ∧ (i : Int) - (dKnown d v i s).met < d.n) ↔ (met && decide ((i : Int) - last < d.n)) = true := by
        have em : (dKnown d v i s).met = s.met := rfl
        rw [em]
        cases met with
        | true => have := h1 rfl; simp only [Bool.true_and, decide_eq_true_eq]; omega
        | false => have := h2 rfl; simp only [Bool.false_and]; constructor <;> intro hh <;> first | omega | cases hh
      by_cases hc : 0 ≤ (dKnown d v i s).met ∧ (i : Int) - (dKnown d v i s).met < d.n
      · rw [if_pos hc, if_pos (hcond.1 hc)]
      · rw [if_neg hc, if_neg (fun e => hc (hcond.2 e)), ecast]
        exact dGo_close h hk f (i + 1) _ i true (by omega) (fun _ => ⟨rfl, by omega⟩) (fun e => by cases e)
def brk2 (a : Int × Int) (s : Int) : Int × Int := if s = 1 ∨ s = -1 then (s, if s = a.1 then a.2 + 1 else a.2) else a
theorem dGo_brk (h : SameV R v) (hk : d.kind = 9) : ∀ (f i : Nat) (s : DS), i + f = R.length → dGo d v f i s = decide (d.n < ((((R.drop i).map fun r => stR r d.club)).foldl brk2 (s.last, s.breaks)).2)
  | 0, i, s, hi => by
    rw [List.drop_of_length_le (by omega), dGo, decide_eq_true hk]; rfl
  | f + 1, i, s, hi => by
    have hlt : i < R.length := by omega
    have h6 : d.kind ≠ 6 := by omega
    have h7 : d.kind ≠ 7 := by omega
    have h8 : d.kind ≠ 8 := by omega
    rw [List.drop_eq_getElem_cons hlt, List.map_cons, List.foldl_cons, dGo, h.st hlt]
    simp only [dKind, if_neg h6, if_neg h7, if_neg h8, if_pos hk]
    by_cases hc : vState v i d.club = 1 ∨ vState v i d.club = -1
    · have e : brk2 (s.last, s.breaks) (vState v i d.club) = (vState v i d.club, if vState v i d.club = s.last then s.breaks + 1 else s.breaks) := by unfold brk2; rw [if_pos hc]
      rw [if_pos hc, e]
      exact dGo_brk h hk f (i + 1) _ (by omega)
    · have e : brk2 (s.last, s.breaks) (vState v i d.club) = (s.last, s.breaks) := by unfold brk2; rw [if_neg hc]
      rw [if_neg hc, e]
      exact dGo_brk h hk f (i + 1) _ (by omega)
theorem dGo_tilt (h : SameV R v) (hk : d.kind = 10) : ∀ (f i : Nat) (s : DS), i + f = R.length → dGo d v f i s = (s.known && tiltGo d.n (((R.drop i).map fun r => stR r d.club).takeWhile fun s => decide (s ≠ 2)) s.sum)
  | 0, i, s, hi => by
    have e9 : d.kind ≠ 9 := by omega
    rw [List.drop_of_length_le (by omega), dGo, decide_eq_false e9]; simp [tiltGo]
  | f + 1, i, s, hi => by
    have hlt : i < R.length := by omega
    have h6 : d.kind ≠ 6 := by omega
    have h7 : d.kind ≠ 7 := by omega
    have h8 : d.kind ≠ 8 := by omega
    have h9 : d.kind ≠ 9 := by omega
    rw [List.drop_eq_getElem_cons hlt, List.map_cons, dGo, h.st hlt]
    simp only [dKind, if_neg h6, if_neg h7, if_neg h8, if_neg h9, if_pos hk]
    have ek : (dKnown d v i s).known = (s.known && !decide (vState v i d.club = 2)) := rfl
    have es : (dKnown d v i s).sum = s.sum := rfl
    rw [ek, es]
    by_cases h2 : vState v i d.club = 2
    · rw [h2, List.takeWhile_cons_of_neg (by decide)]
      simp only [decide_true, Bool.not_true, Bool.and_false, tiltGo]
      rw [if_neg (by decide)]
      show dGo d v f (i + 1) (dKnown d v i s) = false
      rw [dGo_tilt h hk f (i + 1) _ (by omega), ek, h2]
      simp
    · rw [List.takeWhile_cons_of_pos (by simpa using h2), tiltGo, decide_eq_false h2]
      cases hkn : s.known with
      | false =>
        simp only [Bool.false_and]
        rw [if_neg (by decide)]
        show dGo d v f (i + 1) (dKnown d v i s) = false
        rw [dGo_tilt h hk f (i + 1) _ (by omega), ek, hkn]; rfl
      | true =>
        simp only [Bool.not_false, Bool.and_self, if_true, Bool.true_and]
        by_cases hc : d.n < s.sum + vState v i d.club ∨ d.n < -(s.sum + vState v i d.club)
        · rw [if_pos hc, if_pos hc]
        · rw [if_neg hc, if_neg hc]
          show dGo d v f (i + 1) ⟨s.sum + vState v i d.club, (dKnown d v i s).last, (dKnown d v i s).breaks, (dKnown d v i s).met, true⟩ = _
          rw [dGo_tilt h hk f (i + 1) _ (by omega)]; rfl
end
def LastU (R : List Rnd) : Prop := ∀ (i : Nat) (hi : i < R.length), i + 1 < R.length → ∀ c, stR R[i] c ≠ 2
theorem brk2_step {a : Int × Int} {s : Int} (h : -1 ≤ s ∧ s ≤ 2) (h2 : s ≠ 2) : brk2 a s = brkStep a s := by
  unfold brk2 brkStep
  by_cases h0 : s = 0
  · rw [if_neg (by omega), if_pos h0]
  · rw [if_pos (by omega), if_neg h0]
theorem brk2_fold : ∀ (S : List Int) (a : Int × Int), (∀ s ∈ S, -1 ≤ s ∧ s ≤ 2) → (∀ (i : Nat) (hi : i < S.length), i + 1 < S.length → S[i] ≠ 2) → S.foldl brk2 a = (S.takeWhile fun s => decide (s ≠ 2)).foldl brkStep a
  | [], a, _, _ => rfl
  | s :: S, a, hr, hl => by
    by_cases h2 : s = 2
    · have hS : S = [] := by
        cases S with
        | nil => rfl
        | cons x S => exact absurd h2 (hl 0 (by simp) (by simp))
      subst hS h2
      rw [List.takeWhile_cons_of_neg (by decide)]
      simp [brk2]
    · rw [List.takeWhile_cons_of_pos (by simpa using h2), List.foldl_cons, List.foldl_cons, brk2_step (hr s (by simp)) h2]
      exact brk2_fold S _ (fun x hx => hr x (by simp [hx])) fun i hi hi1 => by
        have := hl (i + 1) (by simpa using hi) (by simpa using hi1)
        simpa using this
theorem dooms_eq {R : List Rnd} {v : Vw} {d : Dm} (h : SameV R v) (hu : LastU R) (hk : 1 ≤ d.kind ∧ d.kind ≤ 10) : doomsF R d = vDooms v d := by
  have hst : stR (roundAt R d.round) d.club = vState v d.round d.club := h.state _ _
  have hst2 : stR (roundAt R d.round) d.other = vState v d.round d.other := h.state _ _
  have hmt : meets R d = vMeet v d.round d.club d.other := h.meet _ _ _
  have hl : 0 + v.length = R.length := by rw [h.len]; omega
  unfold doomsF vDooms
  by_cases k1 : d.kind = 1
  · rw [if_pos k1, if_pos k1]; unfold doesF; rw [hst]
  by_cases k2 : d.kind = 2
  · rw [if_neg k1, if_pos k2, if_neg k1, if_pos k2]; unfold doesF; rw [hst]
  by_cases k3 : d.kind = 3
  · rw [if_neg k1, if_neg k2, if_pos k3, if_neg k1, if_neg k2, if_pos k3]; unfold doesF; rw [hst]
  by_cases k4 : d.kind = 4
  · rw [if_neg k1, if_neg k2, if_neg k3, if_pos k4, if_neg k1, if_neg k2, if_neg k3, if_pos k4]; unfold k4F; rw [hmt, hst, hst2]
  by_cases k5 : d.kind = 5
  · rw [if_neg k1, if_neg k2, if_neg k3, if_neg k4, if_pos k5, if_neg k1, if_neg k2, if_neg k3, if_neg k4, if_pos k5]; exact hmt
  rw [if_neg k1, if_neg k2, if_neg k3, if_neg k4, if_neg k5, if_neg k1, if_neg k2, if_neg k3, if_neg k4, if_neg k5]
  by_cases k6 : d.kind = 6
  · rw [if_pos k6, dGo_crowd h (.inl k6) 1 (.inl ⟨k6, rfl⟩) _ 0 _ hl]; rfl
  by_cases k7 : d.kind = 7
  · rw [if_neg k6, if_pos k7, dGo_crowd h (.inr k7) d.n (.inr ⟨k7, rfl⟩) _ 0 _ hl]; rfl
  by_cases k8 : d.kind = 8
  · rw [if_neg k6, if_neg k7, if_pos k8, dGo_close h k8 _ 0 _ 0 false hl (fun e => by cases e) (fun _ => rfl)]; rfl
  by_cases k9 : d.kind = 9
  · rw [if_neg k6, if_neg k7, if_neg k8, if_pos k9, dGo_brk h k9 _ 0 _ hl]
    have := brk2_fold (R.map fun r => stR r d.club) (0, 0) (fun s hs => by obtain ⟨r, _, rfl⟩ := List.mem_map.1 hs; exact stR_range r _) (fun i hi hi1 => by
      rw [List.getElem_map]; exact hu i (by simpa using hi) (by simpa using hi1) _)
    show _ = decide (d.n < ((R.map fun r => stR r d.club).foldl brk2 (0, 0)).2)
    rw [this]; rfl
  · have k10 : d.kind = 10 := by omega
    rw [if_neg k6, if_neg k7, if_neg k8, if_neg k9, dGo_tilt h k10 _ 0 _ hl]; rfl
theorem stateF_known {kn : Int → Bool} (hk : ∀ c, kn c = true) {c : Int} : ∀ l : List Mt, stateF l kn c ≠ 2
  | [] => by rw [stateF, hk c]; decide
  | m :: l => by
    rw [stateF]
    split
    · decide
    · split
      · decide
      · exact stateF_known hk l
theorem hSame {l : List (List Mt)} (hr : ∀ r ∈ l, r.length ≤ 4611686018427387904) : SameV (l.map hRnd) (hV l) := by
  refine ⟨by rw [List.length_map, hV_len], fun i hi hj => ?_, fun i hi hj => ?_⟩
  all_goals
    have hil : i < l.length := by simpa using hi
    have hri := hr _ (List.getElem_mem hil)
    have e1 : (l.map hRnd)[i] = hRnd l[i] := List.getElem_map ..
    have e2 : (hV l)[i] = ⟨l[i], true, 0⟩ := List.getElem_map ..
    rw [e1, e2]
    unfold hRnd; rw [dif_pos hri]
  funext c; rfl
theorem hLast {l : List (List Mt)} (hr : ∀ r ∈ l, r.length ≤ 4611686018427387904) : LastU (l.map hRnd) := by
  intro i hi _ c
  have hil : i < l.length := by simpa using hi
  have hri := hr _ (List.getElem_mem hil)
  have e1 : (l.map hRnd)[i] = hRnd l[i] := List.getElem_map ..
  rw [e1]
  unfold hRnd stR; rw [dif_pos hri]
  exact stateF_known (fun _ => rfl) _
theorem holds_eq {l : List (List Mt)} {d : Dm} (hr : ∀ r ∈ l, r.length ≤ 4611686018427387904) : holdsF l d = rholdsF l d := by
  unfold holdsF rholdsF
  by_cases hk : 1 ≤ d.kind ∧ d.kind ≤ 10
  · rw [dooms_eq (hSame hr) (hLast hr) hk]
  · rw [decide_eq_false hk]; rfl
theorem pSame {l : List (List Mt)} {p : Pl} (hr : ∀ r ∈ l, r.length ≤ 4611686018427387904) : SameV (pR l p) (seenV l p) := by
  refine ⟨by unfold pR seenV; rw [List.length_map, List.length_map], fun i hi hj => ?_, fun i hi hj => ?_⟩
  all_goals
    have hil : i < l.length := by unfold pR at hi; simpa using hi
    have hri := hr _ (List.getElem_mem hil)
    have e1 : (pR l p)[i] = pRnd p l[i] := List.getElem_map ..
    have e2 : (seenV l p)[i] = seenR p l[i] := List.getElem_map ..
    rw [e1, e2]
    unfold pRnd; rw [dif_pos hri]
  · rfl
  · funext c
    show (decide ((l[i].length : Int) = halfN p) || decide (c < lastM l[i])) = (decide (l[i].length = halfN p) || decide (c < lastM l[i]))
    rw [decide_eq_decide.2 (show ((l[i].length : Int) = halfN p) ↔ l[i].length = halfN p by omega)]
theorem pLast {l : List (List Mt)} {p : Pl} (hr : ∀ r ∈ l, r.length ≤ 4611686018427387904) (hP : PartP l p) : LastU (pR l p) := by
  intro i hi hi1 c
  have hil : i < l.length := by unfold pR at hi; simpa using hi
  have hil1 : i + 1 < l.length := by unfold pR at hi1; simpa using hi1
  have hri := hr _ (List.getElem_mem hil)
  have e1 : (pR l p)[i] = pRnd p l[i] := List.getElem_map ..
  have hh := (hP.2 i hil).2.2.1 hil1
  have hh2 := (hP.2 i hil).2.1
  rw [e1]
  unfold pRnd stR; rw [dif_pos hri]
  exact stateF_known (fun c => by simp only [Bool.or_eq_true, decide_eq_true_eq]; exact .inl (by omega)) _
theorem doomGo_eq {R : List Rnd} {v : Vw} (h : SameV R v) (hu : LastU R) : ∀ (ds : List Dm) (i : Nat), (∀ d ∈ ds, 1 ≤ d.kind ∧ d.kind ≤ 10) → doomGo R ds i = rdoomGo v ds i
  | [], _, _ => rfl
  | d :: ds, i, hk => by
    rw [doomGo, rdoomGo, dooms_eq h hu (hk d (by simp)), doomGo_eq h hu ds (i + 1) fun d hd => hk d (by simp [hd])]
theorem doomL_eq {l : List (List Mt)} {p : Pl} (hs : Small l p) (h0 : checkP p = 0) (hP : PartP l p) : doomL (pR l p) p = rdoomL (seenV l p) p := by
  unfold doomL rdoomL
  rw [doomGo_eq (pSame hs.hr) (pLast hs.hr hP) _ _ fun d hd => valid_kind (checkP_valid h0 d hd)]
theorem dmd_eq {l : List (List Mt)} {p : Pl} (hs : Small l p) : dmA l p = rdmA l p ∧ dmE l p = rdmE l p := by
  unfold dmA rdmA dmE rdmE
  by_cases h0 : checkP p = 0
  · have hiff := PartP_iff l p (checkP_field h0)
    by_cases hP : PartP l p
    · have hR := hiff.1 hP
      rw [if_pos ⟨h0, hP⟩, if_pos ⟨h0, hR⟩, if_pos h0, if_pos h0, if_pos hP, if_pos hR, doomL_eq hs h0 hP]
      exact ⟨rfl, rfl⟩
    · have hR : ¬ PartR l p := fun h => hP (hiff.2 h)
      rw [if_neg (fun h => hP h.2), if_neg (fun h => hR h.2), if_pos h0, if_pos h0, if_neg hP, if_neg hR]
      exact ⟨rfl, rfl⟩
  · rw [if_neg (fun h => h0 h.1), if_neg (fun h => h0 h.1), if_neg h0, if_neg h0]
    exact ⟨rfl, rfl⟩
theorem brk_eq {l : List (List Mt)} {p : Pl} (hs : Small l p) : brkL l p = rbrkL l p ∧ brkE l p = rbrkE l p := by
  unfold brkL rbrkL brkE rbrkE
  by_cases h0 : checkP p = 0
  · have hiff := FullP_iff l p (checkP_field h0)
    by_cases hP : FullP l p
    · have hR := hiff.1 hP
      rw [if_pos ⟨h0, hP⟩, if_pos ⟨h0, hR⟩, if_pos h0, if_pos h0, if_pos hP, if_pos hR, doomL_eq hs h0 hP.1]
      exact ⟨rfl, rfl⟩
    · have hR : ¬ FullR l p := fun h => hP (hiff.2 h)
      rw [if_neg (fun h => hP h.2), if_neg (fun h => hR h.2), if_pos h0, if_pos h0, if_neg hP, if_neg hR]
      exact ⟨rfl, rfl⟩
  · rw [if_neg (fun h => h0 h.1), if_neg (fun h => h0 h.1), if_neg h0, if_neg h0]
    exact ⟨rfl, rfl⟩
end Go.Proofs.Ytjknhbfcdjjbhaa
