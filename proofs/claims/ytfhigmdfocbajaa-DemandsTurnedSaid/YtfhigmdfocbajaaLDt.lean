/-
  The statement DemandsTurned: home and away count alike; no conditions.
-/
import Derived.Test.YtfhigmdfocbajaaDemT
import Derived.Test.YtfhigmdfocbajaaFixE
namespace Go.Proofs.Ytfhigmdfocbajaa.turned
open Go.Tidy Go.ChangeShapes Go.WideShapes Go.ChangeAt Go.RowKit
set_option maxRecDepth 100000
set_option maxHeartbeats 0
set_option linter.unusedSimpArgs false
set_option linter.unusedVariables false
theorem hRnd_l {r : List Mt} (h : r.length ≤ 4611686018427387904) : (hRnd r).l = r := by unfold hRnd; rw [dif_pos h]
theorem hRnd_st {r : List Mt} (h : r.length ≤ 4611686018427387904) (c : Int) : stR (hRnd r) c = homeR c r := by unfold hRnd stR homeR; rw [dif_pos h]
theorem turnR_len (r : List Mt) : (turnR r).length = r.length := List.length_map ..
theorem turnL_len (l : List (List Mt)) : (turnL l).length = l.length := List.length_map ..
theorem contains_turn (r : List Mt) (a b : Int) : (turnR r).contains ⟨a, b⟩ = r.contains ⟨b, a⟩ := by
  rw [Bool.eq_iff_iff, List.contains_iff_mem, List.contains_iff_mem]
  unfold turnR
  constructor
  · intro h
    obtain ⟨m, hm, e⟩ := List.mem_map.1 h
    have e1 : m.away = a := congrArg Mt.home e
    have e2 : m.home = b := congrArg Mt.away e
    rw [← e1, ← e2]; exact hm
  · intro h
    exact List.mem_map.2 ⟨_, h, rfl⟩
theorem meet_turn (r : List Mt) (a b : Int) : meetF (turnR r) a b = meetF r a b := by
  unfold meetF
  rw [contains_turn, contains_turn, Bool.or_comm]
theorem home_turn {c : Int} : ∀ {r : List Mt}, (∀ m ∈ r, m.home ≠ m.away) → homeR c (turnR r) = -homeR c r
  | [], _ => rfl
  | m :: r, h => by
    have ih := home_turn (c := c) (r := r) fun m hm => h m (by simp [hm])
    have h0 := h m (by simp)
    unfold homeR at ih ⊢
    have e : turnR (m :: r) = backM m :: turnR r := rfl
    rw [e, stateF, stateF]
    show (if c = m.away then (1 : Int) else if c = m.home then -1 else stateF (turnR r) (fun _ => true) c) = _
    rw [ih]
    by_cases h1 : c = m.home
    · rw [if_neg (fun e => h0 (h1.symm.trans e)), if_pos h1, if_pos h1]
    · rw [if_neg h1, if_neg h1]
      by_cases h2 : c = m.away
      · rw [if_pos h2, if_pos h2]; rfl
      · rw [if_neg h2, if_neg h2]
def Nar (l : List (List Mt)) : Prop := ∀ r ∈ l, r.length ≤ 4611686018427387904
theorem nar_turn {l : List (List Mt)} (h : Nar l) : Nar (turnL l) := fun r hr => by
  obtain ⟨x, hx, rfl⟩ := List.mem_map.1 hr
  rw [turnR_len]; exact h x hx
theorem at_l {l : List (List Mt)} (hr : Nar l) (n : Int) : (roundAt ((turnL l).map hRnd) n).l = turnR (roundAt (l.map hRnd) n).l := by
  unfold roundAt
  by_cases h : 0 ≤ n ∧ n < (l.map hRnd).length
  · have h2 : 0 ≤ n ∧ n < ((turnL l).map hRnd).length := by rw [List.length_map, turnL_len]; rw [List.length_map] at h; exact h
    rw [dif_pos h, dif_pos h2]
    have hn : n.toNat < l.length := by rw [List.length_map] at h; omega
    rw [List.getElem_map, List.getElem_map, hRnd_l (hr _ (List.getElem_mem hn))]
    have e : (turnL l)[n.toNat]'(by rw [turnL_len]; exact hn) = turnR l[n.toNat] := List.getElem_map ..
    rw [e, hRnd_l (by rw [turnR_len]; exact hr _ (List.getElem_mem hn))]
  · have h2 : ¬ (0 ≤ n ∧ n < ((turnL l).map hRnd).length) := by rw [List.length_map, turnL_len]; rw [List.length_map] at h; exact h
    rw [dif_neg h, dif_neg h2]; rfl
theorem at_st {l : List (List Mt)} (hr : Nar l) (hne : ∀ r ∈ l, ∀ m ∈ r, m.home ≠ m.away) {n : Int} (h : 0 ≤ n ∧ n < l.length) (c : Int) :
    stR (roundAt ((turnL l).map hRnd) n) c = -stR (roundAt (l.map hRnd) n) c ∧ stR (roundAt (l.map hRnd) n) c ≠ 2 ∧ stR (roundAt (l.map hRnd) n) c ≠ -2 := by
  have hn : n.toNat < l.length := by omega
  unfold roundAt
  have h1 : 0 ≤ n ∧ n < (l.map hRnd).length := by rw [List.length_map]; exact h
  have h2 : 0 ≤ n ∧ n < ((turnL l).map hRnd).length := by rw [List.length_map, turnL_len]; exact h
  rw [dif_pos h1, dif_pos h2, List.getElem_map, List.getElem_map]
  have e : (turnL l)[n.toNat]'(by rw [turnL_len]; exact hn) = turnR l[n.toNat] := List.getElem_map ..
  rw [e, hRnd_st (by rw [turnR_len]; exact hr _ (List.getElem_mem hn)), hRnd_st (hr _ (List.getElem_mem hn)), home_turn (hne _ (List.getElem_mem hn))]
  refine ⟨rfl, stateF_known (fun _ => rfl) _, ?_⟩
  have := (stateF_range (fun _ => true) c l[n.toNat]).1
  unfold homeR; omega
theorem kst_pat {l : List (List Mt)} {c : Int} (hr : Nar l) : kst (l.map hRnd) c = patL l c := by
  unfold kst patL
  rw [List.map_map]
  have e : l.map ((fun r => stR r c) ∘ hRnd) = l.map (homeR c) := List.map_congr_left fun r h => hRnd_st (hr r h) c
  rw [e]
  have key : ∀ S : List Int, (∀ s ∈ S, s ≠ 2) → S.takeWhile (fun s => decide (s ≠ 2)) = S := by
    intro S hS
    induction S with
    | nil => rfl
    | cons a S ih => rw [List.takeWhile_cons_of_pos (by simpa using hS a (by simp)), ih fun s hs => hS s (by simp [hs])]
  refine key _ fun s hs => ?_
  obtain ⟨r, _, rfl⟩ := List.mem_map.1 hs
  exact stateF_known (kn := fun _ => true) (fun _ => rfl) (c := c) r
theorem pat_turn {l : List (List Mt)} (hne : ∀ r ∈ l, ∀ m ∈ r, m.home ≠ m.away) (c : Int) : patL (turnL l) c = (patL l c).map fun s => -s := by
  unfold patL turnL
  rw [List.map_map, List.map_map]
  exact List.map_congr_left fun r hr => home_turn (hne r hr)
theorem brk_neg : ∀ (S : List Int) (a : Int × Int), (S.map fun s => -s).foldl brkStep (-a.1, a.2) = (-(S.foldl brkStep a).1, (S.foldl brkStep a).2)
  | [], a => rfl
  | s :: S, a => by
    rw [List.map_cons, List.foldl_cons, List.foldl_cons, ← brk_neg S]
    refine congrArg (fun x => List.foldl brkStep x (S.map fun s => -s)) ?_
    unfold brkStep
    by_cases h : s = 0
    · rw [if_pos h, if_pos (by omega)]
    · rw [if_neg h, if_neg (by omega)]
      by_cases h2 : s = a.1
      · rw [if_pos h2, if_pos (by omega)]
      · rw [if_neg h2, if_neg (by omega)]
theorem tilt_neg (n : Int) : ∀ (S : List Int) (a : Int), tiltGo n (S.map fun s => -s) (-a) = tiltGo n S a
  | [], a => rfl
  | s :: S, a => by
    rw [List.map_cons, tiltGo, tiltGo]
    have e : -a + -s = -(a + s) := by omega
    rw [e, tilt_neg n S]
    by_cases h : n < a + s ∨ n < -(a + s)
    · rw [if_pos h, if_pos (by omega)]
    · rw [if_neg h, if_neg (by omega)]
theorem close_turn (d : Dm) : ∀ {l : List (List Mt)} (hr : Nar l) (i a : Int) (b : Bool), closeGo d ((turnL l).map hRnd) i a b = closeGo d (l.map hRnd) i a b
  | [], _, _, _, _ => rfl
  | r :: l, hr, i, a, b => by
    have h0 := hr r (by simp)
    have e : (turnL (r :: l)).map hRnd = hRnd (turnR r) :: (turnL l).map hRnd := rfl
    rw [e, List.map_cons, closeGo, closeGo, hRnd_l h0, hRnd_l (by rw [turnR_len]; exact h0), meet_turn]
    have ih := fun i a b => close_turn d (l := l) (fun r h => hr r (by simp [h])) i a b
    rw [ih, ih]
def turnD (d : Dm) : Dm := { d with kind := if d.kind = 1 then 2 else if d.kind = 2 then 1 else d.kind }
theorem turn_holds {l : List (List Mt)} {d : Dm} (hr : Nar l) (hne : ∀ r ∈ l, ∀ m ∈ r, m.home ≠ m.away) (h6 : d.kind ≠ 6) (h7 : d.kind ≠ 7) : holdsF l d = holdsF (turnL l) (turnD d) := by
  rcases d with ⟨kd, cl, ot, ro, nn, cs⟩
  simp only at h6 h7
  by_cases hk : 1 ≤ kd ∧ kd ≤ 10
  · by_cases hk4 : kd ≤ 4
    · by_cases hro : 0 ≤ ro ∧ ro < l.length
      · have hs := at_st hr hne hro
        have e1 : kd = 1 ∨ kd = 2 ∨ kd = 3 ∨ kd = 4 := by omega
        have hr1 : decide (ro < 0) = false := by simp; omega
        have hr2 : decide ((l.length : Int) ≤ ro) = false := by simp; omega
        have hr3 : decide (((turnL l).length : Int) ≤ ro) = false := by rw [turnL_len]; exact hr2
        obtain ⟨s1, s2, s3⟩ := hs cl
        obtain ⟨t1, t2, t3⟩ := hs ot
        rcases e1 with rfl | rfl | rfl | rfl
        · show (true && !(true && (decide (ro < 0) || decide ((l.length : Int) ≤ ro))) && !doesF (l.map hRnd) 1 ⟨1, cl, ot, ro, nn, cs⟩) = (true && !(true && (decide (ro < 0) || decide (((turnL l).length : Int) ≤ ro))) && !doesF ((turnL l).map hRnd) (-1) ⟨2, cl, ot, ro, nn, cs⟩)
          rw [hr1, hr2, hr3]
          unfold doesF
          simp only [s1]
          rw [Bool.eq_iff_iff]; simp; omega
        · show (true && !(true && (decide (ro < 0) || decide ((l.length : Int) ≤ ro))) && !doesF (l.map hRnd) (-1) ⟨2, cl, ot, ro, nn, cs⟩) = (true && !(true && (decide (ro < 0) || decide (((turnL l).length : Int) ≤ ro))) && !doesF ((turnL l).map hRnd) 1 ⟨1, cl, ot, ro, nn, cs⟩)
          rw [hr1, hr2, hr3]
          unfold doesF
          simp only [s1]
          rw [Bool.eq_iff_iff]; simp; omega
        · show (true && !(true && (decide (ro < 0) || decide ((l.length : Int) ≤ ro))) && !doesF (l.map hRnd) 0 ⟨3, cl, ot, ro, nn, cs⟩) = (true && !(true && (decide (ro < 0) || decide (((turnL l).length : Int) ≤ ro))) && !doesF ((turnL l).map hRnd) 0 ⟨3, cl, ot, ro, nn, cs⟩)
          rw [hr1, hr2, hr3]
          unfold doesF
          simp only [s1]
          rw [Bool.eq_iff_iff]; simp; omega
        · show (true && !(true && (decide (ro < 0) || decide ((l.length : Int) ≤ ro))) && !k4F (l.map hRnd) ⟨4, cl, ot, ro, nn, cs⟩) = (true && !(true && (decide (ro < 0) || decide (((turnL l).length : Int) ≤ ro))) && !k4F ((turnL l).map hRnd) ⟨4, cl, ot, ro, nn, cs⟩)
          rw [hr1, hr2, hr3]
          unfold k4F meets
          simp only [s1, t1, at_l hr, meet_turn]
          rw [decide_eq_false s2, decide_eq_false (show ¬ (-stR (roundAt (l.map hRnd) ro) cl = 2) by omega), decide_eq_false t2, decide_eq_false (show ¬ (-stR (roundAt (l.map hRnd) ro) ot = 2) by omega)]
      · have hq : (decide (ro < 0) || decide ((l.length : Int) ≤ ro)) = true := by rw [Bool.or_eq_true, decide_eq_true_eq, decide_eq_true_eq]; omega
        have hq2 : (decide (ro < 0) || decide (((turnL l).length : Int) ≤ ro)) = true := by rw [turnL_len]; exact hq
        unfold holdsF turnD
        simp only [hq, hq2]
        rw [decide_eq_true hk4, decide_eq_true (show (if kd = 1 then 2 else if kd = 2 then 1 else kd) ≤ 4 by split <;> first | omega | (split <;> omega))]
        simp
    · have e1 : kd = 5 ∨ kd = 8 ∨ kd = 9 ∨ kd = 10 := by omega
      rcases e1 with rfl | rfl | rfl | rfl
      · show (true && !(false && _) && !meets (l.map hRnd) ⟨5, cl, ot, ro, nn, cs⟩) = (true && !(false && _) && !meets ((turnL l).map hRnd) ⟨5, cl, ot, ro, nn, cs⟩)
        unfold meets
        simp only [at_l hr, meet_turn, Bool.false_and]
      · show (true && !(false && _) && !closeGo ⟨8, cl, ot, ro, nn, cs⟩ (l.map hRnd) 0 0 false) = (true && !(false && _) && !closeGo ⟨8, cl, ot, ro, nn, cs⟩ ((turnL l).map hRnd) 0 0 false)
        rw [close_turn _ hr]; simp only [Bool.false_and]
      · show (true && !(false && _) && !decide (nn < (brkF (kst (l.map hRnd) cl)).2)) = (true && !(false && _) && !decide (nn < (brkF (kst ((turnL l).map hRnd) cl)).2))
        have e : (brkF ((patL l cl).map fun s => -s)).2 = (brkF (patL l cl)).2 := by
          have := brk_neg (patL l cl) (0, 0)
          have e0 : ((-(0 : Int)), (0 : Int)) = ((0 : Int), (0 : Int)) := rfl
          simp only [e0] at this
          unfold brkF
          rw [this]
        rw [kst_pat hr, kst_pat (nar_turn hr), pat_turn hne, e]; simp only [Bool.false_and]
      · show (true && !(false && _) && !tiltGo nn (kst (l.map hRnd) cl) 0) = (true && !(false && _) && !tiltGo nn (kst ((turnL l).map hRnd) cl) 0)
        rw [kst_pat hr, kst_pat (nar_turn hr), pat_turn hne]
        have := tilt_neg nn (patL l cl) 0
        simp only [Int.neg_zero] at this
        rw [this]; simp only [Bool.false_and]
  · unfold holdsF turnD
    simp only
    rw [decide_eq_false hk, decide_eq_false (show ¬ (1 ≤ (if kd = 1 then 2 else if kd = 2 then 1 else kd) ∧ (if kd = 1 then 2 else if kd = 2 then 1 else kd) ≤ 10) by rw [if_neg (by omega), if_neg (by omega)]; exact hk)]
    rfl
theorem fix_ne {l : List (List Mt)} {cs : List Int} (h : fixE l cs = 0) : ∀ r ∈ l, ∀ m ∈ r, m.home ≠ m.away := by
  have hF : FixP l cs := by
    unfold fixE at h
    by_cases h1 : fieldOk cs 2 = true
    · rw [if_pos h1] at h
      by_cases h2 : l.length ≤ 46
      · rw [if_pos h2] at h
        by_cases h3 : FixP l cs
        · exact h3
        · rw [if_neg h3] at h; omega
      · rw [if_neg h2] at h; omega
    · rw [if_neg h1] at h; omega
  intro r hr m hm
  obtain ⟨i, hi, rfl⟩ := List.getElem_of_mem hr
  obtain ⟨k, hk, rfl⟩ := List.getElem_of_mem hm
  exact (hF i hi k hk).1
def xP : Pl := ⟨[], false, []⟩
theorem len_small {l : List (List Mt)} {p : Pl} (h : bulkN l p ≤ 200) : ∀ r ∈ l, r.length ≤ 1073741824 := by
  have mem : ∀ (l : List (List Mt)) (x : List Mt), x ∈ l → x.length ≤ (l.map List.length).sum := by
    intro l
    induction l with
    | nil => intro x hx; simp at hx
    | cons y l ih =>
      intro x hx
      simp only [List.map_cons, List.sum_cons]
      rcases List.mem_cons.1 hx with rfl | hx
      · omega
      · have := ih x hx; omega
  intro r hr
  unfold bulkN at h
  have := mem l r hr; omega
theorem law (l : List (List Mt)) (d : Dm) (cs : List Int) (hl : l.length ≤ 140737488355328 ∧ ∀ r ∈ l, r.length ≤ 140737488355328) (hd : d.clubs.length ≤ 140737488355328) (hcs : cs.length ≤ 140737488355328) : CallP C 8 [lisV l, dmV d, .d (ints cs)] [] fun X L => L = [] ∧ X = .d (.bool true) := by
  have hfit : Fits l xP := ⟨hl.1, hl.2, by decide, fun d h => by simp [xP] at h, by decide⟩
  have hdd : d.clubs.length ≤ 4611686018427387904 := Nat.le_trans hd (by decide)
  have hcc : cs.length ≤ 4611686018427387904 := Nat.le_trans hcs (by decide)
  refine callP_of C_ok Try.func8 rfl rfl (n := _) rfl (Nat.le_of_ble_eq_true rfl) (rs := _) rfl ?_
  by_cases hb : bulkN l xP ≤ 200
  · have hs := small_of hb
    have hlen := len_small hb
    by_cases hE : fixE l cs = 0
    · have hne := fix_ne hE
      have hTl : (turnL l).length ≤ 1073741824 := by rw [turnL_len]; exact hs.hl
      have hT := @turn_holds l d hs.hr hne
      by_cases k6 : d.kind = 6 ∨ d.kind = 7
      · have n1 : ¬ d.kind = 1 := by omega
        have n2 : ¬ d.kind = 2 := by omega
        repeat' (conv => whnf
                 first | refine sane_c ?_ | refine CallP.lent (rfew_c l xP hfit ⟨rfl, rfl⟩) (.keep (.cv (y := plV xP) (.aggL (.cons .nil (.cons (.d _) (.cons .nil .nil)))) .nil)) rfl rfl ?_ | refine Br.yes (decide_eq_true hb) ?_ | refine fcheck_c l cs hs.hl hs.hr hcc ?_ | refine Br.yes (decide_eq_true hE) ?_ | refine Br.no (decide_eq_false n1) ?_ | refine Br.no (decide_eq_false n2) ?_ | refine Br.tt ?_ | refine Br.ff ?_ | refine Br.dec (fun h => ?_) (fun h => ?_) | refine Br.not ?_ | refine Br.intro (fun h => ?_) (fun h => ?_) | refine GetE.intro _ rfl ?_ | refine Need.intro rfl ?_ | refine DrawP.go mixed rfl ?_)
        all_goals conv => whnf
        all_goals first
          | exact FinP.drop (n := 0) rfl (Nat.le_refl 0) rfl rfl ⟨rfl, rfl⟩
          | exact absurd k6 (fun e => e.elim ‹¬ d.kind = 6› ‹¬ d.kind = 7›)
          | exact absurd ‹d.kind = 6› ‹¬ d.kind = 6›
      · have hT := hT (fun e => k6 (.inl e)) (fun e => k6 (.inr e))
        repeat' (conv => whnf
                 first | refine sane_c ?_ | refine CallP.lent (rfew_c l xP hfit ⟨rfl, rfl⟩) (.keep (.cv (y := plV xP) (.aggL (.cons .nil (.cons (.d _) (.cons .nil .nil)))) .nil)) rfl rfl ?_ | refine Br.yes (decide_eq_true hb) ?_ | refine fcheck_c l cs hs.hl hs.hr hcc ?_ | refine Br.yes (decide_eq_true hE) ?_ | refine QCall.intro _ (turned_c l hs.hl hlen ⟨rfl, rfl⟩) ?_ | refine QCall.intro _ (holds_c l d hs.hl hs.hr hdd ⟨rfl, rfl⟩) ?_ | refine QCall.intro _ (holds_c (turnL l) { d with kind := 2 } hTl (nar_turn hs.hr) hdd ⟨rfl, rfl⟩) ?_ | refine QCall.intro _ (holds_c (turnL l) { d with kind := 1 } hTl (nar_turn hs.hr) hdd ⟨rfl, rfl⟩) ?_ | refine QCall.intro _ (holds_c (turnL l) d hTl (nar_turn hs.hr) hdd ⟨rfl, rfl⟩) ?_ | refine Br.tt ?_ | refine Br.ff ?_ | refine Br.dec (fun h => ?_) (fun h => ?_) | refine Br.not ?_ | refine Br.intro (fun h => ?_) (fun h => ?_) | refine GetE.intro _ rfl ?_ | refine Need.intro rfl ?_ | refine DrawP.go mixed rfl ?_)
        all_goals conv => whnf
        all_goals first
          | exact FinP.drop (n := 0) rfl (Nat.le_refl 0) rfl rfl ⟨rfl, rfl⟩
          | skip
        all_goals first
          | exact absurd ‹d.kind = 6› ‹¬ d.kind = 6›
          | exact FinP.drop (n := 0) rfl (Nat.le_refl 0) rfl rfl ⟨rfl, congrArg B (decide_eq_true (show holdsF l d = holdsF (turnL l) { d with kind := 2 } by rw [hT]; unfold turnD; rw [if_pos ‹d.kind = 1›]))⟩
          | exact FinP.drop (n := 0) rfl (Nat.le_refl 0) rfl rfl ⟨rfl, congrArg B (decide_eq_true (show holdsF l d = holdsF (turnL l) { d with kind := 1 } by rw [hT]; unfold turnD; rw [if_neg ‹¬ d.kind = 1›, if_pos ‹d.kind = 2›]))⟩
          | exact FinP.drop (n := 0) rfl (Nat.le_refl 0) rfl rfl ⟨rfl, congrArg B (decide_eq_true (show holdsF l d = holdsF (turnL l) d by rw [hT]; unfold turnD; rw [if_neg ‹¬ d.kind = 1›, if_neg ‹¬ d.kind = 2›]))⟩
    · repeat' (conv => whnf
               first | refine sane_c ?_ | refine CallP.lent (rfew_c l xP hfit ⟨rfl, rfl⟩) (.keep (.cv (y := plV xP) (.aggL (.cons .nil (.cons (.d _) (.cons .nil .nil)))) .nil)) rfl rfl ?_ | refine Br.yes (decide_eq_true hb) ?_ | refine fcheck_c l cs hs.hl hs.hr hcc ?_ | refine Br.no (decide_eq_false hE) ?_ | refine Br.tt ?_ | refine Br.ff ?_ | refine Br.dec (fun h => ?_) (fun h => ?_) | refine Br.not ?_ | refine Br.intro (fun h => ?_) (fun h => ?_) | refine GetE.intro _ rfl ?_ | refine Need.intro rfl ?_ | refine DrawP.go mixed rfl ?_)
      all_goals conv => whnf
      all_goals exact FinP.drop (n := 0) rfl (Nat.le_refl 0) rfl rfl ⟨rfl, rfl⟩
  · repeat' (conv => whnf
             first | refine sane_c ?_ | refine CallP.lent (rfew_c l xP hfit ⟨rfl, rfl⟩) (.keep (.cv (y := plV xP) (.aggL (.cons .nil (.cons (.d _) (.cons .nil .nil)))) .nil)) rfl rfl ?_ | refine Br.no (decide_eq_false hb) ?_ | refine Br.tt ?_ | refine Br.ff ?_ | refine Br.dec (fun h => ?_) (fun h => ?_) | refine Br.not ?_ | refine Br.intro (fun h => ?_) (fun h => ?_) | refine GetE.intro _ rfl ?_ | refine Need.intro rfl ?_ | refine DrawP.go mixed rfl ?_)
    all_goals conv => whnf
    all_goals exact FinP.drop (n := 0) rfl (Nat.le_refl 0) rfl rfl ⟨rfl, rfl⟩
theorem call_closed : ∀ xss, TyA C.P Try.f8.params.toList xss → (∀ xs ∈ xss, ∀ y ∈ xs, Dsm reachBytes y) → CallP C 8 (argVs C.P Try.f8.params.toList xss) [] fun X L => L = [] ∧ X = .d (.bool true) := by
  intro xss h hsm
  match xss, h, hsm with
  | [x1, x2, x3], ⟨h1, h2, h3, _⟩, hsm =>
    obtain ⟨x1, rfl, b1⟩ := lisT h1 (hsm _ (by simp))
    obtain ⟨x2, rfl, b2⟩ := dmT h2 (hsm _ (by simp))
    obtain ⟨x3, rfl, b3⟩ := intsT h3 (hsm _ (by simp))
    exact law x1 x2 x3 b1 b2 b3
set_option maxRecDepth 100000 in
theorem lifted (os : Os) (started : os.Started) (H : Type) (enc : TypeId × Value → H) :
    ReturnsInHanded {} Try.checked os 8 .any (Rows.demandsTurnedSpec.pre6 enc Try.prog Try.f8 Rows.demandsTurnedRow.domain false) (Rows.demandsTurnedSpec.post enc Try.prog Try.f8 false true false false) := by
  refine returnsInHanded_of_change_sized (C := Try.checked) own started (by kernel_rfl) Try.func8
    (ChangeSpec.witness6 (enc := enc) (C := Try.checked) false ⟨#[], #[.agg #[.slice none 0 0], .agg #[.int .i64 0, .int .i64 0, .int .i64 0, .int .i64 0, .int .i64 0, .slice none 0 0], .slice none 0 0], []⟩ 8 (by kernel_rfl) (by kernel_rfl) (by kernel_rfl) (by kernel_rfl)) ?_
  intro W base args ds gs before hval hW _ hz _
  refine law_ofB (C := C) (l := plainTys) kids full plainOk bytesOk plainLt (fun t ht => ?_) rfl rfl Try.underlying4 (fun ds hd => ?_) call_closed hval hW hz
  · have : Try.f8.params.toList.all (fun t => plainTys.contains t) = true := by kernel_rfl
    simpa using List.all_eq_true.1 this t ht
  · match ds, hd with
    | [d1, d2, d3], _ => rfl
theorem proved : Rows.DemandsTurnedSaid :=
  OpenClaim.holds_of_wide 8 Try.f8 rfl rfl rfl rfl rfl rfl rfl ⟨rfl, rfl, rfl, rfl, rfl⟩ rfl rfl rfl rfl rfl (by kernel_rfl) Try.func8 (by kernel_rfl)
    (of_decide_eq_true (by kernel_rfl)) (by unfold Func.isWrapper; first | (rw [if_pos (by decide +kernel)]; kernel_rfl) | (rw [if_neg (by decide +kernel)]; exact ⟨rfl, rfl⟩))
    (fun os started H enc _ => lifted os started H enc)
end Go.Proofs.Ytfhigmdfocbajaa.turned
