/-
  planner's reference: the next round, extended lists, choices.
-/
import Derived.Test.YtjknhbfcdjjbhaaPlaG
import Derived.Test.YtjknhbfcdjjbhaaDemQ
namespace Go.Proofs.Ytjknhbfcdjjbhaa
open Go.Tidy
set_option maxRecDepth 100000
set_option maxHeartbeats 0
set_option linter.unusedSimpArgs false
set_option linter.unusedVariables false
variable {L : List Blk} {k : V → List Blk → Prop}
def nxR (l : Lst) (p : Pl) : List Mt × Lst × Bool := if (openR l p).2.1 = false then ((openR l p).1, l.dropLast, true) else if l.length < roundsN p then ([], l, true) else ([], [], false)
theorem rnext_c (l : Lst) (p : Pl) (hl : l.length ≤ 1073741824) (hp : 1 ≤ p.clubs.length ∧ p.clubs.length ≤ 1000) (h : k (.tup [.d (mts (nxR l p).1), .d (lisD (nxR l p).2.1), B (nxR l p).2.2]) L) : CallP C 56 [lisV l, plV p] L k := by
  have hx : (0 : Int) < ((l.map fun r => [mts r]).length : Int) → IntKind.i64.wrap (((l.map fun r => [mts r]).length : Int) - 1) = ((l.length - 1 : Nat) : Int) := fun h => by
    rw [List.length_map] at h ⊢; rw [wrap_in (by omega)]; omega
  have hn : (0 : Int) < ((l.map fun r => [mts r]).length : Int) → l.length - 1 < l.length := fun h => by
    rw [List.length_map] at h; omega
  have hhe := half_e p hp.2
  refine CallP.pure ?_ rfl (fun _ => rfl) h
  clear h
  refine callP_of C_ok Try.func56 rfl rfl (n := _) rfl (Nat.le_of_ble_eq_true rfl) (rs := _) rfl ?_
  repeat' (conv => whnf
           first | refine Br.tt ?_ | refine Br.ff ?_ | refine Br.dec (fun h => ?_) (fun h => ?_) | refine Br.not ?_ | refine Br.intro (fun h => ?_) (fun h => ?_) | refine GetE.intro _ rfl ?_ | refine Need.intro rfl ?_ | refine DrawP.go mixed rfl ?_ | refine Idx.map (l.length - 1) (hx ‹_›) (hn ‹_›) ?_ | refine Need.intro (show (2 : Int) ≠ 0 by decide) ?_ | refine Need.intro (lisE l) ?_ | refine SliceP.intro 0 (l.length - 1) rfl (hx ‹_›) (Nat.zero_le _) (by rw [List.length_map]; exact Nat.sub_le _ _) ?_ | refine rrounds_c p hp ?_)
  all_goals conv => whnf
  all_goals
    have hfr : ((openR l p).2.1 = false ∧ (openR l p).1 = l.getLast?.getD []) ∨ (openR l p).2.1 = true := by
      unfold openR
      cases l.getLast? with
      | none => exact .inr rfl
      | some r => simp only; split
                  · exact .inl ⟨rfl, rfl⟩
                  · exact .inr rfl
  · rename_i h1
    have h0 := hn h1
    have h2 : (l[l.length - 1]).length < halfN p := by rw [hhe, List.length_map] at h; omega
    have e1 : (openR l p).2.1 = false ∧ (openR l p).1 = l[l.length - 1] := by
      unfold openR; rw [last_of (by omega)]; simp only [if_pos h2]; exact ⟨trivial, trivial⟩
    have hN : nxR l p = (l[l.length - 1], l.dropLast, true) := by unfold nxR; rw [if_pos e1.1, e1.2]
    have hdl : List.take (l.length - 1 - 0) (List.drop 0 (l.map fun r => [mts r])) = l.dropLast.map fun r => [mts r] := by
      rw [List.drop_zero, ← List.map_take, Nat.sub_zero, ← List.dropLast_eq_take]
    refine FinP.data (L' := []) (.triple (.d (.d _)) (.d (.d _)) (.d (.d _))) rfl rfl ⟨rfl, ?_⟩
    rw [hN]
    exact congrArg (fun z => V.tup [.d (mts l[l.length - 1]), .d (.sl z), B true]) hdl
  all_goals
    have e1 : (openR l p).2.1 = true := by
      unfold openR
      cases hg : l.getLast? with
      | none => rfl
      | some r =>
        simp only
        rw [if_neg]
        intro hr
        have h0 : 0 < l.length := by cases l with
          | nil => cases hg
          | cons => simp
        rw [last_of h0] at hg
        cases hg
        first
        | (rename_i h1 h2; rw [hhe, List.length_map] at h2; omega)
        | (rename_i h1; rw [List.length_map] at h1; omega)
  all_goals first
    | (have hlt : l.length < roundsN p := by rw [List.length_map] at h; omega
       have hN : nxR l p = ([], l, true) := by unfold nxR; rw [if_neg (by rw [e1]; decide), if_pos hlt]
       refine DrawP.por mixed [] [[(1, 0), (2, 3), (0, 0), (3, 0), (4, 0), (5, 0)]] (by kernel_rfl) ?_
       repeat' (conv => whnf
                first | refine Br.tt ?_ | refine Br.ff ?_ | refine Br.dec (fun h => ?_) (fun h => ?_) | refine Br.not ?_ | refine Br.intro (fun h => ?_) (fun h => ?_) | refine GetE.intro _ rfl ?_ | refine Need.intro rfl ?_ | refine DrawP.go mixed rfl ?_)
       conv => whnf
       refine FinP.data (L' := []) (.triple (.d (.rowL (ds := []) (Nat.zero_le _) rfl .nil rfl (fun e he => by cases he))) (.d (.d _)) (.d (.d _))) rfl rfl ⟨rfl, ?_⟩
       rw [hN]; rfl)
    | (have hlt : ¬ l.length < roundsN p := by rw [List.length_map] at h; omega
       have hN : nxR l p = ([], [], false) := by unfold nxR; rw [if_neg (by rw [e1]; decide), if_neg hlt]
       refine FinP.data (L' := []) (.triple (.d .nil) (.d .nil) (.d (.d _))) rfl rfl ⟨rfl, ?_⟩
       rw [hN]; rfl)
theorem CvLL.cong {S : Nat → Prop} {L : List Blk} {xs xs' : List (List V)} {ys : List (List D)} (h : xs = xs') (hc : CvLL S L xs' ys) : CvLL S L xs ys := by subst h; exact hc
theorem app_eq {α : Type} {X Y Z : List α} (n : Nat) (h : X = Y) (hn : (Y ++ Z).length ≤ n) : ((X ++ Z).drop 0).take n = Y ++ Z := by
  subst h; rw [List.drop_zero, List.take_of_length_le hn]
theorem take_app0 {α : Type} (X : List α) (n : Nat) (h : X.length ≤ 0 + n) : List.take (0 + n) (List.take 0 ([] : List α) ++ X) = X := by
  rw [List.take_zero, List.nil_append, List.take_of_length_le h]
theorem rext_c (r : List Mt) (b : Lst) (m : Mt) (hr : r.length ≤ 1073741824) (hb : b.length ≤ 1073741824) (h : k (lisV (b ++ [r ++ [m]])) L) : CallP C 57 [.d (mts r), .d (lisD b), mtV m] L k := by
  refine CallP.pure ?_ rfl (fun _ => rfl) h
  clear h
  refine callP_of C_ok Try.func57 rfl rfl (n := _) rfl (Nat.le_of_ble_eq_true rfl) (rs := _) rfl ?_
  conv => whnf
  refine DrawP.por mixed [] [[(1, 0), (3, 4), (0, 0), (2, 0), (4, 0), (5, 0), (6, 0)], [(1, 0), (3, 4), (0, 0), (4, 0), (2, 0), (5, 0), (6, 0)], [(1, 0), (3, 4), (4, 0), (0, 0), (2, 0), (5, 0), (6, 0)]] (by kernel_rfl) ?_
  conv => whnf
  refine And.intro ?_ ?_
  rotate_left 1
  conv => whnf
  refine And.intro ?_ ?_
  all_goals
    repeat' (conv => whnf
             first | refine Br.tt ?_ | refine Br.ff ?_ | refine Br.dec (fun h => ?_) (fun h => ?_) | refine Br.not ?_ | refine Br.intro (fun h => ?_) (fun h => ?_) | refine GetE.intro _ rfl ?_ | refine Need.intro rfl ?_ | refine DrawP.go mixed rfl ?_ | refine Need.intro (mtsE r) ?_ | refine Need.intro (lisE b) ?_ | refine Need.intro (Nat.le_trans (m := 4294967296) (by first | omega | (simp; omega)) (apLim_ge _)) ?_)
  all_goals conv => whnf
  all_goals
    refine FinP.data (L' := []) (.aggL (.cons (.rowL (ds := (b ++ [r ++ [m]]).map fun r => [mts r]) (Nat.zero_le _) rfl ?_ ?_ (lisE _)) .nil)) rfl rfl ⟨rfl, rfl⟩
    · refine CvLL.cong (app_eq (Y := rdR b) (Z := [[_]]) _ ((take_app0 _ _ (by simp)).trans (by simp [rdR])) (by simp [rdR])) (rows_snoc (.rowL (ds := (r ++ [m]).map Mt.cells) (Nat.zero_le _) rfl ?_ ?_ (mtsE _)) b)
      · refine CvLL.cong (app_eq (Y := mR r) (Z := [m.cells.map .d]) _ ((take_app0 _ _ (by simp)).trans (by simp [mR])) (by simp [mR])) ?_
        rw [← mR_snoc]; exact mR_rows _
      · simp
    · simp
def prIn (c : Int) : List Int → List Mt
  | [] => []
  | o :: os => ⟨c, o⟩ :: ⟨o, c⟩ :: prIn c os
def prs : List Int → List Mt
  | [] => []
  | c :: cs => prIn c cs ++ prs cs
theorem prIn_len (c : Int) : ∀ os : List Int, (prIn c os).length = 2 * os.length
  | [] => rfl
  | o :: os => by simp only [prIn, List.length_cons, prIn_len c os]; omega
theorem prs_len (n : Nat) : ∀ cs : List Int, cs.length ≤ n → (prs cs).length ≤ cs.length * (2 * n)
  | [], _ => Nat.zero_le _
  | c :: cs, h => by
    simp only [List.length_cons] at h
    have h1 := prs_len n cs (by omega)
    simp only [prs, List.length_append, prIn_len, List.length_cons, Nat.add_mul, Nat.one_mul]
    omega
def extR (l : Lst) (p : Pl) (m : Mt) : Lst := (nxR l p).2.1 ++ [(nxR l p).1 ++ [m]]
def rchs (l : Lst) (p : Pl) : List Mt := if (nxR l p).2.2 = true then (prs p.clubs).filter (fun m => decide (PartR (extR l p m) p)) else []
def chM (l : Lst) (p : Pl) (out : List Mt) : List Blk := [.cells [.d (lisD l)], .cells (p.cells.map .d), .row out.length 2 (mR out)]
theorem chM_bel {n : Nat} (l : Lst) (p : Pl) (out : List Mt) : belB n (chM l p out) = true := by
  show (true && (V.belL n (p.cells.map .d) && (belR n (mR out) && true))) = true
  rw [V.belL_d, mR_bel]; rfl
theorem nx_small {l : Lst} {p : Pl} (hl : l.length ≤ 1073741823) (hF : l.flatten.length ≤ 1073741823) (m : Mt) : (nxR l p).1.length ≤ 1073741823 ∧ (nxR l p).2.1.length ≤ 1073741823 ∧ (extR l p m).length ≤ 1073741824 ∧ (∀ r ∈ extR l p m, r.length ≤ 4611686018427387904) ∧ (extR l p m).flatten.length ≤ 4294967296 := by
  have hfl : (extR l p m).flatten.length ≤ l.flatten.length + 1 ∧ (nxR l p).1.length ≤ l.flatten.length ∧ (nxR l p).2.1.length ≤ l.length := by
    unfold extR nxR
    rcases openR_spec l p with ⟨h1, h2⟩ | ⟨h1, r, h2, h3, h4, h5⟩
    · rw [h1]; simp only [Bool.true_eq_false, if_false]
      split <;> simp
    · rw [if_pos h1, h3]
      have e : l.flatten = l.dropLast.flatten ++ r := by
        conv => lhs; rw [h5]
        simp
      have e2 : (l.dropLast ++ [r ++ [m]]).flatten = l.dropLast.flatten ++ (r ++ [m]) := by simp
      refine ⟨?_, ?_, ?_⟩
      · show (l.dropLast ++ [r ++ [m]]).flatten.length ≤ _
        rw [e2, e]; simp only [List.length_append, List.length_singleton]; omega
      · show r.length ≤ _
        rw [e]; simp only [List.length_append]; omega
      · show l.dropLast.length ≤ _
        rw [List.length_dropLast]; omega
  refine ⟨by omega, by omega, ?_, fun r hr => ?_, by omega⟩
  · unfold extR; rw [List.length_append]; simp; omega
  · have : r.length ≤ (extR l p m).flatten.length := by
      obtain ⟨i, hi, rfl⟩ := List.getElem_of_mem hr
      have := List.sublist_flatten_of_mem (List.getElem_mem hi)
      exact this.length_le
    omega
theorem rchoices_c (l : Lst) (p : Pl) (hp : fieldOk p.clubs 2 = true) (hl : l.length ≤ 1073741823) (hF : l.flatten.length ≤ 1073741823) (h : k (.d (mts (rchs l p))) L) : CallP C 32 [lisV l, plV p] L k := by
  have hlen : 1 ≤ p.clubs.length ∧ p.clubs.length ≤ 1000 := by
    simp only [fieldOk, Bool.and_eq_true, decide_eq_true_eq] at hp; omega
  have hpl := prs_len 1000 p.clubs hlen.2
  have hsm := fun m => nx_small (p := p) hl hF m
  refine CallP.pure ?_ rfl (fun _ => rfl) h
  clear h
  refine callP_of C_ok Try.func32 rfl rfl (n := _) rfl (Nat.le_of_ble_eq_true rfl) (rs := _) rfl ?_
  repeat' (conv => whnf
           first | refine Br.tt ?_ | refine Br.ff ?_ | refine Br.dec (fun h => ?_) (fun h => ?_) | refine Br.not ?_ | refine Br.intro (fun h => ?_) (fun h => ?_) | refine GetE.intro _ rfl ?_ | refine Need.intro rfl ?_ | refine DrawP.go mixed rfl ?_ | refine rnext_c l p (by omega) hlen ?_)
  conv => whnf
  obtain ⟨Q, hQ⟩ : ∃ Q : Mt → Bool, Q = fun m => decide (PartR (extR l p m) p) := ⟨_, rfl⟩
  by_cases his : (nxR l p).2.2 = true
  · have hR : rchs l p = (prs p.clubs).filter Q := by unfold rchs; rw [if_pos his, hQ]
    refine LoopP.inv (fun s : Nat × List Mt => s.1 ≤ p.clubs.length ∧ ∃ pre, prs p.clubs = pre ++ prs (p.clubs.drop s.1) ∧ s.2 = pre.filter Q) (fun s => ⟨[(2, .ptr 0 0), (3, .ptr 1 0), (5, .own 2 s.2.length 0 s.2.length), (6, .d (mts (nxR l p).1)), (7, .d (lisD (nxR l p).2.1)), (8, B (nxR l p).2.2), (9, I s.1)], Try.f32.ntmps, chM l p s.2, [], none⟩) (fun s => p.clubs.length - s.1) (0, []) ⟨Nat.zero_le _, [], rfl, rfl⟩ ?_ ?_
    · exact Weak.by ⟨rfl, rfl, rfl, rfl, rfl, rfl, rfl, trivial⟩
    rintro ⟨i, out⟩ ⟨hi, pre, hpre, hout⟩
    simp only at hi hpre hout
    have hol : ∀ {pr rest : List Mt}, prs p.clubs = pr ++ rest → (pr.filter Q).length ≤ 2000000 := fun {pr rest} h => by
      have h1 := congrArg List.length h
      rw [List.length_append] at h1
      have h2 := List.length_filter_le Q pr
      omega
    repeat' (conv => whnf
             first | refine Br.yes his ?_ | refine Br.tt ?_ | refine Br.ff ?_ | refine Br.dec (fun h => ?_) (fun h => ?_) | refine Br.not ?_ | refine Br.intro (fun h => ?_) (fun h => ?_) | refine GetE.intro _ rfl ?_ | refine Need.intro rfl ?_ | refine DrawP.go mixed rfl ?_)
    all_goals conv => whnf
    · have hi' : i < p.clubs.length := by simp only [List.length_map] at h; omega
      have hwi : IntKind.i64.wrap ((i : Int) + 1) = ((i + 1 : Nat) : Int) := by rw [wrap_in (by omega)]; omega
      obtain ⟨c, hc⟩ : ∃ c, c = p.clubs[i] := ⟨_, rfl⟩
      obtain ⟨os, hos⟩ : ∃ os, os = p.clubs.drop (i + 1) := ⟨_, rfl⟩
      have hosl : os.length = p.clubs.length - (i + 1) := by rw [hos, List.length_drop]
      rw [List.drop_eq_getElem_cons hi', ← hos, ← hc, prs] at hpre
      refine LoopP.inv (fun s : Nat × List Mt => s.1 ≤ os.length ∧ ∃ pr, prs p.clubs = pr ++ (prIn c (os.drop s.1) ++ prs os) ∧ s.2 = pr.filter Q) (fun s => ⟨[(2, .ptr 0 0), (3, .ptr 1 0), (5, .own 2 s.2.length 0 s.2.length), (6, .d (mts (nxR l p).1)), (7, .d (lisD (nxR l p).2.1)), (8, B (nxR l p).2.2), (9, I i), (10, I (i + 1 + s.1 : Nat))], Try.f32.ntmps, chM l p s.2, [], none⟩) (fun s => os.length - s.1) (0, out) ⟨Nat.zero_le _, pre, hpre, hout⟩ ?_ ?_
      · exact Weak.by ⟨rfl, rfl, rfl, rfl, rfl, rfl, rfl, congrArg I hwi, trivial⟩
      rintro ⟨q, out2⟩ ⟨hq, pr, hpr, hout2⟩
      simp only at hq hpr hout2
      conv => whnf
      refine Br.dec (fun hb => ?_) (fun hb => ?_)
      · have hq' : q < os.length := by simp only [List.length_map] at hb; omega
        have hiq : i + 1 + q < p.clubs.length := by omega
        have hwq : IntKind.i64.wrap (((i + 1 + q : Nat) : Int) + 1) = ((i + 1 + (q + 1) : Nat) : Int) := by rw [wrap_in (by omega)]; omega
        obtain ⟨o, ho⟩ : ∃ o, o = os[q] := ⟨_, rfl⟩
        have hoc : p.clubs[i + 1 + q] = o := by rw [ho]; simp only [hos]; rw [List.getElem_drop]
        rw [List.drop_eq_getElem_cons hq', ← ho, prIn] at hpr
        obtain ⟨rest, hrest⟩ : ∃ rest, rest = prIn c (os.drop (q + 1)) ++ prs os := ⟨_, rfl⟩
        obtain ⟨two, htwo⟩ : ∃ two : List Mt, two = [⟨c, o⟩, ⟨o, c⟩] := ⟨_, rfl⟩
        have hpr2 : prs p.clubs = pr ++ (two.drop 0 ++ rest) := by rw [hpr, htwo, hrest]; rfl
        have htl : two.length = 2 := by rw [htwo]; rfl
        repeat' (conv => whnf
                 first | refine Idx.map i rfl hi' ?_ | refine Idx.map (i + 1 + q) rfl hiq ?_ | refine Br.tt ?_ | refine Br.ff ?_ | refine Br.dec (fun h => ?_) (fun h => ?_) | refine Br.not ?_ | refine Br.intro (fun h => ?_) (fun h => ?_) | refine GetE.intro _ rfl ?_ | refine Need.intro rfl ?_ | refine DrawP.go mixed rfl ?_)
        conv => whnf
        refine LoopP.inv (fun s : Nat × List Mt => s.1 ≤ 2 ∧ ∃ pr, prs p.clubs = pr ++ (two.drop s.1 ++ rest) ∧ s.2 = pr.filter Q) (fun s => ⟨[(2, .ptr 0 0), (3, .ptr 1 0), (5, .own 2 s.2.length 0 s.2.length), (6, .d (mts (nxR l p).1)), (7, .d (lisD (nxR l p).2.1)), (8, B (nxR l p).2.2), (9, I i), (10, I (i + 1 + q : Nat)), (11, .own 3 0 0 2), (12, I s.1)], Try.f32.ntmps, chM l p s.2 ++ [.row 0 2 (mR two)], [], none⟩) (fun s => 2 - s.1) (0, out2) ⟨Nat.zero_le _, pr, hpr2, hout2⟩ ?_ ?_
        · exact Weak.by ⟨rfl, rfl, rfl, rfl, rfl, rfl, rfl, rfl, rfl, rfl, trivial⟩ (hL := by subst htwo; rw [← hoc, hc]; rfl)
        rintro ⟨z, out3⟩ ⟨hz, pr3, hpr3, hout3⟩
        simp only at hz hpr3 hout3
        have hol3 := hol hpr3
        rw [← hout3] at hol3
        conv => whnf
        refine Br.dec (fun hb2 => ?_) (fun hb2 => ?_)
        · have hz' : z < 2 := by simp only at hb2; omega
          have hwz : IntKind.i64.wrap ((z : Int) + 1) = ((z + 1 : Nat) : Int) := by rw [wrap_in (by omega)]; omega
          have hzt : z < two.length := by omega
          have hgz := mR_get hzt
          rw [List.drop_eq_getElem_cons hzt, List.cons_append] at hpr3
          obtain ⟨m, hm⟩ : ∃ m, m = two[z] := ⟨_, rfl⟩
          rw [← hm] at hgz hpr3
          obtain ⟨s1, s2, s3, s4, s5⟩ := hsm m
          repeat' (conv => whnf
                   first | refine IdxN.intro z rfl hz' ?_ | refine GetE.intro _ hgz ?_ | refine QCall.intro _ (rext_c (nxR l p).1 (nxR l p).2.1 m (by omega) (by omega) ⟨rfl, rfl⟩) ?_ | refine QCall.intro _ (rpartial_c (extR l p m) p hp s3 s4 s5 ⟨rfl, rfl⟩) ?_ | refine Need.intro (Nat.le_trans (m := 4294967296) (show out3.length + 1 ≤ 4294967296 by omega) (apLim_ge _)) ?_ | simp only [Nat.beq_refl, Bool.and_self] | refine Br.tt ?_ | refine Br.ff ?_ | refine Br.dec (fun h => ?_) (fun h => ?_) | refine Br.not ?_ | refine Br.intro (fun h => ?_) (fun h => ?_) | refine GetE.intro _ rfl ?_ | refine Need.intro rfl ?_ | refine DrawP.go mixed rfl ?_)
          all_goals conv => whnf
          · have hQm : Q m = true := by rw [hQ]; exact decide_eq_true ‹_›
            refine ⟨(z + 1, out3 ++ [m]), ⟨hz', pr3 ++ [m], by rw [hpr3]; simp, by rw [List.filter_append, ← hout3]; simp [hQm]⟩, by simp only []; omega, Weak.to 4 (Eq.trans (b := [.cells [.d (lisD l)], .cells (p.cells.map .d), .row (out3.length + 1) 2 ((mR out3).take out3.length ++ [m.cells.map .d]), .row 0 2 (mR two)]) rfl ?_) (Nat.zero_le _) (Nat.le_of_ble_eq_true rfl) ⟨rfl, rfl, (show V.own 2 (out3.length + 1) 0 (out3.length + 1) = V.own 2 (out3 ++ [m]).length 0 (out3 ++ [m]).length by rw [List.length_append]; rfl), rfl, rfl, rfl, rfl, rfl, rfl, congrArg I hwz, trivial⟩ (hB := belB_append (chM_bel l p _) (by show (belR 4 (mR two) && true) = true; rw [mR_bel]; rfl))⟩
            rw [List.take_of_length_le (by rw [mR_len]; exact Nat.le_refl _), ← mR_snoc, show out3.length + 1 = (out3 ++ [m]).length by simp]; rfl
          · have hQm : Q m = false := by rw [hQ]; exact decide_eq_false ‹_›
            exact ⟨(z + 1, out3), ⟨hz', pr3 ++ [m], by rw [hpr3]; simp, by rw [List.filter_append, ← hout3]; simp [hQm]⟩, by simp only []; omega, Weak.by ⟨rfl, rfl, rfl, rfl, rfl, rfl, rfl, rfl, rfl, congrArg I hwz, trivial⟩⟩
        · have hze : z = 2 := by simp only at hb2; omega
          subst hze
          rw [List.drop_of_length_le (by omega), List.nil_append, hrest] at hpr3
          repeat' (conv => whnf
                   first | refine Br.tt ?_ | refine Br.ff ?_ | refine Br.dec (fun h => ?_) (fun h => ?_) | refine Br.not ?_ | refine Br.intro (fun h => ?_) (fun h => ?_) | refine GetE.intro _ rfl ?_ | refine Need.intro rfl ?_ | refine DrawP.go mixed rfl ?_)
          conv => whnf
          exact ⟨(q + 1, out3), ⟨hq', pr3, hpr3, hout3⟩, by simp only []; omega, Weak.to 3 rfl (Nat.zero_le _) (Nat.le_of_ble_eq_true rfl) ⟨rfl, rfl, rfl, rfl, rfl, rfl, rfl, congrArg I hwq, trivial⟩ (hB := chM_bel l p _)⟩
      · have hqe : q = os.length := by simp only [List.length_map] at hb; omega
        subst hqe
        rw [List.drop_length, prIn, List.nil_append, hos] at hpr
        repeat' (conv => whnf
                 first | refine Br.tt ?_ | refine Br.ff ?_ | refine Br.dec (fun h => ?_) (fun h => ?_) | refine Br.not ?_ | refine Br.intro (fun h => ?_) (fun h => ?_) | refine GetE.intro _ rfl ?_ | refine Need.intro rfl ?_ | refine DrawP.go mixed rfl ?_)
        conv => whnf
        exact ⟨(i + 1, out2), ⟨hi', pr, hpr, hout2⟩, by simp only []; omega, Weak.by ⟨rfl, rfl, rfl, rfl, rfl, rfl, congrArg I hwi, trivial⟩⟩
    · have hie : i = p.clubs.length := by simp only [List.length_map] at h; omega
      subst hie
      rw [List.drop_length, prs, List.append_nil] at hpre
      refine FinP.data (L' := []) (.d (.rowL (ds := out.map Mt.cells) (Nat.zero_le _) rfl ?_ (by simp) (mtsE _))) rfl rfl ⟨rfl, ?_⟩
      · rw [List.drop_zero, List.take_of_length_le (by rw [mR_len]; exact Nat.le_refl _)]; exact mR_rows out
      · rw [hR, hpre, ← hout]; rfl
  · have his' : (nxR l p).2.2 = false := by simpa using his
    have hR : rchs l p = [] := by unfold rchs; rw [if_neg his]
    refine LoopP.inv (fun _ : Unit => True) (fun _ => ⟨[(2, .ptr 0 0), (3, .ptr 1 0), (5, .own 2 0 0 0), (8, B (nxR l p).2.2), (9, I 0)], Try.f32.ntmps, chM l p [], [], none⟩) (fun _ => 0) () trivial ?_ ?_
    · exact Weak.by ⟨rfl, rfl, rfl, rfl, rfl, trivial⟩
    rintro _ -
    repeat' (conv => whnf
             first | refine Br.no his' ?_ | refine Br.tt ?_ | refine Br.ff ?_ | refine Br.dec (fun h => ?_) (fun h => ?_) | refine Br.not ?_ | refine Br.intro (fun h => ?_) (fun h => ?_) | refine GetE.intro _ rfl ?_ | refine Need.intro rfl ?_ | refine DrawP.go mixed rfl ?_)
    all_goals conv => whnf
    all_goals
      refine FinP.data (L' := []) (.d (.rowL (ds := []) (Nat.zero_le _) rfl .nil rfl (fun e he => by cases he))) rfl rfl ⟨rfl, ?_⟩
      rw [hR]; rfl
def rchE (l : Lst) (p : Pl) : List Mt := if rdmE l p = 0 then rchs l p else []
theorem rChoices_c (l : Lst) (p : Pl) (hs : Small l p) (hl : l.length ≤ 1073741823) (hF : l.flatten.length ≤ 1073741823) (h : k (.tup [.d (mts (rchE l p)), I (rdmE l p)]) L) : CallP C 14 [lisV l, plV p] L k := by
  have hD := hs.hD
  refine CallP.pure ?_ rfl (fun _ => rfl) h
  clear h
  refine callP_of C_ok Try.func14 rfl rfl (n := _) rfl (Nat.le_of_ble_eq_true rfl) (rs := _) rfl ?_
  by_cases h0 : checkP p = 0
  · have hp := checkP_field h0
    by_cases hP : PartR l p
    · have hE : rdmE l p = 0 := by unfold rdmE; rw [if_pos h0, if_pos hP]
      repeat' (conv => whnf
               first | refine rcheck_c p hs.hc hs.hd (by omega) ?_ | refine Br.not ?_ | refine Br.yes (decide_eq_true h0) ?_ | refine rpartial_c l p hp hs.hl hs.hr (by omega) ?_ | refine Br.yes (decide_eq_true hP) ?_ | refine rchoices_c l p hp hl hF ?_ | refine Br.tt ?_ | refine Br.ff ?_ | refine Br.dec (fun h => ?_) (fun h => ?_) | refine Br.not ?_ | refine Br.intro (fun h => ?_) (fun h => ?_) | refine GetE.intro _ rfl ?_ | refine Need.intro rfl ?_ | refine DrawP.go mixed rfl ?_)
      conv => whnf
      refine FinP.data (L' := []) (.pair (.d (.d _)) (.d (.d _))) rfl rfl ⟨rfl, ?_⟩
      unfold rchE; rw [if_pos hE, hE]
    · have hE : rdmE l p = 300 := by unfold rdmE; rw [if_pos h0, if_neg hP]
      repeat' (conv => whnf
               first | refine rcheck_c p hs.hc hs.hd (by omega) ?_ | refine Br.not ?_ | refine Br.yes (decide_eq_true h0) ?_ | refine rpartial_c l p hp hs.hl hs.hr (by omega) ?_ | refine Br.no (decide_eq_false hP) ?_ | refine Br.tt ?_ | refine Br.ff ?_ | refine Br.dec (fun h => ?_) (fun h => ?_) | refine Br.not ?_ | refine Br.intro (fun h => ?_) (fun h => ?_) | refine GetE.intro _ rfl ?_ | refine Need.intro rfl ?_ | refine DrawP.go mixed rfl ?_)
      conv => whnf
      refine FinP.data (L' := []) (.pair (.d .nil) (.d (.d _))) rfl rfl ⟨rfl, ?_⟩
      unfold rchE; rw [if_neg (by rw [hE]; decide), hE]; rfl
  · have hE : rdmE l p = checkP p := by unfold rdmE; rw [if_neg h0]
    repeat' (conv => whnf
             first | refine rcheck_c p hs.hc hs.hd (by omega) ?_ | refine Br.not ?_ | refine Br.no (decide_eq_false h0) ?_ | refine Br.tt ?_ | refine Br.ff ?_ | refine Br.dec (fun h => ?_) (fun h => ?_) | refine Br.not ?_ | refine Br.intro (fun h => ?_) (fun h => ?_) | refine GetE.intro _ rfl ?_ | refine Need.intro rfl ?_ | refine DrawP.go mixed rfl ?_)
    conv => whnf
    refine FinP.data (L' := []) (.pair (.d .nil) (.d (.d _))) rfl rfl ⟨rfl, ?_⟩
    unfold rchE; rw [if_neg (by rw [hE]; exact h0), hE]; rfl
end Go.Proofs.Ytjknhbfcdjjbhaa
