/-
  demands: Broken and Doomed.
-/
import Derived.Test.YtjknhbfcdjjbhaaDemL
namespace Go.Proofs.Ytjknhbfcdjjbhaa
open Go.Tidy
set_option maxRecDepth 100000
set_option maxHeartbeats 0
set_option linter.unusedSimpArgs false
set_option linter.unusedVariables false
variable {L : List Blk} {k : V → List Blk → Prop}
theorem checkP_field {p : Pl} (h : checkP p = 0) : fieldOk p.clubs 2 = true := by
  unfold checkP at h
  cases hf : fieldOk p.clubs 2 with
  | true => rfl
  | false => rw [hf] at h; cases h
theorem checkP_valid {p : Pl} (h : checkP p = 0) : ∀ d ∈ p.demands, validF p d = true := by
  unfold checkP at h
  rw [if_pos (show fieldOk p.clubs 2 = true from checkP_field h)] at h
  split at h
  · cases ha : p.demands.all (validF p) with
    | true => exact List.all_eq_true.1 ha
    | false => rw [ha] at h; cases h
  · cases h
theorem valid_kind {p : Pl} {d : Dm} (h : validF p d = true) : 1 ≤ d.kind ∧ d.kind ≤ 10 := by
  unfold validF at h
  repeat' (split at h)
  all_goals first | (cases h; done) | omega
theorem doomGo_len (R : List Rnd) : ∀ (ds : List Dm) (i : Nat), (doomGo R ds i).length ≤ ds.length
  | [], _ => Nat.le_refl _
  | d :: ds, i => by
    unfold doomGo
    have := doomGo_len R ds (i + 1)
    split
    · simp only [List.length_cons]; omega
    · simp only [List.length_cons]; omega
theorem doomL_len (R : List Rnd) (p : Pl) : (doomL R p).length ≤ p.demands.length := by unfold doomL; rw [List.length_map]; exact doomGo_len R _ 0
def pR (l : List (List Mt)) (p : Pl) : List Rnd := l.map (pRnd p)
def FullP (l : List (List Mt)) (p : Pl) : Prop := PartP l p ∧ l.length = roundsN p ∧ ∀ r, l.getLast? = some r → halfN p ≤ r.length
instance (l : List (List Mt)) (p : Pl) : Decidable (FullP l p) := by
  unfold FullP
  cases l.getLast? with
  | none => exact decidable_of_iff (PartP l p ∧ l.length = roundsN p) (by simp)
  | some r => exact decidable_of_iff (PartP l p ∧ l.length = roundsN p ∧ halfN p ≤ r.length) (by simp)
def brkE (l : List (List Mt)) (p : Pl) : Int := if checkP p = 0 then (if FullP l p then 0 else 300) else checkP p
def brkL (l : List (List Mt)) (p : Pl) : List Int := if checkP p = 0 ∧ FullP l p then doomL (pR l p) p else []
abbrev brkV (l : List (List Mt)) (p : Pl) : V := .tup [.d (ints (brkL l p)), I (brkE l p)]
structure Small (l : List (List Mt)) (p : Pl) : Prop where
  hl : l.length ≤ 1073741824
  hr : ∀ r ∈ l, r.length ≤ 4611686018427387904
  hc : p.clubs.length ≤ 4611686018427387904
  hd : ∀ d ∈ p.demands, d.clubs.length ≤ 4611686018427387904
  hD : p.demands.length ≤ 4294967296
theorem partial_t (l : List (List Mt)) (p : Pl) (hp : fieldOk p.clubs 2 = true) (hs : Small l p) (hP : PartP l p) (h : k (.tup [.d (rndsD (pR l p)), B true]) L) : CallP C 43 [lisV l, plV p] L k := by
  refine partial_c l p hp hs.hl hs.hr ?_
  unfold pX; rw [if_pos hP, decide_eq_true hP]; exact h
theorem partial_f (l : List (List Mt)) (p : Pl) (hp : fieldOk p.clubs 2 = true) (hs : Small l p) (hP : ¬ PartP l p) (h : k (.tup [.d (rndsD []), B false]) L) : CallP C 43 [lisV l, plV p] L k := by
  refine partial_c l p hp hs.hl hs.hr ?_
  unfold pX; rw [if_neg hP, decide_eq_false hP]; exact h
theorem pRnd_l {p : Pl} {r : List Mt} (h : r.length ≤ 4611686018427387904) : (pRnd p r).l = r := by unfold pRnd; rw [dif_pos h]
theorem doomedIt (l : List (List Mt)) (p : Pl) (hs : Small l p) (h0 : checkP p = 0) : IterP C 94 [.rptr p.cells, .rptr [rndsD (pR l p)]] ((doomL (pR l p) p).map fun i => [I i]) :=
  doomed1_it (pR l p) p (by unfold pR; rw [List.length_map]; exact hs.hl) (by have := hs.hD; omega) hs.hd fun d hd => valid_kind (checkP_valid h0 d hd)
theorem brk_c (l : List (List Mt)) (p : Pl) (hs : Small l p) (h : k (brkV l p) L) : CallP C 24 [lisV l, plV p] L k := by
  have hD := hs.hD
  refine CallP.pure ?_ rfl (fun _ => rfl) h
  clear h
  refine callP_of C_ok Try.func24 rfl rfl (n := _) rfl (Nat.le_of_ble_eq_true rfl) (rs := _) rfl ?_
  by_cases h0 : checkP p = 0
  · have hf := checkP_field h0
    have hlen : 1 ≤ p.clubs.length ∧ p.clubs.length ≤ 1000 := by simp only [fieldOk, Bool.and_eq_true, decide_eq_true_eq] at hf; omega
    have hr1 : 1 ≤ roundsN p := by unfold roundsN; split <;> omega
    have hno : ¬ FullP l p → brkV l p = .tup [.d (.sl []), I 300] := fun h => by
      unfold brkV brkL brkE; rw [if_pos h0, if_neg h, if_neg (fun hh => h hh.2)]; rfl
    have hyes : FullP l p → brkV l p = .tup [.d (ints (doomL (pR l p) p)), I 0] := fun h => by
      unfold brkV brkL brkE; rw [if_pos h0, if_pos h, if_pos ⟨h0, h⟩]
    by_cases hP : PartP l p
    · have hlR : (pR l p).length = l.length := List.length_map ..
      by_cases hl2 : l.length < roundsN p
      · have hn := hno fun hF => by have := hF.2.1; omega
        have hq : ((List.map Rnd.cells (pR l p)).length : Int) < (roundsN p : Int) := by rw [List.length_map, hlR]; omega
        repeat' (conv => whnf
                 first | refine Br.yes (decide_eq_true h0) ?_ | refine Br.yes (decide_eq_true hq) ?_ | refine check_c p hs.hc hs.hd (by omega) ?_ | refine partial_t l p hf hs hP ?_ | refine QCall.intro _ (rounds_c p hlen ⟨rfl, rfl⟩) ?_ | refine Br.tt ?_ | refine Br.ff ?_ | refine Br.dec (fun h => ?_) (fun h => ?_) | refine Br.not ?_ | refine Br.intro (fun h => ?_) (fun h => ?_) | refine GetE.intro _ rfl ?_ | refine Need.intro rfl ?_ | refine DrawP.go mixed rfl ?_)
        all_goals conv => whnf
        exact FinP.data (L' := []) (.pair (.d .nil) (.d (.d _))) rfl rfl ⟨rfl, hn.symm⟩
      · have hq : ¬ ((List.map Rnd.cells (pR l p)).length : Int) < (roundsN p : Int) := by rw [List.length_map, hlR]; omega
        have hle := hP.1
        have hlt : l.length - 1 < (pR l p).length := by rw [hlR]; omega
        have hla : l[l.length - 1]'(by omega) ∈ l := List.getElem_mem _
        have hll : ((pR l p)[l.length - 1]'hlt).l = l[l.length - 1]'(by omega) := by
          have e : (pR l p)[l.length - 1]'hlt = pRnd p (l[l.length - 1]'(by omega)) := List.getElem_map ..
          rw [e]; exact pRnd_l (hs.hr _ hla)
        have hl4 := hs.hl
        have hgl : l.getLast? = some (l[l.length - 1]'(by omega)) := by rw [List.getLast?_eq_getElem?, List.getElem?_eq_getElem (by omega)]
        have hhe := half_e p hlen.2
        have hhe' : ((p.clubs.map fun c => [DI c]).length : Int).tdiv 2 = (halfN p : Int) := by rw [List.length_map]; exact (Int.ofNat_tdiv _ _).symm
        repeat' (conv => whnf
                 first | refine Br.yes (decide_eq_true h0) ?_ | refine Br.no (decide_eq_false hq) ?_ | refine Need.intro (show (2 : Int) ≠ 0 by decide) ?_ | refine check_c p hs.hc hs.hd (by omega) ?_ | refine partial_t l p hf hs hP ?_ | refine QCall.intro _ (rounds_c p hlen ⟨rfl, rfl⟩) ?_ | refine Idx.map (l.length - 1) (by rw [List.length_map, hlR, wrap_in] <;> omega) hlt ?_ | refine Br.tt ?_ | refine Br.ff ?_ | refine Br.dec (fun h => ?_) (fun h => ?_) | refine Br.not ?_ | refine Br.intro (fun h => ?_) (fun h => ?_) | refine GetE.intro _ rfl ?_ | refine Need.intro rfl ?_ | refine DrawP.go mixed rfl ?_)
        all_goals conv => whnf
        · have hn := hno fun hF => by
            have := hF.2.2 _ hgl
            rw [hhe, List.length_map, hll] at h; omega
          exact FinP.data (L' := []) (.pair (.d .nil) (.d (.d _))) rfl rfl ⟨rfl, hn.symm⟩
        · have hF : FullP l p := ⟨hP, by omega, fun r hr => by
            rw [hgl] at hr; cases hr
            rw [hhe, List.length_map, hll] at h; omega⟩
          have hy := hyes hF
          have hdl := doomL_len (pR l p) p
          repeat' (conv => whnf
                   first | refine doomed_c (pR l p) p ?_ | refine QCall.intro _ (doomed_c (pR l p) p ⟨rfl, rfl⟩) ?_ | refine collect_c _ _ _ (by omega) (doomedIt l p hs h0) ?_ | refine Br.tt ?_ | refine Br.ff ?_ | refine Br.dec (fun h => ?_) (fun h => ?_) | refine Br.not ?_ | refine Br.intro (fun h => ?_) (fun h => ?_) | refine GetE.intro _ rfl ?_ | refine Need.intro rfl ?_ | refine DrawP.go mixed rfl ?_)
          conv => whnf
          exact FinP.data (L' := []) (.pair (.d (.d _)) (.d (.d _))) rfl rfl ⟨rfl, hy.symm⟩
    · have hn := hno fun h => hP h.1
      repeat' (conv => whnf
               first | refine Br.yes (decide_eq_true h0) ?_ | refine check_c p hs.hc hs.hd (by omega) ?_ | refine partial_f l p hf hs hP ?_ | refine Br.tt ?_ | refine Br.ff ?_ | refine Br.dec (fun h => ?_) (fun h => ?_) | refine Br.not ?_ | refine Br.intro (fun h => ?_) (fun h => ?_) | refine GetE.intro _ rfl ?_ | refine Need.intro rfl ?_ | refine DrawP.go mixed rfl ?_)
      conv => whnf
      exact FinP.data (L' := []) (.pair (.d .nil) (.d (.d _))) rfl rfl ⟨rfl, hn.symm⟩
  · repeat' (conv => whnf
             first | refine Br.no (decide_eq_false h0) ?_ | refine check_c p hs.hc hs.hd (by omega) ?_ | refine Br.tt ?_ | refine Br.ff ?_ | refine Br.dec (fun h => ?_) (fun h => ?_) | refine Br.not ?_ | refine Br.intro (fun h => ?_) (fun h => ?_) | refine GetE.intro _ rfl ?_ | refine Need.intro rfl ?_ | refine DrawP.go mixed rfl ?_)
    conv => whnf
    refine FinP.data (L' := []) (.pair (.d .nil) (.d (.d _))) rfl rfl ⟨rfl, ?_⟩
    unfold brkV brkL brkE; rw [if_neg h0, if_neg (fun hh => h0 hh.1)]; rfl
def dmE (l : List (List Mt)) (p : Pl) : Int := if checkP p = 0 then (if PartP l p then 0 else 300) else checkP p
def dmA (l : List (List Mt)) (p : Pl) : Int := if checkP p = 0 ∧ PartP l p then (doomL (pR l p) p).headD (-1) else 0
abbrev dmdV (l : List (List Mt)) (p : Pl) : V := .tup [I (dmA l p), I (dmE l p)]
def dmM (l : List (List Mt)) (p : Pl) (a e : Int) (blk : Blk) : List Blk := [.cells [.d (lisD l)], .cells (p.cells.map .d), .cells [I a], .cells [I e], .defr, blk]
theorem dmM_bel {n : Nat} {l : List (List Mt)} {p : Pl} {a e : Int} {blk : Blk} (hb : blk.bel n = true) : belB n (dmM l p a e blk) = true := by
  show (true && (V.belL n (p.cells.map .d) && (true && (true && (true && (blk.bel n && true)))))) = true
  rw [hb, V.belL_d]; rfl
theorem headD_get : ∀ {l : List Int} (h : 0 < l.length) (d : Int), l.headD d = l[0]
  | _ :: _, _, _ => rfl
theorem dmd_c (l : List (List Mt)) (p : Pl) (hs : Small l p) (h : k (dmdV l p) L) : CallP C 26 [lisV l, plV p] L k := by
  have hD := hs.hD
  refine CallP.pure ?_ rfl (fun _ => rfl) h
  clear h
  refine callP_of C_ok Try.func26 rfl rfl (n := _) rfl (Nat.le_of_ble_eq_true rfl) (rs := _) rfl ?_
  by_cases h0 : checkP p = 0
  · have hf := checkP_field h0
    have hlen : 1 ≤ p.clubs.length ∧ p.clubs.length ≤ 1000 := by simp only [fieldOk, Bool.and_eq_true, decide_eq_true_eq] at hf; omega
    by_cases hP : PartP l p
    · have hy : dmdV l p = .tup [I ((doomL (pR l p) p).headD (-1)), I 0] := by unfold dmdV dmA dmE; rw [if_pos h0, if_pos hP, if_pos ⟨h0, hP⟩]
      repeat' (conv => whnf
               first | refine Br.yes (decide_eq_true h0) ?_ | refine check_c p hs.hc hs.hd (by omega) ?_ | refine partial_t l p hf hs hP ?_ | refine doomed_c (pR l p) p ?_ | refine QCall.intro _ (doomed_c (pR l p) p ⟨rfl, rfl⟩) ?_ | refine Br.tt ?_ | refine Br.ff ?_ | refine Br.dec (fun h => ?_) (fun h => ?_) | refine Br.not ?_ | refine Br.intro (fun h => ?_) (fun h => ?_) | refine GetE.intro _ rfl ?_ | refine Need.intro rfl ?_ | refine DrawP.go mixed rfl ?_)
      conv => whnf
      refine CallP.conv (args' := .yld 5 :: [D.rptr p.cells, .rptr [rndsD (pR l p)]].map .d) (L' := dmM l p 0 (checkP p) (.loop _)) rfl rfl ?_
      generalize hblk : Blk.loop _ = blk
      have hb6 : blk.bel 6 = true := by rw [← hblk]; rfl
      refine doomedIt l p hs h0 5 6 (fun i => i = 0) (fun i => dmM l p 0 (checkP p) blk) _ (fun _ => rfl) (fun _ => dmM_bel hb6) (fun _ => by subst hblk; rfl) (by decide) ?_ ?_ rfl
      · rintro i hi rfl
        rw [List.length_map] at hi
        rw [List.getElem_map]
        have hhd : (doomL (pR l p) p).headD (-1) = (doomL (pR l p) p)[0] := headD_get hi _
        rw [hhd] at hy
        subst hblk
        refine YieldP.round C_ok (fun _ => false) ?_
        repeat' (conv => whnf
                 first | refine Br.tt ?_ | refine Br.ff ?_ | refine Br.dec (fun h => ?_) (fun h => ?_) | refine Br.not ?_ | refine Br.intro (fun h => ?_) (fun h => ?_) | refine GetE.intro _ rfl ?_ | refine Need.intro rfl ?_ | refine DrawP.go mixed rfl ?_)
        conv => whnf
        refine FinP.drop (n := 6) (L' := dmM l p (doomL (pR l p) p)[0] 0 _) rfl (Nat.le_refl 6) rfl (dmM_bel rfl) (.inr ⟨rfl, rfl, dmM_bel rfl, ?_⟩)
        repeat' (conv => whnf
                 first | refine Br.tt ?_ | refine Br.ff ?_ | refine Br.dec (fun h => ?_) (fun h => ?_) | refine Br.not ?_ | refine Br.intro (fun h => ?_) (fun h => ?_) | refine GetE.intro _ rfl ?_ | refine Need.intro rfl ?_ | refine DrawP.go mixed rfl ?_)
        conv => whnf
        exact FinP.data (L' := []) (.pair (.d (.d _)) (.d (.d _))) rfl rfl ⟨rfl, hy.symm⟩
      · intro hz
        have hnil : doomL (pR l p) p = [] := List.eq_nil_of_length_eq_zero (by rw [List.length_map] at hz; exact hz)
        rw [hnil] at hy
        subst hblk
        repeat' (conv => whnf
                 first | refine Br.tt ?_ | refine Br.ff ?_ | refine Br.dec (fun h => ?_) (fun h => ?_) | refine Br.not ?_ | refine Br.intro (fun h => ?_) (fun h => ?_) | refine GetE.intro _ rfl ?_ | refine Need.intro rfl ?_ | refine DrawP.go mixed rfl ?_)
        conv => whnf
        exact FinP.data (L' := []) (.pair (.d (.d _)) (.d (.d _))) rfl rfl ⟨rfl, hy.symm⟩
    · have hn : dmdV l p = .tup [I 0, I 300] := by unfold dmdV dmA dmE; rw [if_pos h0, if_neg hP, if_neg (fun hh => hP hh.2)]
      repeat' (conv => whnf
               first | refine Br.yes (decide_eq_true h0) ?_ | refine check_c p hs.hc hs.hd (by omega) ?_ | refine partial_f l p hf hs hP ?_ | refine Br.tt ?_ | refine Br.ff ?_ | refine Br.dec (fun h => ?_) (fun h => ?_) | refine Br.not ?_ | refine Br.intro (fun h => ?_) (fun h => ?_) | refine GetE.intro _ rfl ?_ | refine Need.intro rfl ?_ | refine DrawP.go mixed rfl ?_)
      conv => whnf
      exact FinP.data (L' := []) (.pair (.d (.d _)) (.d (.d _))) rfl rfl ⟨rfl, hn.symm⟩
  · repeat' (conv => whnf
             first | refine Br.no (decide_eq_false h0) ?_ | refine check_c p hs.hc hs.hd (by omega) ?_ | refine Br.tt ?_ | refine Br.ff ?_ | refine Br.dec (fun h => ?_) (fun h => ?_) | refine Br.not ?_ | refine Br.intro (fun h => ?_) (fun h => ?_) | refine GetE.intro _ rfl ?_ | refine Need.intro rfl ?_ | refine DrawP.go mixed rfl ?_)
    conv => whnf
    refine DrawP.por mixed [0] [[(0, 2), (1, 0), (2, 0)], [(1, 0), (0, 2), (2, 0)]] (by kernel_rfl) ?_
    conv => whnf
    refine And.intro ?_ ?_
    all_goals
      repeat' (conv => whnf
               first | refine Br.tt ?_ | refine Br.ff ?_ | refine Br.dec (fun h => ?_) (fun h => ?_) | refine Br.not ?_ | refine Br.intro (fun h => ?_) (fun h => ?_) | refine GetE.intro _ rfl ?_ | refine Need.intro rfl ?_ | refine DrawP.go mixed rfl ?_ | refine QCallW.intro (I (checkP p)) _ ⟨rfl, rfl⟩ ?_)
    all_goals conv => whnf
    all_goals refine FinP.data (L' := []) (.pair (.d (.d _)) (.d (.d _))) rfl rfl ⟨rfl, ?_⟩
    all_goals (unfold dmdV dmA dmE; rw [if_neg h0, if_neg (fun hh => h0 hh.1)])
end Go.Proofs.Ytjknhbfcdjjbhaa
