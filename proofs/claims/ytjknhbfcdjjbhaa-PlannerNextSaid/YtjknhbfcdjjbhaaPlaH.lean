/-
  planner: the search; what is done with the lists that it finds.
-/
import Derived.Test.YtjknhbfcdjjbhaaPlaG
namespace Go.Proofs.Ytjknhbfcdjjbhaa
open Go.Tidy
set_option maxRecDepth 100000
set_option maxHeartbeats 0
set_option linter.unusedSimpArgs false
set_option linter.unusedVariables false
variable {L : List Blk} {k : V → List Blk → Prop}
def fuelN (p : Pl) : Nat := roundsN p * halfN p + 1
def Sr.out (U : List Lst → List Blk) (k : V → List Blk → Prop) : Sr → Prop
  | .go sp fs => k (.tup [I sp, I 0]) (U fs)
  | .stop e sp fs => k (.tup [I sp, I e]) (U fs)
theorem part_nil (p : Pl) : PartP [] p := ⟨Nat.zero_le _, fun i hi => absurd hi (Nat.not_lt_zero i)⟩
theorem full_nil (p : Pl) : fullC [] p = false := by unfold fullC; simp
theorem DefP.cnv {C' : Ctx} {f : FuncId} {caps caps' : List V} {X : Option V} {L : List Blk} {k : List Blk → Prop} (h : caps = caps') (hd : DefP C' f caps' X L k) : DefP C' f caps X L k := by subst h; exact hd
theorem search_c (p : Pl) (bud : Nat) (all : Bool) (fd : FuncId) (caps : List V) (N : Nat) (U : List Lst → List Blk) (hH : Hand N U fd caps all) (h0 : checkP p = 0) (hs0 : Small [] p) (hbud : bud ≤ 1073741824) (h : (examP p bud all (fuelN p) [] 0 []).out U k) :
    CallP C 34 [.d (.rptr (planD p)), I bud, .fn fd caps] (U []) k := by
  have hS := hH.len
  have a0 : ∀ fs X, (U fs ++ X).length = N + X.length := fun fs X => pre_len _ _ (hS fs)
  have a1 : ∀ fs X i, (U fs ++ X)[N + i]? = X[i]? := fun fs X i => pre_get _ _ (hS fs) i
  have a2 : ∀ fs X, (U fs ++ X)[N]? = X[0]? := fun fs X => pre_get0 _ _ (hS fs)
  have a3 : ∀ fs X i y, (U fs ++ X).set (N + i) y = U fs ++ X.set i y := fun fs X i y => pre_set _ _ (hS fs) i y
  have a4 : ∀ fs X y, (U fs ++ X).set N y = U fs ++ X.set 0 y := fun fs X y => pre_set0 _ _ (hS fs) y
  have kA : ∀ L, killAll [] L = L := fun _ => rfl
  refine callP_defer C_ok (fun _ => false) (N + 5) (fun X L1 => ∃ e sp fs, examP p bud all (fuelN p) [] 0 [] = .stop e sp fs ∧ X = .d (enoughD e) ∧ L1 = U fs ++ pre5 p bud fd caps sp) Try.func34 rfl rfl (n := _) rfl (Nat.le_of_ble_eq_true rfl) (rs := _) rfl ?_
  repeat' (conv => whnf
           first | refine Br.tt ?_ | refine Br.ff ?_ | refine Br.dec (fun h => ?_) (fun h => ?_) | refine Br.not ?_ | refine Br.intro (fun h => ?_) (fun h => ?_) | refine GetE.intro _ rfl ?_ | refine Need.intro rfl ?_ | refine DrawP.go mixed rfl ?_ | simp only [hS, a0, a1, a2, a3, a4, List.append_assoc, forceL_eq])
  conv => whnf
  refine DefR.intro (by rw [a0]; exact Nat.le_refl _) (Nat.le_add_right N 5) ?_ ?_ ?_ ?_
  · show (V.bel (N + 5) (.ptr (N + 3) 0) && (V.bel (N + 5) (.ptr (N + 4) 0) && true)) = true
    simp [V.bel]
  · simp [V.belL, V.bel]
  · rintro X L1 ⟨e, sp, fs, hst, rfl, rfl⟩
    refine DefP.cnv (caps' := [.ptr (N + 4) 0]) rfl ?_
    refine search1_p (U fs) (hS fs) _ _ _ _ e 0 (belB_append (belB_le (Nat.le_add_right N 5) (hH.bel fs)) (by have := pre5_bel (p := p) (bud := bud) (fd := fd) (sp := sp) hH.cap (Nat.le_add_right N 5); simp [pre5, belB, Blk.bel, V.belL, V.bel] at this ⊢; exact this)) ?_
    repeat' (conv => whnf
             first | refine Br.tt ?_ | refine Br.ff ?_ | refine Br.dec (fun h => ?_) (fun h => ?_) | refine Br.not ?_ | refine Br.intro (fun h => ?_) (fun h => ?_) | refine GetE.intro _ rfl ?_ | refine Need.intro rfl ?_ | refine DrawP.go mixed rfl ?_ | simp only [hS, kA, a0, a1, a2, a3, a4, List.append_assoc, forceL_eq])
    conv => whnf
    rw [hst] at h
    exact FinP.drop (n := N) (L' := U fs) (List.take_left' (hS fs)) (Nat.le_refl _) rfl (hH.bel fs) h
  · repeat' (conv => whnf
             first | refine Br.tt ?_ | refine Br.ff ?_ | refine Br.dec (fun h => ?_) (fun h => ?_) | refine Br.not ?_ | refine Br.intro (fun h => ?_) (fun h => ?_) | refine GetE.intro _ rfl ?_ | refine Need.intro rfl ?_ | refine DrawP.go mixed rfl ?_ | refine Need.intro (Nat.add_le_add_left (Nat.le_of_ble_eq_true rfl) N) ?_ | simp only [hS, a0, a1, a2, a3, a4, List.append_assoc, forceL_eq])
    conv => whnf
    refine CallP.cnv (args' := .agg [.nil] :: capE N) (L' := U [] ++ pre6 p bud fd caps N 0) rfl rfl ?_
    refine CallP.freezeP (args := .agg [.nil] :: capE N) (dargs := lisV [] :: capE N) [] rfl rfl (.cv (.aggL (.cons .nil .nil)) (.keep (.keep (.keep (.keep (.keep .nil)))))) ?_
    refine (examine_c p bud all fd caps N U hH h0 hs0 hbud (N + 5) _ rfl (fuelN p) [] 0 [] (part_nil p) (by unfold fuelN; simp) (Nat.zero_le _) (fun hf => by rw [full_nil] at hf; cases hf) (Nat.zero_le _) (fun e sp' fs' he => ⟨e, sp', fs', he, rfl, rfl⟩)).mono ?_
    rintro X L' ⟨rfl, sp', fs', hgo, rfl⟩
    rw [hgo] at h
    repeat' (conv => whnf
             first | refine Br.tt ?_ | refine Br.ff ?_ | refine Br.dec (fun h => ?_) (fun h => ?_) | refine Br.not ?_ | refine Br.intro (fun h => ?_) (fun h => ?_) | refine GetE.intro _ rfl ?_ | refine Need.intro rfl ?_ | refine DrawP.go mixed rfl ?_ | refine Need.intro (Nat.add_le_add_left (Nat.le_of_ble_eq_true rfl) N) ?_ | simp only [hS, a0, a1, a2, a3, a4, List.append_assoc, forceL_eq])
    conv => whnf
    refine DefP.cnv (caps' := [.ptr (N + 4) 0]) rfl ?_
    refine search1_n (U fs') _ (hS fs') ?_ ?_
    · rw [a0]
      have hp := pre6_bel (p := p) (bud := bud) (fd := fd) (N := N) (sp := sp') (n := N + 6) hH.cap (Nat.le_refl _)
      exact belB_append (belB_le (Nat.le_add_right N 6) (hH.bel fs')) hp
    repeat' (conv => whnf
             first | refine Br.tt ?_ | refine Br.ff ?_ | refine Br.dec (fun h => ?_) (fun h => ?_) | refine Br.not ?_ | refine Br.intro (fun h => ?_) (fun h => ?_) | refine GetE.intro _ rfl ?_ | refine Need.intro rfl ?_ | refine DrawP.go mixed rfl ?_ | simp only [hS, kA, a0, a1, a2, a3, a4, List.append_assoc, forceL_eq])
    conv => whnf
    exact FinP.drop (n := N) (L' := U fs') (List.take_left' (hS fs')) (Nat.le_refl _) rfl (hH.bel fs') h
theorem enough_endL {N pn : Nat} {M S Y P5 : List Blk} {e : Int} {pan : V → List Blk → Prop} (hM : M = S ++ Y) (hS : S.length = N) (hpn : pn = N + 5) (hY : Y.take 5 = P5) (h5 : 5 ≤ Y.length) (hb : belB (N + 5) (S ++ P5) = true) (hd : (S ++ P5).all notD = true) (h : pan (.d (enoughD e)) (S ++ P5)) :
    Need (pn ≤ M.length ∧ belB pn (M.take pn) = true ∧ noDefr pn M = true) (pan (.d (enoughD e)) (M.take pn)) := by
  subst hM
  have := enough_end hS hpn hY h5 hb hd h
  rw [← hS, ← List.length_append] at this
  exact this
def planU (p : Pl) (fs : List Lst) : List Blk := [.cells (p.cells.map .d), .cells [match fs.getLast? with | some l => .d (.sl (l.map fun r => [mts r])) | none => .nil], .cells [B fs.getLast?.isSome]]
theorem plan_hand (p : Pl) : Hand 3 (planU p) 35 [.ptr 1 0, .ptr 2 0] false where
  len _ := rfl
  bel fs := by unfold planU; cases fs.getLast? <;> rfl
  nol fs := by unfold planU; cases fs.getLast? <;> rfl
  nod fs := by unfold planU; cases fs.getLast? <;> rfl
  cap := rfl
  found := by
    intro pn pan X fs l k hpnE hX hXb hX5 hXd hfs _ hpan
    have hpan := hpan rfl
    have hpn : (C.wp pn pan).pn ≤ (planU p fs ++ X).length := by rw [List.length_append]; show pn ≤ 3 + _; omega
    have hU : planU p (fs ++ [l]) = [.cells (p.cells.map .d), .cells [.d (lisD l)], .cells [B true]] := by unfold planU; simp [lisD]
    rw [hU] at hpan
    cases hg : fs.getLast? with
    | _ =>
      have hU0 : planU p fs = planU p fs := rfl
      conv at hU0 => rhs; unfold planU; rw [hg]
      rw [hU0] at hpn ⊢
      refine callP_of (C := C.wp pn pan) (C_ok.wp pn pan) Try.func35 rfl rfl (n := _) rfl (Nat.le_of_ble_eq_true rfl) (rs := _) rfl ?_ hpn
      repeat' (conv => whnf
               first | refine Br.tt ?_ | refine Br.ff ?_ | refine Br.dec (fun h => ?_) (fun h => ?_) | refine Br.not ?_ | refine Br.intro (fun h => ?_) (fun h => ?_) | refine GetE.intro _ rfl ?_ | refine Need.intro rfl ?_ | refine DrawP.go mixed rfl ?_ | simp only [List.getElem?_concat_length])
      conv => whnf
      refine enough_endL (S := [.cells (p.cells.map .d), .cells [.d (lisD l)], .cells [B true]]) (Y := X ++ [.cells [.d (lisD l)]]) rfl rfl hpnE (List.take_append_of_le_length hX) (by rw [List.length_append]; omega) (belB_append rfl hX5) (by rw [List.all_append, hXd]; rfl) hpan
def countU (p : Pl) (fs : List Lst) : List Blk := [.cells (p.cells.map .d), .cells [I fs.length]]
theorem count_hand (p : Pl) : Hand 2 (countU p) 38 [.ptr 1 0] true where
  len _ := rfl
  bel fs := rfl
  nol fs := rfl
  nod fs := rfl
  cap := rfl
  found := by
    intro pn pan X fs l k hpnE hX hXb hX5 hXd hfs hk _
    have hk := hk rfl
    have hpn : (C.wp pn pan).pn ≤ (countU p fs ++ X).length := by rw [List.length_append]; show pn ≤ 2 + _; omega
    have hw : IntKind.i64.wrap ((fs.length : Int) + 1) = ((fs ++ [l]).length : Int) := by rw [wrap_in (by omega), List.length_append]; rfl
    refine callP_of (C := C.wp pn pan) (C_ok.wp pn pan) Try.func38 rfl rfl (n := _) rfl (Nat.le_of_ble_eq_true rfl) (rs := _) rfl ?_ hpn
    repeat' (conv => whnf
             first | refine Br.tt ?_ | refine Br.ff ?_ | refine Br.dec (fun h => ?_) (fun h => ?_) | refine Br.not ?_ | refine Br.intro (fun h => ?_) (fun h => ?_) | refine GetE.intro _ rfl ?_ | refine Need.intro rfl ?_ | refine DrawP.go mixed rfl ?_ | simp only [List.getElem?_concat_length])
    conv => whnf
    refine FinP.drop (n := (countU p fs ++ X).length) (L' := countU p (fs ++ [l]) ++ X) ?_ (Nat.le_refl _) rfl ?_ hk
    · refine Eq.trans (congrArg (List.take (countU p fs ++ X).length) (show _ = (countU p (fs ++ [l]) ++ X) ++ [Blk.cells [.d (lisD l)]] from congrArg (fun z : Int => [Blk.cells (p.cells.map .d), .cells [I z]] ++ X ++ [Blk.cells [.d (lisD l)]]) hw)) ?_
      exact List.take_left' (by rw [List.length_append, List.length_append]; rfl)
    · rw [List.length_append]; exact belB_append rfl hXb
def argE (p : Pl) (most : Int) : Int := if checkP p = 0 then (if most < 0 ∨ 1073741824 < most then 1 else 0) else checkP p
theorem pcheck_c (p : Pl) (most : Int) (hl : p.clubs.length ≤ 4611686018427387904) (hd : ∀ d ∈ p.demands, d.clubs.length ≤ 4611686018427387904) (hD : p.demands.length ≤ 4611686018427387904) (h : k (I (argE p most)) L) : CallP C 33 [plV p, I most] L k := by
  refine CallP.pure ?_ rfl (fun _ => rfl) h
  clear h
  refine callP_of C_ok Try.func33 rfl rfl (n := _) rfl (Nat.le_of_ble_eq_true rfl) (rs := _) rfl ?_
  by_cases h0 : checkP p = 0
  · repeat' (conv => whnf
             first | refine Br.tt ?_ | refine Br.ff ?_ | refine Br.dec (fun h => ?_) (fun h => ?_) | refine Br.not ?_ | refine Br.intro (fun h => ?_) (fun h => ?_) | refine GetE.intro _ rfl ?_ | refine Need.intro rfl ?_ | refine DrawP.go mixed rfl ?_ | refine check_c p hl hd hD ?_)
    all_goals first | exact absurd h0 ‹¬ checkP p = 0› | skip
    all_goals conv => whnf
    all_goals refine FinP.drop (n := 0) rfl (Nat.le_refl 0) rfl rfl ⟨rfl, congrArg I ?_⟩
    all_goals
      unfold argE
      rw [if_pos h0]
      first
      | (rw [if_pos (by omega)]; done)
      | (rw [if_neg (by omega)]; done)
  · repeat' (conv => whnf
             first | refine Br.tt ?_ | refine Br.ff ?_ | refine Br.dec (fun h => ?_) (fun h => ?_) | refine Br.not ?_ | refine Br.intro (fun h => ?_) (fun h => ?_) | refine GetE.intro _ rfl ?_ | refine Need.intro rfl ?_ | refine DrawP.go mixed rfl ?_ | refine check_c p hl hd hD ?_)
    all_goals first | exact absurd ‹checkP p = 0› h0 | skip
    conv => whnf
    exact FinP.drop (n := 0) rfl (Nat.le_refl 0) rfl rfl ⟨rfl, congrArg I (if_neg h0).symm⟩
structure PlanR where
  l : Lst
  sp : Nat
  e : Int
def Sr.sp : Sr → Nat
  | .go sp _ => sp
  | .stop _ sp _ => sp
def Sr.fs : Sr → List Lst
  | .go _ fs => fs
  | .stop _ _ fs => fs
def Sr.e : Sr → Int
  | .go _ _ => 0
  | .stop e _ _ => e
theorem Sr.out_of {U : List Lst → List Blk} {k : V → List Blk → Prop} (o : Sr) (h : k (.tup [I o.sp, I o.e]) (U o.fs)) : o.out U k := by cases o <;> exact h
def runP (p : Pl) (most : Int) (all : Bool) : Sr := examP p most.toNat all (fuelN p) [] 0 []
def planF (p : Pl) (most : Int) : PlanR := if argE p most = 0 then (match (runP p most false).fs.getLast? with
    | some l => ⟨l, (runP p most false).sp, 0⟩
    | none => ⟨[], 0, if (runP p most false).e = 0 then 320 else (runP p most false).e⟩) else ⟨[], 0, argE p most⟩
def countN (p : Pl) (most : Int) : Int := if argE p most = 0 ∧ (runP p most true).e = 0 then (runP p most true).fs.length else 0
def countE (p : Pl) (most : Int) : Int := if argE p most = 0 then (runP p most true).e else argE p most
theorem argE_zero {p : Pl} {most : Int} (h : argE p most = 0) : checkP p = 0 ∧ 0 ≤ most ∧ most ≤ 1073741824 := by
  unfold argE at h
  split at h
  · split at h
    · cases h
    · exact ⟨‹_›, by omega, by omega⟩
  · exact absurd h ‹_›
theorem plan_c (p : Pl) (most : Int) (hs0 : Small [] p) (h : k (.tup [lisV (planF p most).l, I (planF p most).sp, I (planF p most).e]) L) : CallP C 16 [plV p, I most] L k := by
  have hD := hs0.hD
  refine CallP.pure ?_ rfl (fun _ => rfl) h
  clear h
  refine callP_of C_ok Try.func16 rfl rfl (n := _) rfl (Nat.le_of_ble_eq_true rfl) (rs := _) rfl ?_
  by_cases hA : argE p most = 0
  · obtain ⟨h0, hm1, hm2⟩ := argE_zero hA
    have hlen : 1 ≤ p.clubs.length ∧ p.clubs.length ≤ 1000 := by
      have hf := checkP_field h0
      simp only [fieldOk, Bool.and_eq_true, decide_eq_true_eq] at hf; omega
    obtain ⟨bud, hbud⟩ : ∃ bud : Nat, most = (bud : Int) := ⟨most.toNat, by omega⟩
    subst hbud
    repeat' (conv => whnf
             first | refine pcheck_c p bud hs0.hc hs0.hd (by omega) ?_ | refine Br.not ?_ | refine Br.yes (decide_eq_true hA) ?_ | refine newPlan_c p hlen ?_ | refine Br.tt ?_ | refine Br.ff ?_ | refine Br.dec (fun h => ?_) (fun h => ?_) | refine Br.not ?_ | refine Br.intro (fun h => ?_) (fun h => ?_) | refine GetE.intro _ rfl ?_ | refine Need.intro rfl ?_ | refine DrawP.go mixed rfl ?_)
    conv => whnf
    refine CallP.cnv (args' := [.d (.rptr (planD p)), I bud, .fn 35 [.ptr 1 0, .ptr 2 0]]) (L' := planU p []) rfl rfl ?_
    refine search_c p bud false _ _ 3 (planU p) (plan_hand p) h0 hs0 (by omega) ?_
    refine Sr.out_of (runP p bud false) ?_
    unfold planF
    rw [if_pos hA]
    generalize runP p bud false = o
    cases hg : o.fs.getLast? with
    | some l =>
      have hU : planU p o.fs = [.cells (p.cells.map .d), .cells [.d (lisD l)], .cells [B true]] := by unfold planU; rw [hg]; rfl
      generalize planU p o.fs = M at hU ⊢
      subst hU
      repeat' (conv => whnf
               first | refine Br.tt ?_ | refine Br.ff ?_ | refine Br.dec (fun h => ?_) (fun h => ?_) | refine Br.not ?_ | refine Br.intro (fun h => ?_) (fun h => ?_) | refine GetE.intro _ rfl ?_ | refine Need.intro rfl ?_ | refine DrawP.go mixed rfl ?_)
      conv => whnf
      exact FinP.data (L' := []) (.triple (.aggL (.cons (.d _) .nil)) (.d (.d _)) (.d (.d _))) rfl rfl ⟨rfl, rfl⟩
    | none =>
      have hU : planU p o.fs = [.cells (p.cells.map .d), .cells [.nil], .cells [B false]] := by unfold planU; rw [hg]; rfl
      generalize planU p o.fs = M at hU ⊢
      subst hU
      repeat' (conv => whnf
               first | refine Br.tt ?_ | refine Br.ff ?_ | refine Br.dec (fun h => ?_) (fun h => ?_) | refine Br.not ?_ | refine Br.intro (fun h => ?_) (fun h => ?_) | refine GetE.intro _ rfl ?_ | refine Need.intro rfl ?_ | refine DrawP.go mixed rfl ?_)
      all_goals conv => whnf
      all_goals
        refine FinP.data (L' := []) (.triple (.aggL (.cons .nil .nil)) (.d (.d _)) (.d (.d _))) rfl rfl ⟨rfl, ?_⟩
        show V.tup [lisV [], I 0, I _] = V.tup [lisV [], I 0, I (if o.e = 0 then 320 else o.e)]
        first
        | rw [if_pos ‹_›]
        | rw [if_neg ‹_›]
  · repeat' (conv => whnf
             first | refine pcheck_c p most hs0.hc hs0.hd (by omega) ?_ | refine Br.not ?_ | refine Br.no (decide_eq_false hA) ?_ | refine Br.tt ?_ | refine Br.ff ?_ | refine Br.dec (fun h => ?_) (fun h => ?_) | refine Br.not ?_ | refine Br.intro (fun h => ?_) (fun h => ?_) | refine GetE.intro _ rfl ?_ | refine Need.intro rfl ?_ | refine DrawP.go mixed rfl ?_)
    conv => whnf
    refine FinP.data (L' := []) (.triple (.aggL (.cons .nil .nil)) (.d (.d _)) (.d (.d _))) rfl rfl ⟨rfl, ?_⟩
    unfold planF; rw [if_neg hA]; rfl
theorem count_c (p : Pl) (most : Int) (hs0 : Small [] p) (h : k (.tup [I (countN p most), I (countE p most)]) L) : CallP C 18 [plV p, I most] L k := by
  have hD := hs0.hD
  refine CallP.pure ?_ rfl (fun _ => rfl) h
  clear h
  refine callP_of C_ok Try.func18 rfl rfl (n := _) rfl (Nat.le_of_ble_eq_true rfl) (rs := _) rfl ?_
  by_cases hA : argE p most = 0
  · obtain ⟨h0, hm1, hm2⟩ := argE_zero hA
    have hlen : 1 ≤ p.clubs.length ∧ p.clubs.length ≤ 1000 := by
      have hf := checkP_field h0
      simp only [fieldOk, Bool.and_eq_true, decide_eq_true_eq] at hf; omega
    obtain ⟨bud, hbud⟩ : ∃ bud : Nat, most = (bud : Int) := ⟨most.toNat, by omega⟩
    subst hbud
    repeat' (conv => whnf
             first | refine pcheck_c p bud hs0.hc hs0.hd (by omega) ?_ | refine Br.not ?_ | refine Br.yes (decide_eq_true hA) ?_ | refine newPlan_c p hlen ?_ | refine Br.tt ?_ | refine Br.ff ?_ | refine Br.dec (fun h => ?_) (fun h => ?_) | refine Br.not ?_ | refine Br.intro (fun h => ?_) (fun h => ?_) | refine GetE.intro _ rfl ?_ | refine Need.intro rfl ?_ | refine DrawP.go mixed rfl ?_)
    conv => whnf
    refine CallP.cnv (args' := [.d (.rptr (planD p)), I bud, .fn 38 [.ptr 1 0]]) (L' := countU p []) rfl rfl ?_
    refine search_c p bud true _ _ 2 (countU p) (count_hand p) h0 hs0 (by omega) ?_
    refine Sr.out_of (runP p bud true) ?_
    unfold countN countE
    rw [if_pos hA]
    generalize runP p bud true = o
    repeat' (conv => whnf
             first | refine Br.tt ?_ | refine Br.ff ?_ | refine Br.dec (fun h => ?_) (fun h => ?_) | refine Br.not ?_ | refine Br.intro (fun h => ?_) (fun h => ?_) | refine GetE.intro _ rfl ?_ | refine Need.intro rfl ?_ | refine DrawP.go mixed rfl ?_)
    all_goals conv => whnf
    all_goals
      refine FinP.drop (n := 0) rfl (Nat.le_refl 0) rfl rfl ⟨rfl, ?_⟩
      first
      | (have he : o.e = 0 := ‹_›
         rw [if_pos ⟨hA, he⟩, he]; rfl)
      | (have he : ¬ o.e = 0 := ‹_›
         rw [if_neg (fun hh => he hh.2)]; rfl)
  · repeat' (conv => whnf
             first | refine pcheck_c p most hs0.hc hs0.hd (by omega) ?_ | refine Br.not ?_ | refine Br.no (decide_eq_false hA) ?_ | refine Br.tt ?_ | refine Br.ff ?_ | refine Br.dec (fun h => ?_) (fun h => ?_) | refine Br.not ?_ | refine Br.intro (fun h => ?_) (fun h => ?_) | refine GetE.intro _ rfl ?_ | refine Need.intro rfl ?_ | refine DrawP.go mixed rfl ?_)
    conv => whnf
    refine FinP.drop (n := 0) rfl (Nat.le_refl 0) rfl rfl ⟨rfl, ?_⟩
    unfold countN countE
    rw [if_neg hA, if_neg (fun hh => hA hh.1)]; rfl
end Go.Proofs.Ytjknhbfcdjjbhaa
