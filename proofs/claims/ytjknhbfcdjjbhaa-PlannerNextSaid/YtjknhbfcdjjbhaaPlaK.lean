/-
  planner's reference: Plan, Count; equality and size of arguments.
-/
import Derived.Test.YtjknhbfcdjjbhaaPlaJ
namespace Go.Proofs.Ytjknhbfcdjjbhaa
open Go.Tidy
set_option maxRecDepth 100000
set_option maxHeartbeats 0
set_option linter.unusedSimpArgs false
set_option linter.unusedVariables false
variable {L : List Blk} {k : V → List Blk → Prop}
theorem rarg_c (p : Pl) (most : Int) (hl : p.clubs.length ≤ 4611686018427387904) (hd : ∀ d ∈ p.demands, d.clubs.length ≤ 4611686018427387904) (hD : p.demands.length ≤ 4611686018427387904) (h : k (I (argE p most)) L) : CallP C 36 [plV p, I most] L k := by
  refine CallP.pure ?_ rfl (fun _ => rfl) h
  clear h
  refine callP_of C_ok Try.func36 rfl rfl (n := _) rfl (Nat.le_of_ble_eq_true rfl) (rs := _) rfl ?_
  by_cases h0 : checkP p = 0
  · repeat' (conv => whnf
             first | refine Br.tt ?_ | refine Br.ff ?_ | refine Br.dec (fun h => ?_) (fun h => ?_) | refine Br.not ?_ | refine Br.intro (fun h => ?_) (fun h => ?_) | refine GetE.intro _ rfl ?_ | refine Need.intro rfl ?_ | refine DrawP.go mixed rfl ?_ | refine rcheck_c p hl hd hD ?_)
    all_goals first | exact absurd h0 ‹¬ checkP p = 0› | skip
    all_goals conv => whnf
    all_goals refine FinP.drop (n := 0) rfl (Nat.le_refl 0) rfl rfl ⟨rfl, congrArg I ?_⟩
    all_goals
      unfold argE
      rw [if_pos h0]
      first
      | (rw [if_pos (by omega)]; done)
      | (rw [if_neg (by omega)]; first | exact h0 | rfl)
  · repeat' (conv => whnf
             first | refine Br.tt ?_ | refine Br.ff ?_ | refine Br.dec (fun h => ?_) (fun h => ?_) | refine Br.not ?_ | refine Br.intro (fun h => ?_) (fun h => ?_) | refine GetE.intro _ rfl ?_ | refine Need.intro rfl ?_ | refine DrawP.go mixed rfl ?_ | refine rcheck_c p hl hd hD ?_)
    all_goals first | exact absurd ‹checkP p = 0› h0 | skip
    conv => whnf
    exact FinP.drop (n := 0) rfl (Nat.le_refl 0) rfl rfl ⟨rfl, congrArg I (if_neg h0).symm⟩
theorem scS_rn (ρ : Nat → Nat) (p : Pl) (bud : Nat) (all : Bool) (o : Sr) : (Blk.cells (scS p bud all o)).rn ρ = .cells (scS p bud all o) := by
  unfold scS fstV; cases o.fs.head? <;> rfl
def runR (p : Pl) (most : Int) (all : Bool) : Sr := examR p most.toNat all (fuelN p) [] 0 []
def rplanF (p : Pl) (most : Int) : PlanR := if argE p most = 0 then (match (runR p most false).fs.head? with
    | some l => ⟨l, (runR p most false).sp, 0⟩
    | none => ⟨[], 0, if (runR p most false).e = 3 then 3 else 320⟩) else ⟨[], 0, argE p most⟩
def rcountN (p : Pl) (most : Int) : Int := if argE p most = 0 ∧ (runR p most true).e ≠ 3 then (runR p most true).fs.length else 0
def rcountE (p : Pl) (most : Int) : Int := if argE p most = 0 then (if (runR p most true).e = 3 then 3 else 0) else argE p most
theorem part_nilR {p : Pl} (hp : fieldOk p.clubs 2 = true) : PartR [] p := (PartP_iff [] p hp).1 (part_nil p)
theorem rplan_c (p : Pl) (most : Int) (hs0 : Small [] p) (h : k (.tup [lisV (rplanF p most).l, I (rplanF p most).sp, I (rplanF p most).e]) L) : CallP C 17 [plV p, I most] L k := by
  have hD := hs0.hD
  refine CallP.pure ?_ rfl (fun _ => rfl) h
  clear h
  refine callP_of C_ok Try.func17 rfl rfl (n := _) rfl (Nat.le_of_ble_eq_true rfl) (rs := _) rfl ?_
  by_cases hA : argE p most = 0
  · obtain ⟨h0, hm1, hm2⟩ := argE_zero hA
    have hp := checkP_field h0
    obtain ⟨bud, hbud⟩ : ∃ bud : Nat, most = (bud : Int) := ⟨most.toNat, by omega⟩
    subst hbud
    repeat' (conv => whnf
             first | refine rarg_c p bud hs0.hc hs0.hd (by omega) ?_ | refine Br.not ?_ | refine Br.yes (decide_eq_true hA) ?_ | refine Br.tt ?_ | refine Br.ff ?_ | refine Br.dec (fun h => ?_) (fun h => ?_) | refine Br.not ?_ | refine Br.intro (fun h => ?_) (fun h => ?_) | refine GetE.intro _ rfl ?_ | refine Need.intro rfl ?_ | refine DrawP.go mixed rfl ?_)
    conv => whnf
    refine CallP.freezeP (args := [.ptr 2 0, .agg [.nil]]) (dargs := [.ptr 2 0, lisV []]) [] rfl rfl (.keep (.cv (.aggL (.cons .nil .nil)) .nil)) ?_
    refine CallP.at1 (b := 2) ((rexamine_c p bud false h0 hs0 (by omega) (fuelN p) [] 0 [] (part_nilR hp) (by unfold fuelN; simp) (Nat.zero_le _) (fun hf => by rw [full_nil] at hf; cases hf) (Nat.zero_le _) (fun _ => rfl)).mono fun X L' h => ⟨h.2, h.1⟩) rfl rfl rfl rfl ?_ rfl rfl rfl
    unfold rplanF
    rw [if_pos hA, scS_rn]
    have hok : okS false (runR p bud false) := exam_okS _ _ p bud false (fuelN p) [] 0 [] (fun _ => rfl)
    generalize ho : examR p bud false (fuelN p) [] 0 [] = o
    have ho2 : runR p bud false = o := ho
    rw [ho2] at hok ⊢
    cases hg : o.fs with
    | nil =>
      have e1 : scS p bud false o = [.d (ints p.clubs), B p.double, .d (.sl (p.demands.map Dm.cells)), I bud, B false, I o.sp, I 0, .nil, B (decide (o.e = 3))] := by unfold scS fstV; rw [hg]; rfl
      generalize scS p bud false o = z at e1 ⊢
      subst e1
      repeat' (conv => whnf
               first | refine Br.no (show decide ((0 : Int) < 0) = false from rfl) ?_ | refine Br.tt ?_ | refine Br.ff ?_ | refine Br.dec (fun h => ?_) (fun h => ?_) | refine Br.not ?_ | refine Br.intro (fun h => ?_) (fun h => ?_) | refine GetE.intro _ rfl ?_ | refine Need.intro rfl ?_ | refine DrawP.go mixed rfl ?_)
      all_goals conv => whnf
      all_goals refine FinP.data (L' := []) (.triple (.aggL (.cons .nil .nil)) (.d (.d _)) (.d (.d _))) rfl rfl ⟨rfl, ?_⟩
      · show _ = V.tup [lisV [], I 0, I (if o.e = 3 then 3 else 320)]
        rw [if_pos ‹_›]; rfl
      · show _ = V.tup [lisV [], I 0, I (if o.e = 3 then 3 else 320)]
        rw [if_neg ‹_›]; rfl
    | cons l r =>
      have e1 : scS p bud false o = [.d (ints p.clubs), B p.double, .d (.sl (p.demands.map Dm.cells)), I bud, B false, I o.sp, I ((l :: r).length : Nat), .d (lisD l), B (decide (o.e = 3))] := by unfold scS fstV; rw [hg]; rfl
      generalize scS p bud false o = z at e1 ⊢
      subst e1
      repeat' (conv => whnf
               first | refine Br.yes (decide_eq_true (show (0 : Int) < ((l :: r).length : Int) by simp)) ?_ | refine Br.tt ?_ | refine Br.ff ?_ | refine Br.dec (fun h => ?_) (fun h => ?_) | refine Br.not ?_ | refine Br.intro (fun h => ?_) (fun h => ?_) | refine GetE.intro _ rfl ?_ | refine Need.intro rfl ?_ | refine DrawP.go mixed rfl ?_)
      conv => whnf
      refine DrawP.por mixed [3, 7] [[(0, 0), (1, 0), (2, 0), (4, 0), (5, 0), (6, 0), (3, 2), (7, 2), (8, 0), (9, 0), (10, 0)], [(0, 0), (1, 0), (2, 0), (4, 0), (5, 0), (6, 0), (3, 2), (8, 0), (7, 2), (9, 0), (10, 0)], [(0, 0), (1, 0), (2, 0), (4, 0), (5, 0), (6, 0), (7, 2), (3, 2), (8, 0), (9, 0), (10, 0)]] (by kernel_rfl) ?_
      conv => whnf
      refine And.intro ?_ ?_
      rotate_left 1
      conv => whnf
      refine And.intro ?_ ?_
      all_goals
        repeat' (conv => whnf
                 first | refine Br.tt ?_ | refine Br.ff ?_ | refine Br.dec (fun h => ?_) (fun h => ?_) | refine Br.not ?_ | refine Br.intro (fun h => ?_) (fun h => ?_) | refine GetE.intro _ rfl ?_ | refine Need.intro rfl ?_ | refine DrawP.go mixed rfl ?_ | refine QCallW.intro (I o.sp) _ ⟨rfl, rfl⟩ ?_ | refine QCallW.intro (.agg [.d (lisD l)]) _ ⟨rfl, rfl⟩ ?_)
        conv => whnf
        exact FinP.data (L' := []) (.triple (.aggL (.cons (.d _) .nil)) (.d (.d _)) (.d (.d _))) rfl rfl ⟨rfl, rfl⟩
  · repeat' (conv => whnf
             first | refine rarg_c p most hs0.hc hs0.hd (by omega) ?_ | refine Br.not ?_ | refine Br.no (decide_eq_false hA) ?_ | refine Br.tt ?_ | refine Br.ff ?_ | refine Br.dec (fun h => ?_) (fun h => ?_) | refine Br.not ?_ | refine Br.intro (fun h => ?_) (fun h => ?_) | refine GetE.intro _ rfl ?_ | refine Need.intro rfl ?_ | refine DrawP.go mixed rfl ?_)
    conv => whnf
    refine FinP.data (L' := []) (.triple (.aggL (.cons .nil .nil)) (.d (.d _)) (.d (.d _))) rfl rfl ⟨rfl, ?_⟩
    unfold rplanF; rw [if_neg hA]; rfl
theorem rcount_c (p : Pl) (most : Int) (hs0 : Small [] p) (h : k (.tup [I (rcountN p most), I (rcountE p most)]) L) : CallP C 19 [plV p, I most] L k := by
  have hD := hs0.hD
  refine CallP.pure ?_ rfl (fun _ => rfl) h
  clear h
  refine callP_of C_ok Try.func19 rfl rfl (n := _) rfl (Nat.le_of_ble_eq_true rfl) (rs := _) rfl ?_
  by_cases hA : argE p most = 0
  · obtain ⟨h0, hm1, hm2⟩ := argE_zero hA
    have hp := checkP_field h0
    obtain ⟨bud, hbud⟩ : ∃ bud : Nat, most = (bud : Int) := ⟨most.toNat, by omega⟩
    subst hbud
    repeat' (conv => whnf
             first | refine rarg_c p bud hs0.hc hs0.hd (by omega) ?_ | refine Br.not ?_ | refine Br.yes (decide_eq_true hA) ?_ | refine Br.tt ?_ | refine Br.ff ?_ | refine Br.dec (fun h => ?_) (fun h => ?_) | refine Br.not ?_ | refine Br.intro (fun h => ?_) (fun h => ?_) | refine GetE.intro _ rfl ?_ | refine Need.intro rfl ?_ | refine DrawP.go mixed rfl ?_)
    conv => whnf
    refine CallP.freezeP (args := [.ptr 1 0, .agg [.nil]]) (dargs := [.ptr 1 0, lisV []]) [] rfl rfl (.keep (.cv (.aggL (.cons .nil .nil)) .nil)) ?_
    refine CallP.at1 (b := 1) ((rexamine_c p bud true h0 hs0 (by omega) (fuelN p) [] 0 [] (part_nilR hp) (by unfold fuelN; simp) (Nat.zero_le _) (fun hf => by rw [full_nil] at hf; cases hf) (Nat.zero_le _) (fun h => by cases h)).mono fun X L' h => ⟨h.2, h.1⟩) rfl rfl rfl rfl ?_ rfl rfl rfl
    unfold rcountN rcountE
    rw [if_pos hA, scS_rn]
    generalize ho : examR p bud true (fuelN p) [] 0 [] = o
    have ho2 : runR p bud true = o := ho
    rw [ho2]
    generalize e1 : scS p bud true o = z
    have e1 : z = [.d (ints p.clubs), B p.double, .d (.sl (p.demands.map Dm.cells)), I bud, B true, I o.sp, I o.fs.length, fstV o.fs, B (decide (o.e = 3))] := e1.symm
    subst e1
    repeat' (conv => whnf
             first | refine Br.tt ?_ | refine Br.ff ?_ | refine Br.dec (fun h => ?_) (fun h => ?_) | refine Br.not ?_ | refine Br.intro (fun h => ?_) (fun h => ?_) | refine GetE.intro _ rfl ?_ | refine Need.intro rfl ?_ | refine DrawP.go mixed rfl ?_)
    all_goals conv => whnf
    all_goals
      refine FinP.drop (n := 0) rfl (Nat.le_refl 0) rfl rfl ⟨rfl, ?_⟩
      first
      | (have he : o.e = 3 := ‹_›
         rw [if_neg (fun hh => hh.2 he), if_pos he]; rfl)
      | (have he : ¬ o.e = 3 := ‹_›
         rw [if_pos ⟨hA, he⟩, if_neg he]; rfl)
  · repeat' (conv => whnf
             first | refine rarg_c p most hs0.hc hs0.hd (by omega) ?_ | refine Br.not ?_ | refine Br.no (decide_eq_false hA) ?_ | refine Br.tt ?_ | refine Br.ff ?_ | refine Br.dec (fun h => ?_) (fun h => ?_) | refine Br.not ?_ | refine Br.intro (fun h => ?_) (fun h => ?_) | refine GetE.intro _ rfl ?_ | refine Need.intro rfl ?_ | refine DrawP.go mixed rfl ?_)
    conv => whnf
    refine FinP.drop (n := 0) rfl (Nat.le_refl 0) rfl rfl ⟨rfl, ?_⟩
    unfold rcountN rcountE
    rw [if_neg hA, if_neg (fun hh => hA hh.1)]; rfl
end Go.Proofs.Ytjknhbfcdjjbhaa
