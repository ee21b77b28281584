/-
  typing: the reference's Holds.
-/
import Derived.Test.YtddolfgmkpfmcaaDoorTypQ
import Derived.Test.YtddolfgmkpfmcaaDoorTypR
import Derived.Test.YtddolfgmkpfmcaaDoorTypS
namespace Go.Proofs.YtddolfgmkpfmcaaDoor
open Go.Tidy
set_option maxRecDepth 100000
set_option maxHeartbeats 0
set_option linter.unusedSimpArgs false
set_option linter.unusedVariables false
variable {L : List Blk} {k : V → List Blk → Prop}
theorem rcond_ok {c : Co} (h : rcondF c = 0) : vCo c = true := by
  unfold rcondF at h
  split at h
  · omega
  · split at h
    · assumption
    · omega
def rholdsB (c : Co) (x : En) : Bool := decide (rcondF c = 0) && decide (envE x = 0) && hoF x c
def rholdsE (c : Co) (x : En) : Int := if rcondF c ≠ 0 then rcondF c else envE x
theorem rHolds_c (c : Co) (x : En) (hc : LCo c) (h : k (.tup [B (rholdsB c x), I (rholdsE c x)]) L) : CallP C 29 [.agg (c.cells.map .d), enV x] L k := by
  have h1 : ∀ {L : List Blk} {k : V → List Blk → Prop}, k (I (rcondF c)) L → CallP C 18 [.agg (c.cells.map .d)] L k := fun h => rcond_c c hc h
  have h2 : rcondF c = 0 → ∀ (L : List Blk) (k : V → List Blk → Prop), k (B (hoF x c)) L → CallP C 52 [.agg (c.cells.map .d), enV x] L k := fun h0 L k h => rholds_c x c (rcond_ok h0) hc h
  have e1 : rcondF c = 0 → envE x = 0 → V.tup [B (rholdsB c x), I (rholdsE c x)] = V.tup [B (hoF x c), I 0] := fun h h' => by
    unfold rholdsB rholdsE; rw [if_neg (fun hn => hn h), h, h']; rfl
  have e2 : rcondF c = 0 → envE x ≠ 0 → V.tup [B (rholdsB c x), I (rholdsE c x)] = V.tup [B false, I (envE x)] := fun h h' => by
    unfold rholdsB rholdsE; rw [if_neg (fun hn => hn h), decide_eq_false h', Bool.and_false]; rfl
  have e3 : rcondF c ≠ 0 → V.tup [B (rholdsB c x), I (rholdsE c x)] = V.tup [B false, I (rcondF c)] := fun h => by
    unfold rholdsB rholdsE; rw [if_pos h, decide_eq_false h]; rfl
  generalize rholdsB c x = bb at *
  generalize rholdsE c x = ee at *
  rw [Co.cells_eq] at h1 h2 ⊢
  generalize rcondF c = q at *
  refine CallP.pure ?_ rfl (fun _ => rfl) h
  clear h
  refine callP_of C_ok Tryd.func29 rfl rfl (n := _) rfl (Nat.le_of_ble_eq_true rfl) (rs := _) rfl ?_
  by_cases c1 : q = 0
  rotate_left
  · repeat' (conv => whnf
             first | refine Br.no (decide_eq_false c1) ?_ | refine Br.tt ?_ | refine Br.ff ?_ | refine Br.dec (fun h => ?_) (fun h => ?_) | refine Br.not ?_ | refine Br.intro (fun h => ?_) (fun h => ?_) | refine GetE.intro _ rfl ?_ | refine Need.intro rfl ?_ | refine DrawP.go mixed rfl ?_ | refine h1 ?_)
    conv => whnf
    exact FinP.drop (n := 0) rfl (Nat.le_refl 0) rfl rfl ⟨rfl, Eq.trans (b := V.tup [B false, I q]) rfl (e3 c1).symm⟩
  by_cases c2 : envE x = 0
  rotate_left
  · repeat' (conv => whnf
             first | refine Br.yes (decide_eq_true c1) ?_ | refine Br.no (decide_eq_false c2) ?_ | refine Br.tt ?_ | refine Br.ff ?_ | refine Br.dec (fun h => ?_) (fun h => ?_) | refine Br.not ?_ | refine Br.intro (fun h => ?_) (fun h => ?_) | refine GetE.intro _ rfl ?_ | refine Need.intro rfl ?_ | refine DrawP.go mixed rfl ?_ | refine h1 ?_ | refine refenv_c x ?_)
    conv => whnf
    exact FinP.drop (n := 0) rfl (Nat.le_refl 0) rfl rfl ⟨rfl, Eq.trans (b := V.tup [B false, I (envE x)]) rfl (e2 c1 c2).symm⟩
  have h3 := h2 c1
  repeat' (conv => whnf
           first | refine Br.yes (decide_eq_true c1) ?_ | refine Br.yes (decide_eq_true c2) ?_ | refine Br.tt ?_ | refine Br.ff ?_ | refine Br.dec (fun h => ?_) (fun h => ?_) | refine Br.not ?_ | refine Br.intro (fun h => ?_) (fun h => ?_) | refine GetE.intro _ rfl ?_ | refine Need.intro rfl ?_ | refine DrawP.go mixed rfl ?_ | refine h1 ?_ | refine refenv_c x ?_ | refine h3 _ _ ?_)
  conv => whnf
  exact FinP.drop (n := 0) rfl (Nat.le_refl 0) rfl rfl ⟨rfl, Eq.trans (b := V.tup [B (hoF x c), I 0]) rfl (e1 c1 c2).symm⟩
end Go.Proofs.YtddolfgmkpfmcaaDoor
