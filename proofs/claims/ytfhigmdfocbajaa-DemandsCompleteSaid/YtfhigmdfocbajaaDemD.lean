/-
  demands: the kinds of demands.
-/
import Derived.Test.YtfhigmdfocbajaaDemC
namespace Go.Proofs.Ytfhigmdfocbajaa
open Go.Tidy
set_option maxRecDepth 100000
set_option maxHeartbeats 0
set_option linter.unusedSimpArgs false
set_option linter.unusedVariables false
variable {L : List Blk} {k : V → List Blk → Prop}
def allD (clr : FuncId) (fs : List D) : D := .fn 87 [.rptr [.sl (fs.map fun f => [f])], .rptr [.fn clr []]]
def doesD (n : Int) : D := .fn 89 [.rptr [DI n]]
def withinD (a b : Int) : D := .fn 88 [.rptr [DI a], .rptr [DI b]]
def one : D := allD 45 [.fn 46 [], .fn 47 []]
def two : D := allD 48 [.fn 46 [], .fn 49 [], .fn 47 []]
def count : D := allD 50 [.fn 46 [], withinD 0 46]
def kindsMap : List (V × V) := [(I 1, .agg [.d one, .d (doesD 1)]), (I 2, .agg [.d one, .d (doesD (-1))]), (I 3, .agg [.d one, .d (doesD 0)]),
  (I 4, .agg [.d two, .fn 53 []]), (I 5, .agg [.d two, .fn 57 []]),
  (I 6, .agg [.d (allD 58 [.fn 59 []]), .fn 60 []]), (I 7, .agg [.d (allD 62 [.fn 59 [], withinD 0 24]), .fn 63 []]),
  (I 8, .agg [.d (allD 64 [.fn 46 [], .fn 49 [], withinD 1 46]), .fn 65 []]), (I 9, .agg [.d count, .fn 66 []]), (I 10, .agg [.d count, .fn 67 []])]
theorem kinds_c : CallP C 28 [] [] fun X L => L = [.map kindsMap] ∧ X = .map 0 := by
  refine callP_of C_ok Try.func28 rfl rfl (n := _) rfl (Nat.le_of_ble_eq_true rfl) (rs := _) rfl ?_
  repeat' (conv => whnf
           first | refine Br.tt ?_ | refine Br.ff ?_ | refine Br.dec (fun h => ?_) (fun h => ?_) | refine Br.not ?_ | refine Br.intro (fun h => ?_) (fun h => ?_) | refine GetE.intro _ rfl ?_ | refine Need.intro rfl ?_ | refine DrawP.go mixed rfl ?_)
  conv => whnf
  refine CallP.freeze [0] rfl rfl (.cv (.d (.fnL .nil)) (.cv (.d (.rowL (.head _) rfl (.cons (.cons (.fnL .nil) .nil) (.cons (.cons (.fnL .nil) .nil) .nil)) rfl (by simp))) .nil)) (all_c _ _ ?_)
  repeat' (conv => whnf
           first | refine Br.tt ?_ | refine Br.ff ?_ | refine Br.dec (fun h => ?_) (fun h => ?_) | refine Br.not ?_ | refine Br.intro (fun h => ?_) (fun h => ?_) | refine GetE.intro _ rfl ?_ | refine Need.intro rfl ?_ | refine DrawP.go mixed rfl ?_)
  conv => whnf
  refine CallP.freeze [1] rfl rfl (.cv (.d (.fnL .nil)) (.cv (.d (.rowL (.head _) rfl (.cons (.cons (.fnL .nil) .nil) (.cons (.cons (.fnL .nil) .nil) (.cons (.cons (.fnL .nil) .nil) .nil))) rfl (by simp))) .nil)) (all_c _ _ ?_)
  repeat' (conv => whnf
           first | refine Br.tt ?_ | refine Br.ff ?_ | refine Br.dec (fun h => ?_) (fun h => ?_) | refine Br.not ?_ | refine Br.intro (fun h => ?_) (fun h => ?_) | refine GetE.intro _ rfl ?_ | refine Need.intro rfl ?_ | refine DrawP.go mixed rfl ?_ | refine within_c _ _ ?_ | refine QCall.intro _ (within_c _ _ ⟨rfl, rfl⟩) ?_)
  conv => whnf
  refine CallP.freeze [2] rfl rfl (.cv (.d (.fnL .nil)) (.cv (.d (.rowL (.head _) rfl (.cons (.cons (.fnL .nil) .nil) (.cons (.cons (.d _) .nil) .nil)) rfl (by simp))) .nil)) (all_c _ _ ?_)
  repeat' (conv => whnf
           first | refine Br.tt ?_ | refine Br.ff ?_ | refine Br.dec (fun h => ?_) (fun h => ?_) | refine Br.not ?_ | refine Br.intro (fun h => ?_) (fun h => ?_) | refine GetE.intro _ rfl ?_ | refine Need.intro rfl ?_ | refine DrawP.go mixed rfl ?_ | refine within_c _ _ ?_ | refine does_c _ ?_ | refine MapF.miss (by simp [keyV, keyTK]) (by simp) ?_)
  conv => whnf
  refine CallP.freeze [4] rfl rfl (.cv (.d (.fnL .nil)) (.cv (.d (.rowL (.head _) rfl (.cons (.cons (.fnL .nil) .nil) .nil) rfl (by simp))) .nil)) (all_c _ _ ?_)
  repeat' (conv => whnf
           first | refine Br.tt ?_ | refine Br.ff ?_ | refine Br.dec (fun h => ?_) (fun h => ?_) | refine Br.not ?_ | refine Br.intro (fun h => ?_) (fun h => ?_) | refine GetE.intro _ rfl ?_ | refine Need.intro rfl ?_ | refine DrawP.go mixed rfl ?_ | refine within_c _ _ ?_ | refine does_c _ ?_ | refine MapF.miss (by simp [keyV, keyTK]) (by simp) ?_)
  conv => whnf
  refine CallP.freeze [5] rfl rfl (.cv (.d (.fnL .nil)) (.cv (.d (.rowL (.head _) rfl (.cons (.cons (.fnL .nil) .nil) (.cons (.cons (.d _) .nil) .nil)) rfl (by simp))) .nil)) (all_c _ _ ?_)
  repeat' (conv => whnf
           first | refine Br.tt ?_ | refine Br.ff ?_ | refine Br.dec (fun h => ?_) (fun h => ?_) | refine Br.not ?_ | refine Br.intro (fun h => ?_) (fun h => ?_) | refine GetE.intro _ rfl ?_ | refine Need.intro rfl ?_ | refine DrawP.go mixed rfl ?_ | refine within_c _ _ ?_ | refine does_c _ ?_ | refine MapF.miss (by simp [keyV, keyTK]) (by simp) ?_)
  conv => whnf
  refine CallP.freeze [6] rfl rfl (.cv (.d (.fnL .nil)) (.cv (.d (.rowL (.head _) rfl (.cons (.cons (.fnL .nil) .nil) (.cons (.cons (.fnL .nil) .nil) (.cons (.cons (.d _) .nil) .nil))) rfl (by simp))) .nil)) (all_c _ _ ?_)
  repeat' (conv => whnf
           first | refine Br.tt ?_ | refine Br.ff ?_ | refine Br.dec (fun h => ?_) (fun h => ?_) | refine Br.not ?_ | refine Br.intro (fun h => ?_) (fun h => ?_) | refine GetE.intro _ rfl ?_ | refine Need.intro rfl ?_ | refine DrawP.go mixed rfl ?_ | refine within_c _ _ ?_ | refine does_c _ ?_ | refine MapF.miss (by simp [keyV, keyTK]) (by simp) ?_)
  conv => whnf
  exact FinP.part [3] [.map kindsMap] (Part.one rfl rfl rfl rfl) (fun b hb => absurd hb (Nat.not_lt_zero b)) (X' := .map 0) rfl rfl ⟨rfl, rfl⟩
end Go.Proofs.Ytfhigmdfocbajaa
