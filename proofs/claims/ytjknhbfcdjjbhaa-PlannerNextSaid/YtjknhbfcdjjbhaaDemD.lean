/-
  demands: the kinds of demands.
-/
import Derived.Test.YtjknhbfcdjjbhaaDemC
namespace Go.Proofs.Ytjknhbfcdjjbhaa
open Go.Tidy
set_option maxRecDepth 100000
set_option maxHeartbeats 0
set_option linter.unusedSimpArgs false
set_option linter.unusedVariables false
variable {L : List Blk} {k : V → List Blk → Prop}
def allD (clr : FuncId) (fs : List D) : D := .fn 103 [.rptr [.sl (fs.map fun f => [f])], .rptr [.fn clr []]]
def doesD (n : Int) : D := .fn 105 [.rptr [DI n]]
def withinD (a b : Int) : D := .fn 104 [.rptr [DI a], .rptr [DI b]]
def one : D := allD 66 [.fn 67 [], .fn 68 []]
def two : D := allD 69 [.fn 67 [], .fn 70 [], .fn 68 []]
def count : D := allD 71 [.fn 67 [], withinD 0 46]
def kindsMap : List (V × V) := [(I 1, .agg [.d one, .d (doesD 1)]), (I 2, .agg [.d one, .d (doesD (-1))]), (I 3, .agg [.d one, .d (doesD 0)]),
  (I 4, .agg [.d two, .fn 74 []]), (I 5, .agg [.d two, .fn 78 []]),
  (I 6, .agg [.d (allD 79 [.fn 80 []]), .fn 81 []]), (I 7, .agg [.d (allD 83 [.fn 80 [], withinD 0 24]), .fn 84 []]),
  (I 8, .agg [.d (allD 85 [.fn 67 [], .fn 70 [], withinD 1 46]), .fn 86 []]), (I 9, .agg [.d count, .fn 87 []]), (I 10, .agg [.d count, .fn 88 []])]
theorem kinds_c : CallP C 41 [] [] fun X L => L = [.map kindsMap] ∧ X = .map 0 := by
  refine callP_of C_ok Try.func41 rfl rfl (n := _) rfl (Nat.le_of_ble_eq_true rfl) (rs := _) rfl ?_
  repeat' (conv => whnf
           first | refine Br.tt ?_ | refine Br.ff ?_ | refine Br.dec (fun h => ?_) (fun h => ?_) | refine Br.not ?_ | refine Br.intro (fun h => ?_) (fun h => ?_) | refine GetE.intro _ rfl ?_ | refine Need.intro rfl ?_ | refine DrawP.go mixed rfl ?_)
  conv => whnf
  refine CallP.freeze [0] rfl rfl (.cv (.d (.fnL .nil)) (.cv (.d (.rowL (.head _) rfl (.cons (.cons (.fnL .nil) .nil) (.cons (.cons (.fnL .nil) .nil) .nil)) rfl (by simp))) .nil)) (all_c _ _ ?_)
  repeat' (conv => whnf
           first | refine Br.tt ?_ | refine Br.ff ?_ | refine Br.dec (fun h => ?_) (fun h => ?_) | refine Br.not ?_ | refine Br.intro (fun h => ?_) (fun h => ?_) | refine GetE.intro _ rfl ?_ | refine Need.intro rfl ?_ | refine DrawP.go mixed rfl ?_)
  conv => whnf
  refine CallP.freeze [1] rfl rfl (.cv (.d (.fnL .nil)) (.cv (.d (.rowL (.head _) rfl (.cons (.cons (.fnL .nil) .nil) (.cons (.cons (.fnL .nil) .nil) (.cons (.cons (.fnL .nil) .nil) .nil))) rfl (by simp))) .nil)) (all_c _ _ ?_)
  repeat' (conv => whnf
           first | refine Br.tt ?_ | refine Br.ff ?_ | refine Br.dec (fun h => ?_) (fun h => ?_) | refine Br.not ?_ | refine Br.intro (fun h => ?_) (fun h => ?_) | refine GetE.intro _ rfl ?_ | refine Need.intro rfl ?_ | refine DrawP.go mixed rfl ?_ | refine within_c _ _ ?_ | refine QCall.intro _ (within_c _ _ ⟨rfl, rfl⟩) ?_)
  conv => whnf
  refine CallP.freeze [2] rfl rfl (.cv (.d (.fnL .nil)) (.cv (.d (.rowL (.head _) rfl (.cons (.cons (.fnL .nil) .nil) (.cons (.cons (.d _) .nil) .nil)) rfl (by simp))) .nil)) (all_c _ _ ?_)
  repeat' (conv => whnf
           first | refine Br.tt ?_ | refine Br.ff ?_ | refine Br.dec (fun h => ?_) (fun h => ?_) | refine Br.not ?_ | refine Br.intro (fun h => ?_) (fun h => ?_) | refine GetE.intro _ rfl ?_ | refine Need.intro rfl ?_ | refine DrawP.go mixed rfl ?_ | refine within_c _ _ ?_ | refine does_c _ ?_ | refine MapF.miss (by simp [keyV, keyTK]) (by simp) ?_)
  conv => whnf
  refine CallP.freeze [4] rfl rfl (.cv (.d (.fnL .nil)) (.cv (.d (.rowL (.head _) rfl (.cons (.cons (.fnL .nil) .nil) .nil) rfl (by simp))) .nil)) (all_c _ _ ?_)
  repeat' (conv => whnf
           first | refine Br.tt ?_ | refine Br.ff ?_ | refine Br.dec (fun h => ?_) (fun h => ?_) | refine Br.not ?_ | refine Br.intro (fun h => ?_) (fun h => ?_) | refine GetE.intro _ rfl ?_ | refine Need.intro rfl ?_ | refine DrawP.go mixed rfl ?_ | refine within_c _ _ ?_ | refine does_c _ ?_ | refine MapF.miss (by simp [keyV, keyTK]) (by simp) ?_)
  conv => whnf
  refine CallP.freeze [5] rfl rfl (.cv (.d (.fnL .nil)) (.cv (.d (.rowL (.head _) rfl (.cons (.cons (.fnL .nil) .nil) (.cons (.cons (.d _) .nil) .nil)) rfl (by simp))) .nil)) (all_c _ _ ?_)
  repeat' (conv => whnf
           first | refine Br.tt ?_ | refine Br.ff ?_ | refine Br.dec (fun h => ?_) (fun h => ?_) | refine Br.not ?_ | refine Br.intro (fun h => ?_) (fun h => ?_) | refine GetE.intro _ rfl ?_ | refine Need.intro rfl ?_ | refine DrawP.go mixed rfl ?_ | refine within_c _ _ ?_ | refine does_c _ ?_ | refine MapF.miss (by simp [keyV, keyTK]) (by simp) ?_)
  conv => whnf
  refine CallP.freeze [6] rfl rfl (.cv (.d (.fnL .nil)) (.cv (.d (.rowL (.head _) rfl (.cons (.cons (.fnL .nil) .nil) (.cons (.cons (.fnL .nil) .nil) (.cons (.cons (.d _) .nil) .nil))) rfl (by simp))) .nil)) (all_c _ _ ?_)
  repeat' (conv => whnf
           first | refine Br.tt ?_ | refine Br.ff ?_ | refine Br.dec (fun h => ?_) (fun h => ?_) | refine Br.not ?_ | refine Br.intro (fun h => ?_) (fun h => ?_) | refine GetE.intro _ rfl ?_ | refine Need.intro rfl ?_ | refine DrawP.go mixed rfl ?_ | refine within_c _ _ ?_ | refine does_c _ ?_ | refine MapF.miss (by simp [keyV, keyTK]) (by simp) ?_)
  conv => whnf
  exact FinP.part [3] [.map kindsMap] (Part.one rfl rfl rfl rfl) (fun b hb => absurd hb (Nat.not_lt_zero b)) (X' := .map 0) rfl rfl ⟨rfl, rfl⟩
end Go.Proofs.Ytjknhbfcdjjbhaa
