/-
  planner: the plan, the next round.
-/
import Derived.Test.YtjknhbfcdjjbhaaDemO
import Derived.Test.YtjknhbfcdjjbhaaBaseH
namespace Go.Proofs.Ytjknhbfcdjjbhaa
open Go.Tidy
set_option maxRecDepth 100000
set_option maxHeartbeats 0
set_option linter.unusedSimpArgs false
set_option linter.unusedVariables false
variable {L : List Blk} {k : V → List Blk → Prop}
def planD (p : Pl) : List D := p.cells ++ [DI (roundsN p), DI (halfN p)]
theorem roundsC (n : Nat) (h : 1 ≤ n ∧ n ≤ 1000) : IntKind.i64.wrap (IntKind.i64.wrap ((n : Int) - 1) + (n : Int).tmod 2) = (((n - 1) / 2 * 2 + 1 : Nat) : Int) := by
  have e : (n : Int).tmod 2 = ((n % 2 : Nat) : Int) := (Int.ofNat_tmod _ _).symm
  rw [e, wrap_in (n := (n : Int) - 1) (by omega), wrap_in (by omega)]
  omega
theorem newPlan_c (p : Pl) (h1 : 1 ≤ p.clubs.length ∧ p.clubs.length ≤ 1000) (h : k (.d (.rptr (planD p))) L) : CallP C 28 [plV p] L k := by
  refine CallP.pure ?_ rfl (fun _ => rfl) h
  clear h
  refine callP_of C_ok Try.func28 rfl rfl (n := _) rfl (Nat.le_of_ble_eq_true rfl) (rs := _) rfl ?_
  have hh := half_e p h1.2
  repeat' (conv => whnf
           first | refine Br.tt ?_ | refine Br.ff ?_ | refine Br.dec (fun h => ?_) (fun h => ?_) | refine Br.not ?_ | refine Br.intro (fun h => ?_) (fun h => ?_) | refine GetE.intro _ rfl ?_ | refine Need.intro rfl ?_ | refine DrawP.go mixed rfl ?_ | refine Need.intro (show (2 : Int) ≠ 0 by decide) ?_)
  all_goals conv => whnf
  all_goals refine FinP.data (L' := []) (.d (.ptrL (Nat.zero_le _) rfl (.cons (.d _) (.cons (.d _) (.cons (.d _) (.cons (.d _) (.cons (.d _) .nil))))))) rfl rfl ⟨rfl, ?_⟩
  · refine congrArg (fun x => V.d (.rptr x)) ?_
    show [_, _, _, _, _] = [_, _, _, _, _]
    rw [hh, List.length_map, roundsC _ h1, wrap_in (by omega), roundsN, h, if_pos rfl]
    refine congrArg (fun x => [_, _, _, DI x, _]) ?_
    omega
  · refine congrArg (fun x => V.d (.rptr x)) ?_
    show [_, _, _, _, _] = [_, _, _, _, _]
    rw [hh, List.length_map, roundsC _ h1, roundsN, h, if_neg (by decide), Nat.one_mul]
def openR (l : List (List Mt)) (p : Pl) : List Mt × Bool × Bool :=
  match l.getLast? with
  | some r => if r.length < halfN p then (r, false, true) else ([], true, decide (l.length < roundsN p))
  | none => ([], true, decide (l.length < roundsN p))
theorem last_of {α : Type} {l : List α} (h : 0 < l.length) : l.getLast? = some (l[l.length - 1]'(by omega)) := by
  rw [List.getLast?_eq_getElem?, List.getElem?_eq_getElem (by omega)]
theorem open_c (l : List (List Mt)) (p : Pl) (hl : l.length ≤ 1073741824) (h : k (.tup [.d (mts (openR l p).1), B (openR l p).2.1, B (openR l p).2.2]) L) : CallP C 50 [.d (.rptr (planD p)), lisV l] L k := by
  have hx : (0 : Int) < ((l.map fun r => [mts r]).length : Int) → IntKind.i64.wrap (((l.map fun r => [mts r]).length : Int) - 1) = ((l.length - 1 : Nat) : Int) := fun h => by
    rw [List.length_map] at h ⊢; rw [wrap_in (by omega)]; omega
  have hn : (0 : Int) < ((l.map fun r => [mts r]).length : Int) → l.length - 1 < l.length := fun h => by
    rw [List.length_map] at h; omega
  refine CallP.pure ?_ rfl (fun _ => rfl) h
  clear h
  refine callP_of C_ok Try.func50 rfl rfl (n := _) rfl (Nat.le_of_ble_eq_true rfl) (rs := _) rfl ?_
  repeat' (conv => whnf
           first | refine Br.tt ?_ | refine Br.ff ?_ | refine Br.dec (fun h => ?_) (fun h => ?_) | refine Br.not ?_ | refine Br.intro (fun h => ?_) (fun h => ?_) | refine GetE.intro _ rfl ?_ | refine Need.intro rfl ?_ | refine DrawP.go mixed rfl ?_ | refine Idx.map (l.length - 1) (hx ‹_›) (hn ‹_›) ?_)
  all_goals conv => whnf
  · refine FinP.drop (n := 0) rfl (Nat.le_refl 0) rfl rfl ⟨rfl, ?_⟩
    unfold openR
    rename_i h1
    have h0 := hn h1
    have h2 : (l[l.length - 1]).length < halfN p := by rw [List.length_map] at h; omega
    rw [last_of (by omega)]
    simp only [if_pos h2]
    rfl
  · refine FinP.data (L' := []) (.triple (.d .nil) (.d (.d _)) (.d (.d _))) rfl rfl ⟨rfl, ?_⟩
    unfold openR
    rename_i h1
    have h0 := hn h1
    have h2 : ¬ (l[l.length - 1]).length < halfN p := by rw [List.length_map] at h; omega
    rw [last_of (by omega)]
    simp only [if_neg h2]
    refine congrArg (fun b => V.tup [.d (.sl []), B true, B b]) ?_
    simp only [List.length_map]
    exact decide_eq_decide.2 (by omega)
  · refine FinP.data (L' := []) (.triple (.d .nil) (.d (.d _)) (.d (.d _))) rfl rfl ⟨rfl, ?_⟩
    unfold openR
    have h0 : l = [] := List.eq_nil_of_length_eq_zero (by rw [List.length_map] at h; omega)
    subst h0
    refine congrArg (fun b => V.tup [.d (.sl []), B true, B b]) ?_
    exact decide_eq_decide.2 (by simp)
end Go.Proofs.Ytjknhbfcdjjbhaa
