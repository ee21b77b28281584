/-
  fixtures: whether a club plays at home, round by round.
-/
import Derived.Test.YtfhigmdfocbajaaFixA
namespace Go.Proofs.Ytfhigmdfocbajaa
open Go.Tidy
set_option maxRecDepth 100000
set_option maxHeartbeats 0
set_option linter.unusedSimpArgs false
set_option linter.unusedVariables false
variable {L : List Blk} {k : V → List Blk → Prop}
theorem findI_spec {α : Type} (p : α → Bool) (l : List α) : (findI p l = -1 ∧ ∀ (j : Nat) (hj : j < l.length), p l[j] = false) ∨ ∃ (i : Nat) (hi : i < l.length), findI p l = (i : Int) ∧ p l[i] = true ∧ ∀ (j : Nat) (hj : j < l.length), j < i → p l[j] = false := by
  unfold findI
  cases h : l.findIdx? p with
  | none => exact .inl ⟨rfl, fun j hj => by simpa using List.findIdx?_eq_none_iff.1 h _ (List.getElem_mem hj)⟩
  | some i =>
    obtain ⟨h1, h2, h3⟩ := List.findIdx?_eq_some_iff_getElem.1 h
    exact .inr ⟨i, h1, rfl, h2, fun j hj hji => by simpa using h3 j hji⟩
def homeR (c : Int) (r : List Mt) : Int := stateF r (fun _ => true) c
def patL (l : List (List Mt)) (c : Int) : List Int := l.map (homeR c)
theorem homeR_none {c : Int} {r : List Mt} (h : ∀ (j : Nat) (hj : j < r.length), playsM r[j] c = false) : homeR c r = 0 := by
  unfold homeR
  rw [stateF_none fun j hj => ?_]
  · rfl
  · have := h j hj
    exact ⟨fun e => (by rw [playsM_iff.2 (.inl e.symm)] at this; cases this), fun e => (by rw [playsM_iff.2 (.inr e.symm)] at this; cases this)⟩
theorem homeR_some {c : Int} {r : List Mt} {i : Nat} (hi : i < r.length) (hp : playsM r[i] c = true) (h : ∀ (j : Nat) (hj : j < r.length), j < i → playsM r[j] c = false) : homeR c r = if r[i].home = c then 1 else -1 := by
  have hb : ∀ (j : Nat) (hj : j < r.length), j < i → c ≠ r[j].home ∧ c ≠ r[j].away := fun j hj hji => by
    have := h j hj hji
    exact ⟨fun e => (by rw [playsM_iff.2 (.inl e.symm)] at this; cases this), fun e => (by rw [playsM_iff.2 (.inr e.symm)] at this; cases this)⟩
  unfold homeR
  by_cases hh : r[i].home = c
  · rw [if_pos hh, stateF_home hi hb hh.symm]
  · rw [if_neg hh, stateF_away hi hb (fun e => hh e.symm)]
    rcases playsM_iff.1 hp with e | e
    · exact absurd e hh
    · exact e.symm
/-- Rows of numbers. -/
def rdI (x : List Int) : List (List V) := x.map fun v => [I v]
theorem rdI_bel (n : Nat) : ∀ x : List Int, belR n (rdI x) = true
  | [] => rfl
  | _ :: x => by simp only [rdI, List.map_cons, belR, V.belL, V.bel, Bool.true_and]; exact rdI_bel n x
theorem rdI_rn (ρ : Nat → Nat) : ∀ x : List Int, rnR ρ (rdI x) = rdI x
  | [] => rfl
  | v :: x => by
    have := rdI_rn ρ x
    unfold rdI at this ⊢
    rw [List.map_cons, rnR, this]; rfl
theorem rdI_rnB (ρ : Nat → Nat) (n : Nat) (x : List Int) : (Blk.row n 1 (rdI x)).rn ρ = .row n 1 (rdI x) := by rw [Blk.rn, rdI_rn]
def patB (l : List (List Mt)) (c : Int) (x : List Int) : List Blk := [.cells [.d (lisD l)], .cells [I c], .row x.length 1 (rdI x)]
theorem patB_bel (l : List (List Mt)) (c : Int) (x : List Int) : belB 3 (patB l c x) = true := by
  show (true && (true && (belR 3 (rdI x) && true))) = true
  rw [rdI_bel]; rfl
theorem patB_next (l : List (List Mt)) (c : Int) (x : List Int) (v : Int) : [Blk.cells [.d (lisD l)], .cells [I c], .row (x.length + 1) 1 ((rdI x).take x.length ++ [[I v]])] = patB l c (x ++ [v]) := by
  unfold patB rdI
  rw [List.take_of_length_le (by rw [List.length_map]; exact Nat.le_refl _), List.length_append, List.map_append]; rfl
theorem pattern_c (l : List (List Mt)) (c : Int) (hl : l.length ≤ 1073741824) (hr : ∀ r ∈ l, r.length ≤ 4611686018427387904) :
    CallP C 42 [lisV l, I c] [] fun X L => L = [.row l.length 1 (rdI (patL l c))] ∧ X = .own 0 l.length 0 l.length := by
  refine callP_of C_ok Try.func42 rfl rfl (n := _) rfl (Nat.le_of_ble_eq_true rfl) (rs := _) rfl ?_
  conv => whnf
  refine LoopP.inv (fun i => i ≤ l.length) (fun i => ⟨[(2, .ptr 0 0), (3, .ptr 1 0), (4, .own 2 ((patL l c).take i).length 0 ((patL l c).take i).length), (10, .d (.sl (l.map fun r => [mts r]))), (11, I l.length), (12, I i)], Try.f42.ntmps, patB l c ((patL l c).take i), [], none⟩) (fun i => l.length - i) 0 (Nat.zero_le _) ?_ ?_
  · exact (Weak.nilOwn 4 1 rfl (by decide)).trans (Weak.to 3 rfl (Nat.zero_le _) (Nat.le_of_ble_eq_true rfl) ⟨rfl, rfl, rfl, rfl, congrArg I (by simp), rfl, trivial⟩)
  intro i hi
  obtain ⟨x, hx⟩ : ∃ x, (patL l c).take i = x := ⟨_, rfl⟩
  have hxl : x.length = i := by rw [← hx, List.length_take, patL, List.length_map]; omega
  rw [hx]
  conv => whnf
  refine Br.dec (fun hlt => ?_) (fun hlt => ?_)
  · have hi' : i < l.length := by omega
    have hri := hr _ (List.getElem_mem hi')
    have hw : IntKind.i64.wrap ((i : Int) + 1) = ((i + 1 : Nat) : Int) := by rw [wrap_in (by omega)]; omega
    have hnx : (patL l c).take (i + 1) = x ++ [homeR c l[i]] := by
      rw [← hx, take_next (by rw [patL, List.length_map]; exact hi')]; unfold patL; rw [List.getElem_map]
    have hcn := patB_next l c x (homeR c l[i])
    rw [← hnx] at hcn
    have hln : ((patL l c).take (i + 1)).length = x.length + 1 := by rw [hnx, List.length_append]; rfl
    rcases findI_spec (fun m => playsM m c) l[i] with ⟨hf, hno⟩ | ⟨j, hj, hf, hp, hno⟩
    · have hv := homeR_none hno
      rw [hv] at hcn
      repeat' (conv => whnf
               first | refine CallP.lent (mindexFunc_c l[i] hri 86 [.rptr [DI c]] (fun m => playsM m c) (fun m L k h => pat1_c m c h) ⟨rfl, congrArg I hf⟩) (.keep (.cv (.d (.fnL (.cons (.ptrL trivial rfl (.data [DI c])) .nil))) .nil)) rfl rfl ?_ | refine Br.no (decide_eq_false (by omega)) ?_ | refine Idx.map i rfl hi' ?_ | (simp only [Nat.beq_refl, Bool.and_self]; refine Need.intro (show x.length + 1 ≤ 4294967296 by omega) ?_) | simp only [Nat.beq_refl, Bool.and_self] | refine Br.tt ?_ | refine Br.ff ?_ | refine Br.dec (fun h => ?_) (fun h => ?_) | refine Br.not ?_ | refine Br.intro (fun h => ?_) (fun h => ?_) | refine GetE.intro _ rfl ?_ | refine Need.intro rfl ?_ | refine DrawP.go mixed rfl ?_)
      all_goals conv => whnf
      all_goals exact ⟨i + 1, hi', by omega, Weak.to 3 (Eq.trans rfl hcn) (Nat.zero_le _) (Nat.le_of_ble_eq_true rfl) ⟨rfl, rfl, (by rw [hln]; rfl), rfl, rfl, congrArg I hw, trivial⟩ (hB := patB_bel l c _)⟩
    · have hv := homeR_some hj hp hno
      by_cases hh : l[i][j].home = c
      all_goals
        first | rw [if_pos hh] at hv | rw [if_neg hh] at hv
        rw [hv] at hcn
        repeat' (conv => whnf
                 first | refine CallP.lent (mindexFunc_c l[i] hri 86 [.rptr [DI c]] (fun m => playsM m c) (fun m L k h => pat1_c m c h) ⟨rfl, congrArg I hf⟩) (.keep (.cv (.d (.fnL (.cons (.ptrL trivial rfl (.data [DI c])) .nil))) .nil)) rfl rfl ?_ | refine Br.yes (decide_eq_true (by omega)) ?_ | refine Br.yes (decide_eq_true hh) ?_ | refine Br.no (decide_eq_false hh) ?_ | refine Idx.map i rfl hi' ?_ | refine Idx.map j rfl hj ?_ | (simp only [Nat.beq_refl, Bool.and_self]; refine Need.intro (show x.length + 1 ≤ 4294967296 by omega) ?_) | simp only [Nat.beq_refl, Bool.and_self] | refine Br.tt ?_ | refine Br.ff ?_ | refine Br.dec (fun h => ?_) (fun h => ?_) | refine Br.not ?_ | refine Br.intro (fun h => ?_) (fun h => ?_) | refine GetE.intro _ rfl ?_ | refine Need.intro rfl ?_ | refine DrawP.go mixed rfl ?_)
        all_goals conv => whnf
        all_goals exact ⟨i + 1, hi', by omega, Weak.to 3 (Eq.trans rfl hcn) (Nat.zero_le _) (Nat.le_of_ble_eq_true rfl) ⟨rfl, rfl, (by rw [hln]; rfl), rfl, rfl, congrArg I hw, trivial⟩ (hB := patB_bel l c _)⟩
  · have hil : i = l.length := by omega
    repeat' (conv => whnf
             first | refine Br.tt ?_ | refine Br.ff ?_ | refine Br.dec (fun h => ?_) (fun h => ?_) | refine Br.not ?_ | refine Br.intro (fun h => ?_) (fun h => ?_) | refine GetE.intro _ rfl ?_ | refine Need.intro rfl ?_ | refine DrawP.go mixed rfl ?_)
    conv => whnf
    have hx2 : x = patL l c := by rw [← hx, List.take_of_length_le (by unfold patL; rw [List.length_map]; omega)]
    have hxl2 : x.length = l.length := by omega
    refine FinP.part [2] [.row x.length 1 (rdI x)] (Part.one rfl (rdI_rnB _ _ x) (by rw [Blk.bel]; exact rdI_bel 1 x) rfl) (fun b hb => absurd hb (Nat.not_lt_zero b)) (X' := .own 0 x.length 0 x.length) rfl rfl ⟨?_, by rw [hxl2]⟩
    rw [← hx2, hxl2]
end Go.Proofs.Ytfhigmdfocbajaa
