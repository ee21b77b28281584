/-
  The statements' turned.
-/
import Derived.Test.YtfhigmdfocbajaaFixD
namespace Go.Proofs.Ytfhigmdfocbajaa
open Go.Tidy
set_option maxRecDepth 100000
set_option maxHeartbeats 0
set_option linter.unusedSimpArgs false
set_option linter.unusedVariables false
variable {L : List Blk} {k : V → List Blk → Prop}
def backM (m : Mt) : Mt := ⟨m.away, m.home⟩
def turnR (r : List Mt) : List Mt := r.map backM
def turnL (l : List (List Mt)) : List (List Mt) := l.map turnR
def rdM (r : List Mt) : List (List V) := r.map fun m => m.cells.map .d
theorem rdM_bel (n : Nat) : ∀ r : List Mt, belR n (rdM r) = true
  | [] => rfl
  | m :: r => by
    have := rdM_bel n r
    unfold rdM at this ⊢
    rw [List.map_cons, belR, V.belL_d, this]; rfl
def tuL (l A : List (List Mt)) (r : List Mt) : List Blk := cuL l A ++ [.row r.length 2 (rdM r)]
theorem tuL_bel (l A : List (List Mt)) (r : List Mt) : belB 5 (tuL l A r) = true := by
  show (true && (true && (true && (belR 5 (rdR A) && (belR 5 (rdM r) && true))))) = true
  rw [rdR_bel, rdM_bel]; rfl
theorem tuL_next (l A : List (List Mt)) (r : List Mt) (m : Mt) : [Blk.cells [.d (lisD l)], .cells [.nil], .cells [.own 3 A.length 0 A.length], .row A.length 1 (rdR A), .row (r.length + 1) 2 ((rdM r).take r.length ++ [m.cells.map .d])] = tuL l A (r ++ [m]) := by
  unfold tuL cuL
  rw [List.take_of_length_le (by unfold rdM; rw [List.length_map]; exact Nat.le_refl _), List.length_append]
  unfold rdM
  rw [List.map_append]; rfl
noncomputable def tuS (l A : List (List Mt)) (x : List Mt) (i : Nat) : TS := ⟨[(1, .ptr 0 0), (2, .ptr 1 0), (3, .ptr 2 0), (4, I i)], Try.f24.ntmps, [.cells [.d (lisD l)], .cells [.nil], .cells [.own 3 (A.length + 1) 0 (A.length + 1)], .row (A.length + 1) 1 (rdR A ++ [[.own 4 x.length 0 x.length]]), .row x.length 2 (rdM x)], [], none⟩
theorem rdRo_bel (n m : Nat) (hm : m < n) (g k : Nat) : ∀ A : List (List Mt), belR n (rdR A ++ [[V.own m g 0 k]]) = true
  | [] => by
    show (V.belL n [V.own m g 0 k] && true) = true
    simp [V.belL, V.bel, hm]
  | _ :: A => by simp only [rdR, List.map_cons, List.cons_append, belR, V.belL, V.bel, Bool.true_and]; exact rdRo_bel n m hm g k A
theorem tuS_bel (l A : List (List Mt)) (x : List Mt) : belB 5 [.cells [.d (lisD l)], .cells [.nil], .cells [.own 3 (A.length + 1) 0 (A.length + 1)], .row (A.length + 1) 1 (rdR A ++ [[.own 4 x.length 0 x.length]]), .row x.length 2 (rdM x)] = true := by
  show (true && (true && (true && (belR 5 (rdR A ++ [[V.own 4 x.length 0 x.length]]) && (belR 5 (rdM x) && true))))) = true
  rw [rdRo_bel 5 4 (by decide), rdM_bel]; rfl
theorem rdM_rows {S : Nat → Prop} {L : List Blk} : ∀ x : List Mt, CvLL S L (rdM x) (x.map Mt.cells)
  | [] => .nil
  | m :: x => .cons (.cons (.d _) (.cons (.d _) .nil)) (rdM_rows x)
theorem tu_thaw (l A : List (List Mt)) (x : List Mt) (i : Nat) : Weak 0 (tuS l A x i) ⟨[(1, .ptr 0 0), (2, .ptr 1 0), (3, .ptr 2 0), (4, I i)], Try.f24.ntmps, cuL l (A ++ [x]), [], none⟩ := by
  have hl : (A ++ [x]).length = A.length + 1 := by rw [List.length_append]; rfl
  refine Weak.thaw 4 (Nat.zero_le _) (Nat.le_of_ble_eq_true rfl) rfl ?_ ?_
  · exact ⟨.inl ⟨rfl, rfl⟩, .inl ⟨rfl, rfl⟩, .inl ⟨rfl, rfl⟩, .inl ⟨rfl, rfl⟩, trivial⟩
  · intro b y z hy hz
    match b, hy, hz with
    | 0, hy, hz => cases hy; cases hz; exact .inl ⟨rfl, rfl⟩
    | 1, hy, hz => cases hy; cases hz; exact .inl ⟨rfl, rfl⟩
    | 2, hy, hz => cases hy; cases hz; rw [hl]; exact .inl ⟨rfl, rfl⟩
    | 3, hy, hz =>
      cases hy; cases hz
      refine .inr (.inl ⟨A.length + 1, 1, _, _, rfl, by rw [hl], by simp [rdR], fun e he => ?_, fun a b e e' u v h1 h2 h3 h4 => ?_⟩)
      · obtain ⟨y, _, rfl⟩ := List.mem_map.1 he; rfl
      · by_cases ha : a < A.length
        · rw [List.getElem?_append_left (by unfold rdR; rw [List.length_map]; exact ha)] at h1
          unfold rdR at h1 h2
          rw [List.getElem?_map, List.getElem?_eq_getElem ha] at h1
          rw [List.getElem?_map, List.getElem?_append_left ha, List.getElem?_eq_getElem ha] at h2
          cases h1; cases h2
          rw [h3] at h4; cases h4
          match b, h3 with
          | 0, h3 => cases h3; exact .inl ⟨rfl, rfl⟩
          | b + 1, h3 => simp at h3
        · have hai : a = A.length := by
            have := lt_of_get h2
            simp [rdR] at this; omega
          subst hai
          rw [List.getElem?_append_right (by unfold rdR; rw [List.length_map]; exact Nat.le_refl _)] at h1
          have e0 : A.length - (rdR A).length = 0 := by simp [rdR]
          rw [e0] at h1
          simp only [List.getElem?_cons_zero, Option.some.injEq] at h1
          unfold rdR at h2
          rw [List.getElem?_map, List.getElem?_append_right (Nat.le_refl _), Nat.sub_self] at h2
          simp only [List.getElem?_cons_zero, Option.map_some, Option.some.injEq] at h2
          subst h1 h2
          match b, h3, h4 with
          | 0, h3, h4 =>
            cases h3; cases h4
            refine .inr (.d (.rowL (ds := x.map Mt.cells) (Nat.le_refl 4) rfl ?_ (by simp) ?_))
            · rw [List.drop_zero, List.take_of_length_le (by unfold rdM; rw [List.length_map]; exact Nat.le_refl _)]; exact rdM_rows x
            · intro e he; obtain ⟨y, _, rfl⟩ := List.mem_map.1 he; rfl
          | b + 1, h3, h4 => simp at h3
    | b + 4, hy, hz => simp [cuL] at hz
theorem turned_c (l : List (List Mt)) (hl : l.length ≤ 1073741824) (hr : ∀ r ∈ l, r.length ≤ 1073741824) (h : k (lisV (turnL l)) L) : CallP C 24 [lisV l] L k := by
  refine CallP.pure ?_ rfl (fun _ => rfl) h
  clear h
  refine callP_of C_ok Try.func24 rfl rfl (n := _) rfl (Nat.le_of_ble_eq_true rfl) (rs := _) rfl ?_
  conv => whnf
  refine LoopP.inv (fun i => i ≤ l.length) (fun i => ⟨[(1, .ptr 0 0), (2, .ptr 1 0), (3, .ptr 2 0), (4, I i)], Try.f24.ntmps, cuL l (turnL (l.take i)), [], none⟩) (fun i => l.length - i) 0 (Nat.zero_le _) ?_ ?_
  · exact Weak.nilCellTo 2 0 1 _ rfl rfl (by decide) rfl ⟨rfl, rfl, rfl, rfl, trivial⟩
  intro i hi
  have hti : (turnL (l.take i)).length = i := by unfold turnL; rw [List.length_map, List.length_take]; omega
  obtain ⟨A, hA⟩ : ∃ A, A = turnL (l.take i) := ⟨_, rfl⟩
  rw [← hA] at hti ⊢
  by_cases hi' : i < l.length
  · have hlt : (i : Int) < ((l.map fun r => [mts r]).length : Int) := by rw [List.length_map]; omega
    have hw : IntKind.i64.wrap ((i : Int) + 1) = ((i + 1 : Nat) : Int) := by rw [wrap_in (by omega)]; omega
    have r1 : (l.map fun r => [mts r])[i]? = some [mts l[i]] := by rw [List.getElem?_map, List.getElem?_eq_getElem hi']; rfl
    obtain ⟨r, hr1⟩ : ∃ r, r = l[i] := ⟨_, rfl⟩
    have hrl : r.length ≤ 1073741824 := hr r (hr1 ▸ List.getElem_mem hi')
    rw [← hr1] at r1
    repeat' (conv => whnf
             first | refine Br.yes (decide_eq_true hlt) ?_ | refine Br.tt ?_ | refine Br.ff ?_ | refine Br.dec (fun h => ?_) (fun h => ?_) | refine Br.not ?_ | refine Br.intro (fun h => ?_) (fun h => ?_) | refine GetE.intro _ rfl ?_ | refine Need.intro rfl ?_ | refine DrawP.go mixed rfl ?_)
    conv => whnf
    refine LoopP.inv (fun j => j ≤ r.length) (fun j => ⟨[(1, .ptr 0 0), (2, .ptr 1 0), (3, .ptr 2 0), (4, I i), (5, .own 4 (turnR (r.take j)).length 0 (turnR (r.take j)).length), (6, I j)], Try.f24.ntmps, tuL l A (turnR (r.take j)), [], none⟩) (fun j => r.length - j) 0 (Nat.zero_le _) ?_ ?_
    · exact Weak.by ⟨rfl, rfl, rfl, rfl, rfl, rfl, trivial⟩
    intro j hj
    have htj : (turnR (r.take j)).length = j := by unfold turnR; rw [List.length_map, List.length_take]; omega
    obtain ⟨x, hx⟩ : ∃ x, x = turnR (r.take j) := ⟨_, rfl⟩
    rw [← hx] at htj ⊢
    by_cases hj' : j < r.length
    · have hlt2 : (j : Int) < ((r.map Mt.cells).length : Int) := by rw [List.length_map]; omega
      have hw2 : IntKind.i64.wrap ((j : Int) + 1) = ((j + 1 : Nat) : Int) := by rw [wrap_in (by omega)]; omega
      have r2 : (r.map Mt.cells)[j]? = some (r[j]).cells := by rw [List.getElem?_map, List.getElem?_eq_getElem hj']; rfl
      have hnx : turnR (r.take (j + 1)) = x ++ [backM r[j]] := by rw [hx, take_next hj']; unfold turnR; rw [List.map_append]; rfl
      have hcn := tuL_next l A x (backM r[j])
      rw [← hnx] at hcn
      have hln : (turnR (r.take (j + 1))).length = x.length + 1 := by rw [hnx, List.length_append]; rfl
      repeat' (conv => whnf
               first | refine Br.yes (decide_eq_true hlt2) ?_ | refine Idx.intro i _ rfl r1 ?_ | refine Idx.intro j _ rfl r2 ?_ | refine Need.intro (show x.length + 1 ≤ 4294967296 by omega) ?_ | simp only [Nat.beq_refl, Bool.and_self] | refine Br.tt ?_ | refine Br.ff ?_ | refine Br.dec (fun h => ?_) (fun h => ?_) | refine Br.not ?_ | refine Br.intro (fun h => ?_) (fun h => ?_) | refine GetE.intro _ rfl ?_ | refine Need.intro rfl ?_ | refine DrawP.go mixed rfl ?_)
      conv => whnf
      exact ⟨j + 1, hj', by omega, Weak.to 5 (Eq.trans rfl hcn) (Nat.zero_le _) (Nat.le_of_ble_eq_true rfl) ⟨rfl, rfl, rfl, rfl, (by rw [hln]; rfl), congrArg I hw2, trivial⟩ (hB := tuL_bel l A _)⟩
    · have hlt2 : ¬ (j : Int) < ((r.map Mt.cells).length : Int) := by rw [List.length_map]; omega
      repeat' (conv => whnf
               first | refine Br.no (decide_eq_false hlt2) ?_ | refine Idx.intro i _ rfl r1 ?_ | refine Need.intro (show A.length + 1 ≤ 4294967296 by omega) ?_ | simp only [Nat.beq_refl, Bool.and_self] | refine Br.tt ?_ | refine Br.ff ?_ | refine Br.dec (fun h => ?_) (fun h => ?_) | refine Br.not ?_ | refine Br.intro (fun h => ?_) (fun h => ?_) | refine GetE.intro _ rfl ?_ | refine Need.intro rfl ?_ | refine DrawP.go mixed rfl ?_)
      conv => whnf
      have hxr : x = turnR r := by rw [hx, List.take_of_length_le (by omega)]
      have hnx : turnL (l.take (i + 1)) = A ++ [x] := by rw [hA, take_next hi', hxr, hr1]; unfold turnL; rw [List.map_append]; rfl
      refine ⟨i + 1, hi', by omega, Weak.trans (σ' := tuS l A x (i + 1)) (Weak.to 5 (Eq.trans (b := [.cells [.d (lisD l)], .cells [.nil], .cells [.own 3 (A.length + 1) 0 (A.length + 1)], .row (A.length + 1) 1 ((rdR A).take A.length ++ [[.own 4 x.length 0 x.length]]), .row x.length 2 (rdM x)]) rfl ?_) (Nat.zero_le _) (Nat.le_of_ble_eq_true rfl) ⟨rfl, rfl, rfl, congrArg I hw, trivial⟩ (hB := tuS_bel l A x)) ?_⟩
      · rw [List.take_of_length_le (by unfold rdR; rw [List.length_map]; exact Nat.le_refl _)]; rfl
      · rw [hnx]; exact tu_thaw l A x (i + 1)
  · have hlt : ¬ (i : Int) < ((l.map fun r => [mts r]).length : Int) := by rw [List.length_map]; omega
    repeat' (conv => whnf
             first | refine Br.no (decide_eq_false hlt) ?_ | refine Br.tt ?_ | refine Br.ff ?_ | refine Br.dec (fun h => ?_) (fun h => ?_) | refine Br.not ?_ | refine Br.intro (fun h => ?_) (fun h => ?_) | refine GetE.intro _ rfl ?_ | refine Need.intro rfl ?_ | refine DrawP.go mixed rfl ?_)
    conv => whnf
    have hAX : A = turnL l := by rw [hA, List.take_of_length_le (by omega)]
    have fin : ∀ {L : List Blk}, L[3]? = some (.row A.length 1 (rdR A)) → Cw (fun b => 0 ≤ b) L (.agg [.own 3 A.length 0 A.length]) (lisV (turnL l)) := fun hL => by
      rw [← hAX]
      refine .aggL (.cons (.rowL (ds := A.map fun r => [mts r]) (Nat.zero_le _) hL ?_ (List.length_map ..).symm ?_) .nil)
      · rw [List.drop_zero, List.take_of_length_le (by unfold rdR; rw [List.length_map]; exact Nat.le_refl _)]; exact rdR_rows A
      · intro e he; obtain ⟨x, _, rfl⟩ := List.mem_map.1 he; rfl
    exact FinP.data (L' := []) (fin rfl) rfl rfl ⟨rfl, rfl⟩
end Go.Proofs.Ytfhigmdfocbajaa
