/-
  demands: the statements' cut.
-/
import Derived.Test.YtfhigmdfocbajaaDemW
import Derived.Test.YtfhigmdfocbajaaDemT
namespace Go.Proofs.Ytfhigmdfocbajaa
open Go.Tidy
set_option maxRecDepth 100000
set_option maxHeartbeats 0
set_option linter.unusedSimpArgs false
set_option linter.unusedVariables false
variable {L : List Blk} {k : V → List Blk → Prop}
def cutF (l : List (List Mt)) (n m : Int) : List (List Mt) := l.take n.toNat ++ if 0 ≤ n ∧ n < l.length ∧ 0 < m then [((l[n.toNat]?).getD []).take m.toNat] else []
def rdR (A : List (List Mt)) : List (List V) := A.map fun r => [.d (mts r)]
theorem rdR_bel (n : Nat) : ∀ A : List (List Mt), belR n (rdR A) = true
  | [] => rfl
  | _ :: A => by simp only [rdR, List.map_cons, belR, V.belL, V.bel, Bool.true_and]; exact rdR_bel n A
def cuL (l A : List (List Mt)) : List Blk := [.cells [.d (lisD l)], .cells [.nil], .cells [.own 3 A.length 0 A.length], .row A.length 1 (rdR A)]
theorem cuL_bel (l A : List (List Mt)) : belB 4 (cuL l A) = true := by
  show (true && (true && (true && (belR 4 (rdR A) && true)))) = true
  rw [rdR_bel]; rfl
theorem rdR_rows {S : Nat → Prop} {L : List Blk} : ∀ A : List (List Mt), CvLL S L (rdR A) (A.map fun r => [mts r])
  | [] => .nil
  | x :: l => .cons (.cons (.d _) .nil) (rdR_rows l)
theorem cuL_next (l A : List (List Mt)) (r : List Mt) : [Blk.cells [.d (lisD l)], .cells [.nil], .cells [.own 3 (A.length + 1) 0 (A.length + 1)], .row (A.length + 1) 1 ((rdR A).take A.length ++ [[.d (mts r)]])] = cuL l (A ++ [r]) := by
  unfold cuL
  rw [List.take_of_length_le (by unfold rdR; rw [List.length_map]; exact Nat.le_refl _), List.length_append]
  unfold rdR
  rw [List.map_append]; rfl
theorem take_mcells (r : List Mt) (n : Nat) : (r.map Mt.cells).take (min n r.length) = (r.take n).map Mt.cells := by
  by_cases h : n ≤ r.length
  · rw [Nat.min_eq_left h, List.map_take]
  · rw [Nat.min_eq_right (by omega), List.take_of_length_le (by rw [List.length_map]; exact Nat.le_refl _), List.take_of_length_le (by omega)]
theorem cut_c (l : List (List Mt)) (n m : Int) (hl : l.length ≤ 1073741824) (hr : ∀ r ∈ l, r.length ≤ 4611686018427387904) (h : k (lisV (cutF l n m)) L) : CallP C 22 [lisV l, I n, I m] L k := by
  obtain ⟨X, hX⟩ : ∃ X, X = cutF l n m := ⟨_, rfl⟩
  rw [← hX] at h
  refine CallP.pure ?_ rfl (fun _ => rfl) h
  clear h
  refine callP_of C_ok Try.func22 rfl rfl (n := _) rfl (Nat.le_of_ble_eq_true rfl) (rs := _) rfl ?_
  conv => whnf
  refine LoopP.inv (fun i => i ≤ l.length ∧ i ≤ n.toNat) (fun i => ⟨[(1, I n), (2, I m), (3, .ptr 0 0), (6, .ptr 1 0), (7, .ptr 2 0), (8, I i)], Try.f22.ntmps, cuL l (l.take i), [], none⟩) (fun i => l.length - i) 0 ⟨Nat.zero_le _, Nat.zero_le _⟩ ?_ ?_
  · exact Weak.nilCellTo 2 0 1 _ rfl rfl (by decide) rfl ⟨rfl, rfl, rfl, rfl, rfl, rfl, trivial⟩
  rintro i ⟨hi, hin⟩
  have hti : (l.take i).length = i := by rw [List.length_take]; omega
  have hXi : ¬ (0 ≤ n ∧ n < l.length ∧ 0 < m) → ¬ ((i : Int) < l.length ∧ (i : Int) < n) → X = l.take i := fun h1 h2 => by
    rw [hX, cutF, if_neg h1, List.append_nil]
    by_cases hil : i = l.length
    · rw [List.take_of_length_le (by omega), List.take_of_length_le (by omega)]
    · rw [show n.toNat = i by omega]
  have hXj : ∀ (hj : i < l.length), (0 ≤ n ∧ n < l.length ∧ 0 < m) → ¬ (i : Int) < n → X = l.take i ++ [l[i].take m.toNat] := fun hj h1 h2 => by
    have e : n.toNat = i := by omega
    rw [hX, cutF, if_pos h1, e, List.getElem?_eq_getElem hj]; rfl
  generalize hA : l.take i = A at *
  have fin : ∀ {L : List Blk} A', X = A' → L[3]? = some (.row A'.length 1 (rdR A')) → Cw (fun b => 0 ≤ b) L (.agg [.own 3 A'.length 0 A'.length]) (lisV X) := fun A' e hL => by
    subst e
    refine .aggL (.cons (.rowL (ds := X.map fun r => [mts r]) (Nat.zero_le _) hL ?_ (List.length_map ..).symm ?_) .nil)
    · rw [List.drop_zero, List.take_of_length_le (by unfold rdR; rw [List.length_map]; exact Nat.le_refl _)]; exact rdR_rows X
    · intro e he; obtain ⟨x, _, rfl⟩ := List.mem_map.1 he; rfl
  repeat' (conv => whnf
           first | refine Br.dec (fun hb => ?_) (fun hb => ?_) | refine Br.tt ?_ | refine Br.ff ?_ | refine Br.dec (fun h => ?_) (fun h => ?_) | refine Br.not ?_ | refine Br.intro (fun h => ?_) (fun h => ?_) | refine GetE.intro _ rfl ?_ | refine Need.intro rfl ?_ | refine DrawP.go mixed rfl ?_)
  all_goals conv => whnf
  all_goals first
    | (exfalso; simp only [List.length_map] at *; omega)
    | skip
  · rename_i hb1
    have hi' : i < l.length := by simp only [List.length_map] at hb1; omega
    have hw : IntKind.i64.wrap ((i : Int) + 1) = ((i + 1 : Nat) : Int) := by rw [wrap_in (by omega)]; omega
    have hcn := cuL_next l A l[i]
    have hnx : A ++ [l[i]] = l.take (i + 1) := by rw [← hA, take_next hi']
    rw [hnx] at hcn
    refine DrawP.por mixed [1, 3] [[(0, 0), (2, 0), (4, 0), (1, 2), (3, 2), (5, 0), (6, 0), (7, 0), (8, 0), (9, 0), (10, 0)], [(0, 0), (2, 0), (4, 0), (3, 2), (5, 1), (6, 1), (1, 2), (7, 0), (8, 0), (9, 0), (10, 0)], [(0, 0), (2, 0), (4, 0), (3, 2), (5, 1), (6, 1), (7, 0), (1, 2), (8, 0), (9, 0), (10, 0)]] (by kernel_rfl) ?_
    conv => whnf
    refine And.intro ?_ ?_
    rotate_left 1
    conv => whnf
    refine And.intro ?_ ?_
    all_goals
      repeat' (conv => whnf
               first | refine QCallW.intro (.own 3 A.length 0 A.length) _ ⟨rfl, rfl⟩ ?_ | refine QCallW.intro (.d (lisD l)) _ ⟨rfl, rfl⟩ ?_ | refine Idx.map i rfl hi' ?_ | simp only [Nat.beq_refl, Bool.and_self] | refine Need.intro (show A.length + 1 ≤ 4294967296 by omega) ?_ | refine Br.tt ?_ | refine Br.ff ?_ | refine Br.dec (fun h => ?_) (fun h => ?_) | refine Br.not ?_ | refine Br.intro (fun h => ?_) (fun h => ?_) | refine GetE.intro _ rfl ?_ | refine Need.intro rfl ?_ | refine DrawP.go mixed rfl ?_)
    all_goals conv => whnf
    all_goals exact ⟨i + 1, ⟨hi', by omega⟩, by omega, Weak.to 4 (Eq.trans rfl hcn) (Nat.zero_le _) (Nat.le_of_ble_eq_true rfl) ⟨rfl, rfl, rfl, rfl, rfl, congrArg I hw, trivial⟩ (hB := cuL_bel l _)⟩
  · rename_i hb4 hb3 hb2 hb1
    have hi' : i < l.length := by simp only [List.length_map] at hb4; omega
    have hni : n = (i : Int) := by omega
    have hXa := hXj hi' ⟨hb2, by simp only [List.length_map] at hb1; omega, hb⟩ hb3
    have hcn := cuL_next l A (l[i].take m.toNat)
    have hm := hr _ (List.getElem_mem hi')
    have hrow : (rdR A).take A.length ++ [[V.d (.sl (((l[i].map Mt.cells).drop 0).take (min m.toNat l[i].length - 0)))]] = rdR (A ++ [l[i].take m.toNat]) := by
      rw [List.take_of_length_le (by unfold rdR; rw [List.length_map]; exact Nat.le_refl _), List.drop_zero, Nat.sub_zero]
      unfold rdR
      rw [List.map_append]
      refine congrArg (fun z => List.map (fun r => [V.d (mts r)]) A ++ [[V.d z]]) ?_
      unfold mts
      exact congrArg D.sl (take_mcells l[i] m.toNat)
    have fin2 : ∀ {L : List Blk} (R : List (List V)), L[3]? = some (.row (A.length + 1) 1 R) → R = rdR (A ++ [l[i].take m.toNat]) → Cw (fun b => 0 ≤ b) L (.agg [.own 3 (A.length + 1) 0 (A.length + 1)]) (lisV X) := fun {L} R hL hR => by
      have := fin (L := L) _ hXa (by rw [List.length_append]; rw [hL, hR]; rfl)
      rw [List.length_append] at this; exact this
    refine DrawP.por mixed [1, 3, 9] [[(0, 0), (2, 0), (4, 0), (7, 0), (8, 0), (10, 0), (1, 2), (3, 2), (5, 1), (6, 1), (9, 2), (11, 0), (12, 0), (13, 0), (14, 0), (15, 0), (16, 0), (17, 0), (18, 0), (19, 0)], [(0, 0), (2, 0), (4, 0), (7, 0), (8, 0), (10, 0), (1, 2), (9, 2), (11, 1), (12, 1), (13, 1), (3, 2), (5, 1), (6, 1), (14, 0), (15, 0), (16, 0), (17, 0), (18, 0), (19, 0)], [(0, 0), (2, 0), (4, 0), (7, 0), (8, 0), (10, 0), (1, 2), (9, 2), (11, 1), (12, 1), (13, 1), (14, 0), (3, 2), (5, 0), (6, 0), (15, 0), (16, 0), (17, 0), (18, 0), (19, 0)], [(0, 0), (2, 0), (4, 0), (7, 0), (8, 0), (10, 0), (3, 2), (5, 1), (6, 1), (1, 2), (9, 2), (11, 0), (12, 0), (13, 0), (14, 0), (15, 0), (16, 0), (17, 0), (18, 0), (19, 0)], [(0, 0), (2, 0), (4, 0), (7, 0), (8, 0), (10, 0), (3, 2), (5, 1), (6, 1), (9, 2), (11, 1), (12, 1), (13, 1), (1, 2), (14, 0), (15, 0), (16, 0), (17, 0), (18, 0), (19, 0)], [(0, 0), (2, 0), (4, 0), (7, 0), (8, 0), (10, 0), (3, 2), (5, 1), (6, 1), (9, 2), (11, 1), (12, 1), (13, 1), (14, 0), (15, 1), (1, 2), (16, 0), (17, 0), (18, 0), (19, 0)], [(0, 0), (2, 0), (4, 0), (7, 0), (8, 0), (10, 0), (3, 2), (5, 1), (6, 1), (9, 2), (11, 1), (12, 1), (13, 1), (14, 0), (15, 1), (16, 0), (1, 2), (17, 0), (18, 0), (19, 0)], [(0, 0), (2, 0), (4, 0), (7, 0), (8, 0), (10, 0), (9, 2), (11, 1), (12, 1), (13, 1), (1, 2), (3, 2), (5, 1), (6, 1), (14, 0), (15, 0), (16, 0), (17, 0), (18, 0), (19, 0)], [(0, 0), (2, 0), (4, 0), (7, 0), (8, 0), (10, 0), (9, 2), (11, 1), (12, 1), (13, 1), (1, 2), (14, 0), (3, 2), (5, 0), (6, 0), (15, 0), (16, 0), (17, 0), (18, 0), (19, 0)], [(0, 0), (2, 0), (4, 0), (7, 0), (8, 0), (10, 0), (9, 2), (11, 1), (12, 1), (13, 1), (3, 2), (5, 1), (6, 1), (1, 2), (14, 0), (15, 0), (16, 0), (17, 0), (18, 0), (19, 0)], [(0, 0), (2, 0), (4, 0), (7, 0), (8, 0), (10, 0), (9, 2), (11, 1), (12, 1), (13, 1), (3, 2), (5, 1), (6, 1), (14, 0), (15, 1), (1, 2), (16, 0), (17, 0), (18, 0), (19, 0)], [(0, 0), (2, 0), (4, 0), (7, 0), (8, 0), (10, 0), (9, 2), (11, 1), (12, 1), (13, 1), (3, 2), (5, 1), (6, 1), (14, 0), (15, 1), (16, 0), (1, 2), (17, 0), (18, 0), (19, 0)], [(0, 0), (2, 0), (4, 0), (7, 0), (8, 0), (10, 0), (9, 2), (11, 1), (12, 1), (13, 1), (14, 0), (1, 2), (3, 2), (5, 0), (6, 0), (15, 0), (16, 0), (17, 0), (18, 0), (19, 0)], [(0, 0), (2, 0), (4, 0), (7, 0), (8, 0), (10, 0), (9, 2), (11, 1), (12, 1), (13, 1), (14, 0), (3, 2), (5, 1), (6, 1), (15, 1), (1, 2), (16, 0), (17, 0), (18, 0), (19, 0)], [(0, 0), (2, 0), (4, 0), (7, 0), (8, 0), (10, 0), (9, 2), (11, 1), (12, 1), (13, 1), (14, 0), (3, 2), (5, 1), (6, 1), (15, 1), (16, 0), (1, 2), (17, 0), (18, 0), (19, 0)]] (by kernel_rfl) ?_
    conv => whnf
    refine And.intro ?_ ?_
    rotate_left 1
    conv => whnf
    refine And.intro ?_ ?_
    rotate_left 1
    conv => whnf
    refine And.intro ?_ ?_
    rotate_left 1
    conv => whnf
    refine And.intro ?_ ?_
    rotate_left 1
    conv => whnf
    refine And.intro ?_ ?_
    rotate_left 1
    conv => whnf
    refine And.intro ?_ ?_
    rotate_left 1
    conv => whnf
    refine And.intro ?_ ?_
    rotate_left 1
    conv => whnf
    refine And.intro ?_ ?_
    rotate_left 1
    conv => whnf
    refine And.intro ?_ ?_
    rotate_left 1
    conv => whnf
    refine And.intro ?_ ?_
    rotate_left 1
    conv => whnf
    refine And.intro ?_ ?_
    rotate_left 1
    conv => whnf
    refine And.intro ?_ ?_
    rotate_left 1
    conv => whnf
    refine And.intro ?_ ?_
    rotate_left 1
    conv => whnf
    refine And.intro ?_ ?_
    all_goals
      repeat' (conv => whnf
               first | refine QCallW.intro (.own 3 A.length 0 A.length) _ ⟨rfl, rfl⟩ ?_ | refine QCallW.intro (.d (lisD l)) _ ⟨rfl, rfl⟩ ?_ | refine Idx.map i hni hi' ?_ | simp only [Nat.beq_refl, Bool.and_self] | refine Need.intro (show A.length + 1 ≤ 4294967296 by omega) ?_ | refine Need.intro (fun e he => by obtain ⟨x, _, rfl⟩ := List.mem_map.1 he; rfl) ?_ | refine SliceP.intro 0 (min m.toNat l[i].length) rfl ?_ (Nat.zero_le _) ?_ ?_ | refine Br.tt ?_ | refine Br.ff ?_ | refine Br.dec (fun h => ?_) (fun h => ?_) | refine Br.not ?_ | refine Br.intro (fun h => ?_) (fun h => ?_) | refine GetE.intro _ rfl ?_ | refine Need.intro rfl ?_ | refine DrawP.go mixed rfl ?_)
    all_goals try conv => whnf
    all_goals first
      | (show (if ((l[i].map Mt.cells).length : Int) < m then ((l[i].map Mt.cells).length : Int) else m) = _
         rw [List.length_map]; split <;> omega)
      | (refine Nat.le_of_ble_eq_true ?_
         exact Nat.ble_eq_true_of_le (by rw [List.length_map]; exact Nat.min_le_right _ _))
      | (rw [List.length_map]; exact Nat.min_le_right _ _)
      | exact FinP.data (L' := []) (fin2 _ rfl hrow) rfl rfl ⟨rfl, rfl⟩
      | skip
  all_goals
    have hXA : X = A := by
      refine hXi (fun hh => ?_) fun hh => ?_
      · simp only [List.length_map] at *; omega
      · simp only [List.length_map] at *; omega
    exact FinP.data (L' := []) (fin A hXA rfl) rfl rfl ⟨rfl, rfl⟩
end Go.Proofs.Ytfhigmdfocbajaa
