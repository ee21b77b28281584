/-
  Mini, and its reference.
-/
import Derived.Test.YtnkfifkgbkgcjaaStatsM
import Derived.Test.YtnkfifkgbkgcjaaStatsP
import Derived.Test.YtnkfifkgbkgcjaaStatsR
import Derived.Test.YtnkfifkgbkgcjaaStatsT
namespace Go.Proofs.Ytnkfifkgbkgcjaa
open Go.Tidy
set_option maxRecDepth 100000
set_option maxHeartbeats 0
set_option linter.unusedSimpArgs false
set_option linter.unusedVariables false
variable {L : List Blk} {k : V → List Blk → Prop}
def miniF (l : List Res) (group : List Int) (w : Worth) : List Row × Int := if checkF l group w = 0 then rowsF (inG group l) group w else ([], checkF l group w)
theorem mini_c (l : List Res) (group : List Int) (w : Worth) (hl : l.length ≤ 4294967296) (hg : group.length ≤ 4611686018427387904) (h : k (.tup [.d (rowsD (miniF l group w).1), I (miniF l group w).2]) L) :
    CallP C 22 [.d (ress l), .d (ints group), I w.win, I w.draw, I w.loss] L k := by
  refine CallP.pure ?_ rfl (fun _ => rfl) h
  clear h
  unfold miniF
  refine callP_of C_ok Try.func22 rfl rfl (n := _) rfl (Nat.le_of_ble_eq_true rfl) (rs := _) rfl ?_
  conv => whnf
  refine check_b l group w (by omega) hg (fun h0 => ?_) (fun h0 => ?_)
  · rw [if_pos h0]
    rcases hR : rowsF (inG group l) group w with ⟨R, e⟩
    have hlen : (inG group l).length ≤ l.length := List.length_filter_le _ _
    have hE : (((inG group l).map resE ++ List.replicate (l.length - (inG group l).length) zR).drop 0).take (inG group l).length = ((inG group l).map Res.cells).map (fun e => e.map V.d) := by
      rw [resE_map, List.drop_zero, List.take_append_of_le_length (by simp), List.take_of_length_le (by simp)]
    have hE2 : (inG group l).length = ((inG group l).map Res.cells).length := by simp
    repeat' (conv => whnf
             first | refine Br.tt ?_ | refine Br.ff ?_ | refine Br.dec (fun h => ?_) (fun h => ?_) | refine Br.not ?_ | refine Br.intro (fun h => ?_) (fun h => ?_) | refine GetE.intro _ rfl ?_ | refine Need.intro rfl ?_)
    conv => whnf
    refine DrawP.por mixed [1, 3, 4, 8] [[(0, 0), (2, 0), (5, 0), (6, 0), (7, 0), (1, 2), (3, 2), (4, 2), (8, 2), (9, 0), (10, 0), (11, 0), (12, 0)], [(0, 0), (2, 0), (5, 0), (6, 0), (7, 0), (1, 2), (4, 2), (3, 2), (8, 2), (9, 0), (10, 0), (11, 0), (12, 0)], [(0, 0), (2, 0), (5, 0), (6, 0), (7, 0), (4, 2), (1, 2), (3, 2), (8, 2), (9, 0), (10, 0), (11, 0), (12, 0)]] (by kernel_rfl) ?_
    conv => whnf
    refine And.intro ?_ ?_
    rotate_left 1
    conv => whnf
    refine And.intro ?_ ?_
    all_goals
      repeat' (conv => whnf
               first | refine Br.tt ?_ | refine Br.ff ?_ | refine Br.dec (fun h => ?_) (fun h => ?_) | refine Br.not ?_ | refine Br.intro (fun h => ?_) (fun h => ?_) | refine GetE.intro _ rfl ?_ | refine Need.intro rfl ?_ | refine QCallW.intro _ _ (clone_c l hl ⟨rfl, rfl⟩) ?_ | refine QCallW.intro _ _ ((delete_0 l group hl hg).mono fun _ _ h => ⟨h.2, h.1⟩) ?_ | refine QCallW.intro (.d (ints group)) _ ⟨rfl, rfl⟩ ?_ | refine QCallW.intro _ _ (CallP.freeze [1] rfl rfl (.cv (.d (.row ((inG group l).map Res.cells) (.head _) rfl hE hE2 (cells13 _))) (.keep (.keep (.keep (.keep .nil))))) (rows_e hR (by omega) hg ⟨rfl, rfl⟩)) ?_)
    all_goals conv => whnf
    all_goals exact FinP.data (L' := []) (.pair (.d (.d _)) (.d (.d _))) rfl rfl ⟨rfl, rfl⟩
  · rw [if_neg h0]
    conv => whnf
    refine Br.yes (by simp [h0]) ?_
    repeat' (conv => whnf
             first | refine Br.tt ?_ | refine Br.ff ?_ | refine Br.dec (fun h => ?_) (fun h => ?_) | refine Br.not ?_ | refine Br.intro (fun h => ?_) (fun h => ?_) | refine GetE.intro _ rfl ?_ | refine Need.intro rfl ?_ | refine DrawP.go mixed rfl ?_)
    conv => whnf
    exact FinP.data (L' := []) (.pair (.d .nil) (.d (.d _))) rfl rfl ⟨rfl, rfl⟩
theorem has_of {group : List Int} {n : Int} (h : 0 ≤ findI (fun m => decide (m = n)) group) : group.contains n = true := by
  have h2 := findI_any (fun m => decide (m = n)) group
  rw [decide_eq_true h] at h2
  obtain ⟨m, hm, he⟩ := List.any_eq_true.1 h2.symm
  have : m = n := of_decide_eq_true he
  subst this
  simpa using hm
theorem not_has {group : List Int} {n : Int} (h : ¬ 0 ≤ findI (fun m => decide (m = n)) group) : group.contains n = false := by
  have h2 := findI_any (fun m => decide (m = n)) group
  rw [decide_eq_false h] at h2
  cases hc : group.contains n with
  | false => rfl
  | true =>
    have h3 := List.any_eq_false.1 h2.symm n (by simpa using hc)
    simp at h3
theorem known_of {group : List Int} {r : Res} (h1 : 0 ≤ findI (fun m => decide (m = r.game.home)) group) (h2 : 0 ≤ findI (fun m => decide (m = r.game.away)) group) : known group r = true := by
  unfold known; rw [has_of h1, has_of h2]; rfl
theorem in_next {group : List Int} {l : List Res} {j : Nat} (hj : j < l.length) (h : known group l[j] = true) : inG group (l.take (j + 1)) = inG group (l.take j) ++ [l[j]] := by
  rw [take_next hj, inG, inG, List.filter_append]; simp [h]
theorem in_skip {group : List Int} {l : List Res} {j : Nat} (hj : j < l.length) (h : known group l[j] = false) : inG group (l.take (j + 1)) = inG group (l.take j) := by
  rw [take_next hj, inG, inG, List.filter_append]; simp [h]
theorem rrows_e {l : List Res} {clubs : List Int} {w : Worth} {R : List Row} {e : Int} (he : rowsF l clubs w = (R, e)) (hl : l.length ≤ 4611686018427387904) (hc : clubs.length ≤ 4611686018427387904) (h : k (.tup [.d (rowsD R), I e]) L) :
    CallP C 14 [.d (ress l), .d (ints clubs), I w.win, I w.draw, I w.loss] L k := by
  refine rrows_c l clubs w hl hc ?_
  rw [he]; exact h
theorem within_0 (l : List Res) (group : List Int) (hl : l.length ≤ 4294967296) (hg : group.length ≤ 4611686018427387904) :
    CallP C 37 [.d (ress l), .d (ints group)] [] fun X L' => L' = [.row (inG group l).length 13 ((inG group l).map resE)] ∧ X = .own 0 (inG group l).length 0 (inG group l).length := by
  refine callP_of C_ok Try.func37 rfl rfl (n := _) rfl (Nat.le_of_ble_eq_true rfl) (rs := _) rfl ?_
  conv => whnf
  refine LoopP.intro (ι := { j : Nat // j ≤ l.length })
    (fun j => ⟨[(0, .d (ress l)), (1, .d (ints group)), (5, .own 0 (inG group (l.take j.1)).length 0 (inG group (l.take j.1)).length), (6, I j.1)], 42, [.row (inG group (l.take j.1)).length 13 ((inG group (l.take j.1)).map resE)], [], none⟩) (fun j => l.length - j.1) ⟨0, Nat.zero_le _⟩ ?_ ?_
  · exact Weak.by ⟨rfl, rfl, rfl, rfl, trivial⟩
  rintro ⟨j, hj⟩
  conv => whnf
  refine Br.dec (fun hb => ?_) (fun hb => ?_)
  · have hj' : j < l.length := by simpa using hb
    have hlen : (inG group (l.take j)).length ≤ j := Nat.le_trans (List.length_filter_le _ _) (by simp; omega)
    have hw : IntKind.i64.wrap ((j : Int) + 1) = ((j + 1 : Nat) : Int) := by rw [wrap_in (by omega)]; omega
    repeat' (conv => whnf
             first | refine Br.tt ?_ | refine Br.ff ?_ | refine Br.dec (fun h => ?_) (fun h => ?_) | refine Br.not ?_ | refine Br.intro (fun h => ?_) (fun h => ?_) | refine GetE.intro _ rfl ?_ | refine Need.intro rfl ?_ | refine DrawP.go mixed rfl ?_ | refine Idx.map j rfl hj' ?_)
    refine rindex_c group _ hg ?_
    repeat' (conv => whnf
             first | refine Br.tt ?_ | refine Br.ff ?_ | refine Br.dec (fun h => ?_) (fun h => ?_) | refine Br.not ?_ | refine Br.intro (fun h => ?_) (fun h => ?_) | refine GetE.intro _ rfl ?_ | refine Need.intro rfl ?_ | refine DrawP.go mixed rfl ?_ | refine Idx.map j rfl hj' ?_ | refine rindex_c group _ hg ?_ | simp only [Nat.beq_refl, Bool.and_self] | refine Need.intro (by first | omega | (simp; omega)) ?_)
    all_goals conv => whnf
    · rename_i h1
      have e1 := in_next hj' (known_of h1 h)
      refine ⟨⟨j + 1, hj'⟩, by simp only []; omega, Weak.to 1 (Eq.trans (b := [Blk.row ((inG group (l.take j)).length + 1) 13 (((inG group (l.take j)).map resE).take (inG group (l.take j)).length ++ [resE l[j]])]) rfl ?_) (Nat.zero_le _) (Nat.le_of_ble_eq_true rfl)
        ⟨rfl, rfl, Eq.trans (b := V.own 0 ((inG group (l.take j)).length + 1) 0 ((inG group (l.take j)).length + 1)) rfl ?_, congrArg I hw, trivial⟩ (hB := res_bel _ _ _)⟩
      · simp only [e1, List.length_append, List.map_append, List.length_cons, List.length_nil, Nat.zero_add, List.map_cons, List.map_nil]
        rw [List.take_of_length_le (l := (inG group (l.take j)).map resE) (by simp)]
      · simp only [e1, List.length_append, List.length_cons, List.length_nil, Nat.zero_add]
        rfl
    · rename_i h1
      have e1 := in_skip (group := group) hj' (by unfold known; rw [not_has h]; simp)
      exact ⟨⟨j + 1, hj'⟩, by simp only []; omega, Weak.to 1 (by simp only [e1]; rfl) (Nat.zero_le _) (Nat.le_of_ble_eq_true rfl) ⟨rfl, rfl, by simp only [e1]; rfl, congrArg I hw, trivial⟩ (hB := res_bel _ _ _)⟩
    · have e1 := in_skip (group := group) hj' (by unfold known; rw [not_has h]; simp)
      exact ⟨⟨j + 1, hj'⟩, by simp only []; omega, Weak.to 1 (by simp only [e1]; rfl) (Nat.zero_le _) (Nat.le_of_ble_eq_true rfl) ⟨rfl, rfl, by simp only [e1]; rfl, congrArg I hw, trivial⟩ (hB := res_bel _ _ _)⟩
  · have hje : j = l.length := by simp at hb; omega
    subst hje
    have e1 : l.take l.length = l := List.take_length
    repeat' (conv => whnf
             first | refine Br.tt ?_ | refine Br.ff ?_ | refine Br.dec (fun h => ?_) (fun h => ?_) | refine Br.not ?_ | refine Br.intro (fun h => ?_) (fun h => ?_) | refine GetE.intro _ rfl ?_ | refine Need.intro rfl ?_ | refine DrawP.go mixed rfl ?_)
    conv => whnf
    refine FinP.drop (n := 1) (L' := [.row (inG group l).length 13 ((inG group l).map resE)]) (Eq.trans (b := [.row (inG group (l.take l.length)).length 13 ((inG group (l.take l.length)).map resE)]) rfl (by rw [e1])) (Nat.zero_le _) rfl (res_bel _ _ _)
      ⟨rfl, Eq.trans (b := V.own 0 (inG group (l.take l.length)).length 0 (inG group (l.take l.length)).length) rfl (by rw [e1])⟩
theorem rwithinL_c (l : List Res) (group : List Int) (hl : l.length ≤ 4294967296) (hg : group.length ≤ 4611686018427387904) (h : k (.own L.length (inG group l).length 0 (inG group l).length) (L ++ [.row (inG group l).length 13 ((inG group l).map resE)])) :
    CallP C 37 [.d (ress l), .d (ints group)] L k := by
  refine (within_0 l group hl hg).frame rfl fun X L' h' => ?_
  obtain ⟨rfl, rfl⟩ := h'
  simpa [V.sh, shB, Blk.sh, shR_res] using h
theorem rmini_c (l : List Res) (group : List Int) (w : Worth) (hl : l.length ≤ 4294967296) (hg : group.length ≤ 4611686018427387904) (h : k (.tup [.d (rowsD (miniF l group w).1), I (miniF l group w).2]) L) :
    CallP C 23 [.d (ress l), .d (ints group), I w.win, I w.draw, I w.loss] L k := by
  refine CallP.pure ?_ rfl (fun _ => rfl) h
  clear h
  have hlen : (inG group l).length ≤ l.length := List.length_filter_le _ _
  have hE : (((inG group l).map resE).drop 0).take (inG group l).length = ((inG group l).map Res.cells).map (fun e => e.map V.d) := by
    rw [resE_map, List.drop_zero, List.take_of_length_le (by simp)]
  have hE2 : (inG group l).length = ((inG group l).map Res.cells).length := by simp
  unfold miniF
  refine callP_of C_ok Try.func23 rfl rfl (n := _) rfl (Nat.le_of_ble_eq_true rfl) (rs := _) rfl ?_
  conv => whnf
  refine rchecked_c l group w (by omega) hg ?_
  by_cases h0 : checkF l group w = 0
  · rw [if_pos h0, h0]
    rcases hR : rowsF (inG group l) group w with ⟨R, e⟩
    repeat' (conv => whnf
             first | refine Br.tt ?_ | refine Br.ff ?_ | refine Br.dec (fun h => ?_) (fun h => ?_) | refine Br.not ?_ | refine Br.intro (fun h => ?_) (fun h => ?_) | refine GetE.intro _ rfl ?_ | refine Need.intro rfl ?_ | refine DrawP.go mixed rfl ?_ | refine rwithinL_c l group hl hg ?_)
    conv => whnf
    refine CallP.freeze [0] rfl rfl (.cv (.d (.row ((inG group l).map Res.cells) (.head _) rfl hE hE2 (cells13 _))) (.keep (.keep (.keep (.keep .nil))))) (rrows_e hR (by omega) hg ?_)
    repeat' (conv => whnf
             first | refine Br.tt ?_ | refine Br.ff ?_ | refine Br.dec (fun h => ?_) (fun h => ?_) | refine Br.not ?_ | refine Br.intro (fun h => ?_) (fun h => ?_) | refine GetE.intro _ rfl ?_ | refine Need.intro rfl ?_ | refine DrawP.go mixed rfl ?_)
    conv => whnf
    exact FinP.data (L' := []) (.pair (.d (.d _)) (.d (.d _))) rfl rfl ⟨rfl, rfl⟩
  · rw [if_neg h0]
    conv => whnf
    refine Br.yes (by simp [h0]) ?_
    repeat' (conv => whnf
             first | refine Br.tt ?_ | refine Br.ff ?_ | refine Br.dec (fun h => ?_) (fun h => ?_) | refine Br.not ?_ | refine Br.intro (fun h => ?_) (fun h => ?_) | refine GetE.intro _ rfl ?_ | refine Need.intro rfl ?_ | refine DrawP.go mixed rfl ?_)
    conv => whnf
    exact FinP.data (L' := []) (.pair (.d .nil) (.d (.d _))) rfl rfl ⟨rfl, rfl⟩
end Go.Proofs.Ytnkfifkgbkgcjaa
