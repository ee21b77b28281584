/-
  The statement StatsMiniTables.
-/
import Derived.Test.YtnkfifkgbkgcjaaLawB
import Derived.Test.YtnkfifkgbkgcjaaStatsW
namespace Go.Proofs.Ytnkfifkgbkgcjaa.miniTables
open Go.Tidy Go.ChangeShapes Go.WideShapes Go.ChangeAt Go.RowKit
set_option maxRecDepth 100000
set_option maxHeartbeats 0
set_option linter.unusedSimpArgs false
set_option linter.unusedVariables false
theorem miniF_len (l : List Res) (clubs : List Int) (w : Worth) : (miniF l clubs w).1.length ≤ clubs.length := by
  unfold miniF rowsF
  split
  · split
    · split <;> simp
    · simp
  · simp
theorem rowsF_len (l : List Res) (clubs : List Int) (w : Worth) : (rowsF l clubs w).1.length ≤ clubs.length := by
  unfold rowsF
  split
  · split <;> simp
  · simp
def hasU (group : List Int) (m : Nat) (n : Int) : Bool := (group.take m).any fun c => decide (c = n)
theorem hasU_next {group : List Int} {m : Nat} (hm : m < group.length) (n : Int) : hasU group (m + 1) n = (hasU group m n || decide (group[m] = n)) := by
  unfold hasU; rw [take_next hm, List.any_append]; simp
theorem hasU_all {group : List Int} {m : Nat} (hm : ¬ m < group.length) (n : Int) : hasU group m n = group.contains n := by
  unfold hasU; rw [List.take_of_length_le (by omega), List.contains_eq_any_beq]
  exact congrArg (fun f => List.any group f) (funext fun c => by rw [Bool.beq_eq_decide_eq]; exact decide_eq_decide.2 eq_comm)
theorem hasU_t {group : List Int} {m : Nat} (hm : m < group.length) {n : Int} (h : hasU group m n = true) : true = hasU group (m + 1) n := by rw [hasU_next hm, h]; rfl
theorem hasU_f {group : List Int} {m : Nat} (hm : m < group.length) {n : Int} (h : hasU group m n = false) : decide (group[m] = n) = hasU group (m + 1) n := by rw [hasU_next hm, h]; rfl
theorem known_yes {group : List Int} {m : Nat} (hm : ¬ m < group.length) {r : Res} (h1 : hasU group m r.game.home = true) (h2 : hasU group m r.game.away = true) : known group r = true := by
  rw [hasU_all hm] at h1 h2
  unfold known; rw [h1, h2]; rfl
theorem known_no {group : List Int} {m : Nat} (hm : ¬ m < group.length) {r : Res} (h : hasU group m r.game.home = false ∨ hasU group m r.game.away = false) : known group r = false := by
  rw [hasU_all hm, hasU_all hm] at h
  unfold known
  rcases h with h | h <;> rw [h] <;> simp
/-- What is known of the three answers ahead. -/
structure Ans (l : List Res) (clubs group : List Int) (w : Worth) (R1 R2 R3 : List Row) (e1 e2 e3 : Int) : Prop where
  h1 : rowsF l clubs w = (R1, e1)
  h2 : miniF l clubs w = (R2, e2)
  h3 : miniF l group w = (R3, e3)
  same : e1 = 0 → e2 = 0 ∧ R1 = R2
  none : e3 ≠ 0 → R3 = []
  rows : e3 = 0 → rowsF (inG group l) group w = (R3, 0)
theorem ans (l : List Res) (clubs group : List Int) (w : Worth) : ∃ R1 R2 R3 e1 e2 e3, Ans l clubs group w R1 R2 R3 e1 e2 e3 := by
  rcases h1 : rowsF l clubs w with ⟨R1, e1⟩
  rcases h2 : miniF l clubs w with ⟨R2, e2⟩
  rcases h3 : miniF l group w with ⟨R3, e3⟩
  refine ⟨R1, R2, R3, e1, e2, e3, h1, h2, h3, fun h => ?_, fun h => ?_, fun h => ?_⟩
  · subst h
    by_cases ha : AllOk l clubs w
    · have hin : inG clubs l = l := List.filter_eq_self.2 ha.2.2.2
      have : miniF l clubs w = rowsF l clubs w := by
        unfold miniF; rw [if_pos (checkF_zero.2 ⟨ha.1, ha.2.1, ha.2.2.1⟩), hin]
      rw [this, h1] at h2
      injection h2 with a b
      exact ⟨b.symm, a⟩
    · obtain ⟨e, he, hr⟩ := rowsF_bad ha
      rw [hr] at h1
      injection h1 with a b
      exact absurd b he
  · unfold miniF at h3
    by_cases h0 : checkF l group w = 0
    · rw [if_pos h0] at h3
      by_cases ha : AllOk (inG group l) group w
      · rw [rowsF_ok ha] at h3
        injection h3 with a b
        exact absurd b.symm h
      · obtain ⟨e, he, hr⟩ := rowsF_bad ha
        rw [hr] at h3
        injection h3 with a b
        exact a.symm
    · rw [if_neg h0] at h3
      injection h3 with a b
      exact a.symm
  · subst h
    unfold miniF at h3
    by_cases h0 : checkF l group w = 0
    · rw [if_pos h0] at h3
      exact h3
    · rw [if_neg h0] at h3
      injection h3 with a b
      exact absurd b h0
theorem mini_e {L : List Blk} {k : V → List Blk → Prop} {l : List Res} {clubs : List Int} {w : Worth} {R : List Row} {e : Int} (he : miniF l clubs w = (R, e)) (hl : l.length ≤ 4294967296) (hc : clubs.length ≤ 4611686018427387904) (h : k (.tup [.d (rowsD R), I e]) L) :
    CallP C 22 [.d (ress l), .d (ints clubs), I w.win, I w.draw, I w.loss] L k := by
  refine mini_c l clubs w hl hc ?_
  rw [he]; exact h
theorem few_b {L : List Blk} {k : V → List Blk → Prop} {l : List Res} {clubs : List Int} (h : l.length ≤ 40 ∧ clubs.length ≤ 30) (hk : k (B true) L) : CallP C 12 [.d (ress l), .d (ints clubs)] L k := by
  refine few_c l clubs ?_
  rw [decide_eq_true h]; exact hk
theorem law1 (l : List Res) (clubs group : List Int) (w : Worth) (hf : l.length ≤ 40 ∧ clubs.length ≤ 30) (hg : l.length ≤ 40 ∧ group.length ≤ 30) {R1 R2 R3 : List Row} {e1 e2 e3 : Int} (ha : Ans l clubs group w R1 R2 R3 e1 e2 e3) :
    CallP C 10 [.d (ress l), .d (ints clubs), .d (ints group), I w.win, I w.draw, I w.loss] [] fun X L => L = [] ∧ X = .d (.bool true) := by
  have hR1 : R1.length ≤ 4611686018427387904 := by have := rowsF_len l clubs w; rw [ha.h1] at this; simp only at this; omega
  have hR3 : R3.length ≤ 4611686018427387904 := by have := miniF_len l group w; rw [ha.h3] at this; simp only at this; omega
  have hlen : (inG group l).length ≤ l.length := List.length_filter_le _ _
  by_cases he3 : e3 = 0
  · subst he3
    have hrows := ha.rows rfl
    by_cases he1 : e1 = 0
    · obtain ⟨he2, hsame⟩ := ha.same he1
      subst he1 he2
      refine callP_of C_ok Try.func10 rfl rfl (n := _) rfl (Nat.le_of_ble_eq_true rfl) (rs := _) rfl ?_
      conv => whnf
      refine sane_c ?_
      repeat' (conv => whnf
               first | refine Br.tt ?_ | refine Br.ff ?_ | refine Br.dec (fun h => ?_) (fun h => ?_) | refine Br.not ?_ | refine Br.intro (fun h => ?_) (fun h => ?_) | refine GetE.intro _ rfl ?_ | refine Need.intro rfl ?_ | refine DrawP.go mixed rfl ?_ | refine few_b hf ?_ | refine few_b hg ?_ | refine rows_e ha.h1 (by omega) (by omega) ?_ | refine mini_e ha.h2 (by omega) (by omega) ?_ | refine mini_e ha.h3 (by omega) (by omega) ?_ | refine same_e (decide_eq_true hsame) hR1 ?_ | refine QCall.intro _ (same_e (decide_eq_true hsame) hR1 ⟨rfl, rfl⟩) ?_)
      conv => whnf
      refine LoopP.intro (ι := { j : Nat // j ≤ l.length })
        (fun j => ⟨[(0, .d (ress l)), (2, .d (ints group)), (3, I w.win), (4, I w.draw), (5, I w.loss), (17, .d (rowsD R3)), (19, .own 0 (inG group (l.take j.1)).length 0 (inG group (l.take j.1)).length), (20, I j.1)], 150, [.row (inG group (l.take j.1)).length 13 ((inG group (l.take j.1)).map resE)], [], none⟩) (fun j => l.length - j.1) ⟨0, Nat.zero_le _⟩ ?_ ?_
      · exact Weak.by ⟨rfl, rfl, rfl, rfl, rfl, rfl, rfl, rfl, trivial⟩
      rintro ⟨j, hj⟩
      conv => whnf
      refine Br.dec (fun hb => ?_) (fun hb => ?_)
      · have hj' : j < l.length := by simpa using hb
        have hlen : (inG group (l.take j)).length ≤ j := Nat.le_trans (List.length_filter_le _ _) (by simp; omega)
        have hw : IntKind.i64.wrap ((j : Int) + 1) = ((j + 1 : Nat) : Int) := by rw [wrap_in (by omega)]; omega
        repeat' (conv => whnf
                 first | refine Br.tt ?_ | refine Br.ff ?_ | refine Br.dec (fun h => ?_) (fun h => ?_) | refine Br.not ?_ | refine Br.intro (fun h => ?_) (fun h => ?_) | refine GetE.intro _ rfl ?_ | refine Need.intro rfl ?_ | refine DrawP.go mixed rfl ?_)
        conv => whnf
        refine LoopP.intro (ι := { m : Nat // m ≤ group.length })
          (fun m => ⟨[(0, .d (ress l)), (2, .d (ints group)), (3, I w.win), (4, I w.draw), (5, I w.loss), (17, .d (rowsD R3)), (19, .own 0 (inG group (l.take j)).length 0 (inG group (l.take j)).length), (20, I j), (21, B (hasU group m.1 l[j].game.home)), (22, B (hasU group m.1 l[j].game.away)), (23, I m.1)], 150,
            [.row (inG group (l.take j)).length 13 ((inG group (l.take j)).map resE)], [], none⟩) (fun m => group.length - m.1) ⟨0, Nat.zero_le _⟩ ?_ ?_
        · exact Weak.by ⟨rfl, rfl, rfl, rfl, rfl, rfl, rfl, rfl, rfl, rfl, rfl, trivial⟩
        rintro ⟨m, hm⟩
        conv => whnf
        refine Br.dec (fun hbm => ?_) (fun hbm => ?_)
        · have hm' : m < group.length := by simpa using hbm
          have hwm : IntKind.i64.wrap ((m : Int) + 1) = ((m + 1 : Nat) : Int) := by rw [wrap_in (by omega)]; omega
          repeat' (conv => whnf
                   first | refine Br.tt ?_ | refine Br.ff ?_ | refine Br.dec (fun h => ?_) (fun h => ?_) | refine Br.not ?_ | refine Br.intro (fun h => ?_) (fun h => ?_) | refine GetE.intro _ rfl ?_ | refine Need.intro rfl ?_ | refine DrawP.go mixed rfl ?_ | refine Idx.map j rfl hj' ?_ | refine Idx.map m rfl hm' ?_)
          all_goals conv => whnf
          · rename_i h1
            exact ⟨⟨m + 1, hm'⟩, by simp only []; omega, Weak.by ⟨rfl, rfl, rfl, rfl, rfl, rfl, rfl, rfl, congrArg B (hasU_t hm' h1), congrArg B (hasU_t hm' h), congrArg I hwm, trivial⟩⟩
          · rename_i h1
            exact ⟨⟨m + 1, hm'⟩, by simp only []; omega, Weak.by ⟨rfl, rfl, rfl, rfl, rfl, rfl, rfl, rfl, congrArg B (hasU_t hm' h1), congrArg B (hasU_f hm' h), congrArg I hwm, trivial⟩⟩
          · rename_i h1
            exact ⟨⟨m + 1, hm'⟩, by simp only []; omega, Weak.by ⟨rfl, rfl, rfl, rfl, rfl, rfl, rfl, rfl, congrArg B (hasU_f hm' h1), congrArg B (hasU_t hm' h), congrArg I hwm, trivial⟩⟩
          · rename_i h1
            exact ⟨⟨m + 1, hm'⟩, by simp only []; omega, Weak.by ⟨rfl, rfl, rfl, rfl, rfl, rfl, rfl, rfl, congrArg B (hasU_f hm' h1), congrArg B (hasU_f hm' h), congrArg I hwm, trivial⟩⟩
        · have hme : ¬ m < group.length := by simpa using hbm
          repeat' (conv => whnf
                   first | refine Br.tt ?_ | refine Br.ff ?_ | refine Br.dec (fun h => ?_) (fun h => ?_) | refine Br.not ?_ | refine Br.intro (fun h => ?_) (fun h => ?_) | refine GetE.intro _ rfl ?_ | refine Need.intro rfl ?_ | refine DrawP.go mixed rfl ?_ | refine Idx.map j rfl hj' ?_ | simp only [Nat.beq_refl, Bool.and_self] | refine Need.intro (by first | omega | (simp; omega)) ?_)
          all_goals conv => whnf
          · rename_i h1
            have e1 := in_next (group := group) hj' (known_yes hme h1 h)
            refine ⟨⟨j + 1, hj'⟩, by simp only []; omega, Weak.to 1 (Eq.trans (b := [Blk.row ((inG group (l.take j)).length + 1) 13 (((inG group (l.take j)).map resE).take (inG group (l.take j)).length ++ [resE l[j]])]) rfl ?_) (Nat.zero_le _) (Nat.le_of_ble_eq_true rfl)
              ⟨rfl, rfl, rfl, rfl, rfl, rfl, Eq.trans (b := V.own 0 ((inG group (l.take j)).length + 1) 0 ((inG group (l.take j)).length + 1)) rfl ?_, congrArg I hw, trivial⟩ (hB := res_bel _ _ _)⟩
            · simp only [e1, List.length_append, List.map_append, List.length_cons, List.length_nil, Nat.zero_add, List.map_cons, List.map_nil]
              rw [List.take_of_length_le (l := (inG group (l.take j)).map resE) (by simp)]
            · simp only [e1, List.length_append, List.length_cons, List.length_nil, Nat.zero_add]
              rfl
          · rename_i h1
            have e1 := in_skip (group := group) hj' (known_no hme (.inr h))
            exact ⟨⟨j + 1, hj'⟩, by simp only []; omega, Weak.to 1 (by simp only [e1]; rfl) (Nat.zero_le _) (Nat.le_of_ble_eq_true rfl) ⟨rfl, rfl, rfl, rfl, rfl, rfl, by simp only [e1]; rfl, congrArg I hw, trivial⟩ (hB := res_bel _ _ _)⟩
          · have e1 := in_skip (group := group) hj' (known_no hme (.inl h))
            exact ⟨⟨j + 1, hj'⟩, by simp only []; omega, Weak.to 1 (by simp only [e1]; rfl) (Nat.zero_le _) (Nat.le_of_ble_eq_true rfl) ⟨rfl, rfl, rfl, rfl, rfl, rfl, by simp only [e1]; rfl, congrArg I hw, trivial⟩ (hB := res_bel _ _ _)⟩
      · have hje : j = l.length := by simp at hb; omega
        subst hje
        have e1 : l.take l.length = l := List.take_length
        have hE : (((inG group (l.take l.length)).map resE).drop 0).take (inG group (l.take l.length)).length = ((inG group l).map Res.cells).map (fun e => e.map V.d) := by
          rw [e1, resE_map, List.drop_zero, List.take_of_length_le (by simp)]
        have hE2 : (inG group (l.take l.length)).length = ((inG group l).map Res.cells).length := by rw [e1]; simp
        repeat' (conv => whnf
                 first | refine Br.tt ?_ | refine Br.ff ?_ | refine Br.dec (fun h => ?_) (fun h => ?_) | refine Br.not ?_ | refine Br.intro (fun h => ?_) (fun h => ?_) | refine GetE.intro _ rfl ?_ | refine Need.intro rfl ?_ | refine DrawP.go mixed rfl ?_)
        conv => whnf
        refine CallP.freeze [0] rfl rfl (.cv (.d (.row ((inG group l).map Res.cells) (.head _) rfl hE hE2 (cells13 _))) (.keep (.keep (.keep (.keep .nil))))) (rows_e hrows (by omega) (by omega) ?_)
        repeat' (conv => whnf
                 first | refine Br.tt ?_ | refine Br.ff ?_ | refine Br.dec (fun h => ?_) (fun h => ?_) | refine Br.not ?_ | refine Br.intro (fun h => ?_) (fun h => ?_) | refine GetE.intro _ rfl ?_ | refine Need.intro rfl ?_ | refine DrawP.go mixed rfl ?_ | refine QCall.intro _ (same_e (a := R3) (b := R3) (decide_eq_true rfl) hR3 ⟨rfl, rfl⟩) ?_ | refine same_e (a := R3) (b := R3) (decide_eq_true rfl) hR3 ?_)
        conv => whnf
        exact FinP.drop (n := 0) rfl (Nat.le_refl 0) rfl rfl ⟨rfl, rfl⟩
    · refine callP_of C_ok Try.func10 rfl rfl (n := _) rfl (Nat.le_of_ble_eq_true rfl) (rs := _) rfl ?_
      conv => whnf
      refine sane_c ?_
      repeat' (conv => whnf
               first | refine Br.tt ?_ | refine Br.ff ?_ | refine Br.dec (fun h => ?_) (fun h => ?_) | refine Br.not ?_ | refine Br.intro (fun h => ?_) (fun h => ?_) | refine GetE.intro _ rfl ?_ | refine Need.intro rfl ?_ | refine DrawP.go mixed rfl ?_ | refine few_b hf ?_ | refine few_b hg ?_ | refine rows_e ha.h1 (by omega) (by omega) ?_ | refine mini_e ha.h2 (by omega) (by omega) ?_ | refine mini_e ha.h3 (by omega) (by omega) ?_)
      all_goals first | (exfalso; omega) | skip
      conv => whnf
      refine LoopP.intro (ι := { j : Nat // j ≤ l.length })
        (fun j => ⟨[(0, .d (ress l)), (2, .d (ints group)), (3, I w.win), (4, I w.draw), (5, I w.loss), (17, .d (rowsD R3)), (19, .own 0 (inG group (l.take j.1)).length 0 (inG group (l.take j.1)).length), (20, I j.1)], 150, [.row (inG group (l.take j.1)).length 13 ((inG group (l.take j.1)).map resE)], [], none⟩) (fun j => l.length - j.1) ⟨0, Nat.zero_le _⟩ ?_ ?_
      · exact Weak.by ⟨rfl, rfl, rfl, rfl, rfl, rfl, rfl, rfl, trivial⟩
      rintro ⟨j, hj⟩
      conv => whnf
      refine Br.dec (fun hb => ?_) (fun hb => ?_)
      · have hj' : j < l.length := by simpa using hb
        have hlen : (inG group (l.take j)).length ≤ j := Nat.le_trans (List.length_filter_le _ _) (by simp; omega)
        have hw : IntKind.i64.wrap ((j : Int) + 1) = ((j + 1 : Nat) : Int) := by rw [wrap_in (by omega)]; omega
        repeat' (conv => whnf
                 first | refine Br.tt ?_ | refine Br.ff ?_ | refine Br.dec (fun h => ?_) (fun h => ?_) | refine Br.not ?_ | refine Br.intro (fun h => ?_) (fun h => ?_) | refine GetE.intro _ rfl ?_ | refine Need.intro rfl ?_ | refine DrawP.go mixed rfl ?_)
        conv => whnf
        refine LoopP.intro (ι := { m : Nat // m ≤ group.length })
          (fun m => ⟨[(0, .d (ress l)), (2, .d (ints group)), (3, I w.win), (4, I w.draw), (5, I w.loss), (17, .d (rowsD R3)), (19, .own 0 (inG group (l.take j)).length 0 (inG group (l.take j)).length), (20, I j), (21, B (hasU group m.1 l[j].game.home)), (22, B (hasU group m.1 l[j].game.away)), (23, I m.1)], 150,
            [.row (inG group (l.take j)).length 13 ((inG group (l.take j)).map resE)], [], none⟩) (fun m => group.length - m.1) ⟨0, Nat.zero_le _⟩ ?_ ?_
        · exact Weak.by ⟨rfl, rfl, rfl, rfl, rfl, rfl, rfl, rfl, rfl, rfl, rfl, trivial⟩
        rintro ⟨m, hm⟩
        conv => whnf
        refine Br.dec (fun hbm => ?_) (fun hbm => ?_)
        · have hm' : m < group.length := by simpa using hbm
          have hwm : IntKind.i64.wrap ((m : Int) + 1) = ((m + 1 : Nat) : Int) := by rw [wrap_in (by omega)]; omega
          repeat' (conv => whnf
                   first | refine Br.tt ?_ | refine Br.ff ?_ | refine Br.dec (fun h => ?_) (fun h => ?_) | refine Br.not ?_ | refine Br.intro (fun h => ?_) (fun h => ?_) | refine GetE.intro _ rfl ?_ | refine Need.intro rfl ?_ | refine DrawP.go mixed rfl ?_ | refine Idx.map j rfl hj' ?_ | refine Idx.map m rfl hm' ?_)
          all_goals conv => whnf
          · rename_i h1
            exact ⟨⟨m + 1, hm'⟩, by simp only []; omega, Weak.by ⟨rfl, rfl, rfl, rfl, rfl, rfl, rfl, rfl, congrArg B (hasU_t hm' h1), congrArg B (hasU_t hm' h), congrArg I hwm, trivial⟩⟩
          · rename_i h1
            exact ⟨⟨m + 1, hm'⟩, by simp only []; omega, Weak.by ⟨rfl, rfl, rfl, rfl, rfl, rfl, rfl, rfl, congrArg B (hasU_t hm' h1), congrArg B (hasU_f hm' h), congrArg I hwm, trivial⟩⟩
          · rename_i h1
            exact ⟨⟨m + 1, hm'⟩, by simp only []; omega, Weak.by ⟨rfl, rfl, rfl, rfl, rfl, rfl, rfl, rfl, congrArg B (hasU_f hm' h1), congrArg B (hasU_t hm' h), congrArg I hwm, trivial⟩⟩
          · rename_i h1
            exact ⟨⟨m + 1, hm'⟩, by simp only []; omega, Weak.by ⟨rfl, rfl, rfl, rfl, rfl, rfl, rfl, rfl, congrArg B (hasU_f hm' h1), congrArg B (hasU_f hm' h), congrArg I hwm, trivial⟩⟩
        · have hme : ¬ m < group.length := by simpa using hbm
          repeat' (conv => whnf
                   first | refine Br.tt ?_ | refine Br.ff ?_ | refine Br.dec (fun h => ?_) (fun h => ?_) | refine Br.not ?_ | refine Br.intro (fun h => ?_) (fun h => ?_) | refine GetE.intro _ rfl ?_ | refine Need.intro rfl ?_ | refine DrawP.go mixed rfl ?_ | refine Idx.map j rfl hj' ?_ | simp only [Nat.beq_refl, Bool.and_self] | refine Need.intro (by first | omega | (simp; omega)) ?_)
          all_goals conv => whnf
          · rename_i h1
            have e1 := in_next (group := group) hj' (known_yes hme h1 h)
            refine ⟨⟨j + 1, hj'⟩, by simp only []; omega, Weak.to 1 (Eq.trans (b := [Blk.row ((inG group (l.take j)).length + 1) 13 (((inG group (l.take j)).map resE).take (inG group (l.take j)).length ++ [resE l[j]])]) rfl ?_) (Nat.zero_le _) (Nat.le_of_ble_eq_true rfl)
              ⟨rfl, rfl, rfl, rfl, rfl, rfl, Eq.trans (b := V.own 0 ((inG group (l.take j)).length + 1) 0 ((inG group (l.take j)).length + 1)) rfl ?_, congrArg I hw, trivial⟩ (hB := res_bel _ _ _)⟩
            · simp only [e1, List.length_append, List.map_append, List.length_cons, List.length_nil, Nat.zero_add, List.map_cons, List.map_nil]
              rw [List.take_of_length_le (l := (inG group (l.take j)).map resE) (by simp)]
            · simp only [e1, List.length_append, List.length_cons, List.length_nil, Nat.zero_add]
              rfl
          · rename_i h1
            have e1 := in_skip (group := group) hj' (known_no hme (.inr h))
            exact ⟨⟨j + 1, hj'⟩, by simp only []; omega, Weak.to 1 (by simp only [e1]; rfl) (Nat.zero_le _) (Nat.le_of_ble_eq_true rfl) ⟨rfl, rfl, rfl, rfl, rfl, rfl, by simp only [e1]; rfl, congrArg I hw, trivial⟩ (hB := res_bel _ _ _)⟩
          · have e1 := in_skip (group := group) hj' (known_no hme (.inl h))
            exact ⟨⟨j + 1, hj'⟩, by simp only []; omega, Weak.to 1 (by simp only [e1]; rfl) (Nat.zero_le _) (Nat.le_of_ble_eq_true rfl) ⟨rfl, rfl, rfl, rfl, rfl, rfl, by simp only [e1]; rfl, congrArg I hw, trivial⟩ (hB := res_bel _ _ _)⟩
      · have hje : j = l.length := by simp at hb; omega
        subst hje
        have e1 : l.take l.length = l := List.take_length
        have hE : (((inG group (l.take l.length)).map resE).drop 0).take (inG group (l.take l.length)).length = ((inG group l).map Res.cells).map (fun e => e.map V.d) := by
          rw [e1, resE_map, List.drop_zero, List.take_of_length_le (by simp)]
        have hE2 : (inG group (l.take l.length)).length = ((inG group l).map Res.cells).length := by rw [e1]; simp
        repeat' (conv => whnf
                 first | refine Br.tt ?_ | refine Br.ff ?_ | refine Br.dec (fun h => ?_) (fun h => ?_) | refine Br.not ?_ | refine Br.intro (fun h => ?_) (fun h => ?_) | refine GetE.intro _ rfl ?_ | refine Need.intro rfl ?_ | refine DrawP.go mixed rfl ?_)
        conv => whnf
        refine CallP.freeze [0] rfl rfl (.cv (.d (.row ((inG group l).map Res.cells) (.head _) rfl hE hE2 (cells13 _))) (.keep (.keep (.keep (.keep .nil))))) (rows_e hrows (by omega) (by omega) ?_)
        repeat' (conv => whnf
                 first | refine Br.tt ?_ | refine Br.ff ?_ | refine Br.dec (fun h => ?_) (fun h => ?_) | refine Br.not ?_ | refine Br.intro (fun h => ?_) (fun h => ?_) | refine GetE.intro _ rfl ?_ | refine Need.intro rfl ?_ | refine DrawP.go mixed rfl ?_ | refine QCall.intro _ (same_e (a := R3) (b := R3) (decide_eq_true rfl) hR3 ⟨rfl, rfl⟩) ?_ | refine same_e (a := R3) (b := R3) (decide_eq_true rfl) hR3 ?_)
        conv => whnf
        exact FinP.drop (n := 0) rfl (Nat.le_refl 0) rfl rfl ⟨rfl, rfl⟩
  · have hnone := ha.none he3
    subst hnone
    by_cases he1 : e1 = 0
    · obtain ⟨he2, hsame⟩ := ha.same he1
      subst he1 he2
      refine callP_of C_ok Try.func10 rfl rfl (n := _) rfl (Nat.le_of_ble_eq_true rfl) (rs := _) rfl ?_
      conv => whnf
      refine sane_c ?_
      repeat' (conv => whnf
               first | refine Br.tt ?_ | refine Br.ff ?_ | refine Br.dec (fun h => ?_) (fun h => ?_) | refine Br.not ?_ | refine Br.intro (fun h => ?_) (fun h => ?_) | refine GetE.intro _ rfl ?_ | refine Need.intro rfl ?_ | refine DrawP.go mixed rfl ?_ | refine few_b hf ?_ | refine few_b hg ?_ | refine rows_e ha.h1 (by omega) (by omega) ?_ | refine mini_e ha.h2 (by omega) (by omega) ?_ | refine mini_e ha.h3 (by omega) (by omega) ?_ | refine same_e (decide_eq_true hsame) hR1 ?_ | refine QCall.intro _ (same_e (decide_eq_true hsame) hR1 ⟨rfl, rfl⟩) ?_)
      all_goals first | (exfalso; omega) | skip
      conv => whnf
      exact FinP.drop (n := 0) rfl (Nat.le_refl 0) rfl rfl ⟨rfl, rfl⟩
    · refine callP_of C_ok Try.func10 rfl rfl (n := _) rfl (Nat.le_of_ble_eq_true rfl) (rs := _) rfl ?_
      conv => whnf
      refine sane_c ?_
      repeat' (conv => whnf
               first | refine Br.tt ?_ | refine Br.ff ?_ | refine Br.dec (fun h => ?_) (fun h => ?_) | refine Br.not ?_ | refine Br.intro (fun h => ?_) (fun h => ?_) | refine GetE.intro _ rfl ?_ | refine Need.intro rfl ?_ | refine DrawP.go mixed rfl ?_ | refine few_b hf ?_ | refine few_b hg ?_ | refine rows_e ha.h1 (by omega) (by omega) ?_ | refine mini_e ha.h2 (by omega) (by omega) ?_ | refine mini_e ha.h3 (by omega) (by omega) ?_)
      all_goals first | (exfalso; omega) | skip
      conv => whnf
      exact FinP.drop (n := 0) rfl (Nat.le_refl 0) rfl rfl ⟨rfl, rfl⟩
theorem law (l : List Res) (clubs group : List Int) (w : Worth) : CallP C 10 [.d (ress l), .d (ints clubs), .d (ints group), I w.win, I w.draw, I w.loss] [] fun X L => L = [] ∧ X = .d (.bool true) := by
  by_cases hf : l.length ≤ 40 ∧ clubs.length ≤ 30
  · by_cases hg : l.length ≤ 40 ∧ group.length ≤ 30
    · obtain ⟨R1, R2, R3, e1, e2, e3, ha⟩ := ans l clubs group w
      exact law1 l clubs group w hf hg ha
    · refine callP_of C_ok Try.func10 rfl rfl (n := _) rfl (Nat.le_of_ble_eq_true rfl) (rs := _) rfl ?_
      conv => whnf
      refine sane_c ?_
      repeat' (conv => whnf
               first | refine Br.tt ?_ | refine Br.ff ?_ | refine Br.dec (fun h => ?_) (fun h => ?_) | refine Br.not ?_ | refine Br.intro (fun h => ?_) (fun h => ?_) | refine GetE.intro _ rfl ?_ | refine Need.intro rfl ?_ | refine DrawP.go mixed rfl ?_ | refine few_b hf ?_ | refine few_c l group ?_)
      all_goals first | (exfalso; omega) | skip
      conv => whnf
      exact FinP.drop (n := 0) rfl (Nat.le_refl 0) rfl rfl ⟨rfl, rfl⟩
  · refine callP_of C_ok Try.func10 rfl rfl (n := _) rfl (Nat.le_of_ble_eq_true rfl) (rs := _) rfl ?_
    conv => whnf
    refine sane_c ?_
    repeat' (conv => whnf
             first | refine Br.tt ?_ | refine Br.ff ?_ | refine Br.dec (fun h => ?_) (fun h => ?_) | refine Br.not ?_ | refine Br.intro (fun h => ?_) (fun h => ?_) | refine GetE.intro _ rfl ?_ | refine Need.intro rfl ?_ | refine DrawP.go mixed rfl ?_ | refine few_c l clubs ?_ | refine few_c l group ?_)
    all_goals first | (exfalso; omega) | skip
    conv => whnf
    exact FinP.drop (n := 0) rfl (Nat.le_refl 0) rfl rfl ⟨rfl, rfl⟩
theorem call_closed : ∀ xss, TyA C.P Try.f10.params.toList xss → CallP C 10 (argVs C.P Try.f10.params.toList xss) [] fun X L => L = [] ∧ X = .d (.bool true) := by
  intro xss h
  match xss, h with
  | [x1, x2, x3, x4, x5, x6], ⟨h1, h2, h3, h4, h5, h6, _⟩ =>
    obtain ⟨x1, rfl, _⟩ := ressT h1
    obtain ⟨x2, rfl, _⟩ := intsT h2
    obtain ⟨x3, rfl, _⟩ := intsT h3
    obtain ⟨x4, rfl⟩ := intT h4
    obtain ⟨x5, rfl⟩ := intT h5
    obtain ⟨x6, rfl⟩ := intT h6
    exact law x1 x2 x3 ⟨x4, x5, x6⟩
set_option maxRecDepth 100000 in
theorem lifted (os : Os) (started : os.Started) (H : Type) (enc : TypeId × Value → H) :
    ReturnsInHanded {} Try.checked os 10 .any (Rows.statsMiniTablesSpec.pre6 enc Try.prog Try.f10 Rows.statsMiniTablesRow.domain false) (Rows.statsMiniTablesSpec.post enc Try.prog Try.f10 false true false false) := by
  refine returnsInHanded_of_change (C := Try.checked) own started (by kernel_rfl) Try.func10
    (ChangeSpec.witness6 (enc := enc) (C := Try.checked) false ⟨#[], #[.slice none 0 0, .slice none 0 0, .slice none 0 0, .int .i64 0, .int .i64 0, .int .i64 0], []⟩ 8 (by kernel_rfl) (by kernel_rfl) (by kernel_rfl) (by kernel_rfl)) ?_
  intro W base args ds gs before hval hW _ _
  refine law_of (C := C) (l := plainTys) kids full plainOk plainLt (fun t ht => ?_) rfl rfl Try.underlying4 (fun ds hd => ?_) call_closed hval hW
  · have : Try.f10.params.toList.all (fun t => plainTys.contains t) = true := by kernel_rfl
    simpa using List.all_eq_true.1 this t ht
  · match ds, hd with
    | [d1, d2, d3, d4, d5, d6], _ => rfl
theorem proved : Rows.StatsMiniTablesSaid :=
  OpenClaim.holds_of_wide 10 Try.f10 rfl rfl rfl rfl rfl rfl rfl ⟨rfl, rfl, rfl, rfl, rfl⟩ rfl rfl rfl rfl rfl (by kernel_rfl) Try.func10 (by kernel_rfl)
    (of_decide_eq_true (by kernel_rfl)) (by unfold Func.isWrapper; first | (rw [if_pos (by decide +kernel)]; kernel_rfl) | (rw [if_neg (by decide +kernel)]; exact ⟨rfl, rfl⟩))
    (fun os started H enc _ => lifted os started H enc)
end Go.Proofs.Ytnkfifkgbkgcjaa.miniTables
