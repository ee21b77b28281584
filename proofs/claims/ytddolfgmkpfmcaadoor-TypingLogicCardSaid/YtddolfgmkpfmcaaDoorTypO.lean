/-
  typing: the examples of the chapter.
-/
import Derived.Test.YtddolfgmkpfmcaaDoorTypN
namespace Go.Proofs.YtddolfgmkpfmcaaDoor
open Go.Tidy
set_option maxRecDepth 100000
set_option maxHeartbeats 0
set_option linter.unusedSimpArgs false
set_option linter.unusedVariables false
variable {L : List Blk} {k : V → List Blk → Prop}
def sl0 : List Sp := [bySp 1, .mk 2 0 (atCo 1 3) [bySp 4] [], bySp 3, bySp 1]
def nameA : ByteArray := ⟨#[97]⟩
theorem lco0 (kd v n : Int) : LCo (.mk kd v n []) := .mk (Nat.zero_le _) fun p hp => by cases hp
theorem lsp0 (n : Int) : LSp (bySp n) := .mk (Nat.zero_le _) (Nat.zero_le _) (lco0 _ _ _) (fun p hp => by cases hp) (fun p hp => by cases hp)
theorem lsl0 : LSs sl0 := by
  refine ⟨by decide, fun s hs => ?_⟩
  simp only [sl0, List.mem_cons, List.not_mem_nil, or_false] at hs
  rcases hs with rfl | rfl | rfl | rfl
  · exact lsp0 1
  · exact .mk (by decide) (by decide) (lco0 _ _ _) (fun p hp => by rw [List.mem_singleton.1 hp]; exact lsp0 4) (fun p hp => by cases hp)
  · exact lsp0 3
  · exact lsp0 1
theorem lnil : LSs [] := ⟨by decide, fun s hs => by cases hs⟩
theorem ev1 : orderF sl0 = 0 ∧ orderF [] = 140 ∧ checkF [.c (atCo 5 1)] = 140 := by decide
theorem ev2 : directB sl0 ⟨3, 0, 0, 5⟩ = [1, 4, 3] ∧ directE sl0 ⟨3, 0, 0, 5⟩ = 0 := by decide
theorem ev3 : directB sl0 ⟨2, 0, 0, 2⟩ = [1, 3] ∧ directE sl0 ⟨2, 0, 0, 2⟩ = 0 := by decide
theorem ev4 : envsX 0 = ⟨2, 0, 0, 2⟩ ∧ envsX 23 = ⟨2, 0, 1, 2⟩ ∧ envsE 0 = 0 ∧ envsE 23 = 0 ∧ envsE 49726 = 1 := by decide
theorem ev5 : rulesF ⟨nameA, 0, 1, 0, sl0, []⟩ = 140 := by unfold rulesF; rw [if_pos (.inr (.inr (.inl (by decide))))]
theorem envs0 (h : k (.tup [enV ⟨2, 0, 0, 2⟩, I 49726, I 0]) L) : CallP C 19 [I 0] L k := envs_c 0 (by rw [ev4.1, ev4.2.2.1]; exact h)
theorem envs23 (h : k (.tup [enV ⟨2, 0, 1, 2⟩, I 49726, I 0]) L) : CallP C 19 [I 23] L k := envs_c 23 (by rw [ev4.2.1, ev4.2.2.2.1]; exact h)
theorem envsBig (h : k (.tup [enV (envsX 49726), I 49726, I 1]) L) : CallP C 19 [I 49726] L k := envs_c 49726 (by rw [ev4.2.2.2.2]; exact h)
theorem dirA (h : k (.tup [.d (ins [1, 4, 3]), I 0]) L) : CallP C 24 [.d (sps sl0), enV ⟨3, 0, 0, 5⟩] L k := Direct_c sl0 _ lsl0 (order_dsp lsl0) (by rw [ev2.1, ev2.2]; exact h)
theorem dirB (h : k (.tup [.d (ins [1, 3]), I 0]) L) : CallP C 24 [.d (sps sl0), enV ⟨2, 0, 0, 2⟩] L k := Direct_c sl0 _ lsl0 (order_dsp lsl0) (by rw [ev3.1, ev3.2]; exact h)
theorem condA (h : k (I 140) L) : CallP C 17 [.agg ((atCo 5 1).cells.map .d)] L k := cond_c (atCo 5 1) (lco0 _ _ _) (by rw [ev1.2.2]; exact h)
theorem ordA (h : k (I 140) L) : CallP C 15 [.d (sps [])] L k := order_c [] lnil (by rw [ev1.2.1]; exact h)
theorem ordB (h : k (I 0) L) : CallP C 15 [.d (sps sl0)] L k := order_c sl0 lsl0 (by rw [ev1.1]; exact h)
theorem rulA (h : k (I 140) L) : CallP C 13 [.agg ((Ru.cells ⟨nameA, 0, 1, 0, sl0, []⟩).map .d)] L k := rules_c ⟨nameA, 0, 1, 0, sl0, []⟩ ⟨by decide, lsl0, by decide, fun z hz => by cases hz⟩ (by rw [ev5]; exact h)
theorem same3 (h : k (B true) L) : CallP C 26 [.d (ins [1, 4, 3]), .d (ins [1, 4, 3])] L k := same_c _ _ (by decide) (by decide) h
theorem same2 (h : k (B true) L) : CallP C 26 [.d (ins [1, 3]), .d (ins [1, 3])] L k := same_c _ _ (by decide) (by decide) h
theorem len8 {l : List (List D)} (h : l.all (fun e => decide (e.length = 8)) = true) : ∀ e ∈ l, e.length = 8 := fun e he => by simpa using List.all_eq_true.1 h e he
theorem len1 {l : List (List D)} (h : l.all (fun e => decide (e.length = 1)) = true) : ∀ e ∈ l, e.length = 1 := fun e he => by simpa using List.all_eq_true.1 h e he
theorem cv8 {S : Nat → Prop} {L : List Blk} (s : Sp) : CvL S L (s.cells.map .d) s.cells := CvL.data _
theorem sane_c (h : k (B true) L) : CallP C 10 [] L k := by
  refine CallP.pure ?_ rfl (fun _ => rfl) h
  clear h
  refine callP_cut (fun c => match c with | .region 1 _ _ => true | _ => false) C_ok Tryd.func10 rfl rfl (n := _) rfl (Nat.le_of_ble_eq_true rfl) (rs := _) rfl ?_
  conv => whnf
  refine CutP.intro (ι := Unit) (fun _ => ⟨[(1, .d (sps sl0)), (0, B false)], Tryd.f10.ntmps, [], [], none⟩) ?_ (fun _ => ?_)
  · repeat' (conv => whnf
             first | refine Br.tt ?_ | refine Br.ff ?_ | refine Br.dec (fun h => ?_) (fun h => ?_) | refine Br.not ?_ | refine Br.intro (fun h => ?_) (fun h => ?_) | refine GetE.intro _ rfl ?_ | refine Need.intro rfl ?_ | refine DrawP.go mixed rfl ?_ | refine by_c _ ?_ | refine atLeast_c _ _ ?_)
    conv => whnf
    refine ⟨(), Weak.thaw 0 (Nat.le_refl 0) (Nat.zero_le _) rfl ⟨.inr (.d (.rowL (ds := sl0.map Sp.cells) (Nat.zero_le _) rfl (.cons (CvL.data (bySp 1).cells) (.cons (.cons (.d _) (.cons (.d _) (.cons (.d _) (.cons (.d _) (.cons (.d _) (.cons (.d _) (.cons (.rowL (ds := [(bySp 4).cells]) (Nat.zero_le _) rfl (.cons (CvL.data (bySp 4).cells) .nil) rfl (by exact len8 rfl)) (.cons .nil .nil)))))))) (.cons (CvL.data (bySp 3).cells) (.cons (CvL.data (bySp 1).cells) .nil)))) rfl (by exact len8 rfl))), .inl ⟨rfl, rfl⟩, trivial⟩ (fun b x y hx hy => by simp at hy)⟩
  · repeat' (conv => whnf
             first | refine Br.tt ?_ | refine Br.ff ?_ | refine Br.dec (fun h => ?_) (fun h => ?_) | refine Br.not ?_ | refine Br.intro (fun h => ?_) (fun h => ?_) | refine GetE.intro _ rfl ?_ | refine Need.intro rfl ?_ | refine DrawP.go mixed rfl ?_ | refine envs0 ?_ | refine envs23 ?_ | refine envsBig ?_ | refine dirA ?_ | refine dirB ?_ | refine atLeast_c _ _ ?_ | refine condA ?_ | refine ordB ?_ | refine CallP.lent (ordA ⟨rfl, rfl⟩) (.cv (.d .nil) .nil) rfl rfl ?_ | refine CallP.lent (rulA ⟨rfl, rfl⟩) (.cv (Cw.aggL (.cons (.d _) (.cons (.d _) (.cons (.d _) (.cons (.d _) (.cons (.d _) (.cons .nil .nil))))))) .nil) rfl rfl ?_ | refine CallP.lent (same3 ⟨rfl, rfl⟩) (.keep (.cv (y := .d (ins [1, 4, 3])) (.d (.rowL (ds := [[DI 1], [DI 4], [DI 3]]) trivial rfl (.cons (.cons (.d _) .nil) (.cons (.cons (.d _) .nil) (.cons (.cons (.d _) .nil) .nil))) rfl (by exact len1 rfl))) .nil)) rfl rfl ?_ | refine CallP.lent (same2 ⟨rfl, rfl⟩) (.keep (.cv (y := .d (ins [1, 3])) (.d (.rowL (ds := [[DI 1], [DI 3]]) trivial rfl (.cons (.cons (.d _) .nil) (.cons (.cons (.d _) .nil) .nil)) rfl (by exact len1 rfl))) .nil)) rfl rfl ?_)
    conv => whnf
    exact FinP.drop (n := 0) rfl (Nat.le_refl 0) rfl rfl ⟨rfl, rfl⟩
end Go.Proofs.YtddolfgmkpfmcaaDoor
