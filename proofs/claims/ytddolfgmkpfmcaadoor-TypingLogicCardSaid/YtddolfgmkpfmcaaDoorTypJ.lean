/-
  typing: Holds of a condition; the reference's environments; the statements' small functions.
-/
import Derived.Test.YtddolfgmkpfmcaaDoorTypI
namespace Go.Proofs.YtddolfgmkpfmcaaDoor
open Go.Tidy
set_option maxRecDepth 100000
set_option maxHeartbeats 0
set_option linter.unusedSimpArgs false
set_option linter.unusedVariables false
variable {L : List Blk} {k : V → List Blk → Prop}
theorem Cw.aggL {S : Nat → Prop} {L : List Blk} {cs : List V} {ds : List D} (h : CvL S L cs ds) : Cw S L (.agg cs) (.agg (ds.map .d)) := .agg cs ds h.get.1 h.get.2
def bySp (n : Int) : Sp := .mk 1 n (.mk 0 0 0 []) [] []
def atCo (v n : Int) : Co := .mk 1 v n []
theorem by_c (n : Int) (h : k (.agg ((bySp n).cells.map .d)) L) : CallP C 33 [I n] L k := by
  refine CallP.pure ?_ rfl (fun _ => rfl) h
  clear h
  refine callP_of C_ok Tryd.func33 rfl rfl (n := _) rfl (Nat.le_of_ble_eq_true rfl) (rs := _) rfl ?_
  repeat' (conv => whnf
           first | refine Br.tt ?_ | refine Br.ff ?_ | refine Br.dec (fun h => ?_) (fun h => ?_) | refine Br.not ?_ | refine Br.intro (fun h => ?_) (fun h => ?_) | refine GetE.intro _ rfl ?_ | refine Need.intro rfl ?_ | refine DrawP.go mixed rfl ?_)
  conv => whnf
  exact FinP.data (L' := []) (Cw.aggL (ds := [DI 1, DI n, DI 0, DI 0, DI 0, .sl [], .sl [], .sl []]) (.cons (.d _) (.cons (.d _) (.cons (.d _) (.cons (.d _) (.cons (.d _) (.cons .nil (.cons .nil (.cons .nil .nil))))))))) rfl rfl ⟨rfl, rfl⟩
theorem atLeast_c (v n : Int) (h : k (.agg ((atCo v n).cells.map .d)) L) : CallP C 34 [I v, I n] L k := by
  refine CallP.pure ?_ rfl (fun _ => rfl) h
  clear h
  refine callP_of C_ok Tryd.func34 rfl rfl (n := _) rfl (Nat.le_of_ble_eq_true rfl) (rs := _) rfl ?_
  repeat' (conv => whnf
           first | refine Br.tt ?_ | refine Br.ff ?_ | refine Br.dec (fun h => ?_) (fun h => ?_) | refine Br.not ?_ | refine Br.intro (fun h => ?_) (fun h => ?_) | refine GetE.intro _ rfl ?_ | refine Need.intro rfl ?_ | refine DrawP.go mixed rfl ?_)
  conv => whnf
  exact FinP.data (L' := []) (Cw.aggL (ds := [DI 1, DI v, DI n, .sl []]) (.cons (.d _) (.cons (.d _) (.cons (.d _) (.cons .nil .nil))))) rfl rfl ⟨rfl, rfl⟩
theorem refenv_c (x : En) (h : k (I (envE x)) L) : CallP C 22 [enV x] L k := by
  refine CallP.pure ?_ rfl (fun _ => rfl) h
  clear h
  refine callP_of C_ok Tryd.func22 rfl rfl (n := _) rfl (Nat.le_of_ble_eq_true rfl) (rs := _) rfl ?_
  repeat' (conv => whnf
           first | refine Br.tt ?_ | refine Br.ff ?_ | refine Br.dec (fun h => ?_) (fun h => ?_) | refine Br.not ?_ | refine Br.intro (fun h => ?_) (fun h => ?_) | refine GetE.intro _ rfl ?_ | refine Need.intro rfl ?_ | refine DrawP.go mixed rfl ?_)
  all_goals conv => whnf
  all_goals exact FinP.drop (n := 0) rfl (Nat.le_refl 0) rfl rfl ⟨rfl, congrArg I (by unfold envE; first | rw [if_pos (by omega)] | rw [if_neg (by omega)])⟩
theorem rvalue_c (v : Int) (x : En) (h : k (I (valF v x)) L) : CallP C 62 [I v, enV x] L k := by
  refine CallP.pure ?_ rfl (fun _ => rfl) h
  clear h
  refine callP_of C_ok Tryd.func62 rfl rfl (n := _) rfl (Nat.le_of_ble_eq_true rfl) (rs := _) rfl ?_
  repeat' (conv => whnf
           first | refine Br.tt ?_ | refine Br.ff ?_ | refine Br.dec (fun h => ?_) (fun h => ?_) | refine Br.not ?_ | refine Br.intro (fun h => ?_) (fun h => ?_) | refine GetE.intro _ rfl ?_ | refine Need.intro rfl ?_ | refine DrawP.go mixed rfl ?_)
  all_goals conv => whnf
  all_goals exact FinP.drop (n := 0) rfl (Nat.le_refl 0) rfl rfl ⟨rfl, congrArg I (by unfold valF; simp_all)⟩
theorem wm {n d : Int} (h : 0 ≤ n ∧ n < 1000000) (hd : 0 < d ∧ d < 1000) : IntKind.i64.wrap (n.tmod d) = n % d := by
  have := wmod (a := 0) h hd (by decide); rwa [Int.zero_add, Int.zero_add] at this
theorem refenvs_c (n : Int) (h : k (.tup [enV (envsX n), I 49726, I (envsE n)]) L) : CallP C 20 [I n] L k := by
  refine CallP.pure ?_ rfl (fun _ => rfl) h
  clear h
  refine callP_of C_ok Tryd.func20 rfl rfl (n := _) rfl (Nat.le_of_ble_eq_true rfl) (rs := _) rfl ?_
  by_cases hn : n < 0
  · repeat' (conv => whnf
             first | refine Br.yes (decide_eq_true hn) ?_ | refine Br.tt ?_ | refine Br.ff ?_ | refine Br.dec (fun h => ?_) (fun h => ?_) | refine Br.not ?_ | refine Br.intro (fun h => ?_) (fun h => ?_) | refine GetE.intro _ rfl ?_ | refine Need.intro rfl ?_ | refine DrawP.go mixed rfl ?_)
    conv => whnf
    exact FinP.drop (n := 0) rfl (Nat.le_refl 0) rfl rfl ⟨rfl, Eq.trans (b := V.tup [enV ⟨0, 0, 0, 0⟩, I 49726, I 1]) rfl (by unfold envsX envsE; rw [if_pos (.inl hn), if_pos (.inl hn)])⟩
  by_cases hn2 : 49726 ≤ n
  · repeat' (conv => whnf
             first | refine Br.no (decide_eq_false hn) ?_ | refine Br.yes (decide_eq_true hn2) ?_ | refine Br.tt ?_ | refine Br.ff ?_ | refine Br.dec (fun h => ?_) (fun h => ?_) | refine Br.not ?_ | refine Br.intro (fun h => ?_) (fun h => ?_) | refine GetE.intro _ rfl ?_ | refine Need.intro rfl ?_ | refine DrawP.go mixed rfl ?_)
    conv => whnf
    exact FinP.drop (n := 0) rfl (Nat.le_refl 0) rfl rfl ⟨rfl, Eq.trans (b := V.tup [enV ⟨0, 0, 0, 0⟩, I 49726, I 1]) rfl (by unfold envsX envsE; rw [if_pos (.inr hn2), if_pos (.inr hn2)])⟩
  have b1 : 0 ≤ n / 23 ∧ n / 23 < 1000000 := by omega
  have b2 : 0 ≤ n / 46 ∧ n / 46 < 1000000 := by omega
  have b3 : 0 ≤ n / 2162 ∧ n / 2162 < 23 := by omega
  have w1 : IntKind.i64.wrap (n.tdiv 2162) = n / 2162 := by rw [Int.tdiv_eq_ediv_of_nonneg (by omega)]; exact wrap_in (by omega)
  have w2 : IntKind.i64.wrap (2 + IntKind.i64.wrap (n.tdiv 2162)) = 2 + n / 2162 := by rw [w1]; exact wrap_in (by omega)
  have w3 : IntKind.i64.wrap (n.tdiv 46) = n / 46 := wdiv (by omega) (by decide)
  have w4 : (IntKind.i64.wrap (n.tdiv 46)).tmod 47 = n / 46 % 47 := by rw [w3]; exact Int.tmod_eq_emod_of_nonneg b2.1
  have w5 : IntKind.i64.wrap (n.tdiv 23) = n / 23 := wdiv (by omega) (by decide)
  have w6 : (IntKind.i64.wrap (n.tdiv 23)).tmod 2 = n / 23 % 2 := by rw [w5]; exact Int.tmod_eq_emod_of_nonneg b1.1
  have w7 : n.tmod 23 = n % 23 := Int.tmod_eq_emod_of_nonneg (by omega)
  have w8 : IntKind.i64.wrap (2 + n.tmod 23) = 2 + n % 23 := by rw [w7]; exact wrap_in (by omega)
  repeat' (conv => whnf
           first | refine Br.no (decide_eq_false hn) ?_ | refine Br.no (decide_eq_false hn2) ?_ | refine Br.tt ?_ | refine Br.ff ?_ | refine Br.dec (fun h => ?_) (fun h => ?_) | refine Br.not ?_ | refine Br.intro (fun h => ?_) (fun h => ?_) | refine GetE.intro _ rfl ?_ | refine Need.intro rfl ?_ | refine DrawP.go mixed rfl ?_ | refine Need.intro (show (2162 : Int) ≠ 0 by decide) ?_ | refine Need.intro (show (46 : Int) ≠ 0 by decide) ?_ | refine Need.intro (show (47 : Int) ≠ 0 by decide) ?_ | refine Need.intro (show (23 : Int) ≠ 0 by decide) ?_ | refine Need.intro (show (2 : Int) ≠ 0 by decide) ?_)
  conv => whnf
  have e : V.tup [V.agg [I (IntKind.i64.wrap (2 + IntKind.i64.wrap (n.tdiv 2162))), I ((IntKind.i64.wrap (n.tdiv 46)).tmod 47), I ((IntKind.i64.wrap (n.tdiv 23)).tmod 2), I (IntKind.i64.wrap (2 + n.tmod 23))], I 49726, I 0] = V.tup [enV (envsX n), I 49726, I (envsE n)] := by
    rw [w2, w4, w6, w8]; unfold envsX envsE; rw [if_neg (by omega), if_neg (by omega)]; rfl
  exact FinP.drop (n := 0) rfl (Nat.le_refl 0) rfl rfl ⟨rfl, e⟩
def holdsB (c : Co) (x : En) : Bool := decide (checkF [.c c] = 0) && decide (envE x = 0) && hoF x c
def holdsE (c : Co) (x : En) : Int := if checkF [.c c] ≠ 0 then checkF [.c c] else envE x
theorem Holds_c (c : Co) (x : En) (hc : LCo c) (hh : checkF [.c c] = 0 → HCo c) (h : k (.tup [B (holdsB c x), I (holdsE c x)]) L) : CallP C 28 [.agg (c.cells.map .d), enV x] L k := by
  have h1 : ∀ {L : List Blk} {k : V → List Blk → Prop}, k (I (checkF [.c c])) L → CallP C 17 [.agg (c.cells.map .d)] L k := fun h => cond_c c hc h
  have h2 : checkF [.c c] = 0 → ∀ (L : List Blk) (k : V → List Blk → Prop), k (B (hoF x c)) L → CallP C 49 [.agg (c.cells.map .d), enV x] L k := fun h0 => by
    have := holds_c x c (hh h0); unfold HCall at this; exact this
  have e1 : checkF [.c c] = 0 → envE x = 0 → V.tup [B (holdsB c x), I (holdsE c x)] = V.tup [B (hoF x c), I 0] := fun h h' => by
    unfold holdsB holdsE; rw [if_neg (fun hn => hn h), h, h']; rfl
  have e2 : checkF [.c c] = 0 → envE x ≠ 0 → V.tup [B (holdsB c x), I (holdsE c x)] = V.tup [B false, I (envE x)] := fun h h' => by
    unfold holdsB holdsE; rw [if_neg (fun hn => hn h), decide_eq_false h', Bool.and_false]; rfl
  have e3 : checkF [.c c] ≠ 0 → V.tup [B (holdsB c x), I (holdsE c x)] = V.tup [B false, I (checkF [.c c])] := fun h => by
    unfold holdsB holdsE; rw [if_pos h, decide_eq_false h]; rfl
  generalize holdsB c x = bb at *
  generalize holdsE c x = ee at *
  rw [Co.cells_eq] at h1 h2 ⊢
  generalize checkF [.c c] = q at *
  refine CallP.pure ?_ rfl (fun _ => rfl) h
  clear h
  refine callP_of C_ok Tryd.func28 rfl rfl (n := _) rfl (Nat.le_of_ble_eq_true rfl) (rs := _) rfl ?_
  by_cases c1 : q = 0
  rotate_left
  · repeat' (conv => whnf
             first | refine Br.no (decide_eq_false c1) ?_ | refine Br.tt ?_ | refine Br.ff ?_ | refine Br.dec (fun h => ?_) (fun h => ?_) | refine Br.not ?_ | refine Br.intro (fun h => ?_) (fun h => ?_) | refine GetE.intro _ rfl ?_ | refine Need.intro rfl ?_ | refine DrawP.go mixed rfl ?_ | refine h1 ?_)
    conv => whnf
    exact FinP.drop (n := 0) rfl (Nat.le_refl 0) rfl rfl ⟨rfl, Eq.trans (b := V.tup [B false, I q]) rfl (e3 c1).symm⟩
  by_cases c2 : envE x = 0
  rotate_left
  · repeat' (conv => whnf
             first | refine Br.yes (decide_eq_true c1) ?_ | refine Br.no (decide_eq_false c2) ?_ | refine Br.tt ?_ | refine Br.ff ?_ | refine Br.dec (fun h => ?_) (fun h => ?_) | refine Br.not ?_ | refine Br.intro (fun h => ?_) (fun h => ?_) | refine GetE.intro _ rfl ?_ | refine Need.intro rfl ?_ | refine DrawP.go mixed rfl ?_ | refine h1 ?_ | refine env_c x ?_)
    conv => whnf
    exact FinP.drop (n := 0) rfl (Nat.le_refl 0) rfl rfl ⟨rfl, Eq.trans (b := V.tup [B false, I (envE x)]) rfl (e2 c1 c2).symm⟩
  have h3 := h2 c1
  repeat' (conv => whnf
           first | refine Br.yes (decide_eq_true c1) ?_ | refine Br.yes (decide_eq_true c2) ?_ | refine Br.tt ?_ | refine Br.ff ?_ | refine Br.dec (fun h => ?_) (fun h => ?_) | refine Br.not ?_ | refine Br.intro (fun h => ?_) (fun h => ?_) | refine GetE.intro _ rfl ?_ | refine Need.intro rfl ?_ | refine DrawP.go mixed rfl ?_ | refine h1 ?_ | refine env_c x ?_ | refine h3 _ _ ?_)
  conv => whnf
  exact FinP.drop (n := 0) rfl (Nat.le_refl 0) rfl rfl ⟨rfl, Eq.trans (b := V.tup [B (hoF x c), I 0]) rfl (e1 c1 c2).symm⟩
end Go.Proofs.YtddolfgmkpfmcaaDoor
