/-
  demands: the examples of the chapter.
-/
import Derived.Test.YtfhigmdfocbajaaDemR
namespace Go.Proofs.Ytfhigmdfocbajaa
open Go.Tidy
set_option maxRecDepth 100000
set_option maxHeartbeats 0
set_option linter.unusedSimpArgs false
set_option linter.unusedVariables false
variable {L : List Blk} {k : V → List Blk → Prop}
def p0 : Pl := ⟨[1, 2, 3], false, [⟨1, 1, 0, 0, 0, []⟩]⟩
def x0 : Pl := ⟨[], false, []⟩
def d0 : Dm := ⟨0, 0, 0, 0, 0, []⟩
def l2 : List (List Mt) := [[⟨2, 1⟩]]
def l3 : List (List Mt) := [[⟨1, 2⟩]]
def l4 : List (List Mt) := [[⟨2, 3⟩], [⟨1, 2⟩], [⟨3, 1⟩]]
theorem sm0 : Small [] p0 := ⟨by decide, by decide, by decide, by decide, by decide⟩
theorem sm1 : Small [[]] p0 := ⟨by decide, by decide, by decide, by decide, by decide⟩
theorem sm2 : Small l2 p0 := ⟨by decide, by decide, by decide, by decide, by decide⟩
theorem sm3 : Small l3 p0 := ⟨by decide, by decide, by decide, by decide, by decide⟩
theorem sm4 : Small l4 p0 := ⟨by decide, by decide, by decide, by decide, by decide⟩
theorem ev1 : dmA [] p0 = -1 ∧ dmE [] p0 = 0 := by decide +kernel
theorem ev2 : dmE [[]] p0 = 300 := by decide +kernel
theorem ev3 : brkE [] p0 = 300 ∧ brkL [] p0 = [] := by decide +kernel
theorem ev4 : dmA l2 p0 = 0 ∧ dmE l2 p0 = 0 := by decide +kernel
theorem ev5 : dmA l3 p0 = -1 ∧ dmE l3 p0 = 0 := by decide +kernel
theorem ev6 : brkE l4 p0 = 0 ∧ brkL l4 p0 = [0] := by decide +kernel
theorem ev7 : checkP x0 = 1 ∧ checkP p0 = 0 := by decide +kernel
theorem ev8 : holdsF [] d0 = false ∧ holdsF l3 ⟨1, 1, 0, 0, 0, []⟩ = true := by decide +kernel
theorem dmd_e {l : List (List Mt)} {p : Pl} {a e : Int} (hs : Small l p) (ha : dmA l p = a) (he : dmE l p = e) (h : k (.tup [I a, I e]) L) : CallP C 20 [lisV l, plV p] L k := dmd_c l p hs (by rw [← ha, ← he] at h; exact h)
theorem brk_e {l : List (List Mt)} {p : Pl} {r : List Int} {e : Int} (hs : Small l p) (hr : brkL l p = r) (he : brkE l p = e) (h : k (.tup [.d (ints r), I e]) L) : CallP C 15 [lisV l, plV p] L k := brk_c l p hs (by rw [← hr, ← he] at h; exact h)
theorem ev2a : dmA [[]] p0 = 0 := by decide +kernel
theorem check_x0 (h : k (I 1) L) : CallP C 13 [plV x0] L k := check_c x0 (by decide) (by decide) (by decide) (by rw [ev7.1]; exact h)
theorem check_p0 (h : k (I 0) L) : CallP C 13 [plV p0] L k := check_c p0 (by decide) (by decide) (by decide) (by rw [ev7.2]; exact h)
theorem holds_x0 (h : k (B false) L) : CallP C 17 [lisV [], dmV d0] L k := holds_c [] d0 (by decide) (by decide) (by decide) (by rw [ev8.1]; exact h)
theorem holds_l3 (h : k (B true) L) : CallP C 17 [lisV l3, dmV ⟨1, 1, 0, 0, 0, []⟩] L k := holds_c l3 _ (by decide) (by decide) (by decide) (by rw [ev8.2]; exact h)
theorem same00 (h : k (B true) L) : CallP C 19 [.d (ints [0]), .d (ints [0])] L k := rsame_c [0] [0] (by decide) h
theorem len1 {l : List (List D)} (h : l.all (fun e => decide (e.length = 1)) = true) : ∀ e ∈ l, e.length = 1 := fun e he => by simpa using List.all_eq_true.1 h e he
theorem len2 {l : List (List D)} (h : l.all (fun e => decide (e.length = 2)) = true) : ∀ e ∈ l, e.length = 2 := fun e he => by simpa using List.all_eq_true.1 h e he
theorem sane_c (h : k (B true) L) : CallP C 11 [] L k := by
  refine CallP.pure ?_ rfl (fun _ => rfl) h
  clear h
  refine callP_cut (fun c => match c with | .region 1 _ _ => true | _ => false) C_ok Try.func11 rfl rfl (n := _) rfl (Nat.le_of_ble_eq_true rfl) (rs := _) rfl ?_
  conv => whnf
  refine CutP.intro (ι := Unit) (fun _ => ⟨[(1, .ptr 0 0), (0, B false)], Try.f11.ntmps, [.cells (p0.cells.map .d)], [], none⟩) ?_ (fun _ => ?_)
  · repeat' (conv => whnf
             first | refine Br.tt ?_ | refine Br.ff ?_ | refine Br.dec (fun h => ?_) (fun h => ?_) | refine Br.not ?_ | refine Br.intro (fun h => ?_) (fun h => ?_) | refine GetE.intro _ rfl ?_ | refine Need.intro rfl ?_ | refine DrawP.go mixed rfl ?_)
    conv => whnf
    refine ⟨(), Weak.trans (σ' := ⟨[(1, .ptr 0 0), (0, B false)], Try.f11.ntmps, [.cells [.own 1 0 0 3, B false, .own 2 0 0 1], .row 0 1 [[I 1], [I 2], [I 3]], .row 0 6 [[I 1, I 1, I 0, I 0, I 0, .nil]]], [], none⟩) ?_ ?_⟩
    · exact Weak.re [2, 0, 1] ⟨rfl, rfl, trivial⟩ rfl (by decide) rfl
    · refine Weak.thaw 1 (Nat.zero_le _) (Nat.le_of_ble_eq_true rfl) rfl ⟨.inl ⟨rfl, rfl⟩, .inl ⟨rfl, rfl⟩, trivial⟩ ?_
      intro b x y hx hy
      match b, hx, hy with
      | 0, hx, hy =>
        cases hx; cases hy
        refine .inr (.inr ⟨_, _, rfl, rfl, rfl, fun j u v hu hv => ?_⟩)
        match j, hu, hv with
        | 0, hu, hv => cases hu; cases hv; exact .inr (.d (.rowL (Nat.le_refl 1) rfl (.cons (.cons (.d _) .nil) (.cons (.cons (.d _) .nil) (.cons (.cons (.d _) .nil) .nil))) rfl (by decide)))
        | 1, hu, hv => cases hu; cases hv; exact .inl ⟨rfl, rfl⟩
        | 2, hu, hv => cases hu; cases hv; exact .inr (.d (.rowL (by decide) rfl (.cons (.cons (.d _) (.cons (.d _) (.cons (.d _) (.cons (.d _) (.cons (.d _) (.cons .nil .nil)))))) .nil) rfl (fun e he => by obtain ⟨d, _, rfl⟩ := List.mem_map.1 he; rfl)))
        | j + 3, hu, hv => simp at hu
      | b + 1, hx, hy => simp at hy
  · repeat' (conv => whnf
             first | refine CallP.lent (dmd_e sm0 ev1.1 ev1.2 ⟨rfl, rfl⟩) (.cv (.aggL (.cons .nil .nil)) (.keep .nil)) rfl rfl ?_ | refine CallP.lent (dmd_e sm1 ev2a ev2 ⟨rfl, rfl⟩) (.cv (y := lisV [[]]) (.aggL (.cons (.rowL (ds := [[.sl []]]) trivial rfl (.cons (.cons (.rowL (ds := []) trivial rfl .nil rfl (by exact len2 rfl)) .nil) .nil) rfl (by exact len1 rfl)) .nil)) (.keep .nil)) rfl rfl ?_ | refine CallP.lent (brk_e sm0 ev3.2 ev3.1 ⟨rfl, rfl⟩) (.cv (.aggL (.cons .nil .nil)) (.keep .nil)) rfl rfl ?_ | refine CallP.lent (dmd_e sm2 ev4.1 ev4.2 ⟨rfl, rfl⟩) (.cv (y := lisV l2) (.aggL (.cons (.rowL (ds := [[.sl [[DI 2, DI 1]]]]) trivial rfl (.cons (.cons (.rowL (ds := [[DI 2, DI 1]]) trivial rfl (.cons (.cons (.d _) (.cons (.d _) .nil)) .nil) rfl (by exact len2 rfl)) .nil) .nil) rfl (by exact len1 rfl)) .nil)) (.keep .nil)) rfl rfl ?_ | refine CallP.lent (dmd_e sm3 ev5.1 ev5.2 ⟨rfl, rfl⟩) (.cv (y := lisV l3) (.aggL (.cons (.rowL (ds := [[.sl [[DI 1, DI 2]]]]) trivial rfl (.cons (.cons (.rowL (ds := [[DI 1, DI 2]]) trivial rfl (.cons (.cons (.d _) (.cons (.d _) .nil)) .nil) rfl (by exact len2 rfl)) .nil) .nil) rfl (by exact len1 rfl)) .nil)) (.keep .nil)) rfl rfl ?_ | refine Br.tt ?_ | refine Br.ff ?_ | refine Br.dec (fun h => ?_) (fun h => ?_) | refine Br.not ?_ | refine Br.intro (fun h => ?_) (fun h => ?_) | refine GetE.intro _ rfl ?_ | refine Need.intro rfl ?_ | refine DrawP.go mixed rfl ?_)
    conv => whnf
    refine CallP.freeze [7, 8, 9, 10] rfl rfl (.cv (y := lisV l4) (.aggL (.cons (.rowL (ds := [[.sl [[DI 2, DI 3]]], [.sl [[DI 1, DI 2]]], [.sl [[DI 3, DI 1]]]]) (by decide) rfl (.cons (.cons (.rowL (ds := [[DI 2, DI 3]]) (by decide) rfl (.cons (.cons (.d _) (.cons (.d _) .nil)) .nil) rfl (by exact len2 rfl)) .nil) (.cons (.cons (.rowL (ds := [[DI 1, DI 2]]) (by decide) rfl (.cons (.cons (.d _) (.cons (.d _) .nil)) .nil) rfl (by exact len2 rfl)) .nil) (.cons (.cons (.rowL (ds := [[DI 3, DI 1]]) (by decide) rfl (.cons (.cons (.d _) (.cons (.d _) .nil)) .nil) rfl (by exact len2 rfl)) .nil) .nil))) rfl (by exact len1 rfl)) .nil)) (.keep .nil)) (brk_e sm4 ev6.2 ev6.1 ?_)
    repeat' (conv => whnf
             first | refine CallP.lent (same00 ⟨rfl, rfl⟩) (.keep (.cv (y := .d (ints [0])) (.d (.rowL (ds := [[DI 0]]) trivial rfl (.cons (.cons (.d _) .nil) .nil) rfl (by exact len1 rfl))) .nil)) rfl rfl ?_ | refine CallP.lent (check_x0 ⟨rfl, rfl⟩) (.cv (y := plV x0) (.aggL (.cons .nil (.cons (.d _) (.cons .nil .nil)))) .nil) rfl rfl ?_ | refine check_p0 ?_ | refine CallP.lent (holds_x0 ⟨rfl, rfl⟩) (.cv (y := lisV []) (.aggL (.cons .nil .nil)) (.cv (y := dmV d0) (.aggL (.cons (.d _) (.cons (.d _) (.cons (.d _) (.cons (.d _) (.cons (.d _) (.cons .nil .nil))))))) .nil)) rfl rfl ?_ | refine CallP.lent (holds_l3 ⟨rfl, rfl⟩) (.cv (y := lisV l3) (.aggL (.cons (.rowL (ds := [[.sl [[DI 1, DI 2]]]]) trivial rfl (.cons (.cons (.rowL (ds := [[DI 1, DI 2]]) trivial rfl (.cons (.cons (.d _) (.cons (.d _) .nil)) .nil) rfl (by exact len2 rfl)) .nil) .nil) rfl (by exact len1 rfl)) .nil)) (.keep .nil)) rfl rfl ?_ | refine Idx.intro 0 _ rfl rfl ?_ | refine Br.tt ?_ | refine Br.ff ?_ | refine Br.dec (fun h => ?_) (fun h => ?_) | refine Br.not ?_ | refine Br.intro (fun h => ?_) (fun h => ?_) | refine GetE.intro _ rfl ?_ | refine Need.intro rfl ?_ | refine DrawP.go mixed rfl ?_)
    conv => whnf
    exact FinP.drop (n := 0) rfl (Nat.le_refl 0) rfl rfl ⟨rfl, rfl⟩
end Go.Proofs.Ytfhigmdfocbajaa
