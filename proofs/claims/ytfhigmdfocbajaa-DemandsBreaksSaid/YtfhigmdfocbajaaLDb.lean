/-
  The statement DemandsBreaks: breaks are those of the pattern, and demands on the balance grow weaker with N; no conditions.
-/
import Derived.Test.YtfhigmdfocbajaaDemT
import Derived.Test.YtfhigmdfocbajaaFixC
namespace Go.Proofs.Ytfhigmdfocbajaa.breaks
open Go.Tidy Go.ChangeShapes Go.WideShapes Go.ChangeAt Go.RowKit
set_option maxRecDepth 100000
set_option maxHeartbeats 0
set_option linter.unusedSimpArgs false
set_option linter.unusedVariables false
theorem kst_pat {l : List (List Mt)} {c : Int} (hr : ∀ r ∈ l, r.length ≤ 4611686018427387904) : kst (l.map hRnd) c = patL l c := by
  unfold kst patL
  rw [List.map_map]
  have e : l.map ((fun r => stR r c) ∘ hRnd) = l.map (homeR c) := List.map_congr_left fun r h => by
    show stR (hRnd r) c = _
    unfold hRnd stR homeR; rw [dif_pos (hr r h)]
  rw [e]
  have key : ∀ S : List Int, (∀ s ∈ S, s ≠ 2) → S.takeWhile (fun s => decide (s ≠ 2)) = S := by
    intro S hS
    induction S with
    | nil => rfl
    | cons a S ih => rw [List.takeWhile_cons_of_pos (by simpa using hS a (by simp)), ih fun s hs => hS s (by simp [hs])]
  refine key _ fun s hs => ?_
  obtain ⟨r, _, rfl⟩ := List.mem_map.1 hs
  have := stateF_known (kn := fun _ => true) (fun _ => rfl) (c := c) r
  exact this
theorem holds9 {l : List (List Mt)} {c n : Int} (hr : ∀ r ∈ l, r.length ≤ 4611686018427387904) : holdsF l ⟨9, c, 0, 0, n, []⟩ = decide ((brkF (patL l c)).2 ≤ n) := by
  have e : holdsF l ⟨9, c, 0, 0, n, []⟩ = !decide (n < (brkF (kst (l.map hRnd) c)).2) := rfl
  rw [e, kst_pat hr, Bool.eq_iff_iff]; simp
theorem tilt_mono {n m : Int} (h : n ≤ m) : ∀ (S : List Int) (a : Int), tiltGo m S a = true → tiltGo n S a = true
  | [], _, h => h
  | s :: S, a, hm => by
    rw [tiltGo] at hm ⊢
    split
    · rfl
    · rw [if_neg (by omega)] at hm; exact tilt_mono h S _ hm
theorem holds10 {l : List (List Mt)} {c n m : Int} (h : n ≤ m) (hh : holdsF l ⟨10, c, 0, 0, n, []⟩ = true) : holdsF l ⟨10, c, 0, 0, m, []⟩ = true := by
  have e : ∀ n, holdsF l ⟨10, c, 0, 0, n, []⟩ = !tiltGo n (kst (l.map hRnd) c) 0 := fun n => rfl
  rw [e] at hh ⊢
  cases hm : tiltGo m (kst (l.map hRnd) c) 0 with
  | false => rfl
  | true => rw [tilt_mono h _ _ hm] at hh; cases hh
def xP : Pl := ⟨[], false, []⟩
theorem hold_nil {L : List Blk} {k : V → List Blk → Prop} (l : List (List Mt)) (kd c n : Int) (hl : l.length ≤ 1073741824) (hr : ∀ r ∈ l, r.length ≤ 4611686018427387904) (h : k (B (holdsF l ⟨kd, c, 0, 0, n, []⟩)) L) : CallP C 17 [lisV l, .agg [I kd, I c, I 0, I 0, I n, .nil]] L k :=
  CallP.lent (holds_c l ⟨kd, c, 0, 0, n, []⟩ hl hr (Nat.zero_le _) ⟨rfl, rfl⟩) (.keep (.cv (y := dmV ⟨kd, c, 0, 0, n, []⟩) (.aggL (.cons (.d _) (.cons (.d _) (.cons (.d _) (.cons (.d _) (.cons (.d _) (.cons .nil .nil))))))) .nil)) rfl rfl h
theorem law (l : List (List Mt)) (c n : Int) (hl : l.length ≤ 140737488355328 ∧ ∀ r ∈ l, r.length ≤ 140737488355328) : CallP C 9 [lisV l, I c, I n] [] fun X L => L = [] ∧ X = .d (.bool true) := by
  have hfit : Fits l xP := ⟨hl.1, hl.2, by decide, fun d h => by simp [xP] at h, by decide⟩
  refine callP_of C_ok Try.func9 rfl rfl (n := _) rfl (Nat.le_of_ble_eq_true rfl) (rs := _) rfl ?_
  by_cases hb : bulkN l xP ≤ 200
  · have hs := small_of hb
    have e9 := holds9 (c := c) (n := n) hs.hr
    by_cases hn : n < -1000 ∨ 1000 < n
    · repeat' (conv => whnf
               first | refine sane_c ?_ | refine CallP.lent (rfew_c l xP hfit ⟨rfl, rfl⟩) (.keep (.cv (y := plV xP) (.aggL (.cons .nil (.cons (.d _) (.cons .nil .nil)))) .nil)) rfl rfl ?_ | refine Br.yes (decide_eq_true hb) ?_ | refine Br.tt ?_ | refine Br.ff ?_ | refine Br.dec (fun h => ?_) (fun h => ?_) | refine Br.not ?_ | refine Br.intro (fun h => ?_) (fun h => ?_) | refine GetE.intro _ rfl ?_ | refine Need.intro rfl ?_ | refine DrawP.go mixed rfl ?_)
      all_goals conv => whnf
      all_goals first
        | exact FinP.drop (n := 0) rfl (Nat.le_refl 0) rfl rfl ⟨rfl, rfl⟩
        | (exfalso; omega)
    · have hw : IntKind.i64.wrap (n - 1) = n - 1 := wrap_in (by omega)
      have h10 := holds10 (l := l) (c := c) (n := n - 1) (m := n) (by omega)
      repeat' (conv => whnf
               first | refine sane_c ?_ | refine CallP.lent (rfew_c l xP hfit ⟨rfl, rfl⟩) (.keep (.cv (y := plV xP) (.aggL (.cons .nil (.cons (.d _) (.cons .nil .nil)))) .nil)) rfl rfl ?_ | refine Br.yes (decide_eq_true hb) ?_ | refine QCall.intro _ (hold_nil l 9 c n hs.hl hs.hr ⟨rfl, rfl⟩) ?_ | refine QCall.intro _ (breaks_c l c hs.hl hs.hr ⟨rfl, rfl⟩) ?_ | rw [hw] | refine hold_nil l 10 c _ hs.hl hs.hr ?_ | refine Br.tt ?_ | refine Br.ff ?_ | refine Br.dec (fun h => ?_) (fun h => ?_) | refine Br.not ?_ | refine Br.intro (fun h => ?_) (fun h => ?_) | refine GetE.intro _ rfl ?_ | refine Need.intro rfl ?_ | refine DrawP.go mixed rfl ?_)
      all_goals conv => whnf
      all_goals first
        | (exfalso; omega)
        | (exfalso; simp_all; done)
        | exact FinP.drop (n := 0) rfl (Nat.le_refl 0) rfl rfl ⟨rfl, rfl⟩
        | skip
      rename_i h
      have hh : holdsF l ⟨10, c, 0, 0, n - 1, []⟩ = true := by
        show (!doomsF (l.map hRnd) ⟨10, c, 0, 0, n - 1, []⟩) = true
        rw [h]; rfl
      exact FinP.drop (n := 0) rfl (Nat.le_refl 0) rfl rfl ⟨rfl, congrArg B (h10 hh)⟩
  · repeat' (conv => whnf
             first | refine sane_c ?_ | refine CallP.lent (rfew_c l xP hfit ⟨rfl, rfl⟩) (.keep (.cv (y := plV xP) (.aggL (.cons .nil (.cons (.d _) (.cons .nil .nil)))) .nil)) rfl rfl ?_ | refine Br.no (decide_eq_false hb) ?_ | refine Br.tt ?_ | refine Br.ff ?_ | refine Br.dec (fun h => ?_) (fun h => ?_) | refine Br.not ?_ | refine Br.intro (fun h => ?_) (fun h => ?_) | refine GetE.intro _ rfl ?_ | refine Need.intro rfl ?_ | refine DrawP.go mixed rfl ?_)
    all_goals conv => whnf
    all_goals exact FinP.drop (n := 0) rfl (Nat.le_refl 0) rfl rfl ⟨rfl, rfl⟩
theorem call_closed : ∀ xss, TyA C.P Try.f9.params.toList xss → (∀ xs ∈ xss, ∀ y ∈ xs, Dsm reachBytes y) → CallP C 9 (argVs C.P Try.f9.params.toList xss) [] fun X L => L = [] ∧ X = .d (.bool true) := by
  intro xss h hsm
  match xss, h, hsm with
  | [x1, x2, x3], ⟨h1, h2, h3, _⟩, hsm =>
    obtain ⟨x1, rfl, b1⟩ := lisT h1 (hsm _ (by simp))
    obtain ⟨x2, rfl, b2⟩ := intT h2 (hsm _ (by simp))
    obtain ⟨x3, rfl, b3⟩ := intT h3 (hsm _ (by simp))
    exact law x1 x2 x3 b1
set_option maxRecDepth 100000 in
theorem lifted (os : Os) (started : os.Started) (H : Type) (enc : TypeId × Value → H) :
    ReturnsInHanded {} Try.checked os 9 .any (Rows.demandsBreaksSpec.pre6 enc Try.prog Try.f9 Rows.demandsBreaksRow.domain false) (Rows.demandsBreaksSpec.post enc Try.prog Try.f9 false true false false) := by
  refine returnsInHanded_of_change_sized (C := Try.checked) own started (by kernel_rfl) Try.func9
    (ChangeSpec.witness6 (enc := enc) (C := Try.checked) false ⟨#[], #[.agg #[.slice none 0 0], .int .i64 0, .int .i64 0], []⟩ 8 (by kernel_rfl) (by kernel_rfl) (by kernel_rfl) (by kernel_rfl)) ?_
  intro W base args ds gs before hval hW _ hz _
  refine law_ofB (C := C) (l := plainTys) kids full plainOk bytesOk plainLt (fun t ht => ?_) rfl rfl Try.underlying4 (fun ds hd => ?_) call_closed hval hW hz
  · have : Try.f9.params.toList.all (fun t => plainTys.contains t) = true := by kernel_rfl
    simpa using List.all_eq_true.1 this t ht
  · match ds, hd with
    | [d1, d2, d3], _ => rfl
theorem proved : Rows.DemandsBreaksSaid :=
  OpenClaim.holds_of_wide 9 Try.f9 rfl rfl rfl rfl rfl rfl rfl ⟨rfl, rfl, rfl, rfl, rfl⟩ rfl rfl rfl rfl rfl (by kernel_rfl) Try.func9 (by kernel_rfl)
    (of_decide_eq_true (by kernel_rfl)) (by unfold Func.isWrapper; first | (rw [if_pos (by decide +kernel)]; kernel_rfl) | (rw [if_neg (by decide +kernel)]; exact ⟨rfl, rfl⟩))
    (fun os started H enc _ => lifted os started H enc)
end Go.Proofs.Ytfhigmdfocbajaa.breaks
