/-
  The statement DemandsSound: a demand that a beginning dooms is not met by the full list.
-/
import Derived.Test.YtfhigmdfocbajaaDemT
import Derived.Test.YtfhigmdfocbajaaDemY
namespace Go.Proofs.Ytfhigmdfocbajaa.sound
open Go.Tidy Go.ChangeShapes Go.WideShapes Go.ChangeAt Go.RowKit
set_option maxRecDepth 100000
set_option maxHeartbeats 0
set_option linter.unusedSimpArgs false
set_option linter.unusedVariables false
theorem brkE_zero {l : List (List Mt)} {p : Pl} (h : brkE l p = 0) : checkP p = 0 ∧ FullP l p := by
  unfold brkE at h
  by_cases h0 : checkP p = 0
  · rw [if_pos h0] at h
    by_cases hF : FullP l p
    · exact ⟨h0, hF⟩
    · rw [if_neg hF] at h; omega
  · rw [if_neg h0] at h; exact absurd h h0
theorem brkE_ne {l : List (List Mt)} {p : Pl} (h : ¬ brkE l p = 0) : brkL l p = [] := by
  unfold brkL
  refine if_neg fun hh => h ?_
  unfold brkE; rw [if_pos hh.1, if_pos hh.2]
theorem law (l : List (List Mt)) (p : Pl) (n m : Int) (hl : l.length ≤ 140737488355328 ∧ ∀ r ∈ l, r.length ≤ 140737488355328) (hp : PlB p) : CallP C 6 [lisV l, plV p, I n, I m] [] fun X L => L = [] ∧ X = .d (.bool true) := by
  have hfit : Fits l p := ⟨hl.1, hl.2, hp.hc, hp.hd, hp.hD⟩
  refine callP_of C_ok Try.func6 rfl rfl (n := _) rfl (Nat.le_of_ble_eq_true rfl) (rs := _) rfl ?_
  by_cases hb : bulkN l p ≤ 200
  · have hs := (small_of hb).toSmall
    have hsA := (cut_beg l n m).small hs
    have hlen : (brkL l p).length ≤ 4611686018427387904 := by
      unfold brkL
      split
      · exact Nat.le_trans (doomL_len _ _) (by have := hs.hD; omega)
      · exact Nat.zero_le _
    by_cases hE : brkE l p = 0
    · obtain ⟨h0, hF⟩ := brkE_zero hE
      obtain ⟨a, ha⟩ : ∃ a, dmA (cutF l n m) p = a := ⟨_, rfl⟩
      obtain ⟨b, hb'⟩ : ∃ b, brkL l p = b := ⟨_, rfl⟩
      have hAE : dmE (cutF l n m) p = 0 := by unfold dmE; rw [if_pos h0, if_pos (beg_part (cut_beg l n m) h0 hF.1)]
      have key : a = -1 ∨ ∃ (i : Nat) (hi : i < p.demands.length), a = (i : Int) ∧ a ∈ b ∧ holdsF l p.demands[i] = false := by
        have hd : dmA (cutF l n m) p = (doomL (pR (cutF l n m) p) p).headD (-1) := by unfold dmA; rw [if_pos ⟨h0, beg_part (cut_beg l n m) h0 hF.1⟩]
        have hB : brkL l p = doomL (pR l p) p := by unfold brkL; rw [if_pos ⟨h0, hF⟩]
        rw [hd] at ha
        rcases doomL_head (pR (cutF l n m) p) p with ⟨h1, _⟩ | h1
        · exact .inl (by rw [← ha]; exact h1)
        · rw [ha] at h1
          have h2 := beg_dooms (cut_beg l n m) hs h0 hF.1 h1
          obtain ⟨i, hi, e, hdm⟩ := doomL_mem.1 h2
          exact .inr ⟨i, hi, e, by rw [← hb', hB]; exact h2, by rw [full_holds hs.hr hF (checkP_valid h0 _ (List.getElem_mem hi)), hdm]; rfl⟩
      have h1 : ¬ a < -1 := by rcases key with h | ⟨i, _, h, _⟩ <;> omega
      have h2 : ¬ ((p.demands.map Dm.cells).length : Int) ≤ a := by rw [List.length_map]; rcases key with h | ⟨i, _, h, _⟩ <;> omega
      repeat' (conv => whnf
               first | refine sane_c ?_ | refine rfew_c l p hfit ?_ | refine Br.yes (decide_eq_true hb) ?_ | refine brk_e hs hb' hE ?_ | refine QCall.intro _ (cut_c l n m hs.hl hs.hr ⟨rfl, rfl⟩) ?_ | refine QCall.intro _ (dmd_e hsA ha hAE ⟨rfl, rfl⟩) ?_ | refine cut_c l n m hs.hl hs.hr ?_ | refine dmd_e hsA ha hAE ?_ | refine Br.no (decide_eq_false h1) ?_ | refine Br.no (decide_eq_false h2) ?_ | refine Br.tt ?_ | refine Br.ff ?_ | refine Br.dec (fun h => ?_) (fun h => ?_) | refine Br.not ?_ | refine Br.intro (fun h => ?_) (fun h => ?_) | refine GetE.intro _ rfl ?_ | refine Need.intro rfl ?_ | refine DrawP.go mixed rfl ?_)
      all_goals conv => whnf
      · exact FinP.drop (n := 0) rfl (Nat.le_refl 0) rfl rfl ⟨rfl, rfl⟩
      refine LoopP.inv (fun i => i ≤ b.length) (fun i => ⟨[(4, .ptr 0 0), (5, .ptr 1 0), (9, .d (ints b)), (11, I a), (13, B (decide (a ∈ b.take i))), (14, I i)], Try.f6.ntmps, [.cells [.d (lisD l)], .cells (p.cells.map .d)], [], none⟩) (fun i => b.length - i) 0 (Nat.zero_le _) ?_ ?_
      · exact Weak.to 2 rfl (Nat.zero_le _) (Nat.le_of_ble_eq_true rfl) ⟨rfl, rfl, rfl, rfl, rfl, rfl, trivial⟩
      obtain ⟨y, hy, hay, hab, hol⟩ : ∃ (y : Nat) (hi : y < p.demands.length), a = (y : Int) ∧ a ∈ b ∧ holdsF l p.demands[y] = false := by
        rcases key with h' | h'
        · omega
        · exact h'
      have hyd := hs.hd _ (List.getElem_mem hy)
      intro i hi
      have hbl : b.length ≤ 4611686018427387904 := by rw [← hb']; exact hlen
      by_cases hm : a ∈ b.take i
      · repeat' (conv => whnf
                 first | refine Br.yes (decide_eq_true hm) ?_ | refine Br.dec (fun hlt => ?_) (fun hlt => ?_) | refine Idx.map y hay hy ?_ | refine QCall.intro _ (holds_c l p.demands[y] hs.hl hs.hr hyd ⟨rfl, rfl⟩) ?_ | refine holds_c l p.demands[y] hs.hl hs.hr hyd ?_ | refine Br.tt ?_ | refine Br.ff ?_ | refine Br.dec (fun h => ?_) (fun h => ?_) | refine Br.not ?_ | refine Br.intro (fun h => ?_) (fun h => ?_) | refine GetE.intro _ rfl ?_ | refine Need.intro rfl ?_ | refine DrawP.go mixed rfl ?_)
        all_goals conv => whnf
        · have hi' : i < b.length := by simp only [List.length_map] at hlt; omega
          have hw : IntKind.i64.wrap ((i : Int) + 1) = ((i + 1 : Nat) : Int) := by rw [wrap_in (by omega)]; omega
          have hm' : a ∈ b.take (i + 1) := by rw [take_next hi']; exact List.mem_append_left _ hm
          exact ⟨i + 1, hi', by omega, Weak.to 2 rfl (Nat.zero_le _) (Nat.le_of_ble_eq_true rfl) ⟨rfl, rfl, rfl, rfl, congrArg B (decide_eq_true hm').symm, congrArg I hw, trivial⟩⟩
        · exact FinP.drop (n := 0) rfl (Nat.le_refl 0) rfl rfl ⟨rfl, congrArg B (by rw [hol]; rfl)⟩
      · repeat' (conv => whnf
                 first | refine Br.no (decide_eq_false hm) ?_ | refine Br.dec (fun hlt => ?_) (fun hlt => ?_) | refine Idx.map i rfl (show i < b.length by first | (simp only [List.length_map] at hlt; omega) | omega) ?_ | refine Br.tt ?_ | refine Br.ff ?_ | refine Br.dec (fun h => ?_) (fun h => ?_) | refine Br.not ?_ | refine Br.intro (fun h => ?_) (fun h => ?_) | refine GetE.intro _ rfl ?_ | refine Need.intro rfl ?_ | refine DrawP.go mixed rfl ?_)
        all_goals conv => whnf
        · have hi' : i < b.length := by simp only [List.length_map] at hlt; omega
          have hw : IntKind.i64.wrap ((i : Int) + 1) = ((i + 1 : Nat) : Int) := by rw [wrap_in (by omega)]; omega
          have hd : decide (b[i] = a) = decide (a ∈ b.take (i + 1)) := by
            rw [take_next hi']
            refine decide_eq_decide.2 ⟨fun e => List.mem_append_right _ (List.mem_singleton.2 e.symm), fun e => ?_⟩
            rcases List.mem_append.1 e with e | e
            · exact absurd e hm
            · exact (List.mem_singleton.1 e).symm
          exact ⟨i + 1, hi', by omega, Weak.to 2 rfl (Nat.zero_le _) (Nat.le_of_ble_eq_true rfl) ⟨rfl, rfl, rfl, rfl, congrArg B hd, congrArg I hw, trivial⟩⟩
        · refine absurd ?_ hm
          rw [List.take_of_length_le (by simp only [List.length_map] at hlt; omega)]; exact hab
    · repeat' (conv => whnf
               first | refine sane_c ?_ | refine rfew_c l p hfit ?_ | refine Br.yes (decide_eq_true hb) ?_ | refine brk_c l p hs ?_ | refine Br.no (decide_eq_false hE) ?_ | refine Br.tt ?_ | refine Br.ff ?_ | refine Br.dec (fun h => ?_) (fun h => ?_) | refine Br.not ?_ | refine Br.intro (fun h => ?_) (fun h => ?_) | refine GetE.intro _ rfl ?_ | refine Need.intro rfl ?_ | refine DrawP.go mixed rfl ?_)
      all_goals conv => whnf
      exact FinP.drop (n := 0) rfl (Nat.le_refl 0) rfl rfl ⟨rfl, congrArg B (decide_eq_true (by rw [brkE_ne hE]; rfl))⟩
  · repeat' (conv => whnf
             first | refine sane_c ?_ | refine rfew_c l p hfit ?_ | refine Br.no (decide_eq_false hb) ?_ | refine Br.tt ?_ | refine Br.ff ?_ | refine Br.dec (fun h => ?_) (fun h => ?_) | refine Br.not ?_ | refine Br.intro (fun h => ?_) (fun h => ?_) | refine GetE.intro _ rfl ?_ | refine Need.intro rfl ?_ | refine DrawP.go mixed rfl ?_)
    conv => whnf
    exact FinP.drop (n := 0) rfl (Nat.le_refl 0) rfl rfl ⟨rfl, rfl⟩
theorem call_closed : ∀ xss, TyA C.P Try.f6.params.toList xss → (∀ xs ∈ xss, ∀ y ∈ xs, Dsm reachBytes y) → CallP C 6 (argVs C.P Try.f6.params.toList xss) [] fun X L => L = [] ∧ X = .d (.bool true) := by
  intro xss h hsm
  match xss, h, hsm with
  | [x1, x2, x3, x4], ⟨h1, h2, h3, h4, _⟩, hsm =>
    obtain ⟨x1, rfl, b1⟩ := lisT h1 (hsm _ (by simp))
    obtain ⟨x2, rfl, b2⟩ := plT h2 (hsm _ (by simp))
    obtain ⟨x3, rfl, b3⟩ := intT h3 (hsm _ (by simp))
    obtain ⟨x4, rfl, b4⟩ := intT h4 (hsm _ (by simp))
    exact law x1 x2 x3 x4 b1 b2
set_option maxRecDepth 100000 in
theorem lifted (os : Os) (started : os.Started) (H : Type) (enc : TypeId × Value → H) :
    ReturnsInHanded {} Try.checked os 6 .any (Rows.demandsSoundSpec.pre6 enc Try.prog Try.f6 Rows.demandsSoundRow.domain false) (Rows.demandsSoundSpec.post enc Try.prog Try.f6 false true false false) := by
  refine returnsInHanded_of_change_sized (C := Try.checked) own started (by kernel_rfl) Try.func6
    (ChangeSpec.witness6 (enc := enc) (C := Try.checked) false ⟨#[], #[.agg #[.slice none 0 0], .agg #[.slice none 0 0, .bool false, .slice none 0 0], .int .i64 0, .int .i64 0], []⟩ 8 (by kernel_rfl) (by kernel_rfl) (by kernel_rfl) (by kernel_rfl)) ?_
  intro W base args ds gs before hval hW _ hz _
  refine law_ofB (C := C) (l := plainTys) kids full plainOk bytesOk plainLt (fun t ht => ?_) rfl rfl Try.underlying4 (fun ds hd => ?_) call_closed hval hW hz
  · have : Try.f6.params.toList.all (fun t => plainTys.contains t) = true := by kernel_rfl
    simpa using List.all_eq_true.1 this t ht
  · match ds, hd with
    | [d1, d2, d3, d4], _ => rfl
theorem proved : Rows.DemandsSoundSaid :=
  OpenClaim.holds_of_wide 6 Try.f6 rfl rfl rfl rfl rfl rfl rfl ⟨rfl, rfl, rfl, rfl, rfl⟩ rfl rfl rfl rfl rfl (by kernel_rfl) Try.func6 (by kernel_rfl)
    (of_decide_eq_true (by kernel_rfl)) (by unfold Func.isWrapper; first | (rw [if_pos (by decide +kernel)]; kernel_rfl) | (rw [if_neg (by decide +kernel)]; exact ⟨rfl, rfl⟩))
    (fun os started H enc _ => lifted os started H enc)
end Go.Proofs.Ytfhigmdfocbajaa.sound
