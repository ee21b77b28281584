/-
  The statement DemandsComplete: for full lists the doomed demands are the broken ones; no conditions.
-/
import Derived.Test.YtfhigmdfocbajaaDemT
import Derived.Test.YtfhigmdfocbajaaFixG
namespace Go.Proofs.Ytfhigmdfocbajaa.complete
open Go.Tidy Go.ChangeShapes Go.WideShapes Go.ChangeAt Go.RowKit
set_option maxRecDepth 100000
set_option maxHeartbeats 0
set_option linter.unusedSimpArgs false
set_option linter.unusedVariables false
theorem brkE_zero {l : List (List Mt)} {p : Pl} (h : brkE l p = 0) : checkP p = 0 ∧ FullP l p := by
  unfold brkE at h
  by_cases h0 : checkP p = 0
  · rw [if_pos h0] at h
    by_cases hF : FullP l p
    · exact ⟨h0, hF⟩
    · rw [if_neg hF] at h; omega
  · rw [if_neg h0] at h; exact absurd h h0
theorem brkE_ne {l : List (List Mt)} {p : Pl} (h : ¬ brkE l p = 0) : brkL l p = [] := by
  unfold brkL
  refine if_neg fun hh => h ?_
  unfold brkE; rw [if_pos hh.1, if_pos hh.2]
/-- The indices of the demands that do not hold. -/
def wantGo (l : List (List Mt)) : List Dm → Nat → List Int
  | [], _ => []
  | d :: ds, i => if holdsF l d = true then wantGo l ds (i + 1) else (i : Int) :: wantGo l ds (i + 1)
theorem want_snoc (l : List (List Mt)) (d : Dm) : ∀ (ds : List Dm) (i : Nat), wantGo l (ds ++ [d]) i = wantGo l ds i ++ (if holdsF l d = true then [] else [((i + ds.length : Nat) : Int)])
  | [], i => by
    rw [List.nil_append, wantGo, wantGo, wantGo]
    split <;> rfl
  | e :: ds, i => by
    rw [List.cons_append, wantGo, wantGo, want_snoc l d ds (i + 1), List.length_cons, show i + 1 + ds.length = i + (ds.length + 1) by omega]
    split <;> simp
theorem want_len (l : List (List Mt)) : ∀ (ds : List Dm) (i : Nat), (wantGo l ds i).length ≤ ds.length
  | [], _ => Nat.le_refl _
  | e :: ds, i => by
    have := want_len l ds (i + 1)
    rw [wantGo]
    split <;> simp only [List.length_cons] <;> omega
theorem want_eq {l : List (List Mt)} {p : Pl} (hr : ∀ r ∈ l, r.length ≤ 4611686018427387904) (hF : FullP l p) : ∀ (ds : List Dm) (i : Nat), (∀ d ∈ ds, validF p d = true) → (doomGo (pR l p) ds i).map (fun (i : Nat) => (i : Int)) = wantGo l ds i
  | [], _, _ => rfl
  | d :: ds, i, h => by
    have ih := want_eq hr hF ds (i + 1) fun d hd => h d (by simp [hd])
    have := full_holds hr hF (h d (by simp))
    rw [doomGo, wantGo, ← ih, this]
    cases doomsF (pR l p) d <;> rfl
def wL (l : List (List Mt)) (p : Pl) (x : List Int) : List Blk := [.cells [.d (lisD l)], .cells (p.cells.map .d), .row x.length 1 (rdI x)]
theorem wL_bel (l : List (List Mt)) (p : Pl) (x : List Int) : belB 3 (wL l p x) = true := by
  show (true && (V.belL 3 (p.cells.map .d) && (belR 3 (rdI x) && true))) = true
  rw [V.belL_d, rdI_bel]; rfl
theorem wL_next (l : List (List Mt)) (p : Pl) (x : List Int) (v : Int) : [Blk.cells [.d (lisD l)], .cells (p.cells.map .d), .row (x.length + 1) 1 ((rdI x).take x.length ++ [[I v]])] = wL l p (x ++ [v]) := by
  unfold wL rdI
  rw [List.take_of_length_le (by rw [List.length_map]; exact Nat.le_refl _), List.length_append, List.map_append]; rfl
theorem brk_e {L : List Blk} {k : V → List Blk → Prop} {l : List (List Mt)} {p : Pl} (hs : Small l p) {b : List Int} (hb : brkL l p = b) (hE : brkE l p = 0) (h : k (.tup [.d (ints b), I 0]) L) : CallP C 15 [lisV l, plV p] L k := brk_c l p hs (by
  show k (.tup [.d (ints (brkL l p)), I (brkE l p)]) L
  rw [hb, hE]; exact h)
theorem dmd_e {L : List Blk} {k : V → List Blk → Prop} {l : List (List Mt)} {p : Pl} (hs : Small l p) {a : Int} (ha : dmA l p = a) (hE : dmE l p = 0) (h : k (.tup [I a, I 0]) L) : CallP C 20 [lisV l, plV p] L k := dmd_c l p hs (by
  show k (.tup [I (dmA l p), I (dmE l p)]) L
  rw [ha, hE]; exact h)
theorem full_e {L : List Blk} {k : V → List Blk → Prop} {l : List (List Mt)} {p : Pl} (hs : Small l p) (h0 : checkP p = 0) (hF : FullP l p) (h : k (.tup [B true, I 0]) L) : CallP C 26 [lisV l, .d (ints p.clubs), B p.double] L k := ffull_c l p.clubs p.double hs.hl hs.hr hs.hc (by
  rw [full_fullB h0 hF, full_fixE h0 hF]; exact h)
theorem law (l : List (List Mt)) (p : Pl) (hl : l.length ≤ 140737488355328 ∧ ∀ r ∈ l, r.length ≤ 140737488355328) (hp : PlB p) : CallP C 10 [lisV l, plV p] [] fun X L => L = [] ∧ X = .d (.bool true) := by
  have hfit : Fits l p := ⟨hl.1, hl.2, hp.hc, hp.hd, hp.hD⟩
  refine callP_of C_ok Try.func10 rfl rfl (n := _) rfl (Nat.le_of_ble_eq_true rfl) (rs := _) rfl ?_
  by_cases hb : bulkN l p ≤ 200
  · have hs := (small_of hb).toSmall
    have hD := hs.hD
    by_cases hE : brkE l p = 0
    · obtain ⟨h0, hF⟩ := brkE_zero hE
      obtain ⟨b, hb'⟩ : ∃ b, brkL l p = b := ⟨_, rfl⟩
      obtain ⟨ha, hAE⟩ := dmA_of h0 hF.1
      have hbw : b = wantGo l p.demands 0 := by
        rw [← hb']; unfold brkL; rw [if_pos ⟨h0, hF⟩]; exact want_eq hs.hr hF p.demands 0 (checkP_valid h0)
      have hbd : b = doomL (pR l p) p := by
        rw [← hb']; unfold brkL; rw [if_pos ⟨h0, hF⟩]
      rw [← hbd] at ha
      have hbl : b.length ≤ 4611686018427387904 := by rw [hbw]; exact Nat.le_trans (want_len _ _ _) (by omega)
      repeat' (conv => whnf
               first | refine sane_c ?_ | refine rfew_c l p hfit ?_ | refine Br.yes (decide_eq_true hb) ?_ | refine brk_e hs hb' hE ?_ | refine Br.yes (decide_eq_true (rfl : (0 : Int) = 0)) ?_ | refine Br.tt ?_ | refine Br.ff ?_ | refine Br.dec (fun h => ?_) (fun h => ?_) | refine Br.not ?_ | refine Br.intro (fun h => ?_) (fun h => ?_) | refine GetE.intro _ rfl ?_ | refine Need.intro rfl ?_ | refine DrawP.go mixed rfl ?_)
      conv => whnf
      refine LoopP.inv (fun i => i ≤ p.demands.length) (fun i => ⟨[(2, .ptr 0 0), (3, .ptr 1 0), (5, .d (ints b)), (7, .own 2 (wantGo l (p.demands.take i) 0).length 0 (wantGo l (p.demands.take i) 0).length), (8, I i)], Try.f10.ntmps, wL l p (wantGo l (p.demands.take i) 0), [], none⟩) (fun i => p.demands.length - i) 0 (Nat.zero_le _) ?_ ?_
      · exact Weak.by ⟨rfl, rfl, rfl, rfl, rfl, trivial⟩
      intro i hi
      obtain ⟨x, hx⟩ : ∃ x, x = wantGo l (p.demands.take i) 0 := ⟨_, rfl⟩
      have hxi : x.length ≤ i := by rw [hx]; refine Nat.le_trans (want_len _ _ _) ?_; rw [List.length_take]; omega
      have hxl : x.length ≤ p.demands.length := by omega
      rw [← hx]
      by_cases hi' : i < p.demands.length
      · have hlt : (i : Int) < ((p.demands.map Dm.cells).length : Int) := by rw [List.length_map]; omega
        have hw : IntKind.i64.wrap ((i : Int) + 1) = ((i + 1 : Nat) : Int) := by rw [wrap_in (by omega)]; omega
        have r1 : (p.demands.map Dm.cells)[i]? = some (p.demands[i]).cells := by rw [List.getElem?_map, List.getElem?_eq_getElem hi']; rfl
        have hdi := hs.hd _ (List.getElem_mem hi')
        have hnx : wantGo l (p.demands.take (i + 1)) 0 = x ++ (if holdsF l p.demands[i] = true then [] else [(i : Int)]) := by
          rw [take_next hi', want_snoc, ← hx, List.length_take, Nat.zero_add, Nat.min_eq_left (by omega)]
        cases hh : holdsF l p.demands[i] with
        | true =>
          rw [hh, if_pos rfl, List.append_nil] at hnx
          repeat' (conv => whnf
                   first | refine Br.yes (decide_eq_true hlt) ?_ | refine Idx.intro i _ rfl r1 ?_ | refine QCall.intro _ (holds_c l p.demands[i] hs.hl hs.hr hdi ⟨rfl, rfl⟩) ?_ | refine Br.yes hh ?_ | refine Br.tt ?_ | refine Br.ff ?_ | refine Br.dec (fun h => ?_) (fun h => ?_) | refine Br.not ?_ | refine Br.intro (fun h => ?_) (fun h => ?_) | refine GetE.intro _ rfl ?_ | refine Need.intro rfl ?_ | refine DrawP.go mixed rfl ?_)
          conv => whnf
          exact ⟨i + 1, hi', by omega, Weak.by ⟨rfl, rfl, rfl, (by rw [hnx]; rfl), congrArg I hw, trivial⟩ (hL := congrArg (wL l p) hnx.symm)⟩
        | false =>
          rw [hh, if_neg (by decide)] at hnx
          have hcn := wL_next l p x i
          rw [← hnx] at hcn
          have hln : (wantGo l (p.demands.take (i + 1)) 0).length = x.length + 1 := by rw [hnx, List.length_append]; rfl
          repeat' (conv => whnf
                   first | refine Br.yes (decide_eq_true hlt) ?_ | refine Idx.intro i _ rfl r1 ?_ | refine QCall.intro _ (holds_c l p.demands[i] hs.hl hs.hr hdi ⟨rfl, rfl⟩) ?_ | refine Br.no hh ?_ | simp only [Nat.beq_refl, Bool.and_self] | refine Need.intro (show x.length + 1 ≤ 4294967296 by omega) ?_ | refine Br.tt ?_ | refine Br.ff ?_ | refine Br.dec (fun h => ?_) (fun h => ?_) | refine Br.not ?_ | refine Br.intro (fun h => ?_) (fun h => ?_) | refine GetE.intro _ rfl ?_ | refine Need.intro rfl ?_ | refine DrawP.go mixed rfl ?_)
          conv => whnf
          exact ⟨i + 1, hi', by omega, Weak.to 3 (Eq.trans rfl hcn) (Nat.zero_le _) (Nat.le_of_ble_eq_true rfl) ⟨rfl, rfl, rfl, (by rw [hln]; rfl), congrArg I hw, trivial⟩ (hB := wL_bel l p _)⟩
      · have hlt : ¬ (i : Int) < ((p.demands.map Dm.cells).length : Int) := by rw [List.length_map]; omega
        have hxb : x = b := by rw [hx, hbw, List.take_of_length_le (by omega)]
        repeat' (conv => whnf
                 first | refine Br.no (decide_eq_false hlt) ?_ | refine dmd_e hs ha hAE ?_ | refine full_e hs h0 hF ?_ | refine CallP.lent (rsame_c b x hbl ⟨rfl, rfl⟩) (.keep (.cv (.d (.rowL trivial rfl (rdI_rows' x) (by simp) (rdI_e x))) .nil)) rfl rfl ?_ | refine Br.yes (decide_eq_true (rfl : (0 : Int) = 0)) ?_ | refine Br.yes (decide_eq_true hxb.symm) ?_ | simp only [Nat.beq_refl, Bool.and_self] | refine Br.tt ?_ | refine Br.ff ?_ | refine Br.dec (fun h => ?_) (fun h => ?_) | refine Br.not ?_ | refine Br.intro (fun h => ?_) (fun h => ?_) | refine GetE.intro _ rfl ?_ | refine Need.intro rfl ?_ | refine DrawP.go mixed rfl ?_)
        all_goals conv => whnf
        · have hx0 : b = [] := by rw [← hxb]; exact List.eq_nil_of_length_eq_zero (by omega)
          exact FinP.drop (n := 0) rfl (Nat.le_refl 0) rfl rfl ⟨rfl, congrArg B (decide_eq_true (by rw [hx0]; rfl))⟩
        · have hpos : 0 < x.length := by omega
          have hg : (rdI x)[0 + 0]? = some [I x[0]] := rdI_get hpos
          have hhd : b.headD (-1) = x[0] := by
            subst hxb
            cases x with
            | nil => simp at hpos
            | cons y x => rfl
          repeat' (conv => whnf
                   first | refine IdxN.intro 0 rfl hpos ?_ | refine GetE.intro _ hg ?_ | simp only [Nat.beq_refl, Bool.and_self] | refine Br.tt ?_ | refine Br.ff ?_ | refine Br.dec (fun h => ?_) (fun h => ?_) | refine Br.not ?_ | refine Br.intro (fun h => ?_) (fun h => ?_) | refine GetE.intro _ rfl ?_ | refine Need.intro rfl ?_ | refine DrawP.go mixed rfl ?_)
          conv => whnf
          exact FinP.drop (n := 0) rfl (Nat.le_refl 0) rfl rfl ⟨rfl, congrArg B (decide_eq_true hhd)⟩
    · have hB := brkE_ne hE
      repeat' (conv => whnf
               first | refine sane_c ?_ | refine rfew_c l p hfit ?_ | refine Br.yes (decide_eq_true hb) ?_ | refine brk_c l p hs ?_ | refine Br.no (decide_eq_false hE) ?_ | refine Br.tt ?_ | refine Br.ff ?_ | refine Br.dec (fun h => ?_) (fun h => ?_) | refine Br.not ?_ | refine Br.intro (fun h => ?_) (fun h => ?_) | refine GetE.intro _ rfl ?_ | refine Need.intro rfl ?_ | refine DrawP.go mixed rfl ?_)
      conv => whnf
      exact FinP.drop (n := 0) rfl (Nat.le_refl 0) rfl rfl ⟨rfl, congrArg B (decide_eq_true (by rw [hB]; rfl))⟩
  · repeat' (conv => whnf
             first | refine sane_c ?_ | refine rfew_c l p hfit ?_ | refine Br.no (decide_eq_false hb) ?_ | refine Br.tt ?_ | refine Br.ff ?_ | refine Br.dec (fun h => ?_) (fun h => ?_) | refine Br.not ?_ | refine Br.intro (fun h => ?_) (fun h => ?_) | refine GetE.intro _ rfl ?_ | refine Need.intro rfl ?_ | refine DrawP.go mixed rfl ?_)
    all_goals conv => whnf
    all_goals exact FinP.drop (n := 0) rfl (Nat.le_refl 0) rfl rfl ⟨rfl, rfl⟩
theorem call_closed : ∀ xss, TyA C.P Try.f10.params.toList xss → (∀ xs ∈ xss, ∀ y ∈ xs, Dsm reachBytes y) → CallP C 10 (argVs C.P Try.f10.params.toList xss) [] fun X L => L = [] ∧ X = .d (.bool true) := by
  intro xss h hsm
  match xss, h, hsm with
  | [x1, x2], ⟨h1, h2, _⟩, hsm =>
    obtain ⟨x1, rfl, b1⟩ := lisT h1 (hsm _ (by simp))
    obtain ⟨x2, rfl, b2⟩ := plT h2 (hsm _ (by simp))
    exact law x1 x2 b1 b2
set_option maxRecDepth 100000 in
theorem lifted (os : Os) (started : os.Started) (H : Type) (enc : TypeId × Value → H) :
    ReturnsInHanded {} Try.checked os 10 .any (Rows.demandsCompleteSpec.pre6 enc Try.prog Try.f10 Rows.demandsCompleteRow.domain false) (Rows.demandsCompleteSpec.post enc Try.prog Try.f10 false true false false) := by
  refine returnsInHanded_of_change_sized (C := Try.checked) own started (by kernel_rfl) Try.func10
    (ChangeSpec.witness6 (enc := enc) (C := Try.checked) false ⟨#[], #[.agg #[.slice none 0 0], .agg #[.slice none 0 0, .bool false, .slice none 0 0]], []⟩ 8 (by kernel_rfl) (by kernel_rfl) (by kernel_rfl) (by kernel_rfl)) ?_
  intro W base args ds gs before hval hW _ hz _
  refine law_ofB (C := C) (l := plainTys) kids full plainOk bytesOk plainLt (fun t ht => ?_) rfl rfl Try.underlying4 (fun ds hd => ?_) call_closed hval hW hz
  · have : Try.f10.params.toList.all (fun t => plainTys.contains t) = true := by kernel_rfl
    simpa using List.all_eq_true.1 this t ht
  · match ds, hd with
    | [d1, d2], _ => rfl
theorem proved : Rows.DemandsCompleteSaid :=
  OpenClaim.holds_of_wide 10 Try.f10 rfl rfl rfl rfl rfl rfl rfl ⟨rfl, rfl, rfl, rfl, rfl⟩ rfl rfl rfl rfl rfl (by kernel_rfl) Try.func10 (by kernel_rfl)
    (of_decide_eq_true (by kernel_rfl)) (by unfold Func.isWrapper; first | (rw [if_pos (by decide +kernel)]; kernel_rfl) | (rw [if_neg (by decide +kernel)]; exact ⟨rfl, rfl⟩))
    (fun os started H enc _ => lifted os started H enc)
end Go.Proofs.Ytfhigmdfocbajaa.complete
