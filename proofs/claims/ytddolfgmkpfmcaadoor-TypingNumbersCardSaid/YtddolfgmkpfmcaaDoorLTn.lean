/-
  The statement TypingNumbers.
-/
import Derived.Test.YtddolfgmkpfmcaaDoorTypP
namespace Go.Proofs.YtddolfgmkpfmcaaDoor.typingNumbers
open Go.Tidy Go.ChangeShapes Go.WideShapes Go.ChangeAt Go.RowKit
set_option maxRecDepth 100000
set_option maxHeartbeats 0
set_option linter.unusedSimpArgs false
set_option linter.unusedVariables false
theorem envOk (m : Int) (h : 0 ≤ m ∧ m < 49726) : envE (En.at m) = 0 := by
  unfold envE En.at
  exact if_pos (by simp only; omega)
theorem envs_ok {L : List Blk} {k : V → List Blk → Prop} (m : Int) (h : 0 ≤ m ∧ m < 49726) {x : En} (hx : En.at m = x) (hk : k (.tup [enV x, I 49726, I 0]) L) : CallP C 19 [I m] L k := envs_c m (by
  unfold envsX envsE; rw [if_neg (by omega), if_neg (by omega), hx]; exact hk)
theorem env_ok {L : List Blk} {k : V → List Blk → Prop} (m : Int) (h : 0 ≤ m ∧ m < 49726) {x : En} (hx : En.at m = x) (hk : k (I 0) L) : CallP C 21 [enV x] L k := env_c x (by rw [← hx, envOk m h]; exact hk)
def nth (x : En) : Nat → Int
  | 0 => x.tied
  | 1 => x.round
  | 2 => x.fin
  | _ => x.clubs
theorem ordered {p q : Int} (hp : 0 ≤ p ∧ p < 49726) (hq : 0 ≤ q ∧ q < 49726) {i : Nat} (hi : i < 4) (heq : ∀ j, j < i → nth (En.at p) j = nth (En.at q) j) (hne : nth (En.at p) i ≠ nth (En.at q) i) : (nth (En.at p) i < nth (En.at q) i ↔ p < q) := by
  have h0 := heq 0
  have h1 := heq 1
  have h2 := heq 2
  rcases (show i = 0 ∨ i = 1 ∨ i = 2 ∨ i = 3 by omega) with rfl | rfl | rfl | rfl
  · simp only [nth, En.at] at hne ⊢; omega
  · have := h0 (by decide); simp only [nth, En.at] at this hne ⊢; omega
  · have := h0 (by decide); have := h1 (by decide); simp only [nth, En.at] at *; omega
  · have := h0 (by decide); have := h1 (by decide); have := h2 (by decide); simp only [nth, En.at] at *; omega
theorem equal {p q : Int} (hp : 0 ≤ p ∧ p < 49726) (hq : 0 ≤ q ∧ q < 49726) (heq : ∀ j, j < 4 → nth (En.at p) j = nth (En.at q) j) : p = q := by
  have h0 := heq 0 (by decide)
  have h1 := heq 1 (by decide)
  have h2 := heq 2 (by decide)
  have h3 := heq 3 (by decide)
  simp only [nth, En.at] at h0 h1 h2 h3; omega
theorem len1 {l : List (List D)} (h : l.all (fun e => decide (e.length = 1)) = true) : ∀ e ∈ l, e.length = 1 := fun e he => by simpa using List.all_eq_true.1 h e he
theorem law (n m : Int) : CallP C 5 [I n, I m] [] fun X L => L = [] ∧ X = .d (.bool true) := by
  obtain ⟨p, hp0⟩ : ∃ p, p = (andI .i64 n 1073741823).tmod 49726 := ⟨_, rfl⟩
  obtain ⟨q, hq0⟩ : ∃ q, q = (andI .i64 m 1073741823).tmod 49726 := ⟨_, rfl⟩
  have ha := and_rng n 1073741823 (by decide)
  have hb := and_rng m 1073741823 (by decide)
  have hp : 0 ≤ (andI .i64 n 1073741823).tmod 49726 ∧ (andI .i64 n 1073741823).tmod 49726 < 49726 := by rw [Int.tmod_eq_emod_of_nonneg ha.1]; omega
  have hq : 0 ≤ (andI .i64 m 1073741823).tmod 49726 ∧ (andI .i64 m 1073741823).tmod 49726 < 49726 := by rw [Int.tmod_eq_emod_of_nonneg hb.1]; omega
  obtain ⟨x, hx⟩ : ∃ x, En.at ((andI .i64 n 1073741823).tmod 49726) = x := ⟨_, rfl⟩
  obtain ⟨y, hy⟩ : ∃ y, En.at ((andI .i64 m 1073741823).tmod 49726) = y := ⟨_, rfl⟩
  have hord : ∀ i, i < 4 → (∀ j, j < i → nth x j = nth y j) → nth x i ≠ nth y i → (nth x i < nth y i ↔ p < q) := by
    rw [← hx, ← hy, hp0, hq0]; exact fun i hi h1 h2 => ordered hp hq hi h1 h2
  have heq : (∀ j, j < 4 → nth x j = nth y j) → p = q := by
    rw [← hx, ← hy, hp0, hq0]; exact fun h => equal hp hq h
  refine callP_of C_ok Tryd.func5 rfl rfl (n := _) rfl (Nat.le_of_ble_eq_true rfl) (rs := _) rfl ?_
  repeat' (conv => whnf
           first | refine Br.tt ?_ | refine Br.ff ?_ | refine Br.dec (fun h => ?_) (fun h => ?_) | refine Br.not ?_ | refine Br.intro (fun h => ?_) (fun h => ?_) | refine GetE.intro _ rfl ?_ | refine Need.intro rfl ?_ | refine DrawP.go mixed rfl ?_ | refine sane_c ?_ | refine envs_ok _ hp hx ?_ | refine envs_ok _ hq hy ?_ | refine env_ok _ hp hx ?_ | refine env_ok _ hq hy ?_ | refine Need.intro (show (49726 : Int) ≠ 0 by decide) ?_)
  conv => whnf
  rw [← hp0] at hp hx
  rw [← hq0] at hq hy
  let st : Nat → TS := fun i => ⟨[(0, I p), (1, I q), (11, .d (ins [nth x 0, nth x 1, nth x 2, nth x 3])), (12, .d (ins [nth y 0, nth y 1, nth y 2, nth y 3])), (69, I 4), (70, I i)], Tryd.f5.ntmps, [], [], none⟩
  refine DrawP.por mixed [] [[(0, 0), (1, 3), (2, 0), (3, 3), (4, 0), (5, 3), (6, 0), (7, 3), (9, 0), (10, 3), (11, 0), (12, 3), (13, 0), (14, 3), (15, 0), (16, 3), (8, 0), (17, 0), (18, 0), (19, 0)], [(0, 0), (1, 3), (2, 0), (3, 3), (4, 0), (5, 3), (6, 0), (7, 3), (9, 0), (10, 3), (11, 0), (12, 3), (13, 0), (14, 3), (15, 0), (16, 3), (17, 0), (8, 0), (18, 0), (19, 0)]] (by kernel_rfl) ?_
  conv => whnf
  refine And.intro ?_ ?_
  all_goals
    repeat' (conv => whnf
             first | refine Br.tt ?_ | refine Br.ff ?_ | refine Br.dec (fun h => ?_) (fun h => ?_) | refine Br.not ?_ | refine Br.intro (fun h => ?_) (fun h => ?_) | refine GetE.intro _ rfl ?_ | refine Need.intro rfl ?_ | refine DrawP.go mixed rfl ?_)
    conv => whnf
    refine LoopP.inv (fun i : Nat => i ≤ 4 ∧ ∀ j, j < i → nth x j = nth y j) st (fun i => 4 - i) 0 ⟨by decide, fun j h => absurd h (Nat.not_lt_zero j)⟩ ?_ ?_
    · refine Weak.thaw 0 (Nat.le_refl 0) (Nat.zero_le _) rfl ⟨.inl ⟨congrArg I hp0.symm, rfl⟩, .inl ⟨congrArg I hq0.symm, rfl⟩, .inr (.d (.rowL (ds := [[.int .i64 (nth x 0)], [.int .i64 (nth x 1)], [.int .i64 (nth x 2)], [.int .i64 (nth x 3)]]) (Nat.zero_le _) rfl (.cons (.cons (.d _) .nil) (.cons (.cons (.d _) .nil) (.cons (.cons (.d _) .nil) (.cons (.cons (.d _) .nil) .nil)))) rfl (by exact len1 rfl))), .inr (.d (.rowL (ds := [[.int .i64 (nth y 0)], [.int .i64 (nth y 1)], [.int .i64 (nth y 2)], [.int .i64 (nth y 3)]]) (Nat.zero_le _) rfl (.cons (.cons (.d _) .nil) (.cons (.cons (.d _) .nil) (.cons (.cons (.d _) .nil) (.cons (.cons (.d _) .nil) .nil)))) rfl (by exact len1 rfl))), .inl ⟨rfl, rfl⟩, .inl ⟨rfl, rfl⟩, trivial⟩ (fun b x y hx hy => by have hy : ([] : List Blk)[b]? = some y := hy; simp at hy)
    rintro i ⟨hi, hj⟩
    rcases (show i = 0 ∨ i = 1 ∨ i = 2 ∨ i = 3 ∨ i = 4 by omega) with rfl | rfl | rfl | rfl | rfl
    · by_cases h : nth x 0 = nth y 0
      · repeat' (conv => whnf
                 first | refine Br.yes (decide_eq_true h) ?_ | refine Br.tt ?_ | refine Br.ff ?_ | refine Br.dec (fun h => ?_) (fun h => ?_) | refine Br.not ?_ | refine Br.intro (fun h => ?_) (fun h => ?_) | refine GetE.intro _ rfl ?_ | refine Need.intro rfl ?_ | refine DrawP.go mixed rfl ?_ | refine Idx.intro 0 _ rfl rfl ?_)
        conv => whnf
        exact ⟨1, ⟨by decide, fun j hjj => by
          by_cases e : j = 0
          · subst e; exact h
          · exact hj j (by omega)⟩, by decide, Weak.to 0 rfl (Nat.le_refl 0) (Nat.zero_le _) ⟨rfl, rfl, rfl, rfl, rfl, rfl, trivial⟩⟩
      · have ho := hord 0 (by decide) hj h
        have hv : (decide (nth x 0 < nth y 0) == decide (p < q)) = true := by rw [beq_iff_eq]; exact decide_eq_decide.2 ho
        repeat' (conv => whnf
                 first | refine Br.no (decide_eq_false h) ?_ | refine Br.tt ?_ | refine Br.ff ?_ | refine Br.dec (fun h => ?_) (fun h => ?_) | refine Br.not ?_ | refine Br.intro (fun h => ?_) (fun h => ?_) | refine GetE.intro _ rfl ?_ | refine Need.intro rfl ?_ | refine DrawP.go mixed rfl ?_ | refine Idx.intro 0 _ rfl rfl ?_)
        conv => whnf
        exact FinP.drop (n := 0) rfl (Nat.le_refl 0) rfl rfl ⟨rfl, Eq.trans (b := B (decide (nth x 0 < nth y 0) == decide (p < q))) rfl (congrArg B hv)⟩
    · by_cases h : nth x 1 = nth y 1
      · repeat' (conv => whnf
                 first | refine Br.yes (decide_eq_true h) ?_ | refine Br.tt ?_ | refine Br.ff ?_ | refine Br.dec (fun h => ?_) (fun h => ?_) | refine Br.not ?_ | refine Br.intro (fun h => ?_) (fun h => ?_) | refine GetE.intro _ rfl ?_ | refine Need.intro rfl ?_ | refine DrawP.go mixed rfl ?_ | refine Idx.intro 1 _ rfl rfl ?_)
        conv => whnf
        exact ⟨2, ⟨by decide, fun j hjj => by
          by_cases e : j = 1
          · subst e; exact h
          · exact hj j (by omega)⟩, by decide, Weak.to 0 rfl (Nat.le_refl 0) (Nat.zero_le _) ⟨rfl, rfl, rfl, rfl, rfl, rfl, trivial⟩⟩
      · have ho := hord 1 (by decide) hj h
        have hv : (decide (nth x 1 < nth y 1) == decide (p < q)) = true := by rw [beq_iff_eq]; exact decide_eq_decide.2 ho
        repeat' (conv => whnf
                 first | refine Br.no (decide_eq_false h) ?_ | refine Br.tt ?_ | refine Br.ff ?_ | refine Br.dec (fun h => ?_) (fun h => ?_) | refine Br.not ?_ | refine Br.intro (fun h => ?_) (fun h => ?_) | refine GetE.intro _ rfl ?_ | refine Need.intro rfl ?_ | refine DrawP.go mixed rfl ?_ | refine Idx.intro 1 _ rfl rfl ?_)
        conv => whnf
        exact FinP.drop (n := 0) rfl (Nat.le_refl 0) rfl rfl ⟨rfl, Eq.trans (b := B (decide (nth x 1 < nth y 1) == decide (p < q))) rfl (congrArg B hv)⟩
    · by_cases h : nth x 2 = nth y 2
      · repeat' (conv => whnf
                 first | refine Br.yes (decide_eq_true h) ?_ | refine Br.tt ?_ | refine Br.ff ?_ | refine Br.dec (fun h => ?_) (fun h => ?_) | refine Br.not ?_ | refine Br.intro (fun h => ?_) (fun h => ?_) | refine GetE.intro _ rfl ?_ | refine Need.intro rfl ?_ | refine DrawP.go mixed rfl ?_ | refine Idx.intro 2 _ rfl rfl ?_)
        conv => whnf
        exact ⟨3, ⟨by decide, fun j hjj => by
          by_cases e : j = 2
          · subst e; exact h
          · exact hj j (by omega)⟩, by decide, Weak.to 0 rfl (Nat.le_refl 0) (Nat.zero_le _) ⟨rfl, rfl, rfl, rfl, rfl, rfl, trivial⟩⟩
      · have ho := hord 2 (by decide) hj h
        have hv : (decide (nth x 2 < nth y 2) == decide (p < q)) = true := by rw [beq_iff_eq]; exact decide_eq_decide.2 ho
        repeat' (conv => whnf
                 first | refine Br.no (decide_eq_false h) ?_ | refine Br.tt ?_ | refine Br.ff ?_ | refine Br.dec (fun h => ?_) (fun h => ?_) | refine Br.not ?_ | refine Br.intro (fun h => ?_) (fun h => ?_) | refine GetE.intro _ rfl ?_ | refine Need.intro rfl ?_ | refine DrawP.go mixed rfl ?_ | refine Idx.intro 2 _ rfl rfl ?_)
        conv => whnf
        exact FinP.drop (n := 0) rfl (Nat.le_refl 0) rfl rfl ⟨rfl, Eq.trans (b := B (decide (nth x 2 < nth y 2) == decide (p < q))) rfl (congrArg B hv)⟩
    · by_cases h : nth x 3 = nth y 3
      · repeat' (conv => whnf
                 first | refine Br.yes (decide_eq_true h) ?_ | refine Br.tt ?_ | refine Br.ff ?_ | refine Br.dec (fun h => ?_) (fun h => ?_) | refine Br.not ?_ | refine Br.intro (fun h => ?_) (fun h => ?_) | refine GetE.intro _ rfl ?_ | refine Need.intro rfl ?_ | refine DrawP.go mixed rfl ?_ | refine Idx.intro 3 _ rfl rfl ?_)
        conv => whnf
        exact ⟨4, ⟨by decide, fun j hjj => by
          by_cases e : j = 3
          · subst e; exact h
          · exact hj j (by omega)⟩, by decide, Weak.to 0 rfl (Nat.le_refl 0) (Nat.zero_le _) ⟨rfl, rfl, rfl, rfl, rfl, rfl, trivial⟩⟩
      · have ho := hord 3 (by decide) hj h
        have hv : (decide (nth x 3 < nth y 3) == decide (p < q)) = true := by rw [beq_iff_eq]; exact decide_eq_decide.2 ho
        repeat' (conv => whnf
                 first | refine Br.no (decide_eq_false h) ?_ | refine Br.tt ?_ | refine Br.ff ?_ | refine Br.dec (fun h => ?_) (fun h => ?_) | refine Br.not ?_ | refine Br.intro (fun h => ?_) (fun h => ?_) | refine GetE.intro _ rfl ?_ | refine Need.intro rfl ?_ | refine DrawP.go mixed rfl ?_ | refine Idx.intro 3 _ rfl rfl ?_)
        conv => whnf
        exact FinP.drop (n := 0) rfl (Nat.le_refl 0) rfl rfl ⟨rfl, Eq.trans (b := B (decide (nth x 3 < nth y 3) == decide (p < q))) rfl (congrArg B hv)⟩
    · have e := heq hj
      repeat' (conv => whnf
               first | refine Br.tt ?_ | refine Br.ff ?_ | refine Br.dec (fun h => ?_) (fun h => ?_) | refine Br.not ?_ | refine Br.intro (fun h => ?_) (fun h => ?_) | refine GetE.intro _ rfl ?_ | refine Need.intro rfl ?_ | refine DrawP.go mixed rfl ?_)
      conv => whnf
      exact FinP.drop (n := 0) rfl (Nat.le_refl 0) rfl rfl ⟨rfl, Eq.trans (b := B (decide (p = q))) rfl (congrArg B (decide_eq_true e))⟩
theorem call_closed : ∀ xss, TyA C.P Tryd.f5.params.toList xss → (∀ xs ∈ xss, ∀ y ∈ xs, Dsm reachBytes y) → CallP C 5 (argVs C.P Tryd.f5.params.toList xss) [] fun X L => L = [] ∧ X = .d (.bool true) := by
  intro xss h hsm
  match xss, h, hsm with
  | [x1, x2], ⟨h1, h2, _⟩, hsm =>
    obtain ⟨x1, rfl, b1⟩ := intT h1 (hsm _ (by simp))
    obtain ⟨x2, rfl, b2⟩ := intT h2 (hsm _ (by simp))
    exact law x1 x2
theorem contract (H : Type) (enc : TypeId × Value → H) (W : World) (base : Nat) (args : Array Value) (ds gs : List (DataW H)) (before : List MemPlace)
    (hval : ∀ (j : Nat) t v, Tryd.f5.params[j]? = some t → args[j]? = some v → Value.okWide Tryd.prog W .any base t v)
    (hW : DataW.Whole enc Tryd.prog Tryd.f5.params.toList Rows.typingNumbersSpec.vars false W args.toList ds gs before)
    (hz : (DataW.weightsEach Tryd.prog (Tryd.f5.params.toList ++ Rows.typingNumbersSpec.plain.varTypes Tryd.prog) (ds ++ gs)).all (· ≤ reachBytes) = true) (hL : laidMetH Tryd.prog Rows.typingNumbersRow.laid W) :
    Calls Tryd.prog 5 args W fun e W' => ∃ v, e = .returned v ∧ Rows.typingNumbersSpec.post enc Tryd.prog Tryd.f5 false true false false W args v W' := by
  refine law_ofB (C := C) (l := plainTys) kids full plainOk bytesOk plainLt (fun t ht => ?_) rfl rfl Tryd.underlying4 (fun ds hd => ?_) call_closed hval hW hz (glob_ok hL)
  · have : Tryd.f5.params.toList.all (fun t => plainTys.contains t) = true := by kernel_rfl
    simpa using List.all_eq_true.1 this t ht
  · match ds, hd with
    | [d1, d2], _ => rfl
theorem laid_met (os : Os) : laidMet Tryd.prog Rows.typingNumbersRow.laid ((laidWorld os).forCall (fun _ _ => 0) ⟨#[], #[.int .i64 0, .int .i64 0], []⟩).memory :=
  laidMet_of_run' 8 (by kernel_rfl) (by kernel_rfl)
theorem reads (os : Os) {H : Type} (enc : TypeId × Value → H) : ∃ places, DataW.whole enc Tryd.prog ((laidWorld os).forCall (fun _ _ => 0) ⟨#[], #[.int .i64 0, .int .i64 0], []⟩).memory Tryd.f5.params.toList Rows.typingNumbersSpec.vars false #[.int .i64 0, .int .i64 0].toList 8 = some ([.lit (.int .i64 0), .lit (.int .i64 0)], [], places) :=
  ⟨[], by kernel_rfl⟩
set_option maxRecDepth 100000 in
theorem lifted (os : Os) (started : os.Started) (H : Type) (enc : TypeId × Value → H) (F : Stop.Interp) :
    ReturnsInHanded {} Tryd.checked os 5 .any ((OpenSpec.ofChange Rows.typingNumbersSpec).preRow enc Tryd.prog Tryd.f5 Rows.typingNumbersRow.domain false Rows.typingNumbersRow.laid) (((OpenSpec.ofChange Rows.typingNumbersSpec).at F).post enc Tryd.prog Tryd.f5 false true false false) := by
  obtain ⟨places, hx⟩ := reads os enc
  refine returnsInHanded_of_row (C := Tryd.checked) (s := OpenSpec.ofChange Rows.typingNumbersSpec) own started (by kernel_rfl) Tryd.func5
    (witness_row_at (enc := enc) (C := Tryd.checked) false (laidWorld os) #[.int .i64 0, .int .i64 0] rfl (by kernel_rfl) (by kernel_rfl) (by kernel_rfl)
      (OpenSpec.preRow_of_cond 8 hx (by kernel_rfl) (fun k hk => by cases hk) (by kernel_rfl) (laid_met os))) ?_
  intro W base args ds gs before hval hW _ _ hz hL _ _
  exact contract H enc W base args ds gs before hval hW hz hL
theorem said : Rows.TypingNumbersSaid :=
  OpenClaim.holds_of_cond 5 Tryd.f5 rfl rfl rfl rfl rfl rfl rfl ⟨rfl, rfl, rfl, rfl, rfl⟩ rfl rfl rfl rfl rfl (by kernel_rfl) Tryd.func5 (by kernel_rfl)
    (of_decide_eq_true (by kernel_rfl)) (by unfold Func.isWrapper; first | (rw [if_pos (by decide +kernel)]; kernel_rfl) | (rw [if_neg (by decide +kernel)]; exact ⟨rfl, rfl⟩))
    (fun os started H enc _ F => by rw [OpenClaim.pre_eq_preRow]; exact lifted os started H enc F)
theorem plain (f : FuncId) (fn : Func) (hf : Tryd.pinned.checked.prog.funcNamed "assize/assizelaw14.TypingNumbers" = some f) (hfn : Tryd.pinned.checked.prog.funcs[f]? = some fn) :
    true = Tryd.pinned.checked.prog.looks [] ∧ ∀ (j : Nat) t, fn.params[j]? = some t → Tryd.pinned.checked.prog.wantsStandIn t = false := by
  obtain rfl : f = 5 := Option.some.inj ((show Tryd.prog.funcNamed "assize/assizelaw14.TypingNumbers" = some 5 by kernel_rfl).symm.trans hf) |>.symm
  obtain rfl : fn = Tryd.f5 := (Option.some.inj (Tryd.func5.symm.trans hfn)).symm
  refine ⟨by kernel_rfl, fun j t ht => ?_⟩
  have hall : Tryd.f5.params.toList.all (fun t => !Tryd.prog.wantsStandIn t) = true := by kernel_rfl
  have := List.all_eq_true.1 hall t (by simpa using Array.mem_of_getElem? ht)
  show Tryd.prog.wantsStandIn t = false
  simpa using this
theorem proved : Rows.TypingNumbersCardSaid :=
  Claim7.holds_tied_plain_at .later [] _ _ _ _ said (fun _ h => by cases h) (by kernel_rfl) (fun _ h => by cases h) typingNumbers_row_tie rfl ⟨rfl, rfl⟩ (by kernel_rfl) rfl plain (by kernel_rfl)
end Go.Proofs.YtddolfgmkpfmcaaDoor.typingNumbers
