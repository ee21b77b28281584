/-
  The statement TypingBranches.
-/
import Derived.Test.YtddolfgmkpfmcaaDoorTypZA
namespace Go.Proofs.YtddolfgmkpfmcaaDoor.typingBranches
open Go.Tidy Go.ChangeShapes Go.WideShapes Go.ChangeAt Go.RowKit
set_option maxRecDepth 100000
set_option maxHeartbeats 0
set_option linter.unusedSimpArgs false
set_option linter.unusedVariables false
theorem len8 (a b c d e f g h : D) : ∀ x ∈ [[a, b, c, d, e, f, g, h]], x.length = 8 := fun x hx => by rw [List.mem_singleton.1 hx]; rfl
theorem law (c : Co) (l m : List Sp) (n : Int) (hc : LCo c) (hl : LSs l) (hm : LSs m) : CallP C 9 [.agg (c.cells.map .d), .d (sps l), .d (sps m), I n] [] fun X L => L = [] ∧ X = .d (.bool true) := by
  have f1 : ∀ {L : List Blk} {k : V → List Blk → Prop}, k (B (fewB l)) L → CallP C 11 [.d (sps l)] L k := fun h => few_c _ hl h
  have f1m : ∀ {L : List Blk} {k : V → List Blk → Prop}, k (B (fewB m)) L → CallP C 11 [.d (sps m)] L k := fun h => few_c _ hm h
  have f2 : ∀ {L : List Blk} {k : V → List Blk → Prop}, k (B (fewC c)) L → CallP C 12 [.agg (c.cells.map .d)] L k := fun h => fewc_c _ hc h
  obtain ⟨y, hy⟩ : ∃ y, y = En.at (envN n) := ⟨_, rfl⟩
  have hy0 : envE y = 0 := by rw [hy]; exact envAt_ok n
  have f3 : ∀ {L : List Blk} {k : V → List Blk → Prop}, k (enV y) L → CallP C 23 [I n] L k := fun h => env14_c n (by rw [← hy]; exact h)
  have hs := lss_choice hl hm hc
  have hcell : (Sp.mk 2 0 c l m).cells = [DI 2, DI 0, DI c.kind, DI c.var, DI c.n, cos c.parts, sps l, sps m] := Sp.cells_eq _
  have d0 : ∀ (u : List Int) (e : Int), directB [.mk 2 0 c l m] y = u → directE [.mk 2 0 c l m] y = e → ∀ {L : List Blk} {k : V → List Blk → Prop}, k (.tup [.d (ins u), I e]) L → CallP C 24 [.d (.sl [[DI 2, DI 0, DI c.kind, DI c.var, DI c.n, cos c.parts, sps l, sps m]]), enV y] L k := fun u e h1 h2 _ _ h => by
    have := Direct_c [.mk 2 0 c l m] y hs (order_dsp hs) (by rw [h1, h2]; exact h)
    unfold sps at this
    rw [List.map_cons, List.map_nil, hcell] at this
    exact this
  have dl : ∀ (u : List Int) (e : Int), directB l y = u → directE l y = e → ∀ {L : List Blk} {k : V → List Blk → Prop}, k (.tup [.d (ins u), I e]) L → CallP C 24 [.d (sps l), enV y] L k := fun u e h1 h2 _ _ h => Direct_c l y hl (order_dsp hl) (by rw [h1, h2]; exact h)
  have dm : ∀ (u : List Int) (e : Int), directB m y = u → directE m y = e → ∀ {L : List Blk} {k : V → List Blk → Prop}, k (.tup [.d (ins u), I e]) L → CallP C 24 [.d (sps m), enV y] L k := fun u e h1 h2 _ _ h => Direct_c m y hm (order_dsp hm) (by rw [h1, h2]; exact h)
  have hh : ∀ (b : Bool) (e : Int), holdsB c y = b → holdsE c y = e → ∀ {L : List Blk} {k : V → List Blk → Prop}, k (.tup [B b, I e]) L → CallP C 28 [.agg (c.cells.map .d), enV y] L k := fun b e h1 h2 _ _ h => Holds_c c y hc (cond_hco hc) (by rw [h1, h2]; exact h)
  have hsame : ∀ u : List Int, u.length ≤ 12 → ∀ {L : List Blk} {k : V → List Blk → Prop}, k (B true) L → CallP C 26 [.d (ins u), .d (ins u)] L k := fun u hu _ _ h => same_c u u (by omega) (by omega) (by rw [decide_eq_true rfl]; exact h)
  rw [Co.cells_eq] at f2 hh ⊢
  refine callP_of C_ok Tryd.func9 rfl rfl (n := _) rfl (Nat.le_of_ble_eq_true rfl) (rs := _) rfl ?_
  cases h1 : fewB l with
  | false =>
    rw [h1] at f1
    repeat' (conv => whnf
             first | refine Br.tt ?_ | refine Br.ff ?_ | refine Br.dec (fun h => ?_) (fun h => ?_) | refine Br.not ?_ | refine Br.intro (fun h => ?_) (fun h => ?_) | refine GetE.intro _ rfl ?_ | refine Need.intro rfl ?_ | refine DrawP.go mixed rfl ?_ | refine sane_c ?_ | refine f1 ?_)
    conv => whnf
    exact FinP.drop (n := 0) rfl (Nat.le_refl 0) rfl rfl ⟨rfl, rfl⟩
  | true =>
  rw [h1] at f1
  cases h2 : fewB m with
  | false =>
    rw [h2] at f1m
    repeat' (conv => whnf
             first | refine Br.tt ?_ | refine Br.ff ?_ | refine Br.dec (fun h => ?_) (fun h => ?_) | refine Br.not ?_ | refine Br.intro (fun h => ?_) (fun h => ?_) | refine GetE.intro _ rfl ?_ | refine Need.intro rfl ?_ | refine DrawP.go mixed rfl ?_ | refine sane_c ?_ | refine f1 ?_ | refine f1m ?_)
    conv => whnf
    exact FinP.drop (n := 0) rfl (Nat.le_refl 0) rfl rfl ⟨rfl, rfl⟩
  | true =>
  rw [h2] at f1m
  cases h3 : fewC c with
  | false =>
    rw [h3] at f2
    repeat' (conv => whnf
             first | refine Br.tt ?_ | refine Br.ff ?_ | refine Br.dec (fun h => ?_) (fun h => ?_) | refine Br.not ?_ | refine Br.intro (fun h => ?_) (fun h => ?_) | refine GetE.intro _ rfl ?_ | refine Need.intro rfl ?_ | refine DrawP.go mixed rfl ?_ | refine sane_c ?_ | refine f1 ?_ | refine f1m ?_ | refine f2 ?_)
    conv => whnf
    exact FinP.drop (n := 0) rfl (Nat.le_refl 0) rfl rfl ⟨rfl, rfl⟩
  | true =>
  rw [h3] at f2
  by_cases ho : orderF [.mk 2 0 c l m] = 0
  rotate_left
  · have hd := direct_no (x := y) ho
    have g0 : ∀ {L : List Blk} {k : V → List Blk → Prop}, k (.tup [.d (ins []), I (orderF [.mk 2 0 c l m])]) L → CallP C 24 [.d (.sl [[DI 2, DI 0, DI c.kind, DI c.var, DI c.n, cos c.parts, sps l, sps m]]), enV y] L k := fun h => d0 _ _ hd.1 hd.2 h
    generalize orderF [.mk 2 0 c l m] = oo at *
    repeat' (conv => whnf
             first | refine Br.no (decide_eq_false ho) ?_ | refine Br.tt ?_ | refine Br.ff ?_ | refine Br.dec (fun h => ?_) (fun h => ?_) | refine Br.not ?_ | refine Br.intro (fun h => ?_) (fun h => ?_) | refine GetE.intro _ rfl ?_ | refine Need.intro rfl ?_ | refine DrawP.go mixed rfl ?_ | refine sane_c ?_ | refine f1 ?_ | refine f1m ?_ | refine f2 ?_ | refine f3 ?_ | refine CallP.freeze [2] rfl rfl (.cv (y := .d (.sl [[DI 2, DI 0, DI c.kind, DI c.var, DI c.n, cos c.parts, sps l, sps m]])) (.d (.rowL (ds := [[DI 2, DI 0, DI c.kind, DI c.var, DI c.n, cos c.parts, sps l, sps m]]) (List.mem_singleton.2 rfl) rfl (.cons (CvL.data [DI 2, DI 0, DI c.kind, DI c.var, DI c.n, cos c.parts, sps l, sps m]) .nil) rfl (len8 _ _ _ _ _ _ _ _))) (.keep .nil)) (g0 ?_))
    conv => whnf
    exact FinP.drop (n := 0) rfl (Nat.zero_le _) rfl rfl ⟨rfl, rfl⟩
  obtain ⟨hco, hol, hom⟩ := choice_ok ho
  have hd := direct_ok ho hy0
  have hdl := direct_ok hol hy0
  have hhB : holdsB c y = hoF y c ∧ holdsE c y = 0 := by
    unfold holdsB holdsE; rw [if_neg (fun h => h hco), hco, hy0]; exact ⟨rfl, rfl⟩
  rw [choice_dS] at hd
  have hul := (dSs_ok hl hol y).len
  have gl : ∀ {L : List Blk} {k : V → List Blk → Prop}, k (.tup [.d (ins (dSs y [] l)), I 0]) L → CallP C 24 [.d (sps l), enV y] L k := fun h => dl _ _ hdl.1 hdl.2 h
  cases hb : hoF y c with
  | true =>
    rw [hb, if_pos rfl] at hd
    rw [hb] at hhB
    have g0 : ∀ {L : List Blk} {k : V → List Blk → Prop}, k (.tup [.d (ins (dSs y [] l)), I 0]) L → CallP C 24 [.d (.sl [[DI 2, DI 0, DI c.kind, DI c.var, DI c.n, cos c.parts, sps l, sps m]]), enV y] L k := fun h => d0 _ _ hd.1 hd.2 h
    have gh : ∀ {L : List Blk} {k : V → List Blk → Prop}, k (.tup [B true, I 0]) L → CallP C 28 [.agg [I c.kind, I c.var, I c.n, .d (cos c.parts)], enV y] L k := fun h => hh _ _ hhB.1 hhB.2 h
    generalize dSs y [] l = u at *
    have gs := fun {L : List Blk} {k : V → List Blk → Prop} => hsame u hul (L := L) (k := k)
    repeat' (conv => whnf
             first | refine Br.tt ?_ | refine Br.ff ?_ | refine Br.dec (fun h => ?_) (fun h => ?_) | refine Br.not ?_ | refine Br.intro (fun h => ?_) (fun h => ?_) | refine GetE.intro _ rfl ?_ | refine Need.intro rfl ?_ | refine DrawP.go mixed rfl ?_ | refine sane_c ?_ | refine f1 ?_ | refine f1m ?_ | refine f2 ?_ | refine f3 ?_ | refine CallP.freeze [2] rfl rfl (.cv (y := .d (.sl [[DI 2, DI 0, DI c.kind, DI c.var, DI c.n, cos c.parts, sps l, sps m]])) (.d (.rowL (ds := [[DI 2, DI 0, DI c.kind, DI c.var, DI c.n, cos c.parts, sps l, sps m]]) (List.mem_singleton.2 rfl) rfl (.cons (CvL.data [DI 2, DI 0, DI c.kind, DI c.var, DI c.n, cos c.parts, sps l, sps m]) .nil) rfl (len8 _ _ _ _ _ _ _ _))) (.keep .nil)) (g0 ?_) | refine gh ?_ | refine gl ?_ | refine gs ?_)
    conv => whnf
    exact FinP.drop (n := 0) rfl (Nat.zero_le _) rfl rfl ⟨rfl, rfl⟩
  | false =>
    rw [hb, if_neg (by decide)] at hd
    rw [hb] at hhB
    have g0 : ∀ {L : List Blk} {k : V → List Blk → Prop}, k (.tup [.d (ins (dSs y [] m)), I 0]) L → CallP C 24 [.d (.sl [[DI 2, DI 0, DI c.kind, DI c.var, DI c.n, cos c.parts, sps l, sps m]]), enV y] L k := fun h => d0 _ _ hd.1 hd.2 h
    have gh : ∀ {L : List Blk} {k : V → List Blk → Prop}, k (.tup [B false, I 0]) L → CallP C 28 [.agg [I c.kind, I c.var, I c.n, .d (cos c.parts)], enV y] L k := fun h => hh _ _ hhB.1 hhB.2 h
    by_cases hm0 : ((m.map Sp.cells).length : Int) = 0
    · have hme : m = [] := List.eq_nil_of_length_eq_zero (by rw [List.length_map] at hm0; omega)
      have e0 : dSs y [] m = [] := by rw [hme, dSs]
      rw [e0] at g0
      repeat' (conv => whnf
               first | refine Br.yes (decide_eq_true hm0) ?_ | refine Br.tt ?_ | refine Br.ff ?_ | refine Br.dec (fun h => ?_) (fun h => ?_) | refine Br.not ?_ | refine Br.intro (fun h => ?_) (fun h => ?_) | refine GetE.intro _ rfl ?_ | refine Need.intro rfl ?_ | refine DrawP.go mixed rfl ?_ | refine sane_c ?_ | refine f1 ?_ | refine f1m ?_ | refine f2 ?_ | refine f3 ?_ | refine CallP.freeze [2] rfl rfl (.cv (y := .d (.sl [[DI 2, DI 0, DI c.kind, DI c.var, DI c.n, cos c.parts, sps l, sps m]])) (.d (.rowL (ds := [[DI 2, DI 0, DI c.kind, DI c.var, DI c.n, cos c.parts, sps l, sps m]]) (List.mem_singleton.2 rfl) rfl (.cons (CvL.data [DI 2, DI 0, DI c.kind, DI c.var, DI c.n, cos c.parts, sps l, sps m]) .nil) rfl (len8 _ _ _ _ _ _ _ _))) (.keep .nil)) (g0 ?_) | refine gh ?_ | refine gl ?_)
      conv => whnf
      exact FinP.drop (n := 0) rfl (Nat.zero_le _) rfl rfl ⟨rfl, rfl⟩
    have hom' := hom (by rintro rfl; simp at hm0)
    have hdm := direct_ok hom' hy0
    have hum := (dSs_ok hm hom' y).len
    have gm : ∀ {L : List Blk} {k : V → List Blk → Prop}, k (.tup [.d (ins (dSs y [] m)), I 0]) L → CallP C 24 [.d (sps m), enV y] L k := fun h => dm _ _ hdm.1 hdm.2 h
    generalize dSs y [] m = u at *
    have gs := fun {L : List Blk} {k : V → List Blk → Prop} => hsame u hum (L := L) (k := k)
    repeat' (conv => whnf
             first | refine Br.no (decide_eq_false hm0) ?_ | refine Br.tt ?_ | refine Br.ff ?_ | refine Br.dec (fun h => ?_) (fun h => ?_) | refine Br.not ?_ | refine Br.intro (fun h => ?_) (fun h => ?_) | refine GetE.intro _ rfl ?_ | refine Need.intro rfl ?_ | refine DrawP.go mixed rfl ?_ | refine sane_c ?_ | refine f1 ?_ | refine f1m ?_ | refine f2 ?_ | refine f3 ?_ | refine CallP.freeze [2] rfl rfl (.cv (y := .d (.sl [[DI 2, DI 0, DI c.kind, DI c.var, DI c.n, cos c.parts, sps l, sps m]])) (.d (.rowL (ds := [[DI 2, DI 0, DI c.kind, DI c.var, DI c.n, cos c.parts, sps l, sps m]]) (List.mem_singleton.2 rfl) rfl (.cons (CvL.data [DI 2, DI 0, DI c.kind, DI c.var, DI c.n, cos c.parts, sps l, sps m]) .nil) rfl (len8 _ _ _ _ _ _ _ _))) (.keep .nil)) (g0 ?_) | refine gh ?_ | refine gl ?_ | refine gm ?_ | refine gs ?_)
    conv => whnf
    exact FinP.drop (n := 0) rfl (Nat.zero_le _) rfl rfl ⟨rfl, rfl⟩
theorem call_closed : ∀ xss, TyA C.P Tryd.f9.params.toList xss → (∀ xs ∈ xss, ∀ y ∈ xs, Dsm reachBytes y) → CallP C 9 (argVs C.P Tryd.f9.params.toList xss) [] fun X L => L = [] ∧ X = .d (.bool true) := by
  intro xss h hsm
  match xss, h, hsm with
  | [x1, x2, x3, x4], ⟨h1, h2, h3, h4, _⟩, hsm =>
    obtain ⟨x1, rfl, b1⟩ := condT h1 (hsm _ (by simp))
    obtain ⟨x2, rfl, b2⟩ := stepsT h2 (hsm _ (by simp))
    obtain ⟨x3, rfl, b3⟩ := stepsT h3 (hsm _ (by simp))
    obtain ⟨x4, rfl, b4⟩ := intT h4 (hsm _ (by simp))
    exact law x1 x2 x3 x4 b1 b2 b3
theorem contract (H : Type) (enc : TypeId × Value → H) (W : World) (base : Nat) (args : Array Value) (ds gs : List (DataW H)) (before : List MemPlace)
    (hval : ∀ (j : Nat) t v, Tryd.f9.params[j]? = some t → args[j]? = some v → Value.okWide Tryd.prog W .any base t v)
    (hW : DataW.Whole enc Tryd.prog Tryd.f9.params.toList Rows.typingBranchesSpec.vars false W args.toList ds gs before)
    (hz : (DataW.weightsEach Tryd.prog (Tryd.f9.params.toList ++ Rows.typingBranchesSpec.plain.varTypes Tryd.prog) (ds ++ gs)).all (· ≤ reachBytes) = true) (hL : laidMetH Tryd.prog Rows.typingBranchesRow.laid W) :
    Calls Tryd.prog 9 args W fun e W' => ∃ v, e = .returned v ∧ Rows.typingBranchesSpec.post enc Tryd.prog Tryd.f9 false true false false W args v W' := by
  refine law_ofB (C := C) (l := plainTys) kids full plainOk bytesOk plainLt (fun t ht => ?_) rfl rfl Tryd.underlying4 (fun ds hd => ?_) call_closed hval hW hz (glob_ok hL)
  · have : Tryd.f9.params.toList.all (fun t => plainTys.contains t) = true := by kernel_rfl
    simpa using List.all_eq_true.1 this t ht
  · match ds, hd with
    | [d1, d2, d3, d4], _ => rfl
theorem laid_met (os : Os) : laidMet Tryd.prog Rows.typingBranchesRow.laid ((laidWorld os).forCall (fun _ _ => 0) ⟨#[], #[.agg #[.int .i64 0, .int .i64 0, .int .i64 0, .slice none 0 0], .slice none 0 0, .slice none 0 0, .int .i64 0], []⟩).memory :=
  laidMet_of_run' 8 (by kernel_rfl) (by kernel_rfl)
theorem reads (os : Os) {H : Type} (enc : TypeId × Value → H) : ∃ places, DataW.whole enc Tryd.prog ((laidWorld os).forCall (fun _ _ => 0) ⟨#[], #[.agg #[.int .i64 0, .int .i64 0, .int .i64 0, .slice none 0 0], .slice none 0 0, .slice none 0 0, .int .i64 0], []⟩).memory Tryd.f9.params.toList Rows.typingBranchesSpec.vars false #[.agg #[.int .i64 0, .int .i64 0, .int .i64 0, .slice none 0 0], .slice none 0 0, .slice none 0 0, .int .i64 0].toList 8 = some ([.agg [.lit (.int .i64 0), .lit (.int .i64 0), .lit (.int .i64 0), .nil], .nil, .nil, .lit (.int .i64 0)], [], places) :=
  ⟨[], by kernel_rfl⟩
set_option maxRecDepth 100000 in
theorem lifted (os : Os) (started : os.Started) (H : Type) (enc : TypeId × Value → H) (F : Stop.Interp) :
    ReturnsInHanded {} Tryd.checked os 9 .any ((OpenSpec.ofChange Rows.typingBranchesSpec).preRow enc Tryd.prog Tryd.f9 Rows.typingBranchesRow.domain false Rows.typingBranchesRow.laid) (((OpenSpec.ofChange Rows.typingBranchesSpec).at F).post enc Tryd.prog Tryd.f9 false true false false) := by
  obtain ⟨places, hx⟩ := reads os enc
  refine returnsInHanded_of_row (C := Tryd.checked) (s := OpenSpec.ofChange Rows.typingBranchesSpec) own started (by kernel_rfl) Tryd.func9
    (witness_row_at (enc := enc) (C := Tryd.checked) false (laidWorld os) #[.agg #[.int .i64 0, .int .i64 0, .int .i64 0, .slice none 0 0], .slice none 0 0, .slice none 0 0, .int .i64 0] rfl (by kernel_rfl) (by kernel_rfl) (by kernel_rfl)
      (OpenSpec.preRow_of_cond 8 hx (by kernel_rfl) (fun k hk => by cases hk) (by kernel_rfl) (laid_met os))) ?_
  intro W base args ds gs before hval hW _ _ hz hL _ _
  exact contract H enc W base args ds gs before hval hW hz hL
theorem said : Rows.TypingBranchesSaid :=
  OpenClaim.holds_of_cond 9 Tryd.f9 rfl rfl rfl rfl rfl rfl rfl ⟨rfl, rfl, rfl, rfl, rfl⟩ rfl rfl rfl rfl rfl (by kernel_rfl) Tryd.func9 (by kernel_rfl)
    (of_decide_eq_true (by kernel_rfl)) (by unfold Func.isWrapper; first | (rw [if_pos (by decide +kernel)]; kernel_rfl) | (rw [if_neg (by decide +kernel)]; exact ⟨rfl, rfl⟩))
    (fun os started H enc _ F => by rw [OpenClaim.pre_eq_preRow]; exact lifted os started H enc F)
theorem plain (f : FuncId) (fn : Func) (hf : Tryd.pinned.checked.prog.funcNamed "assize/assizelaw14.TypingBranches" = some f) (hfn : Tryd.pinned.checked.prog.funcs[f]? = some fn) :
    true = Tryd.pinned.checked.prog.looks [] ∧ ∀ (j : Nat) t, fn.params[j]? = some t → Tryd.pinned.checked.prog.wantsStandIn t = false := by
  obtain rfl : f = 9 := Option.some.inj ((show Tryd.prog.funcNamed "assize/assizelaw14.TypingBranches" = some 9 by kernel_rfl).symm.trans hf) |>.symm
  obtain rfl : fn = Tryd.f9 := (Option.some.inj (Tryd.func9.symm.trans hfn)).symm
  refine ⟨by kernel_rfl, fun j t ht => ?_⟩
  have hall : Tryd.f9.params.toList.all (fun t => !Tryd.prog.wantsStandIn t) = true := by kernel_rfl
  have := List.all_eq_true.1 hall t (by simpa using Array.mem_of_getElem? ht)
  show Tryd.prog.wantsStandIn t = false
  simpa using this
theorem proved : Rows.TypingBranchesCardSaid :=
  Claim7.holds_tied_plain_at .later [] _ _ _ _ said (fun _ h => by cases h) (by kernel_rfl) (fun _ h => by cases h) typingBranches_row_tie rfl ⟨rfl, rfl⟩ (by kernel_rfl) rfl plain (by kernel_rfl)
end Go.Proofs.YtddolfgmkpfmcaaDoor.typingBranches
