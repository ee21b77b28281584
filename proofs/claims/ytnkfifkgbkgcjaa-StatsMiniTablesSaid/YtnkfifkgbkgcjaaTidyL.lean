/-
  The base layer: the entry of a function; rounds.
-/
import Derived.Test.YtnkfifkgbkgcjaaTidyK
namespace Go.Tidy

def initFr : Nat → List V → List (Nat × V)
  | _, [] => []
  | i, x :: r => (i, x) :: initFr (i + 1) r

def vResults (C : Ctx) (fr : List (Nat × V)) (L : List Blk) : List ResultVar → (List V → Prop) → Prop
  | [], k => k []
  | .tmp t :: r, k => vResults C fr L r fun xs => k (norm (look fr t) :: xs)
  | .cell a t :: r, k => vLoad C t (look fr a) L fun x => vResults C fr L r fun xs => k (x :: xs)

def resV : List V → V
  | [x] => x
  | xs => .tup xs

def killAll (df : List Nat) (L : List Blk) : List Blk := df.foldl (fun L b => L.set b .dead) L

def vRet (C : Ctx) (k0 : Nat) (rs : List ResultVar) (σ : TS) (k : V → List Blk → Prop) : Prop :=
  vResults C σ.fr (killAll σ.df σ.L) rs fun xs => FinP k0 (resV xs) (killAll σ.df σ.L) k

section
variable {C : Ctx} {g : Gh} {w : World} {L : List Blk} {r : Option Nat}

theorem look_init : ∀ (xs : List V) (n i : Nat), look (initFr n xs) i = if n ≤ i then (xs[i - n]?).getD .poison else .poison
  | [], n, i => by simp [initFr, look]
  | x :: xs, n, i => by
    simp only [initFr]
    rw [look_cons, look_init xs (n + 1) i]
    by_cases h : n = i
    · subst h; simp
    · rw [if_neg h]
      by_cases h2 : n ≤ i
      · rw [if_pos h2, if_pos (by omega)]
        have : i - n = (i - (n + 1)) + 1 := by omega
        rw [this]; simp
      · rw [if_neg h2, if_neg (by omega)]

theorem init_frame {xs : List V} {vs : Array Value} (h : RVs g w L xs vs) (n : Nat) : ∀ i, RV g w L (look (initFr 0 xs) i) ((vs ++ Array.replicate (n - vs.size) undef).getD i undef) := by
  intro i
  rw [look_init]
  simp only [Nat.zero_le, if_true, Nat.sub_zero]
  cases e : xs[i]? with
  | none => exact .poison _
  | some x =>
    have hi := lt_of_get e
    have hv : vs[i]? = some (vs[i]'(by rw [← h.1]; exact hi)) := Array.getElem?_eq_getElem _
    have : (vs ++ Array.replicate (n - vs.size) undef).getD i undef = vs[i]'(by rw [← h.1]; exact hi) := by
      rw [Array.getD_eq_getD_getElem?, Array.getElem?_append_left (by rw [← h.1]; exact hi), hv]; rfl
    rw [this]
    exact h.2 i x _ e hv

def resOne (tmps : Array Value) : ResultVar → Sem Value := fun
  | .tmp t => pure (tmps.getD t undef)
  | .cell a t => do loadVar t (← asAddr (tmps.getD a undef))
theorem results_eq (fn : Func) (tmps : Array Value) : results fn tmps = (do
  let vs ← fn.results.mapM (resOne tmps)
  pure (if h : vs.size = 1 then vs[0] else .tuple vs)) := rfl

theorem vResults_ok (hC : C.OK) {fr : List (Nat × V)} {tmps : Array Value} (hfr : ∀ i, RV g w L (look fr i) (tmps.getD i undef)) (hg : Good g w L) : ∀ (rs : List ResultVar) (k : List V → Prop), vResults C fr L rs k →
    ∃ vs xs, (rs.mapM (resOne tmps)).run C.P w = .ok vs w ∧ k xs ∧ xs.length = vs.length ∧ ∀ (j : Nat) (x : V) (v : Value), xs[j]? = some x → vs[j]? = some v → RV g w L x v
  | [], k, h => ⟨[], [], by simp, by simpa [vResults] using h, rfl, fun j x v h _ => by simp at h⟩
  | .tmp t :: rs, k, h => by
    simp only [vResults] at h
    obtain ⟨vs, xs, h1, h2, h3, h4⟩ := vResults_ok hC hfr hg rs _ h
    refine ⟨tmps.getD t undef :: vs, norm (look fr t) :: xs, ?_, h2, by simp [h3], fun j x v hx hv => ?_⟩
    · rw [List.mapM_cons]
      simp only [resOne, Sem.run_bind, Sem.run_pure, Result.andThen_ok]
      rw [show (rs.mapM (resOne tmps)).run C.P w = _ from h1]
      rfl
    · cases j with
      | zero => simp only [List.getElem?_cons_zero, Option.some.injEq] at hx hv; subst hx hv; exact norm_ok (hfr t)
      | succ j => exact h4 j x v (by simpa using hx) (by simpa using hv)
  | .cell a t :: rs, k, h => by
    simp only [vResults] at h
    obtain ⟨rv, X, hr, hk, hX⟩ := vLoad_ok hC hg (hfr a) h
    obtain ⟨vs, xs, h1, h2, h3, h4⟩ := vResults_ok hC hfr hg rs _ hk
    have hr' : (resOne tmps (.cell a t)).run C.P w = .ok rv w := by
      unfold Instr.loadAt Instr.sureAddr at hr
      cases hv : tmps.getD a undef <;> rw [hv] at hr
      case pointer p => cases p with
        | none => simp at hr
        | some p => simpa [resOne, hv, asAddr] using hr
      all_goals simp at hr
    refine ⟨rv :: vs, X :: xs, ?_, h2, by simp [h3], fun j x v hx hv => ?_⟩
    · rw [List.mapM_cons]
      rw [Sem.run_bind, hr']
      simp only [Sem.run_bind, Sem.run_pure, Result.andThen_ok]
      rw [show (rs.mapM (resOne tmps)).run C.P w = _ from h1]
      rfl
    · cases j with
      | zero => simp only [List.getElem?_cons_zero, Option.some.injEq] at hx hv; subst hx hv; exact hX
      | succ j => exact h4 j x v (by simpa using hx) (by simpa using hv)

/-- The results of a function. -/
theorem results_ok (hC : C.OK) {fn : Func} {fr : List (Nat × V)} {tmps : Array Value} (hfr : ∀ i, RV g w L (look fr i) (tmps.getD i undef)) (hg : Good g w L) {k : List V → Prop} (h : vResults C fr L fn.results.toList k) :
    ∃ v xs, (results fn tmps).run C.P w = .ok v w ∧ k xs ∧ RV g w L (resV xs) v := by
  obtain ⟨vs, xs, h1, h2, h3, h4⟩ := vResults_ok hC hfr hg _ k h
  have hrun : (results fn tmps).run C.P w = .ok (if h : vs.toArray.size = 1 then vs.toArray[0] else .tuple vs.toArray) w := by
    rw [results_eq, Array.mapM_eq_mapM_toList]
    simp only [Sem.run_bind, Sem.run_map, h1, Result.andThen_ok, Sem.run_pure]
  refine ⟨_, xs, hrun, h2, ?_⟩
  match xs, vs, h3, h4 with
  | [], [], _, _ => exact .tup [] #[] rfl (fun j x v h _ => by simp at h)
  | [x], [v], _, h4 => simpa [resV] using h4 0 x v rfl rfl
  | x :: y :: xs, v :: u :: vs, h3, h4 =>
    have e : (if h : (v :: u :: vs).toArray.size = 1 then (v :: u :: vs).toArray[0] else Value.tuple (v :: u :: vs).toArray) = .tuple (v :: u :: vs).toArray := by
      rw [dif_neg (by simp)]
    rw [e]
    exact .tup _ _ (by simpa using h3) (fun j x v hx hv => h4 j x v hx (by simpa using hv))

/-- The marks at a function's end. -/
theorem marks_ok (hC : C.OK) {k0 : Nat} {fn : Func} {tmps : Array Value} {n : Nat} {R : Ending → World → Prop} {fr : List (Nat × V)} : ∀ (df : List Nat) (ds : List Deferred) (g : Gh) (w : World) (L : List Blk), ds.length = df.length →
    (∀ (i b : Nat) (d : Deferred), df[i]? = some b → ds[i]? = some d → ∃ q, g.m b = some q ∧ d = { target := .collected q, args := #[] } ∧ L[b]? = some .defr) → df.Nodup → (∀ b ∈ df, k0 ≤ b) →
    (∀ i, RV g w L (look fr i) (tmps.getD i undef)) → Good g w L → k0 ≤ L.length →
    (∀ (b : Nat) (l : LoopR), L[b]? = some (Blk.loop l) → l.df ∉ df) →
    (∀ g' w', (∀ i, RV g' w' (killAll df L) (look fr i) (tmps.getD i undef)) → Good g' w' (killAll df L) → Prog k0 g w L g' w' (killAll df L) → ∃ v, (results fn tmps).run C.P w' = .ok v w' ∧ R (.returned v) w') →
    LeavesInM Fence.wide n C.P fn tmps R ds .returning w
  | [], [], g, w, L, _, _, _, _, hfr, hg, _, _, hfin => by
    have := hfin g w hfr hg (Prog.refl _ _ _ _)
    simpa [LeavesInM, LeavesIn, killAll] using this
  | [], d :: ds, _, _, _, h, _, _, _, _, _, _, _, _ => by simp at h
  | b :: df, [], _, _, _, h, _, _, _, _, _, _, _, _ => by simp at h
  | b :: df, d :: ds, g, w, L, hlen, hds, hnd, hk, hfr, hg, hkl, hlp, hfin => by
    obtain ⟨q, h1, h2, h3⟩ := hds 0 b d rfl rfl
    subst h2
    obtain ⟨q', h4, h5⟩ := hg.blk b _ h3
    rw [h1] at h4; cases h4
    rw [List.nodup_cons] at hnd
    refine ⟨by simp, .inl ⟨q, _, rfl, run_takeDeferred h5, ?_⟩⟩
    have hbl := lt_of_get h3
    have hkb := hk b (by simp)
    -- the block for deferred calls is shut
    have hdead : (L.set b .dead)[b]? = some .dead := List.getElem?_set_self hbl
    have hother : ∀ b', b' ≠ b → (L.set b .dead)[b']? = L[b']? := fun b' e => List.getElem?_set_ne (Ne.symm e)
    have hown : owned g L q := ⟨b, ⟨_, h3, by simp⟩, h1⟩
    have hcell : ∀ (a : Addr) (v : Value), g.I a.block → w.cell? a = some v → (w.putObj q (.deferred none)).cell? a = some v := fun a v hI hc => by
      rw [World.cell?_of_block (w := w)]
      · exact hc
      · exact World.putObj_heap_other (fun e => hg.dis q hown (e ▸ hI))
    have hkeep : ∀ b', Keep g L g (L.set b .dead) b' := fun b' => by
      by_cases e : b' = b
      · subst e
        exact ⟨fun cs' e => (by rw [h3] at e; cases e), fun gen1 sz1 els1 e => (by rw [h3] at e; cases e), fun es e => (by rw [h3] at e; cases e), fun l e => (by rw [h3] at e; cases e), fun e => (by rw [h3] at e; cases e)⟩
      · exact Keep.same (hother b' e) rfl rfl
    have hmono : ∀ (x : V) (v : Value), RV g w L x v → RV g (w.putObj q (.deferred none)) (L.set b .dead) x v := fun x v hx =>
      RV.mono (g := g) (g' := g) (fun _ h => h) hcell (fun b' _ => hkeep b') hx.bel hx
    have hlive : ∀ b', live (L.set b .dead) b' → b' ≠ b ∧ live L b' := by
      rintro b' ⟨k, hk, hd⟩
      have : b' ≠ b := fun e => by rw [e, hdead] at hk; cases hk; exact hd rfl
      exact ⟨this, k, by rw [← hother b' this]; exact hk, hd⟩
    have hg' : Good g (w.putObj q (.deferred none)) (L.set b .dead) := by
      refine ⟨fun b1 b2 r l1 l2 => hg.inj b1 b2 r (hlive b1 l1).2 (hlive b2 l2).2, ?_, fun r hr => by simpa using hg.lt r hr, ?_⟩
      · rintro r ⟨b1, l1, hm1⟩; exact hg.dis r ⟨b1, (hlive b1 l1).2, hm1⟩
      · intro b1 k hk1
        by_cases e : b1 = b
        · subst e; rw [hdead] at hk1; cases hk1; trivial
        · rw [hother b1 e] at hk1
          by_cases hd : k = .dead
          · subst hd; trivial
          · refine RB.mono' hmono rfl rfl (fun r o hm1 ho => ?_) (fun l hl => ?_) (hg.blk b1 k hk1)
            · rw [World.putObj_heap_other (fun e2 => e (hg.inj b1 b r ⟨k, hk1, hd⟩ ⟨_, h3, by simp⟩ hm1 (by rw [e2]; exact h1)))]; exact ho
            · subst hl
              have hne : l.df ≠ b := fun e2 => hlp b1 l hk1 (by rw [e2]; simp)
              exact ⟨rfl, fun h => by rw [hother _ hne]; exact h⟩
    have hp : Prog k0 g w L g (w.putObj q (.deferred none)) (L.set b .dead) := by
      refine ⟨⟨rfl, rfl, rfl⟩, by simp, fun r o ho hn => ?_, fun r ⟨b1, l1, hm1⟩ _ => ⟨b1, (hlive b1 l1).2, hm1⟩, fun r h => .inl h, fun r h => h, fun x v _ hx => hmono x v hx, fun b1 r hb1 hL1 hm1 => ⟨?_, hm1⟩, fun _ => by simpa using hkl⟩
      · rw [World.putObj_heap_other (fun e => hn (by rw [e]; exact hown))]; exact ho
      · rw [hother b1 (by omega)]; exact hL1
    refine marks_ok hC df ds g _ (L.set b .dead) (by simpa using hlen) (fun i b' d hb' hd' => ?_) hnd.2 (fun b' hb' => hk b' (by simp [hb'])) (fun i => hmono _ _ (hfr i)) hg' (by simpa using hkl) (fun b1 l hl => ?_) (fun g' w' f1 f2 f3 => hfin g' w' f1 f2 (hp.trans f3))
    · obtain ⟨q2, e1, e2, e3⟩ := hds (i + 1) b' d (by simpa using hb') (by simpa using hd')
      have : b' ≠ b := fun e => hnd.1 (by rw [← e]; exact List.mem_of_getElem? hb')
      exact ⟨q2, e1, e2, by rw [hother b' this]; exact e3⟩
    · by_cases e : b1 = b
      · subst e; rw [hdead] at hl; cases hl
      · rw [hother b1 e] at hl
        exact fun hmem => hlp b1 l hl (by simp [hmem])

def noLoop (L : List Blk) : Bool := L.all fun k => match k with | .loop _ => false | _ => true

/-- What is asked at the end of a function's body. -/
def vEnd (C : Ctx) (k0 : Nat) (rs : List ResultVar) (k : V → List Blk → Prop) (e : Exit) (σ : TS) : Prop :=
  match e with
  | .normal | .ret => match σ.df with
    | [] => vRet C k0 rs σ k
    | _ => bif noLoop σ.L && σ.df.all (fun b => decide (k0 ≤ b)) && decide σ.df.Nodup then vRet C k0 rs σ k else False
  | _ => False

theorem callP_cut (cut : Code → Bool) {f : FuncId} {fn : Func} {c : Code} {args : List V} {k : V → List Blk → Prop} (hC : C.OK) (hf : C.P.funcs[f]? = some fn) (hb : fn.body = some c) (hname : (fn.name == "runtime.NumGoroutine") = false) {n : Nat} (hn : fn.ntmps = n) (ha : args.length ≤ n)
    {rs : List ResultVar} (hr : fn.results.toList = rs) (h : vc C cut L.length c ⟨initFr 0 args, n, L, [], none⟩ (vEnd C L.length rs k)) : CallP C f args L k := by
  unfold CallP
  refine ⟨⟨fn, hf, by rw [hb]; rfl, hname⟩, fun g w vs hg hv => ?_⟩
  refine callsIn_wide (n := 0).1 (callsIn_of_wp_marks hf hb trivial ?_)
  have hs : St L.length none g ⟨initFr 0 args, n, L, [], none⟩ { tmps := vs ++ Array.replicate (fn.ntmps - vs.size) undef, defers := [] } w := by
    refine ⟨?_, by rw [hn]; exact init_frame hv n, hg, Nat.le_refl _, rfl, fun i b d hb _ => (by simp at hb), fun lb h => (by cases h), fun _ => rfl⟩
    have := hv.1
    simp [hn]; omega
  have hwp := vc_ok (r := none) hC c _ _ g _ w h hs
  refine wpIn_mono (F := Fence.wide) hwp ?_
  rintro e a' w' ⟨σ', g', hq, hs', hp⟩
  have fin : (e = .normal ∨ e = .ret) → LeavesInM Fence.wide 0 C.P fn a'.tmps (fun e w' => ∃ v X L' g', e = .returned v ∧ k X L' ∧ RV g' w' L' X v ∧ Good g' w' L' ∧ Prog L.length g w L g' w' L') a'.defers .returning w' := by
    intro he
    have key : vRet C L.length rs σ' k ∧ (σ'.df = [] ∨ noLoop σ'.L = true ∧ σ'.df.all (fun b => decide (L.length ≤ b)) = true ∧ σ'.df.Nodup) := by
      have hq' : match σ'.df with
        | [] => vRet C L.length rs σ' k
        | _ => bif noLoop σ'.L && σ'.df.all (fun b => decide (L.length ≤ b)) && decide σ'.df.Nodup then vRet C L.length rs σ' k else False := by
        rcases he with rfl | rfl <;> exact hq
      cases hd : σ'.df with
      | nil => rw [hd] at hq'; exact ⟨hq', .inl rfl⟩
      | cons b df =>
        rw [hd] at hq'
        simp only at hq'
        cases hc : (noLoop σ'.L && (b :: df).all (fun b => decide (L.length ≤ b)) && decide (b :: df).Nodup) with
        | false => rw [hc] at hq'; exact hq'.elim
        | true =>
          rw [hc] at hq'
          rw [Bool.and_eq_true, Bool.and_eq_true] at hc
          exact ⟨hq', .inr ⟨hc.1.1, hc.1.2, of_decide_eq_true hc.2⟩⟩
    obtain ⟨hret, hdfc⟩ := key
    refine marks_ok hC (k0 := L.length) σ'.df a'.defers g' w' σ'.L hs'.df hs'.dfs ?_ ?_ hs'.fr hs'.good hs'.k ?_ ?_
    · rcases hdfc with h | h
      · rw [h]; exact List.nodup_nil
      · exact h.2.2
    · rcases hdfc with h | h
      · rw [h]; simp
      · intro b hb
        have := h.2.1
        rw [List.all_eq_true] at this
        exact of_decide_eq_true (this b hb)
    · rcases hdfc with h | h
      · intro b l _; rw [h]; simp
      · intro b l hl
        have := h.1
        unfold noLoop at this
        rw [List.all_eq_true] at this
        have := this _ (List.mem_of_getElem? hl)
        simp at this
    · intro g2 w2 f1 f2 f3
      unfold vRet at hret
      rw [← hr] at hret
      obtain ⟨v, xs, r1, r2, r3⟩ := results_ok hC f1 f2 hret
      unfold FinP at r2
      obtain ⟨X', L', hW, hk⟩ := r2
      have hlen := (hp.trans f3).len (Nat.le_refl _)
      obtain ⟨g3, t1, t2, t3⟩ := hW g2 w2 v f2 hlen r3
      exact ⟨v, r1, v, X', L', g3, rfl, hk, t2, t1, (hp.trans f3).trans t3⟩
  cases e with
  | normal => exact fin (.inl rfl)
  | ret => exact fin (.inr rfl)
  | exit id => exact hq.elim
  | goto l => exact hq.elim
  | panic ch => exact hq.elim
  | outgrown => exact hq.elim

theorem callP_of {f : FuncId} {fn : Func} {c : Code} {args : List V} {k : V → List Blk → Prop} (hC : C.OK) (hf : C.P.funcs[f]? = some fn) (hb : fn.body = some c) (hname : (fn.name == "runtime.NumGoroutine") = false) {n : Nat} (hn : fn.ntmps = n) (ha : args.length ≤ n)
    {rs : List ResultVar} (hr : fn.results.toList = rs) (h : vc C (fun _ => false) L.length c ⟨initFr 0 args, n, L, [], none⟩ (vEnd C L.length rs k)) : CallP C f args L k := callP_cut _ hC hf hb hname hn ha hr h

end
end Go.Tidy
