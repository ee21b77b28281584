import Derived.Test.YtjknhbfcdjjbhaaBaseH
import Derived.RecoverIn
/-
  The base layer: a function with one deferred call of a Go function, which may recover.
-/
namespace Go.Tidy

def modeOf : Option Value → FrameMode
  | none => .returning
  | some v => .panicking [{ v, recovered := false }]
def modeAfter : Option Value → FrameMode
  | none => .returning
  | some v => .panicking [{ v, recovered := true }]
def recV : Option V → V
  | none => .d .niliface
  | some x => x
theorem settle_after : ∀ ov : Option Value, settle (modeAfter ov) = .returning
  | none => rfl
  | some _ => rfl
@[irreducible] def DefP (C : Ctx) (f : FuncId) (caps : List V) (X : Option V) (L : List Blk) (k : List Blk → Prop) : Prop :=
  (∃ fn, C.P.funcs[f]? = some fn ∧ fn.body.isSome = true ∧ (fn.name == "runtime.NumGoroutine") = false) ∧
  ∀ (g : Gh) (w : World) (vs : Array Value) (ov : Option Value), Good g w L → RVs g w L caps vs → RO g w L X ov →
    CallsDIn Fence.wide 0 C.P f vs (modeOf ov) w fun e u' w' => (∃ v, e = .returned v) ∧ u' = modeAfter ov ∧ ∃ L' g', k L' ∧ Good g' w' L' ∧ Prog L.length g w L g' w' L'

section
variable {C : Ctx} {g : Gh} {w : World} {L : List Blk}

theorem recoverD_of (c : Frame) (cs : List Frame) (ov : Option Value) (h : c.mode = modeOf ov) :
    recoverD (c :: cs) = match ov with
      | none => none
      | some v => some (v, { c with mode := modeAfter (some v) } :: cs) := by
  cases ov with
  | none => simp only [recoverD]; rw [h]; rfl
  | some v => simp only [recoverD]; rw [h]; rfl

def vEndD (k0 : Nat) (k : List Blk → Prop) (e : Exit) (σ : TS) : Prop :=
  match e with
  | .normal | .ret => match σ.df with
    | [] => FinP k0 (.tup []) σ.L (fun _ L' => k L')
    | _ => False
  | _ => False

theorem defP_of [Quiet C] (hC : C.OK) (cut : Code → Bool) {f : FuncId} {fn : Func} {id : Nat} {o0 o1 : Oper} {rest : Code} {caps : List V} {X : Option V} {k : List Blk → Prop}
    (hf : C.P.funcs[f]? = some fn) (hb : fn.body = some (.seq (.region id #[o0, o1] false) rest)) (hname : (fn.name == "runtime.NumGoroutine") = false) {n : Nat} (hn : fn.ntmps = n) (ha : caps.length ≤ n) (hres : fn.results.toList = [])
    {d0 d1 : Nat} (h0 : o0.op = .call { callee := .builtin .recover, args := #[], argTypes := #[] }) (hg0 : o0.guard = none) (hd0 : o0.dst = some d0) (h1 : o1.op = .assign (.tmp d0)) (hg1 : o1.guard = none) (hd1 : o1.dst = some d1)
    (hl0 : d0 < n) (hl1 : d1 < n) (hpn : C.pn ≤ L.length)
    (h : vc C cut L.length rest ⟨(d1, recV X) :: (d0, recV X) :: initFr 0 caps, n, L, [], none⟩ (vEndD L.length k)) : DefP C f caps X L k := by
  unfold DefP
  refine ⟨⟨fn, hf, by rw [hb]; rfl, hname⟩, fun g w vs ov hg hvs hX => ?_⟩
  refine ⟨trivial, fun c cs hm _ => ?_⟩
  obtain ⟨b, hbd⟩ : ∃ b : Frame, b = { (default : Frame) with fn := f, kind := .deferred, roundOf := none } := ⟨_, rfl⟩
  have hbf : b.fn = f := by rw [hbd]
  have hbk : b.kind = .deferred := by rw [hbd]
  have hbr : b.roundOf = none := by rw [hbd]
  obtain ⟨a0, ha0⟩ : ∃ a0 : Act, a0 = { tmps := vs ++ Array.replicate (fn.ntmps - vs.size) undef, defers := [] } := ⟨_, rfl⟩
  have hsz : a0.tmps.size = n := by have := hvs.1; rw [ha0]; simp [hn]; omega
  have henter : Frame.enter C.P f vs .deferred = b.atR a0 [.code (.seq (.region id #[o0, o1] false) rest)] := by
    rw [hbd, ha0]; simp [Frame.enter, Frame.atR, hf, hb]
  obtain ⟨rv, hrv⟩ : ∃ rv : Value, rv = (match ov with | none => .nilIface | some v => v) := ⟨_, rfl⟩
  have hrX : RV g w L (recV X) rv := by
    rw [hrv]
    cases X with
    | none => cases ov with
      | none => exact .d _ _ .niliface
      | some v => exact hX.elim
    | some x => cases ov with
      | none => exact hX.elim
      | some v => exact hX
  obtain ⟨a1, ha1⟩ : ∃ a1 : Act, a1 = (a0.put (some d0) rv).put (some d1) rv := ⟨_, rfl⟩
  have hc' : ({ c with mode := modeOf ov } : Frame) = c := by rw [← hm]
  have hregion : wpOpsSIn Fence.wide 0 C.P #[o0, o1] (fun e a' cs' w' => e = .normal ∧ a' = a1 ∧ cs' = { c with mode := modeAfter ov } :: cs ∧ w' = w) (List.range 2) a0 (c :: cs) w := by
    have hab : ∀ (o : Oper) (a : Act), ∀ f, o.about C.P w a.eval = some f → Fence.wide.fn f := fun _ _ _ _ => trivial
    have w0 : ∀ y, Region.wanted o0 y = true := fun y => by simp [Region.wanted, hg0]
    have w1 : ∀ y, Region.wanted o1 y = true := fun y => by simp [Region.wanted, hg1]
    have e0 : (execOp a0.eval o0).run C.P w = .ok .recover w := by
      simp [execOp, h0, resolve, invoke, builtin]
    have e1 : ∀ a : Act, (execOp a.eval o1).run C.P w = .ok (.value (a.eval (.tmp d0))) w := fun a => by
      simp [execOp, h1]
    have hev : (a0.put (some d0) rv).eval (.tmp d0) = rv := by
      simp [Act.eval, Act.put, hsz, hl0]
    rw [show List.range 2 = [0, 1] from rfl]
    have g0 : (#[o0, o1] : Array Oper)[0]? = some o0 := rfl
    have g1 : (#[o0, o1] : Array Oper)[1]? = some o1 := rfl
    simp only [wpOpsSIn, g0, g1, w0, w1, if_true, e0, recoverD_of c cs ov hm]
    refine ⟨hab o0 a0, ?_⟩
    cases ov with
    | none =>
      simp only at hrv ⊢
      rw [hd0, ← hrv]
      refine ⟨hab _ _, ?_⟩
      rw [e1, hev, hd1]
      exact ⟨trivial, ha1.symm, by rw [show modeAfter none = modeOf none from rfl, hc'], rfl⟩
    | some v =>
      simp only at hrv ⊢
      rw [hd0, ← hrv]
      refine ⟨hab _ _, ?_⟩
      rw [e1, hev, hd1]
      exact ⟨trivial, ha1.symm, trivial, rfl⟩
  obtain ⟨e, a', cs', w', -, ⟨rfl, rfl, rfl, rfl⟩, s1⟩ := wp_opsSIn (List.range 2) a0 (c :: cs) w hregion b [.code rest] hbk hbr trivial (room_wide _)
  have wide : ∀ {m m' : Machine}, StepsIn (Machine.fenced C.P (Fx none)) C.P m m' → StepsIn (Machine.fenced C.P Fence.wide) C.P m m' := fun s => stepsIn_wide.2 s.steps
  have s0 : StepsIn (Machine.fenced C.P Fence.wide) C.P (lone (Frame.enter C.P f vs .deferred) (c :: cs) w') (lone (b.atR a0 (.inRegion #[o0, o1] (List.range 2) :: [.code rest])) (c :: cs) w') := by
    rw [henter]
    exact wide ((StepsIn.one (fenced_Fx C.P _) stepR_seq).trans (.one (fenced_Fx C.P _) stepR_region))
  have s01 : StepsIn (Machine.fenced C.P Fence.wide) C.P (lone (Frame.enter C.P f vs .deferred) (c :: cs) w') (lone (b.atR a' [.code rest]) ({ c with mode := modeAfter ov } :: cs) w') := s0.trans s1
  -- the rest
  have hfr0 : ∀ i, RV g w' L (look (initFr 0 caps) i) (a0.tmps.getD i undef) := by
    rw [ha0, hn]; exact init_frame hvs n
  have put : ∀ (fr : List (Nat × V)) (a : Act) (d : Nat), a.tmps.size = n → d < n → (∀ i, RV g w' L (look fr i) (a.tmps.getD i undef)) → (a.put (some d) rv).tmps.size = n ∧ ∀ i, RV g w' L (look ((d, recV X) :: fr) i) ((a.put (some d) rv).tmps.getD i undef) := by
    intro fr a d hs hd hfr
    refine ⟨by simp [Act.put, hs], fun i => ?_⟩
    rw [look_cons]
    simp only [Act.put]
    by_cases e : d = i
    · subst e
      rw [if_pos rfl]
      simp [Array.getD, hs, hd]
      exact hrX
    · rw [if_neg e]
      have : (a.tmps.setIfInBounds d rv).getD i undef = a.tmps.getD i undef := by
        simp only [Array.getD_eq_getD_getElem?, Array.getElem?_setIfInBounds_ne e]
      rw [this]; exact hfr i
  obtain ⟨p1, p2⟩ := put _ a0 d0 hsz hl0 hfr0
  obtain ⟨q1, q2⟩ := put _ _ d1 p1 hl1 p2
  have hs : St L.length none g ⟨(d1, recV X) :: (d0, recV X) :: initFr 0 caps, n, L, [], none⟩ a' w' := by
    rw [ha1]
    refine ⟨q1, q2, hg, Nat.le_refl _, by rw [ha0]; rfl, fun i b d hb _ => (by simp at hb), fun lb h => (by cases h), fun _ => rfl⟩
  obtain ⟨e2, a2, w2, hq, s2⟩ := vc_ok (r := none) hC hpn rest _ _ g a' w' h hs b [] ({ c with mode := modeAfter ov } :: cs) hbr ⟨fn, by rw [hbf]; exact hf⟩
  obtain ⟨⟨σ2, g2, hq2, hs2, hp2⟩ | ⟨v, X', L', g', rfl, hS, hi⟩, -, -⟩ := hq
  rotate_left
  · exact (Quiet.q X' L' hS.pan).elim
  have key : (e2 = .normal ∨ e2 = .ret) ∧ σ2.df = [] ∧ FinP L.length (.tup []) σ2.L (fun _ L' => k L') := by
    unfold vEndD at hq2
    split at hq2
    · split at hq2
      · exact ⟨.inl rfl, ‹_›, hq2⟩
      · exact hq2.elim
    · split at hq2
      · exact ⟨.inr rfl, ‹_›, hq2⟩
      · exact hq2.elim
    · exact hq2.elim
  obtain ⟨he, hdf, hfin⟩ := key
  have hdef : a2.defers = [] := List.eq_nil_of_length_eq_zero (by rw [hs2.df, hdf]; rfl)
  unfold FinP at hfin
  obtain ⟨X', L', hW, hk⟩ := hfin
  obtain ⟨g3, t1, t2, t3⟩ := hW g2 w2 (.tuple #[]) hs2.good hs2.k (.tup [] #[] rfl (fun j x v hx => by simp at hx))
  have hres' : (results fn a2.tmps).run C.P w2 = .ok (.tuple #[]) w2 := by
    obtain ⟨v, xs, r1, r2, r3⟩ := results_ok (C := C) hC (fn := fn) (tmps := a2.tmps) hs2.fr hs2.good (k := fun xs => xs = []) (by rw [hres]; rfl)
    subst r2
    cases r3 with
    | tup _ vs hlen => rw [r1]; congr 2; exact (Array.eq_empty_of_size_eq_zero (by simpa using hlen.symm))
  have hR : (∃ v, Ending.returned (.tuple #[]) = .returned v) ∧ modeAfter ov = modeAfter ov ∧ ∃ L' g', k L' ∧ Good g' w2 L' ∧ Prog L.length g w' L g' w2 L' := ⟨⟨_, rfl⟩, rfl, L', g3, hk, t1, hp2.trans t3⟩
  have fin : ∀ (todo : List Item), StepsIn (Machine.fenced C.P (Fx none)) C.P (lone (b.atR a' [.code rest]) ({ c with mode := modeAfter ov } :: cs) w') (lone { b.atR a2 todo with mode := .returning } ({ c with mode := modeAfter ov } :: cs) w2) →
      ∃ e u' w'' fr, ((∃ v, e = Ending.returned v) ∧ u' = modeAfter ov ∧ ∃ L' g', k L' ∧ Good g' w'' L' ∧ Prog L.length g w' L g' w'' L') ∧ ComesIn (Machine.fenced C.P Fence.wide) C.P (lone (Frame.enter C.P f vs .deferred) (c :: cs) w') (lone fr ({ c with mode := u' } :: cs) w'') e ∧ fr.kind = .deferred ∧ fr.fn = f ∧ fr.going C.P w'' e := by
    intro todo s
    refine ⟨.returned (.tuple #[]), modeAfter ov, w2, { b.atR a2 todo with mode := .returning }, hR, s01.trans (wide s), ?_, ?_, rfl, ?_, fn, ?_, hres'⟩
    · simpa [Frame.atR] using hbk
    · simpa [Frame.atR] using hbf
    · simpa [Frame.atR] using hdef
    · simpa [Frame.atR, hbf] using hf
  rcases he with rfl | rfl
  · exact fin [] (StepsIn.trans s2 (.one (fenced_Fx C.P _) (stepR_end hbr)))
  · obtain ⟨todo, s⟩ := s2.1 hbr
    exact fin todo s

theorem wpOpsIn_keep {F : Fence} {n : Nat} {P : Program} {ops : Array Oper} {Q : Exit → Act → World → Prop} {slots : List Nat} (hk : ∀ o ∈ ops, ∀ d, o.dst = some d → d ∉ slots) (a0 : Act) : ∀ (l : List Nat) (a : Act) (w : World),
    (∀ i ∈ slots, a.tmps.getD i undef = a0.tmps.getD i undef) → wpOpsIn F n P ops Q l a w → wpOpsIn F n P ops (fun e a' w' => Q e a' w' ∧ ((e = .normal ∨ ∃ ch, e = .panic ch) → ∀ i ∈ slots, a'.tmps.getD i undef = a0.tmps.getD i undef)) l a w
  | [], a, w, ha, h => ⟨h, fun _ => ha⟩
  | i :: rest, a, w, ha, h => by
    simp only [wpOpsIn] at h ⊢
    cases ho : ops[i]? with
    | none => rw [ho] at h; exact wpOpsIn_keep hk a0 rest a w ha h
    | some o =>
      rw [ho] at h
      simp only at h ⊢
      have hput : ∀ {ds : List Deferred} v, ∀ j ∈ slots, (({ tmps := a.tmps, defers := ds } : Act).put o.dst v).tmps.getD j undef = a0.tmps.getD j undef := fun v j hj => by
        cases hd : o.dst with
        | none => exact ha j hj
        | some d =>
          have hne : d ≠ j := fun e => hk o (Array.mem_of_getElem? ho) d hd (e ▸ hj)
          simp only [Act.put]
          rw [show (a.tmps.setIfInBounds d v).getD j undef = a.tmps.getD j undef by simp only [Array.getD_eq_getD_getElem?, Array.getElem?_setIfInBounds_ne hne]]
          exact ha j hj
      split
      · rename_i hw
        rw [if_pos hw] at h
        obtain ⟨h1, h2⟩ := h
        refine ⟨h1, ?_⟩
        generalize hr : (o.semAt F.round a.eval).run P w = r at h2 ⊢
        unfold Oper.uponIn at h2 ⊢
        have outg : LetsOut Q → LetsOut (fun e a' w' => Q e a' w' ∧ ((e = .normal ∨ ∃ ch, e = .panic ch) → ∀ i ∈ slots, a'.tmps.getD i undef = a0.tmps.getD i undef)) := fun ⟨x, y, hq⟩ => ⟨x, y, hq, fun he => he.elim (fun he => by cases he) fun ⟨_, he⟩ => by cases he⟩
        split
        · exact wpOpsIn_keep hk a0 rest _ _ (hput _) h2
        · exact wpOpsIn_keep hk a0 rest _ _ (hput _) h2
        · exact wpOpsIn_keep hk a0 rest _ _ (hput _) h2
        · refine ⟨h2.1, CallsIn.mono h2.2 fun e w' he => ?_⟩
          cases e with
          | returned v => exact wpOpsIn_keep hk a0 rest _ _ (hput _) he
          | panicked ch => exact ⟨he, fun _ => ha⟩
          | outgrown => exact outg he
        · exact ⟨h2.1, RowsIn.mono h2.2 fun v w' hv => wpOpsIn_keep hk a0 rest _ _ (hput _) hv⟩
        · refine ⟨h2.1, RoundIn.mono h2.2 fun e w' he => ?_⟩
          cases e with
          | returned v => exact wpOpsIn_keep hk a0 rest _ _ (hput _) he
          | panicked ch => exact ⟨he, fun _ => ha⟩
          | outgrown => exact outg he
        · exact ⟨h2, fun _ => ha⟩
        · split at h2 <;> first | exact h2.elim | (simp_all; done) | (exfalso; simp_all; rename_i hx; exact hx _ _ _ _ _ _ rfl rfl rfl rfl rfl rfl)
      · rename_i hw
        rw [if_neg hw] at h
        exact ⟨h.1, wpOpsIn_keep hk a0 rest _ _ (hput _) h.2⟩

def slotsR : List ResultVar → List Nat
  | [] => []
  | .cell i _ :: r => i :: slotsR r
  | .tmp i :: r => i :: slotsR r
def slotF (slots : List Nat) (fr : List (Nat × V)) : List (Nat × V) := slots.map fun i => (i, look fr i)
def keepB (slots : List Nat) (ops : List Oper) : Bool := ops.all fun o => match o.dst with | some d => slots.all fun i => !Nat.beq d i | none => true
theorem keepB_ok {slots : List Nat} {ops : Array Oper} (h : keepB slots ops.toList = true) : ∀ o ∈ ops, ∀ d, o.dst = some d → d ∉ slots := fun o ho d hd hs => by
  have := List.all_eq_true.1 h o (by simpa using ho)
  rw [hd] at this
  have := List.all_eq_true.1 this d hs
  simp at this
theorem look_slotF {slots : List Nat} {fr : List (Nat × V)} : ∀ i, look (slotF slots fr) i = .poison ∨ i ∈ slots ∧ look (slotF slots fr) i = look fr i := by
  intro i
  unfold slotF
  induction slots with
  | nil => exact .inl rfl
  | cons s r ih =>
    rw [List.map_cons, look_cons]
    by_cases e : s = i
    · subst e; rw [if_pos rfl]; exact .inr ⟨by simp, rfl⟩
    · rw [if_neg e]
      rcases ih with h | ⟨h1, h2⟩
      · exact .inl h
      · exact .inr ⟨by simp [h1], h2⟩
theorem look_belF {n : Nat} : ∀ {fr : List (Nat × V)}, belF n fr = true → ∀ i, (look fr i).bel n = true
  | [], _, _ => rfl
  | p :: r, h, i => by
    simp only [belF, Bool.and_eq_true] at h
    rw [look_cons]
    by_cases e : p.1 = i
    · rw [if_pos e]; exact h.1
    · rw [if_neg e]; exact look_belF h.2 i

def vcDef (C : Ctx) (n : Nat) (all : List Oper) : List Oper → List (Nat × V) → List Blk → (FuncId → List V → List (Nat × V) → List Blk → Prop) → Prop
  | [], _, _, _ => False
  | [o], fr, L, K => match o.op, o.guard, o.dst with
    | .defer c, none, none => match c.callee, c.args.toList with
      | .value x, [] => match ev fr x with
        | .fn f caps => K f caps fr L
        | _ => False
      | _, _ => False
    | _, _, _ => False
  | o :: rest, fr, L, K => vcOp1 C n all o fr L fun fr' L' => vcDef C n all rest fr' L' K
def vcP (C : Ctx) (n : Nat) (slots : List Nat) : Code → List (Nat × V) → List Blk → (List (Nat × V) → List Blk → Prop) → Prop
  | .seq (.region _ ops dr) y, fr, L, K => bif keepB slots ops.toList then Need (C.pn ≤ L.length) (match dr with
      | false => vcOps C n ops.toList ops.toList fr L fun fr L => vcP C n slots y fr L K
      | true => DrawP C n ops fr L fun fr L => vcP C n slots y fr L K) else False
  | .ret, fr, L, K => K fr L
  | _, _, _, _ => False
@[irreducible] def DefR (pn k0 : Nat) (slots : List Nat) (caps : List V) (fr : List (Nat × V)) (L : List Blk) (A B : Prop) : Prop :=
  (pn ≤ L.length ∧ k0 ≤ pn ∧ belF pn (slotF slots fr) = true ∧ V.belL pn caps = true) ∧ A ∧ B
theorem DefR.intro {pn k0 : Nat} {slots : List Nat} {caps : List V} {fr : List (Nat × V)} {L : List Blk} {A B : Prop} (h1 : pn ≤ L.length) (h2 : k0 ≤ pn) (h3 : belF pn (slotF slots fr) = true) (h4 : V.belL pn caps = true) (hA : A) (hB : B) : DefR pn k0 slots caps fr L A B := by
  unfold DefR; exact ⟨⟨h1, h2, h3, h4⟩, hA, hB⟩
def deferOps : Code → Option (Array Oper)
  | .region _ ops false => match ops.toList.getLast? with
    | some o => match o.op with
      | .defer _ => some ops
      | _ => none
    | none => none
  | _ => none
def vEnd0 (C : Ctx) (k0 : Nat) (rs : List ResultVar) (k : V → List Blk → Prop) (σ : TS) : Prop :=
  match σ.df with
  | [] => vRet C k0 rs σ k
  | _ => False
def vcR (C : Ctx) (cut : Code → Bool) (k0 : Nat) (rs : List ResultVar) (pn : Nat) (pan : V → List Blk → Prop) (k : V → List Blk → Prop) : Code → TS → Prop
  | .seq x y, σ => match deferOps x with
    | some ops => match σ.df with
      | [] => vcDef C σ.n ops.toList ops.toList σ.fr σ.L fun f caps fr L => DefR pn k0 (slotsR rs) caps fr L
          (∀ X L1, pan X L1 → DefP C f caps (some X) L1 fun L2 => vRet C k0 rs ⟨slotF (slotsR rs) fr, σ.n, L2, [], none⟩ k)
          (vcP (C.wp pn pan) σ.n (slotsR rs) y fr L fun fr' L' => DefP C f caps none L' fun L2 => vRet C k0 rs ⟨fr', σ.n, L2, [], none⟩ k)
      | _ => False
    | none => vc C cut k0 x σ fun e σ' => match e with
      | .normal => vcR C cut k0 rs pn pan k y σ'
      | .ret => vEnd0 C k0 rs k σ'
      | _ => False
  | _, _ => False

theorem ret_ok (hC : C.OK) {fn : Func} {fr : List (Nat × V)} {tmps : Array Value} {k0 n : Nat} {rs : List ResultVar} {kk : V → List Blk → Prop} (hr : fn.results.toList = rs) (hfr : ∀ i, RV g w L (look fr i) (tmps.getD i undef)) (hg : Good g w L) (hk : k0 ≤ L.length)
    (h : vRet C k0 rs ⟨fr, n, L, [], none⟩ kk) : ∃ v X L' g', (results fn tmps).run C.P w = .ok v w ∧ kk X L' ∧ RV g' w L' X v ∧ Good g' w L' ∧ Prog k0 g w L g' w L' := by
  unfold vRet at h
  rw [← hr] at h
  obtain ⟨v, xs, r1, r2, r3⟩ := results_ok hC hfr (show Good g w (killAll [] L) from hg) h
  unfold FinP at r2
  obtain ⟨X', L', hW, hkk⟩ := r2
  obtain ⟨g3, t1, t2, t3⟩ := hW g w v hg hk r3
  exact ⟨v, X', L', g3, r1, hkk, t2, t1, t3⟩

theorem leave_ok {fn : Func} {tmps : Array Value} {R : Ending → World → Prop} {f : FuncId} {caps : List V} {X : Option V} {kd : List Blk → Prop} {vs : Array Value} {ov : Option Value} (h : DefP C f caps X L kd) (hg : Good g w L) (hvs : RVs g w L caps vs) (hX : RO g w L X ov)
    (hfin : ∀ g' w' L', kd L' → Good g' w' L' → Prog L.length g w L g' w' L' → ∃ v, (results fn tmps).run C.P w' = .ok v w' ∧ R (.returned v) w') :
    LeavesInM Fence.wide 0 C.P fn tmps R [{ target := .fn (.func f) vs, args := #[] }] (modeOf ov) w := by
  unfold DefP at h
  obtain ⟨⟨F, h1, h2, h3⟩, h⟩ := h
  have h2' : F.body ≠ none := by intro hb; rw [hb] at h2; cases h2
  have h3' : F.name ≠ "runtime.NumGoroutine" := by simpa using h3
  have hcf : (callFunc f (#[] ++ vs)).run C.P w = .ok (.enter f vs) w := by simp [callFunc, h1, h2', h3']
  refine ⟨by cases ov <;> simp [modeOf], .inr ⟨fun h => by simp [Fence.wide] at h, .func f, vs, f, vs, rfl, by simpa [invoke] using hcf, fun _ _ => trivial, CallsDIn.mono (h g w vs ov hg hvs hX) ?_⟩⟩
  rintro e u' w' ⟨⟨v, rfl⟩, rfl, L', g', hk, hg', hp⟩
  show LeavesInM Fence.wide 0 C.P fn tmps R [] (settle (modeAfter ov)) w'
  rw [settle_after]
  exact hfin g' w' L' hk hg' hp

theorem wpOps_nil {F : Fence} {P : Program} {ops : Array Oper} {Q : Exit → Act → World → Prop} {a : Act} {w : World} (hq : Q .normal a w) : ∀ {l : List Nat}, (l.filterMap fun i => ops[i]?) = [] → wpOpsIn F 0 P ops Q l a w
  | [], _ => hq
  | i :: l, h => by
    cases ho : ops[i]? with
    | none =>
      rw [List.filterMap_cons, ho] at h
      simp only [wpOpsIn, ho]
      exact wpOps_nil hq h
    | some o => rw [List.filterMap_cons, ho] at h; cases h

theorem vcDef_ok [Quiet C] (hC : C.OK) {n : Nat} {ops : Array Oper} {Q : Exit → Act → World → Prop} : ∀ (l : List Nat) (rem : List Oper) (fr : List (Nat × V)) (L : List Blk) (g : Gh) (a : Act) (w : World) (K : FuncId → List V → List (Nat × V) → List Blk → Prop),
    (l.filterMap fun i => ops[i]?) = rem → vcDef C n ops.toList rem fr L K → At n g fr L a w →
    (∀ f caps fr' L' g' a' w' vs, K f caps fr' L' → At n g' fr' L' a' w' → a'.defers = { target := .fn (.func f) vs, args := #[] } :: a.defers → RVs g' w' L' caps vs → Prog L.length g w L g' w' L' → Q .normal a' w') → wpOpsIn (Fx none) 0 C.P ops Q l a w
  | [], rem, fr, L, g, a, w, K, hrem, h, hat, hQ => by subst hrem; exact h.elim
  | i :: l, rem, fr, L, g, a, w, K, hrem, h, hat, hQ => by
    cases ho : ops[i]? with
    | none =>
      rw [List.filterMap_cons, ho] at hrem
      simp only [wpOpsIn, ho]
      exact vcDef_ok hC l rem fr L g a w K hrem h hat hQ
    | some o =>
      rw [List.filterMap_cons, ho] at hrem
      simp only at hrem
      cases hl : (l.filterMap fun i => ops[i]?) with
      | nil =>
        rw [hl] at hrem
        subst hrem
        simp only [vcDef] at h
        split at h
        case h_2 => exact h.elim
        rename_i c hop hgd hds
        split at h
        case h_2 => exact h.elim
        rename_i x hcx hca
        split at h
        case h_2 => exact h.elim
        rename_i f caps hev
        have hv := ev_ok hat.good.gl hat.fr x
        rw [hev] at hv
        simp only [wpOpsIn, ho]
        have hw : Region.wanted o (yielded ops a.tmps) = true := by simp [Region.wanted, hgd]
        rw [if_pos hw]
        refine ⟨fun _ _ => trivial, ?_⟩
        rw [show (Fx none).round = none from rfl, Oper.semAt_none]
        generalize hval : a.eval x = v at hv
        cases hv with
        | fn _ _ vs hlen hrec =>
          have hargs : c.args = #[] := by simpa using hca
          have hrun : (execOp a.eval o).run C.P w = .ok (.defer { target := .fn (.func f) vs, args := #[] }) w := by
            simp [execOp, hop, resolve, hcx, hval, Deferred.ofValue, hargs]
          rw [hrun, Oper.uponIn_defer]
          refine wpOps_nil ?_ hl
          rw [hds]
          exact hQ f caps fr L g _ w vs h ⟨hat.n, hat.fr, hat.good⟩ rfl ⟨hlen, hrec⟩ (Prog.refl _ _ _ _)
      | cons o2 r2 =>
        rw [hl] at hrem
        subst hrem
        simp only [vcDef] at h
        refine vcOp1_ok (r := none) hC i l fr g a w o ho _ h hat ?_ (fun v X L2 g2 a2 w2 _ hS => (Quiet.q X L2 hS.pan).elim)
        intro fr' L' g' a' w' hk hat' hd' hp
        refine vcDef_ok hC l (o2 :: r2) fr' L' g' a' w' K hl hk hat' ?_
        intro f caps fr2 L2 g2 a2 w2 vs hK hat2 hd2 hv2 hp2
        exact hQ f caps fr2 L2 g2 a2 w2 vs hK hat2 (by rw [hd2, hd']) hv2 (hp.trans (hp2.le (hp.len (Nat.le_refl _)) (Nat.le_refl _)))

theorem vcP_ok (hC : C.OK) {n : Nat} {slots : List Nat} {Q : Exit → Act → World → Prop} : ∀ (c : Code) (fr : List (Nat × V)) (L : List Blk) (g : Gh) (a : Act) (w : World) (K : List (Nat × V) → List Blk → Prop),
    vcP C n slots c fr L K → At n g fr L a w →
    (∀ fr' L' g' a' w', K fr' L' → At n g' fr' L' a' w' → a'.defers = a.defers → Prog L.length g w L g' w' L' → Q .ret a' w') →
    (∀ v X L2 g2 a2 w2, a2.defers = a.defers → (∀ i ∈ slots, a2.tmps.getD i undef = a.tmps.getD i undef) → PanS C L.length g w L v X L2 g2 w2 → Q (.panic [{ v, recovered := false }]) a2 w2) → wpV none C.P c Q a w := by
  intro c
  induction c with
  | ret => exact fun fr L g a w K h hat hQ _ => wpV.of (wpIn_ret (hQ fr L g a w h hat rfl (Prog.refl _ _ _ _)))
  | seq x y _ ihy =>
    intro fr L g a w K h hat hQ hP
    cases x with
    | region id ops dr =>
      simp only [vcP] at h
      cases hk : keepB slots ops.toList with
      | false => simp [hk] at h
      | true =>
      simp only [hk, cond_true] at h
      obtain ⟨hpn, h⟩ := h.out
      have hkeep := keepB_ok hk
      have cont : ∀ fr' L' g' a' w', (vcP C n slots y fr' L' K) → At n g' fr' L' a' w' → a'.defers = a.defers → (∀ i ∈ slots, a'.tmps.getD i undef = a.tmps.getD i undef) → Prog L.length g w L g' w' L' → wpV none C.P y Q a' w' := by
        intro fr' L' g' a' w' hK hat' hd hs hp
        refine ihy fr' L' g' a' w' K hK hat' (fun fr2 L2 g2 a2 w2 hK2 hat2 hd2 hp2 => hQ fr2 L2 g2 a2 w2 hK2 hat2 (hd2.trans hd) (hp.trans (hp2.le (hp.len (Nat.le_refl _)) (Nat.le_refl _)))) ?_
        intro v X L2 g2 a2 w2 hd2 hs2 hS
        exact hP v X L2 g2 a2 w2 (hd2.trans hd) (fun i hi => (hs2 i hi).trans (hs i hi)) ((hS.less (hp.len (Nat.le_refl _)) hpn).later (Nat.le_refl _) hp)
      have fin : ∀ e a' w', (((e = .normal ∧ ∃ fr' L' g', vcP C n slots y fr' L' K ∧ At n g' fr' L' a' w' ∧ a'.defers = a.defers ∧ Prog L.length g w L g' w' L') ∨ ∃ v X L2 g2, e = .panic [{ v, recovered := false }] ∧ a'.defers = a.defers ∧ PanS C L.length g w L v X L2 g2 w') ∧
          ((e = .normal ∨ ∃ ch, e = .panic ch) → ∀ i ∈ slots, a'.tmps.getD i undef = a.tmps.getD i undef)) → Exit.then (wpV none C.P y Q) Q e a' w' := by
        rintro e a' w' ⟨⟨rfl, fr', L', g', hK, hat', hd, hp⟩ | ⟨v, X, L2, g2, rfl, hd, hS⟩, hs⟩
        · exact cont fr' L' g' a' w' hK hat' hd (hs (.inl rfl)) hp
        · exact hP v X L2 g2 a' w' hd (hs (.inr ⟨_, rfl⟩)) hS
      cases dr with
      | false =>
        refine wpV_seq (wpV_mono (wpV.of (wpIn_region (wpOpsIn_keep (F := Fx none) (n := 0) (P := C.P) hkeep a (List.range ops.size) a w (fun _ _ => rfl)
          (vcOps_ok (r := none) hC (List.range ops.size) fr L g a w _ (by rw [range_ops]; exact h) hat hpn (fun fr' L' g' a' w' hK hat' hd hp => .inl ⟨rfl, fr', L', g', hK, hat', hd, hp⟩) (fun v X L2 g2 a2 w2 hd hS => .inr ⟨v, X, L2, g2, rfl, hd, hS⟩))))) fin)
      | true =>
        simp only at h
        unfold DrawP at h
        have hmono : ∀ (x : V) (v : Value), RV g w L x v → RV g { w with drawn := w.drawn + 1 } L x v := fun x v hx => RV.mono (g := g) (g' := g) (w := w) (w' := { w with drawn := w.drawn + 1 }) (L := L) (L' := L) (k := L.length) (fun _ h => h) (fun a v _ h => h) (fun b _ => Keep.refl g L b) hx.bel hx
        have hg2 : Good g { w with drawn := w.drawn + 1 } L := ⟨hat.good.inj, hat.good.dis, hat.good.lt, fun b k hb => RB.mono' hmono rfl rfl (fun _ _ _ h => h) (fun l _ => ⟨rfl, fun h => h⟩) (hat.good.blk b k hb), GlobOK.mono (w := w) (w' := { w with drawn := w.drawn + 1 }) (fun _ h => h) (fun a v _ h => h) hat.good.gl⟩
        have hp0 : Prog L.length g w L g { w with drawn := w.drawn + 1 } L := ⟨⟨rfl, rfl, rfl⟩, Nat.le_refl _, fun _ _ h _ => h, fun _ h _ => h, fun _ h => .inl h, fun _ h => h, fun x v _ h => hmono x v h, fun _ _ _ h h' => ⟨h, h'⟩, fun h => h⟩
        refine wpV_seq (wpV_mono (wpV.of (wpIn_region_draw fun t => wpOpsIn_keep (F := Fx none) (n := 0) (P := C.P) hkeep a _ a _ (fun _ _ => rfl)
          (vOpsC_ok (r := none) hC _ fr L g a _ _ (h t) ⟨hat.n, fun i => hmono _ _ (hat.fr i), hg2⟩ hpn (fun fr' L' g' a' w' hK hat' hd hp => .inl ⟨rfl, fr', L', g', hK, hat', hd, hp0.trans hp⟩) (fun v X L2 g2 a2 w2 hd hS => .inr ⟨v, X, L2, g2, rfl, hd, hS.later (Nat.le_refl _) hp0⟩)))) fin)
    | _ => simp [vcP] at h
  | _ => intro fr L g a w K h; simp [vcP] at h

theorem callP_defer [Quiet C] (hC : C.OK) (cut : Code → Bool) (pn : Nat) (pan : V → List Blk → Prop) {f : FuncId} {fn : Func} {c : Code} {args : List V} {k : V → List Blk → Prop} (hf : C.P.funcs[f]? = some fn) (hb : fn.body = some c) (hname : (fn.name == "runtime.NumGoroutine") = false) {n : Nat} (hn : fn.ntmps = n) (ha : args.length ≤ n)
    {rs : List ResultVar} (hr : fn.results.toList = rs) (h : vcR C cut L.length rs pn pan k c ⟨initFr 0 args, n, L, [], none⟩) (hpn : C.pn ≤ L.length := by exact Nat.zero_le _) : CallP C f args L k := by
  unfold CallP
  refine ⟨⟨fn, hf, by rw [hb]; rfl, hname⟩, fun g w vs hg hv => calls_of_wpV hf hb ?_⟩
  have hs : St L.length none g ⟨initFr 0 args, n, L, [], none⟩ { tmps := vs ++ Array.replicate (fn.ntmps - vs.size) undef, defers := [] } w := by
    refine ⟨?_, by rw [hn]; exact init_frame hv n, hg, Nat.le_refl _, rfl, fun i b d hb _ => (by simp at hb), fun lb h => (by cases h), fun _ => rfl⟩
    have := hv.1
    simp [hn]; omega
  have main : ∀ (c : Code) (σ : TS) (g1 : Gh) (a1 : Act) (w1 : World), vcR C cut L.length rs pn pan k c σ → St L.length none g1 σ a1 w1 → Prog L.length g w L g1 w1 σ.L →
      wpV none C.P c (bodyPostM Fence.wide 0 C.P fn (fun e w' => (∃ v X L' g', e = .returned v ∧ k X L' ∧ RV g' w' L' X v ∧ Good g' w' L' ∧ Prog L.length g w L g' w' L') ∨ PanO C g w L e w')) a1 w1 := by
    intro c
    induction c with
    | seq x y _ ihy =>
      intro σ g1 a1 w1 h hs hp1
      simp only [vcR] at h
      split at h
      · rename_i ops hops
        split at h
        case h_2 => exact h.elim
        rename_i hdf
        have hx : ∃ id, x = .region id ops false := by
          unfold deferOps at hops
          split at hops
          · split at hops
            · split at hops
              · cases hops; exact ⟨_, rfl⟩
              · cases hops
            · cases hops
          · cases hops
        obtain ⟨id, rfl⟩ := hx
        have hd0 : a1.defers = [] := List.eq_nil_of_length_eq_zero (by rw [hs.df, hdf]; rfl)
        refine wpV_seq (wpV.of (wpIn_region (vcDef_ok hC (List.range ops.size) ops.toList σ.fr σ.L g1 a1 w1 _ (range_ops ops) h hs.at ?_)))
        intro f caps fr2 L2 g2 a2 w2 us hK hat2 hd2 hus hp2
        have hp12 : Prog L.length g w L g2 w2 L2 := hp1.trans (hp2.le hs.k (Nat.le_refl _))
        have hk2 : L.length ≤ L2.length := hp12.len (Nat.le_refl _)
        unfold DefR at hK
        obtain ⟨⟨b1, b2, b3, b4⟩, hA, hB⟩ := hK
        rw [hd0] at hd2
        refine vcP_ok (C := C.wp pn pan) (hC.wp pn pan) y fr2 L2 g2 a2 w2 _ hB hat2 ?_ ?_
        · intro fr3 L3 g3 a3 w3 hD hat3 hd3 hp3
          have hus3 : RVs g3 w3 L3 caps us := ⟨hus.1, fun j x v hx hv => hp3.mono x v (V.bel_le b1 _ (V.belL_get b4 hx)) (hus.2 j x v hx hv)⟩
          show LeavesInM Fence.wide 0 C.P fn a3.tmps _ a3.defers .returning w3
          rw [hd3, hd2]
          refine leave_ok (ov := none) hD hat3.good hus3 trivial ?_
          intro g4 w4 L4 hret hg4 hp4
          have hp14 : Prog L.length g w L g4 w4 L4 := hp12.trans ((hp3.le hk2 (Nat.le_refl _)).trans (hp4.le ((hp3.le hk2 (Nat.le_refl _)).len hk2) (Nat.le_refl _)))
          obtain ⟨v, X, L5, g5, r1, r2, r3, r4, r5⟩ := ret_ok hC hr (fun i => hp4.mono _ _ (hat3.fr i).bel (hat3.fr i)) hg4 (hp14.len (Nat.le_refl _)) hret
          exact ⟨v, r1, .inl ⟨v, X, L5, g5, rfl, r2, r3, r4, hp14.trans r5⟩⟩
        · intro v X L3 g3 a3 w3 hd3 hs3 hS
          have hpl3 : pn ≤ L3.length := hS.prog.len b1
          have hprog : Prog pn g2 w2 L2 g3 w3 L3 := hS.prog
          have hus3 : RVs g3 w3 L3 caps us := ⟨hus.1, fun j x v hx hv => hprog.mono x v (V.belL_get b4 hx) (hus.2 j x v hx hv)⟩
          show LeavesInM Fence.wide 0 C.P fn a3.tmps _ a3.defers (.panicking [{ v, recovered := false }]) w3
          rw [hd3, hd2]
          refine leave_ok (ov := some v) (hA X L3 hS.pan) hS.good hus3 hS.rv ?_
          intro g4 w4 L4 hret hg4 hp4
          have hp34 : Prog pn g2 w2 L2 g4 w4 L4 := hprog.trans (hp4.le hpl3 (Nat.le_refl _))
          have hp14 : Prog L.length g w L g4 w4 L4 := hp12.trans (hp34.le b2 b1)
          have hfr : ∀ i, RV g4 w4 L4 (look (slotF (slotsR rs) fr2) i) (a3.tmps.getD i undef) := fun i => by
            rcases look_slotF (slots := slotsR rs) (fr := fr2) i with h0 | ⟨hi, h0⟩
            · rw [h0]; exact .poison _
            · have hb := look_belF b3 i
              rw [h0] at hb ⊢
              rw [hs3 i hi]
              exact hp34.mono _ _ hb (hat2.fr i)
          obtain ⟨u, X', L5, g5, r1, r2, r3, r4, r5⟩ := ret_ok hC hr hfr hg4 (hp14.len (Nat.le_refl _)) hret
          exact ⟨u, r1, .inl ⟨u, X', L5, g5, rfl, r2, r3, r4, hp14.trans r5⟩⟩
      · refine wpV_seq (wpV_mono (vc_ok (r := none) hC hpn x _ _ g1 a1 w1 h hs) ?_)
        rintro e a2 w2 ⟨⟨σ2, g2, hq, hs2, hp2⟩ | ⟨v, X, L', g', rfl, hS, hi⟩, hnew, -⟩
        rotate_left
        · exact (Quiet.q X L' hS.pan).elim
        cases e with
        | normal => exact ihy σ2 g2 a2 w2 hq hs2 (hp1.trans hp2)
        | ret =>
          simp only [] at hq
          unfold vEnd0 at hq
          split at hq
          case h_2 => exact hq.elim
          rename_i hdf
          have hd0 : a2.defers = [] := List.eq_nil_of_length_eq_zero (by rw [hs2.df, hdf]; rfl)
          show LeavesInM Fence.wide 0 C.P fn a2.tmps _ a2.defers .returning w2
          rw [hd0]
          have hret : vRet C L.length rs ⟨σ2.fr, σ2.n, σ2.L, [], none⟩ k := by
            unfold vRet at hq ⊢; rw [hdf] at hq; exact hq
          obtain ⟨v, X, L5, g5, r1, r2, r3, r4, r5⟩ := ret_ok hC hr hs2.fr hs2.good hs2.k hret
          exact ⟨v, r1, .inl ⟨v, X, L5, g5, rfl, r2, r3, r4, (hp1.trans hp2).trans r5⟩⟩
        | exit id => exact hq.elim
        | goto l => exact hq.elim
        | panic ch => exact hq.elim
        | outgrown => exact hq.elim
    | _ => intro σ g1 a1 w1 h; simp [vcR] at h
  exact main c _ g _ w h hs (Prog.refl _ _ _ _)

theorem CallP.freezeP {f : FuncId} {args dargs : List V} {L' : List Blk} {k : V → List Blk → Prop} (bs : List Nat) (hL : killB bs L = L') (hbs : plainBlk L bs = true) (hc : CwL (· ∈ bs) L args dargs) (h : CallP C f dargs L' k) : CallP C f args L k := by
  subst hL
  unfold CallP at h ⊢
  refine ⟨h.1, fun g w vs hg hv => ?_⟩
  have hp : ∀ b ∈ bs, ∃ k0, L[b]? = some k0 ∧ k0 ≠ .defr ∧ b < L.length := fun b hb => by
    have := List.all_eq_true.1 hbs b hb
    split at this
    · rename_i e; exact ⟨_, e, by simp, lt_of_get e⟩
    · rename_i e; exact ⟨_, e, by simp, lt_of_get e⟩
    · cases this
  let g' : Gh := { g with I := fun q => g.I q ∨ ∃ b ∈ bs, live L b ∧ g.m b = some q }
  have hkeep : ∀ b, Keep g L g' (killB bs L) b := by
    intro b
    by_cases hb : b ∈ bs
    · obtain ⟨_, _, _, hlt⟩ := hp b hb
      have hd := killB_in bs L b hb hlt
      exact ⟨fun _ _ => .inl hd, fun _ _ _ _ => .inl hd, fun _ _ => .inl hd, fun _ _ => .inl hd, fun _ => hd⟩
    · exact Keep.same (killB_out bs L b hb) rfl rfl
  have mono : ∀ (x : V) (v : Value), RV g w L x v → RV g' w (killB bs L) x v := fun x v hx => RV.mono (g := g) (g' := g') (k := L.length) (fun q hq => .inl hq) (fun a v _ h => h) (fun b _ => hkeep b) hx.bel hx
  have lv : ∀ b, live (killB bs L) b → b ∉ bs ∧ live L b := by
    rintro b ⟨k0, hk0, hd⟩
    by_cases hb : b ∈ bs
    · obtain ⟨_, _, _, hlt⟩ := hp b hb
      rw [killB_in bs L b hb hlt] at hk0
      exact absurd (by cases hk0; rfl) hd
    · rw [killB_out bs L b hb] at hk0
      exact ⟨hb, k0, hk0, hd⟩
  have hgood : Good g' w (killB bs L) := by
    refine ⟨fun b b' r h1 h2 m1 m2 => hg.inj b b' r (lv b h1).2 (lv b' h2).2 m1 m2, ?_, ?_, fun b k0 hk0 => ?_, hg.gl.mono (fun q hq => .inl hq) (fun a v _ h => h)⟩
    · rintro r ⟨b, hl, hm⟩ hI
      obtain ⟨hb, hl'⟩ := lv b hl
      rcases hI with hI | ⟨b', hb', hl2, hm2⟩
      · exact hg.dis r ⟨b, hl', hm⟩ hI
      · exact hb (hg.inj b b' r hl' hl2 hm hm2 ▸ hb')
    · rintro r (hI | ⟨b', _, hl2, hm2⟩)
      · exact hg.lt r hI
      · exact hg.owned_lt ⟨b', hl2, hm2⟩
    · by_cases hb : b ∈ bs
      · obtain ⟨_, _, _, hlt⟩ := hp b hb
        rw [killB_in bs L b hb hlt] at hk0
        cases hk0; trivial
      · rw [killB_out bs L b hb] at hk0
        refine RB.mono' mono rfl rfl (fun _ _ _ h => h) (fun l hl => ⟨rfl, fun h => ?_⟩) (hg.blk b k0 hk0)
        by_cases hd : l.df ∈ bs
        · obtain ⟨k1, e1, e2, _⟩ := hp _ hd
          rw [h] at e1; cases e1; exact absurd rfl e2
        · rw [killB_out bs L _ hd]; exact h
  have hprog : Prog L.length g w L g' w (killB bs L) := by
    refine ⟨⟨rfl, rfl, rfl⟩, Nat.le_refl _, fun _ _ h _ => h, fun r ⟨b, hl, hm⟩ _ => ⟨b, (lv b hl).2, hm⟩, ?_, fun _ h => .inl h, fun x v _ h => mono x v h, fun b r _ h1 h2 => ⟨?_, h2⟩, fun _ => by rw [killB_len]; exact Nat.le_refl _⟩
    · rintro r (hI | ⟨b', _, hl2, hm2⟩)
      · exact .inl hI
      · exact .inr (.inr ⟨b', hl2, hm2⟩)
    · by_cases hd : b ∈ bs
      · obtain ⟨k1, e1, e2, _⟩ := hp _ hd
        rw [h1] at e1; cases e1; exact absurd rfl e2
      · rw [killB_out bs L _ hd]; exact h1
  refine (h.2 g' w vs hgood ⟨hc.len ▸ hv.1, fun j y v hy hvj => ?_⟩).mono ?_
  · exact hc.rvs hg (g' := g') (L' := killB bs L) (fun r hr => .inl hr) (fun b r hb hl hm => .inr ⟨b, hb, hl, hm⟩) (fun x u _ hu => mono x u hu) vs.toList
      (fun j x v hx hv' => hv.2 j x v hx (by simpa using hv')) j y v hy (by simpa using hvj)
  · rintro e w' (⟨v, X, L1, g1, he, hX, hr, hg1, hp1⟩ | ⟨v, X, L1, g1, he, hS⟩)
    · exact .inl ⟨v, X, L1, g1, he, hX, hr, hg1, hprog.trans (hp1.le (by rw [killB_len]; exact Nat.le_refl _) (Nat.le_refl _))⟩
    · rw [killB_len] at hS
      exact .inr ⟨v, X, L1, g1, he, hS.later (Nat.le_refl _) hprog⟩

end
end Go.Tidy
