/-
  The base layer: regions, control, loops, rounds, the entry of a function.
-/
import Derived.Test.YtnkfifkgbkgcjaaTidyH
namespace Go.Tidy

/-! ### One operation, its operands worked out first -/
def forceV : List V → (List V → Prop) → Prop
  | [], K => K []
  | x :: r, K => V.force x fun x => forceV r fun r => K (x :: r)
theorem forceV_eq : ∀ (l : List V) (K : List V → Prop), forceV l K = K l
  | [], K => rfl
  | x :: r, K => by simp only [forceV, V.force_eq, forceV_eq r]
def forceP : List (Nat × V) → (List (Nat × V) → Prop) → Prop
  | [], K => K []
  | p :: r, K => V.force p.2 fun x => forceP r fun r => K ((p.1, x) :: r)
theorem forceP_eq : ∀ (l : List (Nat × V)) (K : List (Nat × V) → Prop), forceP l K = K l
  | [], K => rfl
  | p :: r, K => by simp only [forceP, V.force_eq, forceP_eq r]
def vOpF (C : Ctx) (o : Oper) (fr : List (Nat × V)) (L : List Blk) (k : V → List Blk → Prop) : Prop :=
  match o.op with
  | .box _ x => V.force (ev fr x) fun x => vBox x L k
  | .build t ps => forceP (ps.toList.map fun p => (p.1, ev fr p.2)) fun ps => vBuild C t ps fun x => k x L
  | .buildSlice t len ps => forceP (ps.toList.map fun p => (p.1, ev fr p.2)) fun ps => vBuildSlice C t len ps L k
  | .store t a x => V.head (ev fr a) fun a => V.force (ev fr x) fun x => vStore C t a x L fun L' => k .poison L'
  | .makeFunc (.func f) first caps => forceV (caps.toList.map (ev fr)) fun cs => bif first.isEmpty then k (.fn f cs) L else False
  | .insert t m x v => V.head (ev fr m) fun m => V.force (ev fr x) fun x => V.force (ev fr v) fun v => vMapUpdate C t m x v L fun L' => k .poison L'
  | .mapUpdate t m x v => V.head (ev fr m) fun m => V.force (ev fr x) fun x => V.force (ev fr v) fun v => vMapUpdate C t m x v L fun L' => k .poison L'
  | .lookup t x i ok => V.head (ev fr x) fun x => V.force (ev fr i) fun i => vLookup C t x i ok L fun x => k x L
  | .call c => match c.callee with
    | .value f => V.force (ev fr f) fun f => forceV (c.args.toList.map (ev fr)) fun args => vCallV C f args L k
    | _ => vOp C o fr L k
  | _ => vOp C o fr L k
theorem vOpF_eq (C : Ctx) (o : Oper) (fr : List (Nat × V)) (L : List Blk) (k : V → List Blk → Prop) : vOpF C o fr L k = vOp C o fr L k := by
  unfold vOpF
  split
  · rename_i h; simp only [V.force_eq, vOp, h]
  · rename_i h; simp only [forceP_eq, vOp, h]
  · rename_i h; simp only [forceP_eq, vOp, h]
  · rename_i h; simp only [V.force_eq, V.head_eq, vOp, h]
  · rename_i h; simp only [forceV_eq, vOp, h]
  · rename_i h; simp only [V.force_eq, V.head_eq, vOp, h]
  · rename_i h; simp only [V.force_eq, V.head_eq, vOp, h]
  · rename_i h; simp only [V.force_eq, V.head_eq, vOp, h]
  · rename_i c h
    split
    · rename_i f hc; simp only [V.force_eq, forceV_eq, vOp, h, hc]
    · rfl
  · rfl

/-! ### Regions in the text's order -/
def dstAt (all : List Oper) (j : Nat) : Option Nat := match all[j]? with | some o => o.dst | none => none
def vPut (n : Nat) (dst : Option Tmp) (fr : List (Nat × V)) (v : V) (K : List (Nat × V) → Prop) : Prop :=
  match dst with
  | none => K fr
  | some d => bif Nat.blt d n then V.force v fun v => K ((d, v) :: fr) else False

def vcOp1 (C : Ctx) (n : Nat) (all : List Oper) (o : Oper) (fr : List (Nat × V)) (L : List Blk) (K : List (Nat × V) → List Blk → Prop) : Prop :=
  match o.guard with
  | none => vOpF C o fr L fun v L' => vPut n o.dst fr v fun fr' => K fr' L'
  | some (j, want) =>
    match dstAt all j with
    | none => False
    | some d => match look fr d with
      | .tt => match want with
        | true => vOpF C o fr L fun v L' => vPut n o.dst fr v fun fr' => K fr' L'
        | false => vPut n o.dst fr (.tup []) fun fr' => K fr' L
      | .ff => match want with
        | false => vOpF C o fr L fun v L' => vPut n o.dst fr v fun fr' => K fr' L'
        | true => vPut n o.dst fr (.tup []) fun fr' => K fr' L
      | .d (.bool t) => Br t fun b => match b, want with
        | true, true => vOpF C o ((d, .tt) :: fr) L fun v L' => vPut n o.dst ((d, .tt) :: fr) v fun fr' => K fr' L'
        | false, false => vOpF C o ((d, .ff) :: fr) L fun v L' => vPut n o.dst ((d, .ff) :: fr) v fun fr' => K fr' L'
        | true, false => vPut n o.dst ((d, .tt) :: fr) (.tup []) fun fr' => K fr' L
        | false, true => vPut n o.dst ((d, .ff) :: fr) (.tup []) fun fr' => K fr' L
      | .tup [] => vPut n o.dst fr (.tup []) fun fr' => K fr' L
      | _ => False

def vcOps (C : Ctx) (n : Nat) (all : List Oper) : List Oper → List (Nat × V) → List Blk → (List (Nat × V) → List Blk → Prop) → Prop
  | [], fr, L, K => K fr L
  | o :: rest, fr, L, K => vcOp1 C n all o fr L fun fr' L' => vcOps C n all rest fr' L' K

/-- What a slot holds may be said in other words. -/
def VLe (x y : V) : Prop := ∀ (g : Gh) (w : World) (L : List Blk) (v : Value), RV g w L x v → RV g w L y v
def FrLe (fr fr' : List (Nat × V)) : Prop := ∀ i, VLe (look fr i) (look fr' i)
def vOpsC (C : Ctx) (n : Nat) (all : List Oper) : List Oper → List (Nat × V) → List Blk → (List (Nat × V) → List Blk → Prop) → Prop
  | [], fr, L, K => ∃ fr1, FrLe fr fr1 ∧ K fr1 L
  | o :: rest, fr, L, K => ∃ fr1, FrLe fr fr1 ∧ vcOp1 C n all o fr1 L fun fr' L' => vOpsC C n all rest fr' L' K

theorem FrLe.refl (fr : List (Nat × V)) : FrLe fr fr := fun _ _ _ _ _ h => h
section
variable {C : Ctx} {g : Gh} {w : World} {L : List Blk} {r : Option Nat}

theorem look_cons (fr : List (Nat × V)) (d i : Nat) (v : V) : look ((d, v) :: fr) i = if d = i then v else look fr i := by
  simp only [look]
  by_cases h : d = i
  · subst h; simp
  · have : Nat.beq d i = false := by
      cases hb : Nat.beq d i with
      | false => rfl
      | true => exact absurd (Nat.eq_of_beq_eq_true hb) h
    simp [this, h]

theorem frame_put {fr : List (Nat × V)} {a : Act} {n : Nat} (hn : a.tmps.size = n) (h : ∀ i, RV g w L (look fr i) (a.tmps.getD i undef)) {dst : Option Tmp} {x : V} {v : Value} (hx : RV g w L x v) {K : List (Nat × V) → Prop} (hp : vPut n dst fr x K) :
    ∃ fr', K fr' ∧ (a.put dst v).tmps.size = n ∧ (a.put dst v).defers = a.defers ∧ ∀ i, RV g w L (look fr' i) ((a.put dst v).tmps.getD i undef) := by
  unfold vPut at hp
  simp only [V.force_eq] at hp
  cases dst with
  | none => exact ⟨fr, hp, hn, rfl, h⟩
  | some d =>
    simp only at hp
    cases hb : Nat.blt d n with
    | false => simp [hb] at hp
    | true =>
      simp only [hb, cond_true] at hp
      have hd : d < n := by simpa [Nat.blt_eq] using hb
      refine ⟨_, hp, by simp [Act.put, hn], rfl, fun i => ?_⟩
      rw [look_cons]
      simp only [Act.put]
      by_cases e : d = i
      · subst e
        rw [if_pos rfl]
        simp [Array.getD, hn, hd]
        exact hx
      · rw [if_neg e]
        have : (a.tmps.setIfInBounds d v).getD i undef = a.tmps.getD i undef := by
          simp only [Array.getD_eq_getD_getElem?, Array.getElem?_setIfInBounds_ne e]
        rw [this]
        exact h i

theorem frame_set {fr : List (Nat × V)} {a : Act} (h : ∀ i, RV g w L (look fr i) (a.tmps.getD i undef)) {d : Nat} {x : V} (hx : RV g w L x (a.tmps.getD d undef)) : ∀ i, RV g w L (look ((d, x) :: fr) i) (a.tmps.getD i undef) := by
  intro i
  rw [look_cons]
  by_cases e : d = i
  · subst e; rw [if_pos rfl]; exact hx
  · rw [if_neg e]; exact h i

theorem frame_mono {g' : Gh} {w' : World} {L' : List Blk} {fr : List (Nat × V)} {a : Act} (h : ∀ i, RV g w L (look fr i) (a.tmps.getD i undef)) (hp : Prog L.length g w L g' w' L') : ∀ i, RV g' w' L' (look fr i) (a.tmps.getD i undef) :=
  fun i => hp.mono _ _ (h i).bel (h i)

/-- Where the first part of a region's order stands. -/
structure At (n : Nat) (g : Gh) (fr : List (Nat × V)) (L : List Blk) (a : Act) (w : World) : Prop where
  n : a.tmps.size = n
  fr : ∀ i, RV g w L (look fr i) (a.tmps.getD i undef)
  good : Good g w L

theorem vcOp1_ok (hC : C.OK) {n : Nat} {ops : Array Oper} {Q : Exit → Act → World → Prop} (i : Nat) (l : List Nat) (fr : List (Nat × V)) (g : Gh) (a : Act) (w : World) (o : Oper) (ho : ops[i]? = some o)
    (K : List (Nat × V) → List Blk → Prop) (h : vcOp1 C n ops.toList o fr L K) (hat : At n g fr L a w)
    (hQ : ∀ fr' L' g' a' w', K fr' L' → At n g' fr' L' a' w' → a'.defers = a.defers → Prog L.length g w L g' w' L' → wpOpsIn (Fx r) 0 C.P ops Q l a' w') : wpOpsIn (Fx r) 0 C.P ops Q (i :: l) a w := by
  simp only [wpOpsIn, ho]
  simp only [vcOp1, vOpF_eq] at h
  have step : ∀ (fr : List (Nat × V)), At n g fr L a w → (vOp C o fr L fun v L' => vPut n o.dst fr v fun fr' => K fr' L') → Oper.wpIn (Fx r) 0 C.P o a w (wpOpsIn (Fx r) 0 C.P ops Q l) Q := by
    intro fr hat h
    refine vOp_ok hC hat.fr hat.good h ?_
    intro v X L' g' w' hk hv hg hp
    obtain ⟨fr', hk', hn', hd', hfr'⟩ := frame_put hat.n (frame_mono hat.fr hp) hv hk
    exact hQ fr' L' g' _ w' hk' ⟨hn', hfr', hg⟩ hd' hp
  cases hgd : o.guard with
  | none =>
    simp only [hgd] at h
    have hw : Region.wanted o (yielded ops a.tmps) = true := by simp [Region.wanted, hgd]
    rw [if_pos hw]
    exact step fr hat h
  | some jw =>
    obtain ⟨j, want⟩ := jw
    simp only [hgd] at h
    cases hd : dstAt ops.toList j with
    | none => simp [hd] at h
    | some d =>
    simp only [hd] at h
    have hyv : ∀ t, a.tmps.getD d undef = .bool t → yielded ops a.tmps j = some t := by
      intro t hval
      unfold dstAt at hd
      unfold yielded
      cases e : ops[j]? with
      | none => rw [show ops.toList[j]? = none by simpa using e] at hd; simp at hd
      | some oj =>
        rw [show ops.toList[j]? = some oj by simpa using e] at hd
        simp only at hd
        simp only [Option.bind_some, hd]
        have : a.tmps[d]? = some (.bool t) := by
          rw [Array.getD_eq_getD_getElem?] at hval
          cases e2 : a.tmps[d]? with
          | none => rw [e2] at hval; simp [undef] at hval
          | some u => rw [e2] at hval; simp at hval; rw [hval]
        rw [this]
    have wants : ∀ t, a.tmps.getD d undef = .bool t → Region.wanted o (yielded ops a.tmps) = (t == want) := fun t ht => by
      simp [Region.wanted, hgd, hyv t ht]
    have skip : ∀ (fr : List (Nat × V)), At n g fr L a w → (vPut n o.dst fr (.tup []) fun fr' => K fr' L) →
        (∀ f, o.about C.P w a.eval = some f → Fence.wide.fn f) ∧ wpOpsIn (Fx r) 0 C.P ops Q l (a.put o.dst undef) w := by
      intro fr hat h
      refine ⟨fun f _ => trivial, ?_⟩
      obtain ⟨fr', hk', hn', hd', hfr'⟩ := frame_put hat.n hat.fr (.tup [] #[] rfl (fun j x v hx => by simp at hx)) h
      exact hQ fr' L g _ w hk' ⟨hn', hfr', hat.good⟩ hd' (Prog.refl _ _ _ _)
    have hv := hat.fr d
    have yes : Region.wanted o (yielded ops a.tmps) = true → ∀ (fr : List (Nat × V)), At n g fr L a w → (vOp C o fr L fun v L' => vPut n o.dst fr v fun fr' => K fr' L') → _ :=
      fun hw fr hat h => (by rw [if_pos hw]; exact step fr hat h : (if Region.wanted o (yielded ops a.tmps) = true then Oper.wpIn (Fx r) 0 C.P o a w (wpOpsIn (Fx r) 0 C.P ops Q l) Q else (∀ (f : FuncId), Oper.about C.P w a.eval o = some f → Fence.wide.fn f) ∧ wpOpsIn (Fx r) 0 C.P ops Q l (a.put o.dst undef) w))
    have no : Region.wanted o (yielded ops a.tmps) = false → ∀ (fr : List (Nat × V)), At n g fr L a w → (vPut n o.dst fr (.tup []) fun fr' => K fr' L) → _ :=
      fun hw fr hat h => (by rw [if_neg (by rw [hw]; simp)]; exact skip fr hat h : (if Region.wanted o (yielded ops a.tmps) = true then Oper.wpIn (Fx r) 0 C.P o a w (wpOpsIn (Fx r) 0 C.P ops Q l) Q else (∀ (f : FuncId), Oper.about C.P w a.eval o = some f → Fence.wide.fn f) ∧ wpOpsIn (Fx r) 0 C.P ops Q l (a.put o.dst undef) w))
    split at h
    · rename_i hl
      rw [hl] at hv
      have hw := wants true (by generalize a.tmps.getD d undef = v at hv; cases hv; rfl)
      cases want with
      | true => exact yes (by rw [hw]; rfl) fr hat h
      | false => exact no (by rw [hw]; rfl) fr hat h
    · rename_i hl
      rw [hl] at hv
      have hw := wants false (by generalize a.tmps.getD d undef = v at hv; cases hv; rfl)
      cases want with
      | true => exact no (by rw [hw]; rfl) fr hat h
      | false => exact yes (by rw [hw]; rfl) fr hat h
    · rename_i t hl
      rw [hl] at hv
      have hval := hv.bool_of
      have hw := wants t hval
      have h := h.out
      cases t with
      | true =>
        have hat' : At n g ((d, .tt) :: fr) L a w := ⟨hat.n, frame_set hat.fr (by rw [hval]; exact .tt), hat.good⟩
        cases want with
        | true => exact yes (by rw [hw]; rfl) _ hat' h
        | false => exact no (by rw [hw]; rfl) _ hat' h
      | false =>
        have hat' : At n g ((d, .ff) :: fr) L a w := ⟨hat.n, frame_set hat.fr (by rw [hval]; exact .ff), hat.good⟩
        cases want with
        | true => exact no (by rw [hw]; rfl) _ hat' h
        | false => exact yes (by rw [hw]; rfl) _ hat' h
    · rename_i hl
      rw [hl] at hv
      have hval : ∀ t, a.tmps.getD d undef ≠ .bool t := fun t e => by rw [e] at hv; cases hv
      have hy0 : yielded ops a.tmps j = none := by
        unfold dstAt at hd
        unfold yielded
        cases e : ops[j]? with
        | none => rfl
        | some oj =>
          rw [show ops.toList[j]? = some oj by simpa using e] at hd
          simp only at hd
          simp only [Option.bind_some, hd]
          split
          · rename_i b e2
            exact absurd (by rw [Array.getD_eq_getD_getElem?, e2]; rfl) (hval b)
          · rfl
      exact no (by simp [Region.wanted, hgd, hy0]) fr hat h
    · exact h.elim

theorem vcOps_ok (hC : C.OK) {n : Nat} {ops : Array Oper} {Q : Exit → Act → World → Prop} : ∀ (l : List Nat) (fr : List (Nat × V)) (L : List Blk) (g : Gh) (a : Act) (w : World) (K : List (Nat × V) → List Blk → Prop),
    vcOps C n ops.toList (l.filterMap fun i => ops[i]?) fr L K → At n g fr L a w →
    (∀ fr' L' g' a' w', K fr' L' → At n g' fr' L' a' w' → a'.defers = a.defers → Prog L.length g w L g' w' L' → Q .normal a' w') → wpOpsIn (Fx r) 0 C.P ops Q l a w
  | [], fr, L, g, a, w, K, h, hat, hQ => hQ fr L g a w (by simpa [vcOps] using h) hat rfl (Prog.refl _ _ _ _)
  | i :: l, fr, L, g, a, w, K, h, hat, hQ => by
    cases ho : ops[i]? with
    | none =>
      simp only [List.filterMap_cons, ho] at h
      simp only [wpOpsIn, ho]
      exact vcOps_ok hC l fr L g a w K h hat hQ
    | some o =>
      simp only [List.filterMap_cons, ho] at h
      refine vcOp1_ok hC i l fr g a w o ho _ h hat ?_
      intro fr' L' g' a' w' hk hat' hd' hp
      refine vcOps_ok hC l fr' L' g' a' w' K hk hat' ?_
      intro fr2 L2 g2 a2 w2 hK2 hat2 hd2 hp2
      exact hQ fr2 L2 g2 a2 w2 hK2 hat2 (hd2.trans hd') (hp.trans (hp2.le (hp.len (Nat.le_refl _)) (Nat.le_refl _)))

theorem vOpsC_ok (hC : C.OK) {n : Nat} {ops : Array Oper} {Q : Exit → Act → World → Prop} : ∀ (l : List Nat) (fr : List (Nat × V)) (L : List Blk) (g : Gh) (a : Act) (w : World) (K : List (Nat × V) → List Blk → Prop),
    vOpsC C n ops.toList (l.filterMap fun i => ops[i]?) fr L K → At n g fr L a w →
    (∀ fr' L' g' a' w', K fr' L' → At n g' fr' L' a' w' → a'.defers = a.defers → Prog L.length g w L g' w' L' → Q .normal a' w') → wpOpsIn (Fx r) 0 C.P ops Q l a w
  | [], fr, L, g, a, w, K, h, hat, hQ => by
    obtain ⟨fr1, hle, hk⟩ := h
    exact hQ fr1 L g a w hk ⟨hat.n, fun i => hle i _ _ _ _ (hat.fr i), hat.good⟩ rfl (Prog.refl _ _ _ _)
  | i :: l, fr, L, g, a, w, K, h, hat, hQ => by
    cases ho : ops[i]? with
    | none =>
      simp only [List.filterMap_cons, ho] at h
      simp only [wpOpsIn, ho]
      exact vOpsC_ok hC l fr L g a w K h hat hQ
    | some o =>
      simp only [List.filterMap_cons, ho] at h
      obtain ⟨fr1, hle, h⟩ := h
      refine vcOp1_ok hC i l fr1 g a w o ho _ h ⟨hat.n, fun i => hle i _ _ _ _ (hat.fr i), hat.good⟩ ?_
      intro fr' L' g' a' w' hk hat' hd' hp
      refine vOpsC_ok hC l fr' L' g' a' w' K hk hat' ?_
      intro fr2 L2 g2 a2 w2 hK2 hat2 hd2 hp2
      exact hQ fr2 L2 g2 a2 w2 hK2 hat2 (hd2.trans hd') (hp.trans (hp2.le (hp.len (Nat.le_refl _)) (Nat.le_refl _)))

theorem fm_congr {α β : Type} {f f' : α → Option β} : ∀ {l : List α}, (∀ x ∈ l, f x = f' x) → l.filterMap f = l.filterMap f'
  | [], _ => rfl
  | a :: l, h => by
    simp only [List.filterMap_cons, h a (by simp)]
    rw [fm_congr (l := l) fun x hx => h x (by simp [hx])]

theorem range_ops (ops : Array Oper) : ((List.range ops.size).filterMap fun i => ops[i]?) = ops.toList := by
  apply List.ext_getElem?
  intro i
  have : ((List.range ops.size).filterMap fun i => ops[i]?) = (List.range ops.size).map fun i => ops[i]?.getD default := by
    rw [← List.filterMap_eq_map]
    apply fm_congr
    intro x hx
    have hx' : x < ops.size := by simpa using hx
    simp [Array.getElem?_eq_getElem hx']
  rw [this, List.getElem?_map]
  rcases Nat.lt_or_ge i ops.size with h | h
  · rw [List.getElem?_range h]; simp [Array.getElem?_eq_getElem h]
  · rw [List.getElem?_eq_none (by simpa using h), List.getElem?_eq_none (by simpa using h)]; rfl

/-! ### Code -/
/-- A region whose order is drawn: whatever order its edges allow. -/
@[irreducible] def DrawP (C : Ctx) (n : Nat) (ops : Array Oper) (fr : List (Nat × V)) (L : List Blk) (K : List (Nat × V) → List Blk → Prop) : Prop :=
  ∀ t, vOpsC C n ops.toList ((Region.schedule (C.P.follows .mixedOrders) ops t).filterMap fun i => ops[i]?) fr L K

/-- What is forgotten, or seen otherwise. -/
def Weak (k : Nat) (σ σ' : TS) : Prop := ∀ (r : Option Nat) (g : Gh) (a : Act) (w : World), St k r g σ a w → ∃ g', St k r g' σ' a w ∧ Prog k g w σ.L g' w σ'.L

@[irreducible] def LoopP (k : Nat) (body : TS → (Exit → TS → Prop) → Prop) (σ : TS) (Q : Exit → TS → Prop) : Prop :=
  ∃ (ι : Type) (s : ι → TS) (lt : ι → ι → Prop) (i0 : ι), WellFounded lt ∧ Weak k σ (s i0) ∧ ∀ i, body (s i) fun e σ' => match e with
    | .normal => ∃ j, lt j i ∧ Weak k σ' (s j)
    | e => Q e σ'

theorem LoopP.intro {k : Nat} {body : TS → (Exit → TS → Prop) → Prop} {σ : TS} {Q : Exit → TS → Prop} {ι : Type} (s : ι → TS) (μ : ι → Nat) (i0 : ι) (h0 : Weak k σ (s i0))
    (h : ∀ i, body (s i) fun e σ' => match e with
      | .normal => ∃ j, μ j < μ i ∧ Weak k σ' (s j)
      | e => Q e σ') : LoopP k body σ Q := by unfold LoopP; exact ⟨ι, s, fun j i => μ j < μ i, i0, (measure μ).wf, h0, h⟩
theorem LoopP.introW {k : Nat} {body : TS → (Exit → TS → Prop) → Prop} {σ : TS} {Q : Exit → TS → Prop} {ι : Type} (s : ι → TS) (lt : ι → ι → Prop) (wf : WellFounded lt) (i0 : ι) (h0 : Weak k σ (s i0))
    (h : ∀ i, body (s i) fun e σ' => match e with
      | .normal => ∃ j, lt j i ∧ Weak k σ' (s j)
      | e => Q e σ') : LoopP k body σ Q := by unfold LoopP; exact ⟨ι, s, lt, i0, wf, h0, h⟩

/-- The call of an iterator by a loop over it: the loop's record lies in the last block. -/
def pendExit : Code → Option Exit
  | .ret => some .ret
  | .exit id => some (.exit id)
  | _ => none

def vRange (C : Ctx) (f : Operand) (ps : Array Tmp) (assign body : Code) (σ : TS) (Q : Exit → TS → Prop) : Prop :=
  match σ.ro with
  | none =>
    vCallF C (ev σ.fr f) [.yld (σ.L.length + 1)] (σ.L ++ [.defr, .loop ⟨.ready, none, σ.fr, σ.n, ps.toList, assign, body, σ.L.length⟩]) fun _ L' =>
      match L'[σ.L.length + 1]?, L'[σ.L.length]? with
      | some (.loop l), some .defr => match l.st, l.pend with
        | .busy, _ => False
        | _, none => Q .normal { σ with L := L'.set (σ.L.length + 1) .dead, df := σ.L.length :: σ.df }
        | _, some c => match pendExit c with | some e => Q e { σ with L := L'.set (σ.L.length + 1) .dead, df := σ.L.length :: σ.df } | none => False
      | _, _ => False
  | some lb => match σ.L[lb]? with
    | some (.loop r0) =>
      vCallF C (ev σ.fr f) [.yld σ.L.length] (σ.L ++ [.loop ⟨.ready, none, σ.fr, σ.n, ps.toList, assign, body, r0.df⟩]) fun _ L' =>
        match L'[σ.L.length]? with
        | some (.loop l) => match l.st, l.pend with
          | .busy, _ => False
          | _, none => Q .normal { σ with L := L'.set σ.L.length .dead }
          | _, some c => match pendExit c with | some e => Q e { σ with L := L'.set σ.L.length .dead } | none => False
        | _ => False
    | _ => False

/-- A piece of code behind which the states are gathered. -/
@[irreducible] def CutP (k : Nat) (f : (Exit → TS → Prop) → Prop) (Q : Exit → TS → Prop) : Prop :=
  ∃ (ι : Type) (s : ι → TS), f (fun e σ' => match e with | .normal => ∃ i, Weak k σ' (s i) | e => Q e σ') ∧ ∀ i, Q .normal (s i)
theorem CutP.intro {k : Nat} {f : (Exit → TS → Prop) → Prop} {Q : Exit → TS → Prop} {ι : Type} (s : ι → TS) (h : f (fun e σ' => match e with | .normal => ∃ i, Weak k σ' (s i) | e => Q e σ')) (hq : ∀ i, Q .normal (s i)) : CutP k f Q := by
  unfold CutP; exact ⟨ι, s, h, hq⟩
def cutIf (b : Bool) (k : Nat) (f : (Exit → TS → Prop) → Prop) (Q : Exit → TS → Prop) : Prop :=
  match b with
  | false => f Q
  | true => CutP k f Q

def vc (C : Ctx) (cut : Code → Bool) (k : Nat) : Code → TS → (Exit → TS → Prop) → Prop
  | .skip, σ, Q => Q .normal σ
  | .label _, σ, Q => Q .normal σ
  | .region id ops false, σ, Q => cutIf (cut (.region id ops false)) k (fun Q => vcOps C σ.n ops.toList ops.toList σ.fr σ.L fun fr L => Q .normal { σ with fr := fr, L := L }) Q
  | .region id ops true, σ, Q => cutIf (cut (.region id ops true)) k (fun Q => DrawP C σ.n ops σ.fr σ.L fun fr L => Q .normal { σ with fr := fr, L := L }) Q
  | .seq a b, σ, Q => cutIf (cut (.seq a b)) k (fun Q => vc C cut k a σ fun e σ' => match e with | .normal => vc C cut k b σ' Q | e => Q e σ') Q
  | .cond c x y, σ, Q => cutIf (cut (.cond c x y)) k (fun Q => match evB σ.fr c with
    | .tt => vc C cut k x σ Q
    | .ff => vc C cut k y σ Q
    | .d (.bool t) => Br t fun b => match b with | true => vc C cut k x σ Q | false => vc C cut k y σ Q
    | _ => False) Q
  | .block id c, σ, Q => cutIf (cut (.block id c)) k (fun Q => vc C cut k c σ fun e σ' => match e with | .exit id' => (match Nat.beq id' id with | true => Q .normal σ' | false => Q (.exit id') σ') | e => Q e σ') Q
  | .loop c, σ, Q => LoopP k (vc C cut k c) σ Q
  | .rangeFunc f ps assign body, σ, Q => vRange C f ps assign body σ Q
  | .exit id, σ, Q => Q (.exit id) σ
  | .ret, σ, Q => Q .ret σ
  | _, _, _ => False

/-- What holds behind a piece of code. -/
def Post (k : Nat) (r : Option Nat) (Q : Exit → TS → Prop) (g : Gh) (w : World) (L : List Blk) (e : Exit) (a' : Act) (w' : World) : Prop :=
  ∃ σ' g', Q e σ' ∧ St k r g' σ' a' w' ∧ Prog k g w L g' w' σ'.L

theorem wpIn_loopG {F : Fence} {n : Nat} {P : Program} {Q : Exit → Act → World → Prop} {c : Code} {ι : Type} (I : ι → Act → World → Prop) (lt : ι → ι → Prop) (wf : WellFounded lt) {i0 : ι} {a : Act} {w : World} (h₀ : I i0 a w)
    (round : ∀ i a w, I i a w → c.wpIn F n P (Exit.then (fun a' w' => ∃ j, lt j i ∧ I j a' w') Q) a w) : (Code.loop c).wpIn F n P Q a w := by
  intro b k cs hro hb hr
  have key : ∀ i a w, I i a w →
      ∃ e a' w', Q e a' w' ∧ ArrivesIn (Machine.fenced P F) P (lone (b.atR a (.code c :: .inLoop c :: k)) cs w) b k cs e a' w' := by
    intro i
    induction i using wf.induction with
    | _ i ih =>
      intro a w hI
      obtain ⟨e, a₁, w₁, hq, harr⟩ := round i a w hI b (.inLoop c :: k) cs hro hb hr
      cases e with
      | normal =>
        obtain ⟨j, hlt, hI₁⟩ := hq
        obtain ⟨e₂, a₂, w₂, hq₂, harr₂⟩ := ih j hlt a₁ w₁ hI₁
        exact ⟨e₂, a₂, w₂, hq₂, .of_steps (StepsIn.trans harr (.one (fenced_calm hb hr rfl) stepR_inLoop)) harr₂⟩
      | exit id => exact ⟨_, a₁, w₁, hq, .pass (x := .inLoop c) rfl (fun _ _ => .inl (by simp)) harr⟩
      | goto l => exact ⟨_, a₁, w₁, hq, .pass (x := .inLoop c) rfl (fun _ _ => .inl (by simp)) harr⟩
      | ret => exact ⟨_, a₁, w₁, hq, .pass (x := .inLoop c) rfl (fun _ _ => .inl (by simp)) harr⟩
      | panic ch => exact ⟨_, a₁, w₁, hq, .pass (x := .inLoop c) rfl (fun _ _ => .inl (by simp)) harr⟩
      | outgrown => exact ⟨_, a₁, w₁, hq, .pass (x := .inLoop c) rfl (fun _ _ => .inl (by simp)) harr⟩
  obtain ⟨e, a', w', hq, harr⟩ := key i0 a w h₀
  exact ⟨e, a', w', hq, .of_steps (.one (fenced_calm hb hr rfl) stepR_loop) harr⟩

theorem Post.later {k : Nat} {Q : Exit → TS → Prop} {g g1 : Gh} {w w1 : World} {L L1 : List Blk} (hp : Prog k g w L g1 w1 L1) {e : Exit} {a' : Act} {w' : World} (h : Post k r Q g1 w1 L1 e a' w') : Post k r Q g w L e a' w' := by
  obtain ⟨σ', g', hq, hs, hp'⟩ := h
  exact ⟨σ', g', hq, hs, hp.trans hp'⟩

theorem St.at {k : Nat} {σ : TS} {a : Act} (h : St k r g σ a w) : At σ.n g σ.fr σ.L a w := ⟨h.n, h.fr, h.good⟩

/-- The state behind a region. -/
theorem St.of_at {k : Nat} {σ : TS} {a : Act} (h : St k r g σ a w) {fr' : List (Nat × V)} {L' : List Blk} {g' : Gh} {a' : Act} {w' : World} (hat : At σ.n g' fr' L' a' w') (hd : a'.defers = a.defers) (hp : Prog σ.L.length g w σ.L g' w' L') :
    St k r g' { σ with fr := fr', L := L' } a' w' := by
  refine ⟨hat.n, hat.fr, hat.good, Nat.le_trans h.k (hp.len (Nat.le_refl _)), by rw [hd]; exact h.df, fun i b d hb hdi => ?_, fun lb hlb => ?_, h.ro'⟩
  · rw [hd] at hdi
    obtain ⟨q, h1, h2, h3⟩ := h.dfs i b d hb hdi
    obtain ⟨h4, h5⟩ := hp.defr b q (lt_of_get h3) h3 h1
    exact ⟨q, h5, h2, h4⟩
  · obtain ⟨l, h1, h2⟩ := h.ro lb hlb
    exact ⟨l, h1, hp.mono _ _ h2.bel h2⟩

end
end Go.Tidy
