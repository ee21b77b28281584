import Derived.Test.YtjknhbfcdjjbhaaBaseC
/-
  The base layer: regions, control, loops, rounds, the entry of a function.
-/
namespace Go.Tidy

def forceV : List V → (List V → Prop) → Prop
  | [], K => K []
  | x :: r, K => V.force x fun x => forceV r fun r => K (x :: r)
theorem forceV_eq : ∀ (l : List V) (K : List V → Prop), forceV l K = K l
  | [], K => rfl
  | x :: r, K => by simp only [forceV, V.force_eq, forceV_eq r]
def forceP : List (Nat × V) → (List (Nat × V) → Prop) → Prop
  | [], K => K []
  | p :: r, K => V.force p.2 fun x => forceP r fun r => K ((p.1, x) :: r)
theorem forceP_eq : ∀ (l : List (Nat × V)) (K : List (Nat × V) → Prop), forceP l K = K l
  | [], K => rfl
  | p :: r, K => by simp only [forceP, V.force_eq, forceP_eq r]
def vOpF (C : Ctx) (o : Oper) (fr : List (Nat × V)) (L : List Blk) (k : V → List Blk → Prop) : Prop :=
  match o.op with
  | .box _ x => V.force (ev fr x) fun x => vBox x L k
  | .build t ps => forceP (ps.toList.map fun p => (p.1, ev fr p.2)) fun ps => vBuild C t ps fun x => k x L
  | .buildSlice t len ps => forceP (ps.toList.map fun p => (p.1, ev fr p.2)) fun ps => vBuildSlice C t len ps L k
  | .store t a x => V.head (ev fr a) fun a => V.force (ev fr x) fun x => vStore C t a x L fun L' => k .poison L'
  | .makeFunc (.func f) first caps => forceV (caps.toList.map (ev fr)) fun cs => bif first.isEmpty then k (.fn f cs) L else False
  | .insert t m x v => V.head (ev fr m) fun m => V.force (ev fr x) fun x => V.force (ev fr v) fun v => vMapUpdate C t m x v L fun L' => k .poison L'
  | .mapUpdate t m x v => V.head (ev fr m) fun m => V.force (ev fr x) fun x => V.force (ev fr v) fun v => vMapUpdate C t m x v L fun L' => k .poison L'
  | .lookup t x i ok => V.head (ev fr x) fun x => V.force (ev fr i) fun i => vLookup C t x i ok L fun x => k x L
  | .call c => match c.callee with
    | .value f => V.force (ev fr f) fun f => forceV (c.args.toList.map (ev fr)) fun args => vCallV C f args L k
    | _ => vOp C o fr L k
  | _ => vOp C o fr L k
theorem vOpF_eq (C : Ctx) (o : Oper) (fr : List (Nat × V)) (L : List Blk) (k : V → List Blk → Prop) : vOpF C o fr L k = vOp C o fr L k := by
  unfold vOpF
  split
  · rename_i h; simp only [V.force_eq, vOp, h]
  · rename_i h; simp only [forceP_eq, vOp, h]
  · rename_i h; simp only [forceP_eq, vOp, h]
  · rename_i h; simp only [V.force_eq, V.head_eq, vOp, h]
  · rename_i h; simp only [forceV_eq, vOp, h]
  · rename_i h; simp only [V.force_eq, V.head_eq, vOp, h]
  · rename_i h; simp only [V.force_eq, V.head_eq, vOp, h]
  · rename_i h; simp only [V.force_eq, V.head_eq, vOp, h]
  · rename_i c h
    split
    · rename_i f hc; simp only [V.force_eq, forceV_eq, vOp, h, hc]
    · rfl
  · rfl

def dstAt (all : List Oper) (j : Nat) : Option Nat := match all[j]? with | some o => o.dst | none => none
def vPut (n : Nat) (dst : Option Tmp) (fr : List (Nat × V)) (v : V) (K : List (Nat × V) → Prop) : Prop :=
  match dst with
  | none => K fr
  | some d => bif Nat.blt d n then V.force v fun v => K ((d, v) :: fr) else False

def vcOp1 (C : Ctx) (n : Nat) (all : List Oper) (o : Oper) (fr : List (Nat × V)) (L : List Blk) (K : List (Nat × V) → List Blk → Prop) : Prop :=
  match o.guard with
  | none => vOpF C o fr L fun v L' => vPut n o.dst fr v fun fr' => K fr' L'
  | some (j, want) =>
    match dstAt all j with
    | none => False
    | some d => match look fr d with
      | .tt => match want with
        | true => vOpF C o fr L fun v L' => vPut n o.dst fr v fun fr' => K fr' L'
        | false => vPut n o.dst fr (.tup []) fun fr' => K fr' L
      | .ff => match want with
        | false => vOpF C o fr L fun v L' => vPut n o.dst fr v fun fr' => K fr' L'
        | true => vPut n o.dst fr (.tup []) fun fr' => K fr' L
      | .d (.bool t) => Br t fun b => match b, want with
        | true, true => vOpF C o ((d, .tt) :: fr) L fun v L' => vPut n o.dst ((d, .tt) :: fr) v fun fr' => K fr' L'
        | false, false => vOpF C o ((d, .ff) :: fr) L fun v L' => vPut n o.dst ((d, .ff) :: fr) v fun fr' => K fr' L'
        | true, false => vPut n o.dst ((d, .tt) :: fr) (.tup []) fun fr' => K fr' L
        | false, true => vPut n o.dst ((d, .ff) :: fr) (.tup []) fun fr' => K fr' L
      | .tup [] => vPut n o.dst fr (.tup []) fun fr' => K fr' L
      | _ => False

def vcOps (C : Ctx) (n : Nat) (all : List Oper) : List Oper → List (Nat × V) → List Blk → (List (Nat × V) → List Blk → Prop) → Prop
  | [], fr, L, K => K fr L
  | o :: rest, fr, L, K => vcOp1 C n all o fr L fun fr' L' => vcOps C n all rest fr' L' K

def VLe (x y : V) : Prop := ∀ (g : Gh) (w : World) (L : List Blk) (v : Value), RV g w L x v → RV g w L y v
def FrLe (fr fr' : List (Nat × V)) : Prop := ∀ i, VLe (look fr i) (look fr' i)
def vOpsC (C : Ctx) (n : Nat) (all : List Oper) : List Oper → List (Nat × V) → List Blk → (List (Nat × V) → List Blk → Prop) → Prop
  | [], fr, L, K => ∃ fr1, FrLe fr fr1 ∧ K fr1 L
  | o :: rest, fr, L, K => ∃ fr1, FrLe fr fr1 ∧ vcOp1 C n all o fr1 L fun fr' L' => vOpsC C n all rest fr' L' K

theorem FrLe.refl (fr : List (Nat × V)) : FrLe fr fr := fun _ _ _ _ _ h => h
section
variable {C : Ctx} {g : Gh} {w : World} {L : List Blk} {r : Option Nat}

theorem frame_put {fr : List (Nat × V)} {a : Act} {n : Nat} (hn : a.tmps.size = n) (h : ∀ i, RV g w L (look fr i) (a.tmps.getD i undef)) {dst : Option Tmp} {x : V} {v : Value} (hx : RV g w L x v) {K : List (Nat × V) → Prop} (hp : vPut n dst fr x K) :
    ∃ fr', K fr' ∧ (a.put dst v).tmps.size = n ∧ (a.put dst v).defers = a.defers ∧ ∀ i, RV g w L (look fr' i) ((a.put dst v).tmps.getD i undef) := by
  unfold vPut at hp
  simp only [V.force_eq] at hp
  cases dst with
  | none => exact ⟨fr, hp, hn, rfl, h⟩
  | some d =>
    simp only at hp
    cases hb : Nat.blt d n with
    | false => simp [hb] at hp
    | true =>
      simp only [hb, cond_true] at hp
      have hd : d < n := by simpa [Nat.blt_eq] using hb
      refine ⟨_, hp, by simp [Act.put, hn], rfl, fun i => ?_⟩
      rw [look_cons]
      simp only [Act.put]
      by_cases e : d = i
      · subst e
        rw [if_pos rfl]
        simp [Array.getD, hn, hd]
        exact hx
      · rw [if_neg e]
        have : (a.tmps.setIfInBounds d v).getD i undef = a.tmps.getD i undef := by
          simp only [Array.getD_eq_getD_getElem?, Array.getElem?_setIfInBounds_ne e]
        rw [this]
        exact h i

theorem frame_set {fr : List (Nat × V)} {a : Act} (h : ∀ i, RV g w L (look fr i) (a.tmps.getD i undef)) {d : Nat} {x : V} (hx : RV g w L x (a.tmps.getD d undef)) : ∀ i, RV g w L (look ((d, x) :: fr) i) (a.tmps.getD i undef) := by
  intro i
  rw [look_cons]
  by_cases e : d = i
  · subst e; rw [if_pos rfl]; exact hx
  · rw [if_neg e]; exact h i

theorem frame_mono {g' : Gh} {w' : World} {L' : List Blk} {fr : List (Nat × V)} {a : Act} (h : ∀ i, RV g w L (look fr i) (a.tmps.getD i undef)) (hp : Prog L.length g w L g' w' L') : ∀ i, RV g' w' L' (look fr i) (a.tmps.getD i undef) :=
  fun i => hp.mono _ _ (h i).bel (h i)

structure At (n : Nat) (g : Gh) (fr : List (Nat × V)) (L : List Blk) (a : Act) (w : World) : Prop where
  n : a.tmps.size = n
  fr : ∀ i, RV g w L (look fr i) (a.tmps.getD i undef)
  good : Good g w L

theorem vcOp1_ok (hC : C.OK) {n : Nat} {ops : Array Oper} {Q : Exit → Act → World → Prop} (i : Nat) (l : List Nat) (fr : List (Nat × V)) (g : Gh) (a : Act) (w : World) (o : Oper) (ho : ops[i]? = some o)
    (K : List (Nat × V) → List Blk → Prop) (h : vcOp1 C n ops.toList o fr L K) (hat : At n g fr L a w)
    (hQ : ∀ fr' L' g' a' w', K fr' L' → At n g' fr' L' a' w' → a'.defers = a.defers → Prog L.length g w L g' w' L' → wpOpsIn (Fx r) 0 C.P ops Q l a' w') (hP : ∀ v X L2 g2 a2 w2, a2.defers = a.defers → PanS C L.length g w L v X L2 g2 w2 → Q (.panic [{ v, recovered := false }]) a2 w2) : wpOpsIn (Fx r) 0 C.P ops Q (i :: l) a w := by
  simp only [wpOpsIn, ho]
  simp only [vcOp1, vOpF_eq] at h
  have step : ∀ (fr : List (Nat × V)), At n g fr L a w → (vOp C o fr L fun v L' => vPut n o.dst fr v fun fr' => K fr' L') → Oper.wpIn (Fx r) 0 C.P o a w (wpOpsIn (Fx r) 0 C.P ops Q l) Q := by
    intro fr hat h
    refine vOp_ok hC hat.fr hat.good h ?_ (fun v X L2 g2 w2 hS => hP v X L2 g2 a w2 rfl hS)
    intro v X L' g' w' hk hv hg hp
    obtain ⟨fr', hk', hn', hd', hfr'⟩ := frame_put hat.n (frame_mono hat.fr hp) hv hk
    exact hQ fr' L' g' _ w' hk' ⟨hn', hfr', hg⟩ hd' hp
  cases hgd : o.guard with
  | none =>
    simp only [hgd] at h
    have hw : Region.wanted o (yielded ops a.tmps) = true := by simp [Region.wanted, hgd]
    rw [if_pos hw]
    exact step fr hat h
  | some jw =>
    obtain ⟨j, want⟩ := jw
    simp only [hgd] at h
    cases hd : dstAt ops.toList j with
    | none => simp [hd] at h
    | some d =>
    simp only [hd] at h
    have hyv : ∀ t, a.tmps.getD d undef = .bool t → yielded ops a.tmps j = some t := by
      intro t hval
      unfold dstAt at hd
      unfold yielded
      cases e : ops[j]? with
      | none => rw [show ops.toList[j]? = none by simpa using e] at hd; simp at hd
      | some oj =>
        rw [show ops.toList[j]? = some oj by simpa using e] at hd
        simp only at hd
        simp only [Option.bind_some, hd]
        have : a.tmps[d]? = some (.bool t) := by
          rw [Array.getD_eq_getD_getElem?] at hval
          cases e2 : a.tmps[d]? with
          | none => rw [e2] at hval; simp [undef] at hval
          | some u => rw [e2] at hval; simp at hval; rw [hval]
        rw [this]
    have wants : ∀ t, a.tmps.getD d undef = .bool t → Region.wanted o (yielded ops a.tmps) = (t == want) := fun t ht => by
      simp [Region.wanted, hgd, hyv t ht]
    have skip : ∀ (fr : List (Nat × V)), At n g fr L a w → (vPut n o.dst fr (.tup []) fun fr' => K fr' L) →
        (∀ f, o.about C.P w a.eval = some f → Fence.wide.fn f) ∧ wpOpsIn (Fx r) 0 C.P ops Q l (a.put o.dst undef) w := by
      intro fr hat h
      refine ⟨fun f _ => trivial, ?_⟩
      obtain ⟨fr', hk', hn', hd', hfr'⟩ := frame_put hat.n hat.fr (.tup [] #[] rfl (fun j x v hx => by simp at hx)) h
      exact hQ fr' L g _ w hk' ⟨hn', hfr', hat.good⟩ hd' (Prog.refl _ _ _ _)
    have hv := hat.fr d
    have yes : Region.wanted o (yielded ops a.tmps) = true → ∀ (fr : List (Nat × V)), At n g fr L a w → (vOp C o fr L fun v L' => vPut n o.dst fr v fun fr' => K fr' L') → _ :=
      fun hw fr hat h => (by rw [if_pos hw]; exact step fr hat h : (if Region.wanted o (yielded ops a.tmps) = true then Oper.wpIn (Fx r) 0 C.P o a w (wpOpsIn (Fx r) 0 C.P ops Q l) Q else (∀ (f : FuncId), Oper.about C.P w a.eval o = some f → Fence.wide.fn f) ∧ wpOpsIn (Fx r) 0 C.P ops Q l (a.put o.dst undef) w))
    have no : Region.wanted o (yielded ops a.tmps) = false → ∀ (fr : List (Nat × V)), At n g fr L a w → (vPut n o.dst fr (.tup []) fun fr' => K fr' L) → _ :=
      fun hw fr hat h => (by rw [if_neg (by rw [hw]; simp)]; exact skip fr hat h : (if Region.wanted o (yielded ops a.tmps) = true then Oper.wpIn (Fx r) 0 C.P o a w (wpOpsIn (Fx r) 0 C.P ops Q l) Q else (∀ (f : FuncId), Oper.about C.P w a.eval o = some f → Fence.wide.fn f) ∧ wpOpsIn (Fx r) 0 C.P ops Q l (a.put o.dst undef) w))
    split at h
    · rename_i hl
      rw [hl] at hv
      have hw := wants true (by generalize a.tmps.getD d undef = v at hv; cases hv; rfl)
      cases want with
      | true => exact yes (by rw [hw]; rfl) fr hat h
      | false => exact no (by rw [hw]; rfl) fr hat h
    · rename_i hl
      rw [hl] at hv
      have hw := wants false (by generalize a.tmps.getD d undef = v at hv; cases hv; rfl)
      cases want with
      | true => exact no (by rw [hw]; rfl) fr hat h
      | false => exact yes (by rw [hw]; rfl) fr hat h
    · rename_i t hl
      rw [hl] at hv
      have hval := hv.bool_of
      have hw := wants t hval
      have h := h.out
      cases t with
      | true =>
        have hat' : At n g ((d, .tt) :: fr) L a w := ⟨hat.n, frame_set hat.fr (by rw [hval]; exact .tt), hat.good⟩
        cases want with
        | true => exact yes (by rw [hw]; rfl) _ hat' h
        | false => exact no (by rw [hw]; rfl) _ hat' h
      | false =>
        have hat' : At n g ((d, .ff) :: fr) L a w := ⟨hat.n, frame_set hat.fr (by rw [hval]; exact .ff), hat.good⟩
        cases want with
        | true => exact no (by rw [hw]; rfl) _ hat' h
        | false => exact yes (by rw [hw]; rfl) _ hat' h
    · rename_i hl
      rw [hl] at hv
      have hval : ∀ t, a.tmps.getD d undef ≠ .bool t := fun t e => by rw [e] at hv; cases hv
      have hy0 : yielded ops a.tmps j = none := by
        unfold dstAt at hd
        unfold yielded
        cases e : ops[j]? with
        | none => rfl
        | some oj =>
          rw [show ops.toList[j]? = some oj by simpa using e] at hd
          simp only at hd
          simp only [Option.bind_some, hd]
          split
          · rename_i b e2
            exact absurd (by rw [Array.getD_eq_getD_getElem?, e2]; rfl) (hval b)
          · rfl
      exact no (by simp [Region.wanted, hgd, hy0]) fr hat h
    · exact h.elim

theorem vcOps_ok (hC : C.OK) {n : Nat} {ops : Array Oper} {Q : Exit → Act → World → Prop} : ∀ (l : List Nat) (fr : List (Nat × V)) (L : List Blk) (g : Gh) (a : Act) (w : World) (K : List (Nat × V) → List Blk → Prop),
    vcOps C n ops.toList (l.filterMap fun i => ops[i]?) fr L K → At n g fr L a w → C.pn ≤ L.length →
    (∀ fr' L' g' a' w', K fr' L' → At n g' fr' L' a' w' → a'.defers = a.defers → Prog L.length g w L g' w' L' → Q .normal a' w') → (∀ v X L2 g2 a2 w2, a2.defers = a.defers → PanS C L.length g w L v X L2 g2 w2 → Q (.panic [{ v, recovered := false }]) a2 w2) → wpOpsIn (Fx r) 0 C.P ops Q l a w
  | [], fr, L, g, a, w, K, h, hat, hpn, hQ, hP => hQ fr L g a w (by simpa [vcOps] using h) hat rfl (Prog.refl _ _ _ _)
  | i :: l, fr, L, g, a, w, K, h, hat, hpn, hQ, hP => by
    cases ho : ops[i]? with
    | none =>
      simp only [List.filterMap_cons, ho] at h
      simp only [wpOpsIn, ho]
      exact vcOps_ok hC l fr L g a w K h hat hpn hQ hP
    | some o =>
      simp only [List.filterMap_cons, ho] at h
      refine vcOp1_ok hC i l fr g a w o ho _ h hat ?_ hP
      intro fr' L' g' a' w' hk hat' hd' hp
      refine vcOps_ok hC l fr' L' g' a' w' K hk hat' (Nat.le_trans hpn (hp.len (Nat.le_refl _))) ?_ (fun v X L2 g2 a2 w2 hd2 hS => hP v X L2 g2 a2 w2 (hd2.trans hd') ((hS.less (hp.len (Nat.le_refl _)) hpn).later (Nat.le_refl _) hp))
      intro fr2 L2 g2 a2 w2 hK2 hat2 hd2 hp2
      exact hQ fr2 L2 g2 a2 w2 hK2 hat2 (hd2.trans hd') (hp.trans (hp2.le (hp.len (Nat.le_refl _)) (Nat.le_refl _)))

theorem vOpsC_ok (hC : C.OK) {n : Nat} {ops : Array Oper} {Q : Exit → Act → World → Prop} : ∀ (l : List Nat) (fr : List (Nat × V)) (L : List Blk) (g : Gh) (a : Act) (w : World) (K : List (Nat × V) → List Blk → Prop),
    vOpsC C n ops.toList (l.filterMap fun i => ops[i]?) fr L K → At n g fr L a w → C.pn ≤ L.length →
    (∀ fr' L' g' a' w', K fr' L' → At n g' fr' L' a' w' → a'.defers = a.defers → Prog L.length g w L g' w' L' → Q .normal a' w') → (∀ v X L2 g2 a2 w2, a2.defers = a.defers → PanS C L.length g w L v X L2 g2 w2 → Q (.panic [{ v, recovered := false }]) a2 w2) → wpOpsIn (Fx r) 0 C.P ops Q l a w
  | [], fr, L, g, a, w, K, h, hat, hpn, hQ, hP => by
    obtain ⟨fr1, hle, hk⟩ := h
    exact hQ fr1 L g a w hk ⟨hat.n, fun i => hle i _ _ _ _ (hat.fr i), hat.good⟩ rfl (Prog.refl _ _ _ _)
  | i :: l, fr, L, g, a, w, K, h, hat, hpn, hQ, hP => by
    cases ho : ops[i]? with
    | none =>
      simp only [List.filterMap_cons, ho] at h
      simp only [wpOpsIn, ho]
      exact vOpsC_ok hC l fr L g a w K h hat hpn hQ hP
    | some o =>
      simp only [List.filterMap_cons, ho] at h
      obtain ⟨fr1, hle, h⟩ := h
      refine vcOp1_ok hC i l fr1 g a w o ho _ h ⟨hat.n, fun i => hle i _ _ _ _ (hat.fr i), hat.good⟩ ?_ hP
      intro fr' L' g' a' w' hk hat' hd' hp
      refine vOpsC_ok hC l fr' L' g' a' w' K hk hat' (Nat.le_trans hpn (hp.len (Nat.le_refl _))) ?_ (fun v X L2 g2 a2 w2 hd2 hS => hP v X L2 g2 a2 w2 (hd2.trans hd') ((hS.less (hp.len (Nat.le_refl _)) hpn).later (Nat.le_refl _) hp))
      intro fr2 L2 g2 a2 w2 hK2 hat2 hd2 hp2
      exact hQ fr2 L2 g2 a2 w2 hK2 hat2 (hd2.trans hd') (hp.trans (hp2.le (hp.len (Nat.le_refl _)) (Nat.le_refl _)))

theorem fm_congr {α β : Type} {f f' : α → Option β} : ∀ {l : List α}, (∀ x ∈ l, f x = f' x) → l.filterMap f = l.filterMap f'
  | [], _ => rfl
  | a :: l, h => by
    simp only [List.filterMap_cons, h a (by simp)]
    rw [fm_congr (l := l) fun x hx => h x (by simp [hx])]

theorem range_ops (ops : Array Oper) : ((List.range ops.size).filterMap fun i => ops[i]?) = ops.toList := by
  apply List.ext_getElem?
  intro i
  have : ((List.range ops.size).filterMap fun i => ops[i]?) = (List.range ops.size).map fun i => ops[i]?.getD default := by
    rw [← List.filterMap_eq_map]
    apply fm_congr
    intro x hx
    have hx' : x < ops.size := by simpa using hx
    simp [Array.getElem?_eq_getElem hx']
  rw [this, List.getElem?_map]
  rcases Nat.lt_or_ge i ops.size with h | h
  · rw [List.getElem?_range h]; simp [Array.getElem?_eq_getElem h]
  · rw [List.getElem?_eq_none (by simpa using h), List.getElem?_eq_none (by simpa using h)]; rfl

@[irreducible] def DrawP (C : Ctx) (n : Nat) (ops : Array Oper) (fr : List (Nat × V)) (L : List Blk) (K : List (Nat × V) → List Blk → Prop) : Prop :=
  ∀ t, vOpsC C n ops.toList ((Region.schedule (C.P.follows .mixedOrders) ops t).filterMap fun i => ops[i]?) fr L K

def Weak (k : Nat) (σ σ' : TS) : Prop := ∀ (r : Option Nat) (g : Gh) (a : Act) (w : World), St k r g σ a w → ∃ g', St k r g' σ' a w ∧ Prog k g w σ.L g' w σ'.L

@[irreducible] def LoopP (k : Nat) (body : TS → (Exit → TS → Prop) → Prop) (σ : TS) (Q : Exit → TS → Prop) : Prop :=
  ∃ (ι : Type) (s : ι → TS) (lt : ι → ι → Prop) (i0 : ι), WellFounded lt ∧ Weak k σ (s i0) ∧ ∀ i, body (s i) fun e σ' => match e with
    | .normal => ∃ j, lt j i ∧ Weak k σ' (s j)
    | e => Q e σ'

theorem LoopP.intro {k : Nat} {body : TS → (Exit → TS → Prop) → Prop} {σ : TS} {Q : Exit → TS → Prop} {ι : Type} (s : ι → TS) (μ : ι → Nat) (i0 : ι) (h0 : Weak k σ (s i0))
    (h : ∀ i, body (s i) fun e σ' => match e with
      | .normal => ∃ j, μ j < μ i ∧ Weak k σ' (s j)
      | e => Q e σ') : LoopP k body σ Q := by unfold LoopP; exact ⟨ι, s, fun j i => μ j < μ i, i0, (measure μ).wf, h0, h⟩
theorem LoopP.introW {k : Nat} {body : TS → (Exit → TS → Prop) → Prop} {σ : TS} {Q : Exit → TS → Prop} {ι : Type} (s : ι → TS) (lt : ι → ι → Prop) (wf : WellFounded lt) (i0 : ι) (h0 : Weak k σ (s i0))
    (h : ∀ i, body (s i) fun e σ' => match e with
      | .normal => ∃ j, lt j i ∧ Weak k σ' (s j)
      | e => Q e σ') : LoopP k body σ Q := by unfold LoopP; exact ⟨ι, s, lt, i0, wf, h0, h⟩

def pendExit : Code → Option Exit
  | .ret => some .ret
  | .exit id => some (.exit id)
  | _ => none

def vRange (C : Ctx) (f : Operand) (ps : Array Tmp) (assign body : Code) (σ : TS) (Q : Exit → TS → Prop) : Prop :=
  match σ.ro with
  | none =>
    vCallF C (ev σ.fr f) [.yld (σ.L.length + 1)] (σ.L ++ [.defr, .loop ⟨.ready, none, σ.fr, σ.n, ps.toList, assign, body, σ.L.length⟩]) fun _ L' =>
      match L'[σ.L.length + 1]?, L'[σ.L.length]? with
      | some (.loop l), some .defr => match l.st, l.pend with
        | .busy, _ => False
        | _, none => Q .normal { σ with L := L'.set (σ.L.length + 1) .dead, df := σ.L.length :: σ.df }
        | _, some c => match pendExit c with | some e => Q e { σ with L := L'.set (σ.L.length + 1) .dead, df := σ.L.length :: σ.df } | none => False
      | _, _ => False
  | some lb => match σ.L[lb]? with
    | some (.loop r0) =>
      vCallF C (ev σ.fr f) [.yld σ.L.length] (σ.L ++ [.loop ⟨.ready, none, σ.fr, σ.n, ps.toList, assign, body, r0.df⟩]) fun _ L' =>
        match L'[σ.L.length]? with
        | some (.loop l) => match l.st, l.pend with
          | .busy, _ => False
          | _, none => Q .normal { σ with L := L'.set σ.L.length .dead }
          | _, some c => match pendExit c with | some e => Q e { σ with L := L'.set σ.L.length .dead } | none => False
        | _ => False
    | _ => False

@[irreducible] def CutP (k : Nat) (f : (Exit → TS → Prop) → Prop) (Q : Exit → TS → Prop) : Prop :=
  ∃ (ι : Type) (s : ι → TS), f (fun e σ' => match e with | .normal => ∃ i, Weak k σ' (s i) | e => Q e σ') ∧ ∀ i, Q .normal (s i)
theorem CutP.intro {k : Nat} {f : (Exit → TS → Prop) → Prop} {Q : Exit → TS → Prop} {ι : Type} (s : ι → TS) (h : f (fun e σ' => match e with | .normal => ∃ i, Weak k σ' (s i) | e => Q e σ')) (hq : ∀ i, Q .normal (s i)) : CutP k f Q := by
  unfold CutP; exact ⟨ι, s, h, hq⟩
def cutIf (b : Bool) (k : Nat) (f : (Exit → TS → Prop) → Prop) (Q : Exit → TS → Prop) : Prop :=
  match b with
  | false => f Q
  | true => CutP k f Q

def vc (C : Ctx) (cut : Code → Bool) (k : Nat) : Code → TS → (Exit → TS → Prop) → Prop
  | .skip, σ, Q => Q .normal σ
  | .label _, σ, Q => Q .normal σ
  | .region id ops false, σ, Q => cutIf (cut (.region id ops false)) k (fun Q => vcOps C σ.n ops.toList ops.toList σ.fr σ.L fun fr L => Q .normal { σ with fr := fr, L := L }) Q
  | .region id ops true, σ, Q => cutIf (cut (.region id ops true)) k (fun Q => DrawP C σ.n ops σ.fr σ.L fun fr L => Q .normal { σ with fr := fr, L := L }) Q
  | .seq a b, σ, Q => cutIf (cut (.seq a b)) k (fun Q => vc C cut k a σ fun e σ' => match e with | .normal => vc C cut k b σ' Q | e => Q e σ') Q
  | .cond c x y, σ, Q => cutIf (cut (.cond c x y)) k (fun Q => match evB σ.fr c with
    | .tt => vc C cut k x σ Q
    | .ff => vc C cut k y σ Q
    | .d (.bool t) => Br t fun b => match b with | true => vc C cut k x σ Q | false => vc C cut k y σ Q
    | _ => False) Q
  | .block id c, σ, Q => cutIf (cut (.block id c)) k (fun Q => vc C cut k c σ fun e σ' => match e with | .exit id' => (match Nat.beq id' id with | true => Q .normal σ' | false => Q (.exit id') σ') | e => Q e σ') Q
  | .loop c, σ, Q => LoopP k (vc C cut k c) σ Q
  | .rangeFunc f ps assign body, σ, Q => vRange C f ps assign body σ Q
  | .exit id, σ, Q => Q (.exit id) σ
  | .scope c, σ, Q => cutIf (cut (.scope c)) k (fun Q => vc C cut k c σ fun e σ' => match e with | .goto _ => False | e => Q e σ') Q
  | .ret, σ, Q => Q .ret σ
  | _, _, _ => False

def IdleD (a : Act) (g : Gh) (w : World) (L : List Blk) : Prop := ∀ d ∈ a.defers, ∃ q, d = { target := .collected q, args := #[] } ∧ w.heap[q]? = some (.deferred (some [])) ∧ ¬ g.I q ∧ ¬ owned g L q
def NewD (a : Act) (w : World) (a' : Act) : Prop := (∀ d ∈ a'.defers, d ∈ a.defers ∨ ∃ q, d = { target := .collected q, args := #[] } ∧ w.heap.size ≤ q) ∧ (a.defers.Nodup → a'.defers.Nodup)
theorem NewD.same {a a' : Act} {w : World} (h : a'.defers = a.defers) : NewD a w a' := ⟨fun _ hd => .inl (h ▸ hd), fun hn => h ▸ hn⟩
theorem NewD.trans {a a1 a2 : Act} {w w1 : World} (hs : w.heap.size ≤ w1.heap.size) (h : NewD a w a1) (h' : NewD a1 w1 a2) : NewD a w a2 := by
  refine ⟨fun d hd => ?_, fun hn => h'.2 (h.2 hn)⟩
  rcases h'.1 d hd with h1 | ⟨q, h1, h2⟩
  · exact h.1 d h1
  · exact .inr ⟨q, h1, Nat.le_trans hs h2⟩
def PostP (C : Ctx) (k : Nat) (g : Gh) (w : World) (L : List Blk) (e : Exit) (a' : Act) (w' : World) : Prop :=
  ∃ v X L' g', e = .panic [{ v, recovered := false }] ∧ PanS C k g w L v X L' g' w' ∧ IdleD a' g' w' L'
def Post (C : Ctx) (k : Nat) (r : Option Nat) (Q : Exit → TS → Prop) (g : Gh) (w : World) (L : List Blk) (a : Act) (e : Exit) (a' : Act) (w' : World) : Prop :=
  ((∃ σ' g', Q e σ' ∧ St k r g' σ' a' w' ∧ Prog k g w L g' w' σ'.L) ∨ PostP C k g w L e a' w') ∧ NewD a w a' ∧ w.heap.size ≤ w'.heap.size

theorem Post.later {k : Nat} {Q : Exit → TS → Prop} {g g1 : Gh} {w w1 : World} {L L1 : List Blk} {a a1 : Act} (hk : k ≤ L.length) (hp : Prog k g w L g1 w1 L1) (hn : NewD a w a1) {e : Exit} {a' : Act} {w' : World} (h : Post C k r Q g1 w1 L1 a1 e a' w') : Post C k r Q g w L a e a' w' := by
  obtain ⟨h, hn', hs⟩ := h
  refine ⟨?_, hn.trans hp.size hn', Nat.le_trans hp.size hs⟩
  rcases h with ⟨σ', g', hq, hs, hp'⟩ | ⟨v, X, L', g', he, hS, hi⟩
  · exact .inl ⟨σ', g', hq, hs, hp.trans hp'⟩
  · exact .inr ⟨v, X, L', g', he, hS.later hk hp, hi⟩
theorem Post.of {k : Nat} {Q : Exit → TS → Prop} {g g' : Gh} {w w' : World} {L : List Blk} {a a' : Act} {e : Exit} {σ' : TS} (hd : a'.defers = a.defers) (hq : Q e σ') (hs : St k r g' σ' a' w') (hp : Prog k g w L g' w' σ'.L) : Post C k r Q g w L a e a' w' :=
  ⟨.inl ⟨σ', g', hq, hs, hp⟩, .same hd, hp.size⟩
theorem St.pan {k : Nat} {σ : TS} {a a' : Act} {Q : Exit → TS → Prop} (h : St k r g σ a w) (hn : C.pn ≤ k) (hd : a'.defers = a.defers) {v : Value} {X : V} {L' : List Blk} {g' : Gh} {w' : World} (hS : PanS C σ.L.length g w σ.L v X L' g' w') :
    Post C k r Q g w σ.L a (.panic [{ v, recovered := false }]) a' w' := by
  refine ⟨.inr ⟨v, X, L', g', rfl, hS.less h.k hn, fun d hd' => ?_⟩, .same hd, hS.prog.size⟩
  rw [hd] at hd'
  obtain ⟨i, hi, hid⟩ := List.getElem_of_mem hd'
  have hid : a.defers[i]? = some d := by rw [List.getElem?_eq_getElem hi, hid]
  have hb : ∃ b, σ.df[i]? = some b := ⟨_, List.getElem?_eq_getElem (by rw [← h.df]; exact hi)⟩
  obtain ⟨b, hb⟩ := hb
  obtain ⟨q, h1, h2, h3⟩ := h.dfs i b d hb hid
  exact ⟨q, h2, hS.df b q (lt_of_get h3) h3 h1⟩

theorem St.at {k : Nat} {σ : TS} {a : Act} (h : St k r g σ a w) : At σ.n g σ.fr σ.L a w := ⟨h.n, h.fr, h.good⟩

theorem St.of_at {k : Nat} {σ : TS} {a : Act} (h : St k r g σ a w) {fr' : List (Nat × V)} {L' : List Blk} {g' : Gh} {a' : Act} {w' : World} (hat : At σ.n g' fr' L' a' w') (hd : a'.defers = a.defers) (hp : Prog σ.L.length g w σ.L g' w' L') :
    St k r g' { σ with fr := fr', L := L' } a' w' := by
  refine ⟨hat.n, hat.fr, hat.good, Nat.le_trans h.k (hp.len (Nat.le_refl _)), by rw [hd]; exact h.df, fun i b d hb hdi => ?_, fun lb hlb => ?_, h.ro'⟩
  · rw [hd] at hdi
    obtain ⟨q, h1, h2, h3⟩ := h.dfs i b d hb hdi
    obtain ⟨h4, h5⟩ := hp.defr b q (lt_of_get h3) h3 h1
    exact ⟨q, h5, h2, h4⟩
  · obtain ⟨l, h1, h2⟩ := h.ro lb hlb
    exact ⟨l, h1, hp.mono _ _ h2.bel h2⟩

end
end Go.Tidy

/-
  The base layer: code in a frame whose function the program has.
-/
namespace Go.Tidy

theorem fenced_Fx {r : Option Nat} (P : Program) (m : Machine) : m.fenced P (Fx r) := by
  intro g _
  refine ⟨fun h => ?_, Or.inl trivial, fun _ _ => trivial, fun _ h => ?_⟩
  · simp [Fence.wide] at h
  · simp [Fence.wide] at h
theorem room_Fx {r : Option Nat} (n : Nat) : (Fx r).room n := fun _ h => by simp [Fence.wide] at h

def wpV (r : Option Nat) (P : Program) (c : Code) (Q : Exit → Act → World → Prop) (a : Act) (w : World) : Prop :=
  ∀ (b : Frame) (k : List Item) (cs : List Frame), b.roundOf = r → (∃ fn, P.funcs[b.fn]? = some fn) →
    ∃ e a' w', Q e a' w' ∧ ArrivesIn (Machine.fenced P (Fx r)) P (lone (b.atR a (.code c :: k)) cs w) b k cs e a' w'

section
variable {r : Option Nat} {P : Program} {Q : Exit → Act → World → Prop} {a : Act} {w : World}

theorem wpV.of {c : Code} (h : c.wpIn (Fx r) 0 P Q a w) : wpV r P c Q a w := fun b k cs hro _ => h b k cs hro trivial (room_Fx _)
theorem wpV_mono {c : Code} {Q' : Exit → Act → World → Prop} (h : wpV r P c Q a w) (hq : ∀ e a w, Q e a w → Q' e a w) : wpV r P c Q' a w :=
  fun b k cs hro hb => (h b k cs hro hb).elim fun e h => h.elim fun a' h => h.elim fun w' h => ⟨e, a', w', hq _ _ _ h.1, h.2⟩

theorem wpV_seq {x y : Code} (h : wpV r P x (Exit.then (wpV r P y Q) Q) a w) : wpV r P (.seq x y) Q a w := by
  intro b k cs hro hb
  obtain ⟨e, a1, w1, hq, hs⟩ := h b (.code y :: k) cs hro hb
  have s0 := StepsIn.one (fenced_Fx (r := r) P _) (stepR_seq (P := P) (b := b) (a := a) (k := k) (cs := cs) (w := w) (x := x) (y := y))
  by_cases he : e = .normal
  · subst he
    obtain ⟨e2, a2, w2, hq2, hs2⟩ := hq b k cs hro hb
    exact ⟨e2, a2, w2, hq2, .of_steps (s0.trans hs) hs2⟩
  · refine ⟨e, a1, w1, ?_, .of_steps s0 (.pass (x := .code y) rfl (fun _ _ => .inl he) hs)⟩
    cases e <;> first | exact hq | exact absurd rfl he

theorem wpV_cond {c : Operand} {x y : Code} {t : Bool} (hc : a.eval c = .bool t) (h : wpV r P (if t then x else y) Q a w) : wpV r P (.cond c x y) Q a w := fun b k cs hro hb => by
  obtain ⟨e, a', w', hq, hs⟩ := h b k cs hro hb
  exact ⟨e, a', w', hq, .of_steps (.one (fenced_Fx P _) (stepR_cond hc)) hs⟩

theorem wpV_block {id : Nat} {c : Code} (h : wpV r P c (Exit.inBlock id Q) a w) : wpV r P (.block id c) Q a w := by
  intro b k cs hro hb
  obtain ⟨e, a1, w1, hq, hs⟩ := h b (.inBlock id :: k) cs hro hb
  have s0 := StepsIn.one (fenced_Fx (r := r) P _) (stepR_block (P := P) (b := b) (a := a) (k := k) (cs := cs) (w := w) (id := id) (c := c))
  cases e with
  | normal => exact ⟨.normal, a1, w1, hq, s0.trans (StepsIn.trans hs (.one (fenced_Fx P _) stepR_inBlock))⟩
  | exit id' =>
    by_cases hid : id' = id
    · subst hid
      simp only [Exit.inBlock, if_true] at hq
      exact ⟨.normal, a1, w1, hq, s0.trans (hs.1 k (by simp [exitTo]))⟩
    · simp only [Exit.inBlock, hid, if_false] at hq
      have hx : exitTo id' (.inBlock id :: k) = exitTo id' k := by
        have : (id == id') = false := by simpa using fun h => hid h.symm
        simp [exitTo, this]
      refine ⟨.exit id', a1, w1, hq, ⟨fun k' hk => s0.trans (hs.1 k' (hx.trans hk)), fun hr hk => ?_⟩⟩
      obtain ⟨k1, h1, h2⟩ := hs.2 hr (hx.trans hk)
      exact ⟨k1, h1, s0.trans h2⟩
  | goto l =>
    have hx : gotoIn l (.inBlock id :: k) = gotoIn l k := by simp [gotoIn]
    refine ⟨.goto l, a1, w1, hq, ⟨fun k' hk => s0.trans (hs.1 k' (hx.trans hk)), fun hr hk => ?_⟩⟩
    obtain ⟨k1, h1, h2⟩ := hs.2 hr (hx.trans hk)
    exact ⟨k1, h1, s0.trans h2⟩
  | ret => exact ⟨_, a1, w1, hq, .of_steps s0 hs⟩
  | panic ch => exact ⟨_, a1, w1, hq, .of_steps s0 hs⟩
  | outgrown => exact ⟨_, a1, w1, hq, .of_steps s0 hs⟩

theorem wpV_loopG {r : Option Nat} {P : Program} {Q : Exit → Act → World → Prop} {c : Code} {ι : Type} (I : ι → Act → World → Prop) (lt : ι → ι → Prop) (wf : WellFounded lt) {i0 : ι} {a : Act} {w : World} (h₀ : I i0 a w)
    (round : ∀ i a w, I i a w → wpV r P c (Exit.then (fun a' w' => ∃ j, lt j i ∧ I j a' w') Q) a w) : wpV r P (Code.loop c) Q a w := by
  intro b k cs hro hb
  have key : ∀ i a w, I i a w →
      ∃ e a' w', Q e a' w' ∧ ArrivesIn (Machine.fenced P (Fx r)) P (lone (b.atR a (.code c :: .inLoop c :: k)) cs w) b k cs e a' w' := by
    intro i
    induction i using wf.induction with
    | _ i ih =>
      intro a w hI
      obtain ⟨e, a₁, w₁, hq, harr⟩ := round i a w hI b (.inLoop c :: k) cs hro hb
      cases e with
      | normal =>
        obtain ⟨j, hlt, hI₁⟩ := hq
        obtain ⟨e₂, a₂, w₂, hq₂, harr₂⟩ := ih j hlt a₁ w₁ hI₁
        exact ⟨e₂, a₂, w₂, hq₂, .of_steps (StepsIn.trans harr (.one (fenced_Fx P _) stepR_inLoop)) harr₂⟩
      | exit id => exact ⟨_, a₁, w₁, hq, .pass (x := .inLoop c) rfl (fun _ _ => .inl (by simp)) harr⟩
      | goto l => exact ⟨_, a₁, w₁, hq, .pass (x := .inLoop c) rfl (fun _ _ => .inl (by simp)) harr⟩
      | ret => exact ⟨_, a₁, w₁, hq, .pass (x := .inLoop c) rfl (fun _ _ => .inl (by simp)) harr⟩
      | panic ch => exact ⟨_, a₁, w₁, hq, .pass (x := .inLoop c) rfl (fun _ _ => .inl (by simp)) harr⟩
      | outgrown => exact ⟨_, a₁, w₁, hq, .pass (x := .inLoop c) rfl (fun _ _ => .inl (by simp)) harr⟩
  obtain ⟨e, a', w', hq, harr⟩ := key i0 a w h₀
  exact ⟨e, a', w', hq, .of_steps (.one (fenced_Fx P _) stepR_loop) harr⟩

theorem stepR_scope {P : Program} {b : Frame} {a : Act} {k : List Item} {cs : List Frame} {w : World} {c : Code} : step P (lone (b.atR a (.code (.scope c) :: k)) cs w) = .next (lone (b.atR a (.code c :: .inScope c :: k)) cs w) :=
  step_lone_go (by simp [stepG, stepG.exec, Frame.atR])
theorem stepR_inScope {P : Program} {b : Frame} {a : Act} {k : List Item} {cs : List Frame} {w : World} {c : Code} : step P (lone (b.atR a (.inScope c :: k)) cs w) = .next (lone (b.atR a k) cs w) :=
  step_lone_go (by simp [stepG, stepG.exec, Frame.atR])
theorem wpV_scopeG {r : Option Nat} {P : Program} {Q : Exit → Act → World → Prop} {c : Code} {a : Act} {w : World} (h : wpV r P c (fun e a w => match e with | .goto _ => False | e => Q e a w) a w) : wpV r P (Code.scope c) Q a w := by
  intro b k cs hro hb
  have h0 : (lone (b.atR a (.code (.scope c) :: k)) cs w).fenced P (Fx r) := fenced_Fx P _
  obtain ⟨e, a₁, w₁, hq, harr⟩ := h b (.inScope c :: k) cs hro hb
  cases e with
  | normal => exact ⟨.normal, a₁, w₁, hq, .head h0 stepR_scope (StepsIn.trans harr (.one (fenced_Fx P _) stepR_inScope))⟩
  | exit id =>
    have hx : exitTo id (.inScope c :: k) = exitTo id k := by simp [exitTo]
    exact ⟨_, a₁, w₁, hq, fun k' hk => .head h0 stepR_scope (harr.1 k' (by rw [hx]; exact hk)), fun hr' hk => let ⟨k₁, h1, h2⟩ := harr.2 hr' (by rw [hx]; exact hk); ⟨k₁, h1, .head h0 stepR_scope h2⟩⟩
  | goto l => exact hq.elim
  | ret => exact ⟨_, a₁, w₁, hq, .of_steps (.one h0 stepR_scope) harr⟩
  | panic ch => exact ⟨_, a₁, w₁, hq, .of_steps (.one h0 stepR_scope) harr⟩
  | outgrown => exact ⟨_, a₁, w₁, hq, .of_steps (.one h0 stepR_scope) harr⟩


theorem wpV_rangeFunc {g : Operand} {ps : Array Tmp} {assign body : Code}
    (h : ∀ fn, (∃ F, P.funcs[fn]? = some F) → ∃ (l : Nat) (mark : List Deferred) (w1 : World) (d : Deferred) (w1' : World) (f : FuncId) (args : Array Value) (w2 : World),
      (Instr.enterLoop fn a.tmps ps assign body r).run P w = .ok (l, mark) w1 ∧
      (resolve a.eval (rangeCall g l) 0).run P w1 = .ok d w1' ∧
      (invoke d.target d.args).run P w1' = .ok (.enter f args) w2 ∧
      Calls P f args w2 (rangePost (Fx r) 0 P l Q { a with defers := mark ++ a.defers })) :
    wpV r P (.rangeFunc g ps assign body) Q a w := by
  intro b k cs hro hb
  obtain ⟨l, mark, w1, d, w1', f, args, w2, he, hres, hinv, hcall⟩ := h b.fn hb
  rw [← hro] at he
  have s0 : StepsIn (Machine.fenced P (Fx r)) P _ _ := .one (fenced_Fx P _) (stepR_rangeFunc (P := P) (b := b) (a := a) (k := k) (cs := cs) (w := w) he hres hinv)
  obtain ⟨e, w3, fr, hR, hs, hfn, hleave⟩ := ((callsIn_wide (n := 0)).2 hcall).2 (b.atR { a with defers := mark ++ a.defers } (.inRangeFunc l :: k) :: cs) (room_wide _)
  cases e with
  | outgrown =>
    obtain ⟨a0, w0, hq⟩ := hR
    exact ⟨.outgrown, a0, w0, hq, .inr (Outgrown.of_steps s0.steps hs)⟩
  | returned v =>
    obtain ⟨jump, w4, hend, hj⟩ := hR
    have hs' : StepsIn (Machine.fenced P (Fx r)) P _ _ := hs
    have s1 := s0.trans (hs'.trans (.one (fenced_Fx P _) (step_leave_returned hleave)))
    rw [finish_atR_inRangeFunc l v] at s1
    have s2 := s1.trans (.one (fenced_Fx P _) (stepR_endRangeFunc hend))
    cases jump with
    | none => exact ⟨.normal, _, w4, hj, s2⟩
    | some c =>
      obtain ⟨e', a2, w5, hq, harr⟩ := hj b k cs hro trivial (room_Fx _)
      exact ⟨e', a2, w5, hq, .of_steps s2 harr⟩
  | panicked chain =>
    have hs' : StepsIn (Machine.fenced P (Fx r)) P _ _ := hs
    have s1 := s0.trans (hs'.trans (.one (fenced_Fx P _) (step_leave_panicked hleave)))
    rw [Frame.raise_atR] at s1
    exact ⟨.panic chain, _, w3, hR, _, s1⟩
end
end Go.Tidy

/-
  The base layer: what the executor says of a piece of code holds of it.
-/
namespace Go.Tidy

section
variable {C : Ctx} {g : Gh} {w : World} {L : List Blk} {r : Option Nat}

theorem putObj_ext {w : World} {q : Nat} {o : Obj} : ∀ (p : Nat) (o' : Obj), w.heap[p]? = some o' → some q ≠ some p → (w.putObj q o).heap[p]? = some o' := fun p o' h hne => by
  rw [World.putObj_heap_other (fun e => hne (by rw [e]))]; exact h

theorem kill_step (hg : Good g w L) {b q : Nat} {k0 : Blk} (hL : L[b]? = some k0) (h0 : k0 ≠ .dead) (h1 : k0 ≠ .defr) (hm : g.m b = some q) (o : Obj) : Step g w L b .dead g (w.putObj q o) := by
  have hbl := lt_of_get hL
  refine ⟨hg, ⟨_, hL, h0⟩, by rw [hL]; exact fun e => h1 (by cases e; rfl), ⟨rfl, rfl, rfl⟩, by simp, rfl, fun _ _ => rfl, fun _ _ => rfl, fun p o' hp hne => putObj_ext p o' hp (by rw [← hm]; exact hne), fun r hr => .inl hr, ?_⟩
  have hd : (L.set b .dead)[b]? = some .dead := List.getElem?_set_self hbl
  exact ⟨fun _ _ => .inl hd, fun _ _ _ _ => .inl hd, fun _ _ => .inl hd, fun _ _ => .inl hd, fun _ => hd⟩

theorem RB.loop_of (hg : Good g w L) {b : Nat} {l : LoopR} (hL : L[b]? = some (.loop l)) : ∃ q rec, g.m b = some q ∧ w.heap[q]? = some (.loop rec) ∧ rec.state = l.st ∧ rec.pending = l.pend := by
  obtain ⟨q, rec, h1, h2, h3, h4, _⟩ := hg.blk b _ hL
  exact ⟨q, rec, h1, h2, h3, h4⟩

theorem loopRec_ok {g' : Gh} {w' : World} {L' : List Blk} {fr : List (Nat × V)} {n : Nat} {a : Act} {fn : FuncId} {ps : Array Tmp} {assign body : Code} {b q df dq : Nat} (hn : a.tmps.size = n)
    (hfr : ∀ i, RV g' w' L' (look fr i) (a.tmps.getD i undef)) (hm : g'.m b = some q) (hd : g'.m df = some dq) (hdL : L'[df]? = some .defr) (hv : validF fn)
    (hh : w'.heap[q]? = some (.loop { state := .ready, pending := none, fn, tmps := a.tmps, params := ps, assign, body, defers := dq })) :
    RB g' w' L' b (.loop ⟨.ready, none, fr, n, ps.toList, assign, body, df⟩) :=
  ⟨q, _, hm, hh, rfl, rfl, by simp, rfl, rfl, hn, hfr, hd, hdL, hv⟩

theorem pend_wp {e : Exit} {c : Code} (hc : pendExit c = some e) {n : Nat} {P : Program} {R : Exit → Act → World → Prop} {a : Act} {w : World} (h : R e a w) : c.wpIn (Fx r) n P R a w := by
  unfold pendExit at hc
  split at hc
  · cases hc; exact wpIn_ret h
  · cases hc; exact wpIn_exit h
  · cases hc

theorem vRange_ok (hC : C.OK) {k : Nat} (hpn : C.pn ≤ k) {f : Operand} {ps : Array Tmp} {assign body : Code} {σ : TS} {Q : Exit → TS → Prop} {a : Act} (h : vRange C f ps assign body σ Q) (hs : St k r g σ a w) :
    wpV r C.P (Code.rangeFunc f ps assign body) (Post C k r Q g w σ.L a) a w := by
  refine wpV_rangeFunc fun fn hfn => ?_
  replace hfn : validF fn := hfn.elim fun F hF => hC.fs fn F hF
  unfold vRange at h
  cases hro : σ.ro with
  | none =>
    simp only [hro] at h
    have hr := hs.ro' hro
    subst hr
    -- the block for deferred calls
    have hE1 : Ext w (w.alloc (.deferred (some []))) := Ext.alloc w _
    have hg1 := add_good (k' := .defr) hs.good hE1 (some w.heap.size) (fun q h => by cases h; exact Nat.le_refl _) 0 ⟨w.heap.size, by simp [Gh.add], heap_alloc_new w _⟩
    have hp1 := add_prog hs.good hE1 .defr (some w.heap.size) (fun q h => by cases h; exact Nat.le_refl _) 0
    have hfr1 := frame_mono hs.fr hp1
    generalize hg1e : g.add σ.L.length (some w.heap.size) 0 = g1 at hg1 hp1 hfr1
    generalize hw1e : w.alloc (.deferred (some [])) = w1 at hE1 hg1 hp1 hfr1
    have hm1 : g1.m σ.L.length = some w.heap.size := by rw [← hg1e]; simp [Gh.add]
    have hsz1 : w1.heap.size = w.heap.size + 1 := by rw [← hw1e]; simp
    have hlen1 : (σ.L ++ [Blk.defr]).length = σ.L.length + 1 := by simp
    -- the record
    have hE2 : Ext w1 (w1.alloc (.loop { state := .ready, pending := none, fn, tmps := a.tmps, params := ps, assign, body, defers := w.heap.size })) := Ext.alloc w1 _
    have hp2 := add_prog hg1 hE2 (.loop ⟨.ready, none, σ.fr, σ.n, ps.toList, assign, body, σ.L.length⟩) (some w1.heap.size) (fun q h => by cases h; exact Nat.le_refl _) 0
    have hfr2 := frame_mono hfr1 hp2
    have hg2 := add_good (k' := .loop ⟨.ready, none, σ.fr, σ.n, ps.toList, assign, body, σ.L.length⟩) hg1 hE2 (some w1.heap.size) (fun q h => by cases h; exact Nat.le_refl _) 0
      (loopRec_ok (fn := fn) (q := w1.heap.size) (dq := w.heap.size) hs.n hfr2 (by simp [Gh.add]) (by simp only [Gh.add]; rw [if_neg (by rw [hlen1]; omega)]; exact hm1)
        (by rw [List.getElem?_append_left (by rw [hlen1]; omega)]; simp) hfn (heap_alloc_new w1 _))
    have hm2 : (g1.add (σ.L ++ [Blk.defr]).length (some w1.heap.size) 0).m (σ.L.length + 1) = some w1.heap.size := by simp [Gh.add]
    have hmd2 : (g1.add (σ.L ++ [Blk.defr]).length (some w1.heap.size) 0).m σ.L.length = some w.heap.size := by simp only [Gh.add]; rw [if_neg (by rw [hlen1]; omega)]; exact hm1
    rw [show σ.L ++ [Blk.defr] ++ [Blk.loop ⟨.ready, none, σ.fr, σ.n, ps.toList, assign, body, σ.L.length⟩] = σ.L ++ [.defr, .loop ⟨.ready, none, σ.fr, σ.n, ps.toList, assign, body, σ.L.length⟩] by simp] at hg2 hp2 hfr2
    generalize g1.add (σ.L ++ [Blk.defr]).length (some w1.heap.size) 0 = g2 at hg2 hp2 hfr2 hm2 hmd2
    have hw2e : (w1.alloc (.loop { state := .ready, pending := none, fn, tmps := a.tmps, params := ps, assign, body, defers := w.heap.size })).heap[w1.heap.size]? = some (.loop { state := .ready, pending := none, fn, tmps := a.tmps, params := ps, assign, body, defers := w.heap.size }) := heap_alloc_new w1 _
    have henter : (Instr.enterLoop fn a.tmps ps assign body none).run C.P w = .ok (w1.heap.size, [{ target := .collected w.heap.size, args := #[] }]) (w1.alloc (.loop { state := .ready, pending := none, fn, tmps := a.tmps, params := ps, assign, body, defers := w.heap.size })) := by
      rw [hsz1, ← hw1e]; exact run_enterLoop_outer _ _ _ _ _
    generalize hw2 : w1.alloc (.loop { state := .ready, pending := none, fn, tmps := a.tmps, params := ps, assign, body, defers := w.heap.size }) = w2 at hg2 hp2 hfr2 hw2e henter
    have hpp : Prog σ.L.length g w σ.L g2 w2 (σ.L ++ [.defr, .loop ⟨.ready, none, σ.fr, σ.n, ps.toList, assign, body, σ.L.length⟩]) := hp1.trans (hp2.le (by rw [hlen1]; omega) (Nat.le_refl _))
    have hL2 : (σ.L ++ [Blk.defr, .loop ⟨.ready, none, σ.fr, σ.n, ps.toList, assign, body, σ.L.length⟩])[σ.L.length + 1]? = some (.loop ⟨.ready, none, σ.fr, σ.n, ps.toList, assign, body, σ.L.length⟩) := by
      rw [List.getElem?_append_right (by omega)]; simp
    have hLd2 : (σ.L ++ [Blk.defr, .loop ⟨.ready, none, σ.fr, σ.n, ps.toList, assign, body, σ.L.length⟩])[σ.L.length]? = some .defr := by
      rw [List.getElem?_append_right (by omega)]; simp
    have newD : NewD a w { a with defers := [{ target := .collected w.heap.size, args := #[] }] ++ a.defers } := by
      refine ⟨fun d hd => ?_, fun hn => List.nodup_cons.2 ⟨fun hd => ?_, hn⟩⟩
      · rcases List.mem_append.1 hd with hd | hd
        · rw [List.mem_singleton.1 hd]; exact .inr ⟨_, rfl, Nat.le_refl _⟩
        · exact .inl hd
      · have hd : ({ target := .collected w.heap.size, args := #[] } : Deferred) ∈ a.defers := hd
        obtain ⟨i, hi, hid⟩ := List.getElem_of_mem hd
        have hid : a.defers[i]? = some { target := .collected w.heap.size, args := #[] } := by rw [List.getElem?_eq_getElem hi, hid]
        obtain ⟨b, hb⟩ : ∃ b, σ.df[i]? = some b := ⟨_, List.getElem?_eq_getElem (by rw [← hs.df]; exact hi)⟩
        obtain ⟨q, h1, h2, h3⟩ := hs.dfs i b _ hb hid
        have hq := hs.good.owned_lt ⟨b, ⟨_, h3, by simp⟩, h1⟩
        cases h2
        omega
    obtain ⟨gf, us, hu, hcf, hcall⟩ := vCallF_ok (ev_ok hg2.gl hfr2 f) (args := [.yld (σ.L.length + 1)]) (vs := #[.func (.yield w1.heap.size) #[] #[]])
      ⟨rfl, fun j x v hx hv => by
        cases j with
        | zero => simp at hx hv; subst hx hv; exact .yld _ _ _ hL2 hm2
        | succ j => simp at hx⟩ hg2 h
    refine ⟨w1.heap.size, [{ target := .collected w.heap.size, args := #[] }], w2, { target := .fn (.func gf) us, args := #[.func (.yield w1.heap.size) #[] #[]] }, w2, gf, #[.func (.yield w1.heap.size) #[] #[]] ++ us, w2, henter, ?_, ?_, ?_⟩
    · simp only [resolve, hu, Deferred.ofValue, Sem.run_pure]
      simp [Act.eval]
    · simp only [invoke]; exact hcf
    · refine Calls.mono hcall ?_
      rintro e w3 (⟨v, X, L3, g3, rfl, hK, hX, hg3, hp3⟩ | ⟨v, X, L3, g3, rfl, hS⟩)
      rotate_left
      · have hS' := hS.less (show k ≤ _ by have := hs.k; simp; omega) hpn
        refine ⟨.inr ⟨v, X, L3, g3, rfl, hS'.later hs.k (hpp.le hs.k (Nat.le_refl _)), fun d hd => ?_⟩, newD, Nat.le_trans hpp.size hS.prog.size⟩
        rcases List.mem_append.1 hd with hd | hd
        · rw [List.mem_singleton.1 hd]
          exact ⟨w.heap.size, rfl, hS.df σ.L.length _ (by simp) hLd2 hmd2⟩
        · obtain ⟨i, hi, hid⟩ := List.getElem_of_mem hd
          have hid : a.defers[i]? = some d := by rw [List.getElem?_eq_getElem hi, hid]
          obtain ⟨b, hb⟩ : ∃ b, σ.df[i]? = some b := ⟨_, List.getElem?_eq_getElem (by rw [← hs.df]; exact hi)⟩
          obtain ⟨q, h1, h2, h3⟩ := hs.dfs i b d hb hid
          obtain ⟨h4, h5⟩ := hpp.defr b q (lt_of_get h3) h3 h1
          exact ⟨q, h2, hS.df b q (by have := lt_of_get h3; simp; omega) h4 h5⟩
      have hp3' := hpp.trans (hp3.le (by simp) (Nat.le_refl _))
      split at hK
      · rename_i l hl hd
        obtain ⟨q, rec, h1, h2, h3, h4⟩ := RB.loop_of hg3 hl
        -- the real record is where it was
        have hyl := hp3.mono (.yld (σ.L.length + 1)) _ (by simp [V.bel]) (RV.yld (g := g2) (w := w2) _ _ _ hL2 hm2)
        have hq : q = w1.heap.size := by
          generalize hvv : Value.func (.yield w1.heap.size) #[] #[] = vv at hyl
          cases hyl with
          | yld _ r' _ hL' hm' => rw [h1] at hm'; cases hm'; cases hvv; rfl
          | yldX _ r' hL' => rw [hl] at hL'; cases hL'
        subst hq
        obtain ⟨hdL, hdm⟩ := hp3.defr σ.L.length w.heap.size (by simp) hLd2 hmd2
        have S := kill_step hg3 hl (by simp) (by simp) h1 (.loop { rec with state := .exhausted })
        have hst3 : ∀ (hb : rec.state ≠ .busy) , St k none g3 { σ with L := L3.set (σ.L.length + 1) .dead, df := σ.L.length :: σ.df } { a with defers := [{ target := .collected w.heap.size, args := #[] }] ++ a.defers } (w3.putObj w1.heap.size (.loop { rec with state := .exhausted })) := by
          intro _
          have hpk := hp3'.trans (S.prog.le (by have := hp3'.len (Nat.le_refl _); omega) (Nat.le_refl _))
          refine ⟨hs.n, fun i => hpk.mono _ _ (hs.fr i).bel (hs.fr i), S.good' trivial, ?_, by simp [hs.df], ?_, fun lb hlb => (by rw [hro] at hlb; cases hlb), fun _ => rfl⟩
          · have := hp3'.len (Nat.le_refl _); have := hs.k; simp; omega
          · intro i b d hb hdi
            cases i with
            | zero =>
              simp at hb hdi
              subst hb hdi
              refine ⟨_, hdm, rfl, ?_⟩
              rw [List.getElem?_set_ne (by omega)]; exact hdL
            | succ i =>
              simp at hb hdi
              obtain ⟨q, d1, d2, d3⟩ := hs.dfs i b d hb hdi
              obtain ⟨d4, d5⟩ := hpk.defr b q (lt_of_get d3) d3 d1
              exact ⟨q, d5, d2, d4⟩
        have hpk : Prog k g w σ.L g3 (w3.putObj w1.heap.size (.loop { rec with state := .exhausted })) (L3.set (σ.L.length + 1) .dead) :=
          (hp3'.trans (S.prog.le (by have := hp3'.len (Nat.le_refl _); omega) (Nat.le_refl _))).le hs.k (Nat.le_refl _)
        have hbu : l.st ≠ .busy := by intro e; rw [e] at hK; simp at hK
        have hb' : rec.state ≠ .busy := by rw [h3]; exact hbu
        cases hpd : l.pend with
        | none =>
          have hK' : Q .normal { σ with L := L3.set (σ.L.length + 1) .dead, df := σ.L.length :: σ.df } := by
            rw [hro]
            cases hst : l.st <;> simp only [hst, hpd] at hK <;> first | exact hK | exact absurd hst hbu
          exact ⟨none, _, by rw [run_endLoop h2 hb', h4, hpd], .inl ⟨_, g3, hK', hst3 hb', hpk⟩, newD, hpk.size⟩
        | some c =>
          have hK' : ∃ ex, pendExit c = some ex ∧ Q ex { σ with L := L3.set (σ.L.length + 1) .dead, df := σ.L.length :: σ.df } := by
            rw [hro]
            cases hex : pendExit c with
            | none => cases hst : l.st <;> simp only [hst, hpd, hex] at hK
            | some ex => cases hst : l.st <;> simp only [hst, hpd, hex] at hK <;> first | exact ⟨ex, rfl, hK⟩ | exact absurd hst hbu
          obtain ⟨ex, hex, hK'⟩ := hK'
          exact ⟨some c, _, by rw [run_endLoop h2 hb', h4, hpd], pend_wp hex ⟨.inl ⟨_, g3, hK', hst3 hb', hpk⟩, newD, hpk.size⟩⟩
      · exact hK.elim
  | some lb =>
    simp only [hro] at h
    split at h
    · rename_i r0 hlb
      obtain ⟨l0, rfl, hyl0⟩ := hs.ro lb hro
      obtain ⟨q0, rec0, n1, n2, _, _, _, _, _, _, _, n10, n11, _⟩ := hs.good.blk lb _ hlb
      have hq0 : q0 = l0 := by
        generalize hvv : Value.func (.yield l0) #[] #[] = vv at hyl0
        cases hyl0 with
        | yld _ r' _ hL' hm' => rw [n1] at hm'; cases hm'; cases hvv; rfl
        | yldX _ r' hL' => rw [hlb] at hL'; cases hL'
      subst hq0
      have hE2 : Ext w (w.alloc (.loop { state := .ready, pending := none, fn, tmps := a.tmps, params := ps, assign, body, defers := rec0.defers })) := Ext.alloc w _
      have hp2 := add_prog hs.good hE2 (.loop ⟨.ready, none, σ.fr, σ.n, ps.toList, assign, body, r0.df⟩) (some w.heap.size) (fun q h => by cases h; exact Nat.le_refl _) 0
      have hfr2 := frame_mono hs.fr hp2
      obtain ⟨hdf1, hdf2⟩ := hp2.defr r0.df rec0.defers (lt_of_get n11) n11 n10
      have hg2 := add_good (k' := .loop ⟨.ready, none, σ.fr, σ.n, ps.toList, assign, body, r0.df⟩) hs.good hE2 (some w.heap.size) (fun q h => by cases h; exact Nat.le_refl _) 0
        (loopRec_ok (fn := fn) (q := w.heap.size) (dq := rec0.defers) hs.n hfr2 (by simp [Gh.add]) hdf2 hdf1 hfn (heap_alloc_new w _))
      have hm2 : (g.add σ.L.length (some w.heap.size) 0).m σ.L.length = some w.heap.size := by simp [Gh.add]
      generalize g.add σ.L.length (some w.heap.size) 0 = g2 at hg2 hp2 hfr2 hm2 hdf2
      have henter : (Instr.enterLoop fn a.tmps ps assign body (some q0)).run C.P w = .ok (w.heap.size, []) (w.alloc (.loop { state := .ready, pending := none, fn, tmps := a.tmps, params := ps, assign, body, defers := rec0.defers })) := run_enterLoop_inner n2 _ _ _ _ _
      generalize hw2 : w.alloc (.loop { state := .ready, pending := none, fn, tmps := a.tmps, params := ps, assign, body, defers := rec0.defers }) = w2 at hg2 hp2 hfr2 henter
      have hL2 : (σ.L ++ [Blk.loop ⟨.ready, none, σ.fr, σ.n, ps.toList, assign, body, r0.df⟩])[σ.L.length]? = some (.loop ⟨.ready, none, σ.fr, σ.n, ps.toList, assign, body, r0.df⟩) := by simp
      obtain ⟨gf, us, hu, hcf, hcall⟩ := vCallF_ok (ev_ok hg2.gl hfr2 f) (args := [.yld σ.L.length]) (vs := #[.func (.yield w.heap.size) #[] #[]])
        ⟨rfl, fun j x v hx hv => by
          cases j with
          | zero => simp at hx hv; subst hx hv; exact .yld _ _ _ hL2 hm2
          | succ j => simp at hx⟩ hg2 h
      refine ⟨w.heap.size, [], w2, { target := .fn (.func gf) us, args := #[.func (.yield w.heap.size) #[] #[]] }, w2, gf, #[.func (.yield w.heap.size) #[] #[]] ++ us, w2, henter, ?_, ?_, ?_⟩
      · simp only [resolve, hu, Deferred.ofValue, Sem.run_pure]
        simp [Act.eval]
      · simp only [invoke]; exact hcf
      · refine Calls.mono hcall ?_
        rintro e w3 (⟨v, X, L3, g3, rfl, hK, hX, hg3, hp3⟩ | ⟨v, X, L3, g3, rfl, hS⟩)
        rotate_left
        · have hS' : PanS C σ.L.length g2 w2 _ v X L3 g3 w3 := hS.less (by simp) (Nat.le_trans hpn hs.k)
          exact hs.pan hpn (a' := { a with defers := [] ++ a.defers }) rfl (hS'.later (Nat.le_refl _) hp2)
        have hp3' := hp2.trans (hp3.le (by simp) (Nat.le_refl _))
        split at hK
        · rename_i l hl
          obtain ⟨q, rec, h1, h2, h3, h4⟩ := RB.loop_of hg3 hl
          have hyl := hp3.mono (.yld σ.L.length) _ (by simp [V.bel]) (RV.yld (g := g2) (w := w2) _ _ _ hL2 hm2)
          have hq : q = w.heap.size := by
            generalize hvv : Value.func (.yield w.heap.size) #[] #[] = vv at hyl
            cases hyl with
            | yld _ r' _ hL' hm' => rw [h1] at hm'; cases hm'; cases hvv; rfl
            | yldX _ r' hL' => rw [hl] at hL'; cases hL'
          subst hq
          have S := kill_step hg3 hl (by simp) (by simp) h1 (.loop { rec with state := .exhausted })
          have hpk0 := hp3'.trans (S.prog.le (by have := hp3'.len (Nat.le_refl _); omega) (Nat.le_refl _))
          have hst3 : St k (some q0) g3 { σ with L := L3.set σ.L.length .dead } { a with defers := [] ++ a.defers } (w3.putObj w.heap.size (.loop { rec with state := .exhausted })) := by
            refine ⟨hs.n, fun i => hpk0.mono _ _ (hs.fr i).bel (hs.fr i), S.good' trivial, ?_, hs.df, ?_, ?_, hs.ro'⟩
            · have := hp3'.len (Nat.le_refl _); have := hs.k; simp; omega
            · intro i b d hb hdi
              obtain ⟨q, d1, d2, d3⟩ := hs.dfs i b d hb hdi
              obtain ⟨d4, d5⟩ := hpk0.defr b q (lt_of_get d3) d3 d1
              exact ⟨q, d5, d2, d4⟩
            · intro lb' hlb'
              obtain ⟨l, y1, y2⟩ := hs.ro lb' hlb'
              exact ⟨l, y1, hpk0.mono _ _ y2.bel y2⟩
          have hpk : Prog k g w σ.L g3 (w3.putObj w.heap.size (.loop { rec with state := .exhausted })) (L3.set σ.L.length .dead) := hpk0.le hs.k (Nat.le_refl _)
          have hbu : l.st ≠ .busy := by intro e; rw [e] at hK; simp at hK
          have hb' : rec.state ≠ .busy := by rw [h3]; exact hbu
          cases hpd : l.pend with
          | none =>
            have hK' : Q .normal { σ with L := L3.set σ.L.length .dead } := by
              rw [hro]
              cases hst : l.st <;> simp only [hst, hpd] at hK <;> first | exact hK | exact absurd hst hbu
            exact ⟨none, _, by rw [run_endLoop h2 hb', h4, hpd], Post.of rfl hK' hst3 hpk⟩
          | some c =>
            have hK' : ∃ ex, pendExit c = some ex ∧ Q ex { σ with L := L3.set σ.L.length .dead } := by
              rw [hro]
              cases hex : pendExit c with
              | none => cases hst : l.st <;> simp only [hst, hpd, hex] at hK
              | some ex => cases hst : l.st <;> simp only [hst, hpd, hex] at hK <;> first | exact ⟨ex, rfl, hK⟩ | exact absurd hst hbu
            obtain ⟨ex, hex, hK'⟩ := hK'
            exact ⟨some c, _, by rw [run_endLoop h2 hb', h4, hpd], pend_wp hex (Post.of rfl hK' hst3 hpk)⟩
        · exact hK.elim
    · exact h.elim

theorem cutIf_ok {k : Nat} {b : Bool} {f : (Exit → TS → Prop) → Prop} {Q : Exit → TS → Prop} {c : Code} {g : Gh} {w : World} {L : List Blk} {a : Act} (core : ∀ Q, f Q → wpV r C.P c (Post C k r Q g w L a) a w) (h : cutIf b k f Q) :
    wpV r C.P c (Post C k r Q g w L a) a w := by
  unfold cutIf at h
  split at h
  · exact core Q h
  · unfold CutP at h
    obtain ⟨ι, s, h1, h2⟩ := h
    refine wpV_mono (core _ h1) ?_
    rintro e a' w' ⟨⟨σ', g', hq, hs, hp⟩ | hpp, hn, hsz⟩
    rotate_left
    · obtain ⟨v, X, L', g', rfl, hS, hi⟩ := hpp
      exact ⟨.inr ⟨v, X, L', g', rfl, hS, hi⟩, hn, hsz⟩
    cases e with
    | normal =>
      obtain ⟨i, hw⟩ := hq
      obtain ⟨g2, hs2, hp2⟩ := hw r g' a' w' hs
      exact ⟨.inl ⟨s i, g2, h2 i, hs2, hp.trans hp2⟩, hn, hsz⟩
    | exit id => exact ⟨.inl ⟨σ', g', hq, hs, hp⟩, hn, hsz⟩
    | goto l => exact ⟨.inl ⟨σ', g', hq, hs, hp⟩, hn, hsz⟩
    | ret => exact ⟨.inl ⟨σ', g', hq, hs, hp⟩, hn, hsz⟩
    | panic ch => exact ⟨.inl ⟨σ', g', hq, hs, hp⟩, hn, hsz⟩
    | outgrown => exact ⟨.inl ⟨σ', g', hq, hs, hp⟩, hn, hsz⟩

theorem vc_ok (hC : C.OK) {cut : Code → Bool} {k : Nat} (hpn : C.pn ≤ k) : ∀ (c : Code) (σ : TS) (Q : Exit → TS → Prop) (g : Gh) (a : Act) (w : World), vc C cut k c σ Q → St k r g σ a w → wpV r C.P c (Post C k r Q g w σ.L a) a w := by
  intro c
  induction c with
  | skip => exact fun σ Q g a w h hs => wpV.of (Go.wpIn_skip (Post.of rfl h hs (Prog.refl _ _ _ _)))
  | label l => exact fun σ Q g a w h hs => wpV.of (wpIn_label (Post.of rfl h hs (Prog.refl _ _ _ _)))
  | region id ops draw =>
    intro σ Q g a w h hs
    cases draw with
    | false =>
      simp only [vc] at h
      refine cutIf_ok (fun Q h => ?_) h
      refine wpV.of (wpIn_region (vcOps_ok hC (List.range ops.size) σ.fr σ.L g a w _ (by rw [range_ops]; exact h) hs.at (Nat.le_trans hpn hs.k) ?_ (fun v X L2 g2 a2 w2 hd hS => hs.pan hpn hd hS)))
      intro fr' L' g' a' w' hK hat hd hp
      exact Post.of hd hK (hs.of_at hat hd hp) (hp.le hs.k (Nat.le_refl _))
    | true =>
      simp only [vc] at h
      refine cutIf_ok (fun Q h => ?_) h
      unfold DrawP at h
      refine wpV.of (wpIn_region_draw fun t => ?_)
      have hE : Ext w { w with drawn := w.drawn + 1 } := ⟨⟨rfl, rfl, rfl⟩, Nat.le_refl _, fun _ _ h => h⟩
      have hcell : ∀ a : Addr, World.cell? { w with drawn := w.drawn + 1 } a = w.cell? a := fun a => rfl
      have hmono : ∀ (x : V) (v : Value), RV g w σ.L x v → RV g { w with drawn := w.drawn + 1 } σ.L x v := fun x v hx => RV.mono (g := g) (g' := g) (w := w) (w' := { w with drawn := w.drawn + 1 }) (L := σ.L) (L' := σ.L) (k := σ.L.length) (fun _ h => h) (fun a v _ h => h) (fun b _ => Keep.refl g σ.L b) hx.bel hx
      have hg2 : Good g { w with drawn := w.drawn + 1 } σ.L := ⟨hs.good.inj, hs.good.dis, hs.good.lt, fun b k hb => RB.mono' hmono rfl rfl (fun _ _ _ h => h) (fun l _ => ⟨rfl, fun h => h⟩) (hs.good.blk b k hb), GlobOK.mono (w := w) (w' := { w with drawn := w.drawn + 1 }) (fun _ h => h) (fun a v _ h => h) hs.good.gl⟩
      have hp0 : Prog σ.L.length g w σ.L g { w with drawn := w.drawn + 1 } σ.L := ⟨⟨rfl, rfl, rfl⟩, Nat.le_refl _, fun _ _ h _ => h, fun _ h _ => h, fun _ h => .inl h, fun _ h => h, fun x v _ h => hmono x v h, fun _ _ _ h h' => ⟨h, h'⟩, fun h => h⟩
      refine vOpsC_ok hC _ σ.fr σ.L g a _ _ (h t) ⟨hs.n, fun i => hmono _ _ (hs.fr i), hg2⟩ (Nat.le_trans hpn hs.k) ?_ (fun v X L2 g2 a2 w2 hd hS => hs.pan hpn hd (hS.later (Nat.le_refl _) hp0))
      intro fr' L' g' a' w' hK hat hd hp
      have hp' := hp0.trans hp
      exact Post.of hd hK (hs.of_at hat hd hp') (hp'.le hs.k (Nat.le_refl _))
  | seq x y ihx ihy =>
    intro σ Q g a w h hs
    simp only [vc] at h
    refine cutIf_ok (fun Q h => ?_) h
    refine wpV_seq (wpV_mono (ihx σ _ g a w h hs) ?_)
    rintro e a1 w1 ⟨⟨σ1, g1, hq, hs1, hp1⟩ | hpp, hn, hsz⟩
    rotate_left
    · obtain ⟨v, X, L', g', rfl, hS, hi⟩ := hpp
      exact ⟨.inr ⟨v, X, L', g', rfl, hS, hi⟩, hn, hsz⟩
    cases e with
    | normal => exact wpV_mono (ihy σ1 Q g1 a1 w1 hq hs1) fun e a' w' hpost => Post.later hs.k hp1 hn hpost
    | exit id => exact ⟨.inl ⟨σ1, g1, hq, hs1, hp1⟩, hn, hsz⟩
    | goto l => exact ⟨.inl ⟨σ1, g1, hq, hs1, hp1⟩, hn, hsz⟩
    | ret => exact ⟨.inl ⟨σ1, g1, hq, hs1, hp1⟩, hn, hsz⟩
    | panic ch => exact ⟨.inl ⟨σ1, g1, hq, hs1, hp1⟩, hn, hsz⟩
    | outgrown => exact ⟨.inl ⟨σ1, g1, hq, hs1, hp1⟩, hn, hsz⟩
  | cond c x y ihx ihy =>
    intro σ Q g a w h hs
    simp only [vc] at h
    refine cutIf_ok (fun Q h => ?_) h
    have hcv := evB_ok hs.good.gl hs.fr c
    have fin : ∀ t : Bool, a.eval c = .bool t → (match t with | true => vc C cut k x σ Q | false => vc C cut k y σ Q) → wpV r C.P (Code.cond c x y) (Post C k r Q g w σ.L a) a w := by
      intro t hb h
      refine wpV_cond hb ?_
      cases t with
      | true => exact ihx σ Q g a w h hs
      | false => exact ihy σ Q g a w h hs
    split at h
    · rename_i hc
      rw [hc] at hcv
      exact fin true (by generalize a.eval c = v at hcv; cases hcv; rfl) h
    · rename_i hc
      rw [hc] at hcv
      exact fin false (by generalize a.eval c = v at hcv; cases hcv; rfl) h
    · rename_i t hc
      rw [hc] at hcv
      exact fin t hcv.bool_of h.out
    · exact h.elim
  | block id c ih =>
    intro σ Q g a w h hs
    simp only [vc] at h
    refine cutIf_ok (fun Q h => ?_) h
    refine wpV_block (wpV_mono (ih σ _ g a w h hs) ?_)
    rintro e a1 w1 ⟨⟨σ1, g1, hq, hs1, hp1⟩ | hpp, hn, hsz⟩
    rotate_left
    · obtain ⟨v, X, L', g', rfl, hS, hi⟩ := hpp
      exact ⟨.inr ⟨v, X, L', g', rfl, hS, hi⟩, hn, hsz⟩
    cases e with
    | normal => exact ⟨.inl ⟨σ1, g1, hq, hs1, hp1⟩, hn, hsz⟩
    | exit id' =>
      simp only [Exit.inBlock]
      cases hb : Nat.beq id' id with
      | true =>
        simp only [hb] at hq
        rw [if_pos (Nat.eq_of_beq_eq_true hb)]
        exact ⟨.inl ⟨σ1, g1, hq, hs1, hp1⟩, hn, hsz⟩
      | false =>
        simp only [hb] at hq
        rw [if_neg (fun e => by rw [e] at hb; simp at hb)]
        exact ⟨.inl ⟨σ1, g1, hq, hs1, hp1⟩, hn, hsz⟩
    | goto l => exact ⟨.inl ⟨σ1, g1, hq, hs1, hp1⟩, hn, hsz⟩
    | ret => exact ⟨.inl ⟨σ1, g1, hq, hs1, hp1⟩, hn, hsz⟩
    | panic ch => exact ⟨.inl ⟨σ1, g1, hq, hs1, hp1⟩, hn, hsz⟩
    | outgrown => exact ⟨.inl ⟨σ1, g1, hq, hs1, hp1⟩, hn, hsz⟩
  | loop c ih =>
    intro σ Q g a w h hs
    simp only [vc] at h
    unfold LoopP at h
    obtain ⟨ι, s, lt, i0, wf, hw0, hround⟩ := h
    obtain ⟨g0, hs0, hp0⟩ := hw0 r g a w hs
    refine wpV_loopG (fun i a1 w1 => ∃ g1, St k r g1 (s i) a1 w1 ∧ Prog k g w σ.L g1 w1 (s i).L ∧ NewD a w a1) lt wf (i0 := i0) ⟨g0, hs0, hp0, .same rfl⟩ ?_
    rintro i a1 w1 ⟨g1, hs1, hp1, hn1⟩
    refine wpV_mono (ih (s i) _ g1 a1 w1 (hround i) hs1) ?_
    rintro e a2 w2 ⟨⟨σ2, g2, hq, hs2, hp2⟩ | hpp, hn, hsz⟩
    rotate_left
    · obtain ⟨v, X, L', g', rfl, hS, hi⟩ := hpp
      exact Post.later hs.k hp1 hn1 ⟨.inr ⟨v, X, L', g', rfl, hS, hi⟩, hn, hsz⟩
    cases e with
    | normal =>
      obtain ⟨j, hlt, hw⟩ := hq
      obtain ⟨g3, hs3, hp3⟩ := hw r g2 a2 w2 hs2
      exact ⟨j, hlt, g3, hs3, hp1.trans (hp2.trans hp3), hn1.trans hp1.size hn⟩
    | exit id => exact ⟨.inl ⟨σ2, g2, hq, hs2, hp1.trans hp2⟩, hn1.trans hp1.size hn, Nat.le_trans hp1.size hsz⟩
    | goto l => exact ⟨.inl ⟨σ2, g2, hq, hs2, hp1.trans hp2⟩, hn1.trans hp1.size hn, Nat.le_trans hp1.size hsz⟩
    | ret => exact ⟨.inl ⟨σ2, g2, hq, hs2, hp1.trans hp2⟩, hn1.trans hp1.size hn, Nat.le_trans hp1.size hsz⟩
    | panic ch => exact ⟨.inl ⟨σ2, g2, hq, hs2, hp1.trans hp2⟩, hn1.trans hp1.size hn, Nat.le_trans hp1.size hsz⟩
    | outgrown => exact ⟨.inl ⟨σ2, g2, hq, hs2, hp1.trans hp2⟩, hn1.trans hp1.size hn, Nat.le_trans hp1.size hsz⟩
  | rangeFunc f ps assign body _ _ =>
    intro σ Q g a w h hs
    simp only [vc] at h
    exact vRange_ok hC hpn h hs
  | exit id => exact fun σ Q g a w h hs => wpV.of (wpIn_exit (Post.of rfl h hs (Prog.refl _ _ _ _)))
  | scope c ih =>
    intro σ Q g a w h hs
    simp only [vc] at h
    refine cutIf_ok (fun Q h => ?_) h
    refine wpV_scopeG (wpV_mono (ih σ _ g a w h hs) ?_)
    rintro e a1 w1 ⟨⟨σ1, g1, hq, hs1, hp1⟩ | hpp, hn, hsz⟩
    rotate_left
    · obtain ⟨v, X, L', g', rfl, hS, hi⟩ := hpp
      exact ⟨.inr ⟨v, X, L', g', rfl, hS, hi⟩, hn, hsz⟩
    cases e with
    | goto l => exact hq
    | normal => exact ⟨.inl ⟨σ1, g1, hq, hs1, hp1⟩, hn, hsz⟩
    | exit id => exact ⟨.inl ⟨σ1, g1, hq, hs1, hp1⟩, hn, hsz⟩
    | ret => exact ⟨.inl ⟨σ1, g1, hq, hs1, hp1⟩, hn, hsz⟩
    | panic ch => exact ⟨.inl ⟨σ1, g1, hq, hs1, hp1⟩, hn, hsz⟩
    | outgrown => exact ⟨.inl ⟨σ1, g1, hq, hs1, hp1⟩, hn, hsz⟩
  | goto l => intro σ Q g a w h hs; simp [vc] at h
  | ret => exact fun σ Q g a w h hs => wpV.of (wpIn_ret (Post.of rfl h hs (Prog.refl _ _ _ _)))
  | refuse s => intro σ Q g a w h hs; simp [vc] at h

end
end Go.Tidy

/-
  The base layer: forgetting, dropping blocks, making data of what is the activation's own; the entry of a function; rounds.
-/
namespace Go.Tidy

section
variable {C : Ctx} {g : Gh} {w : World} {L : List Blk} {r : Option Nat}

def SubF (fr : List (Nat × V)) : List (Nat × V) → Prop
  | [] => True
  | p :: q => norm (look fr p.1) = norm p.2 ∧ SubF fr q
theorem norm_eq {g : Gh} {w : World} {L : List Blk} {x y : V} {v : Value} (h : norm x = norm y) (hx : RV g w L x v) : RV g w L y v := by
  have hy : RV g w L (norm y) v := h ▸ norm_ok hx
  unfold norm at hy
  split at hy
  · rw [hy.bool_of]; exact .tt
  · rw [hy.bool_of]; exact .ff
  · exact hy
theorem norm_bel {n : Nat} {x y : V} (h : norm x = norm y) (hx : x.bel n = true) : y.bel n = true := by
  have : (norm x).bel n = true := by unfold norm; split <;> first | rfl | exact hx
  rw [h] at this
  unfold norm at this
  split at this <;> first | rfl | exact this
theorem SubF.look {fr : List (Nat × V)} : ∀ {fr' : List (Nat × V)}, SubF fr fr' → ∀ i, look fr' i = .poison ∨ norm (look fr i) = norm (look fr' i)
  | [], _, i => .inl rfl
  | (d, v) :: q, h, i => by
    rw [look_cons]
    split
    · rename_i e; subst e; exact .inr h.1
    · exact SubF.look h.2 i

theorem Weak.refl (k : Nat) (σ : TS) : Weak k σ σ := fun _r g _a _w h => ⟨g, h, Prog.refl _ _ _ _⟩
theorem Weak.trans {k : Nat} {σ σ' σ'' : TS} (h : Weak k σ σ') (h' : Weak k σ' σ'') : Weak k σ σ'' := fun r g a w hs => by
  obtain ⟨g1, hs1, hp1⟩ := h r g a w hs
  obtain ⟨g2, hs2, hp2⟩ := h' r g1 a w hs1
  exact ⟨g2, hs2, hp1.trans hp2⟩

theorem Weak.fd {k n : Nat} {σ : TS} {fr' : List (Nat × V)} {L' : List Blk} (hfr : SubF σ.fr fr') (hL : σ.L.take n = L') (hk : k ≤ n) (hn : n ≤ σ.L.length) (hf : belF n fr' = true) (hB : belB n L' = true)
    (hdf : σ.df.all (fun b => decide (b < n)) = true) (hro : (match σ.ro with | some b => decide (b < n) | none => true) = true) : Weak k σ { σ with fr := fr', L := L' } := by
  intro r g a w hs
  subst hL
  obtain ⟨hmono, hgood⟩ := drop_good hs.good hB g.I (fun _ h => h) (fun _ h => .inl h)
  refine ⟨{ g with I := g.I }, ⟨hs.n, fun i => ?_, hgood, by simp; omega, hs.df, fun i b d hb hd => ?_, fun lb hlb => ?_, hs.ro'⟩, drop_prog hs.good hk hB hn g.I (fun _ h => h) (fun _ h => .inl h)⟩
  · have hb := belF_look hf i
    rcases hfr.look i with h | h
    · show RV _ _ _ (look fr' i) _
      rw [h]; exact .poison _
    · exact hmono _ _ hb (norm_eq h (hs.fr i))
  · obtain ⟨q, h1, h2, h3⟩ := hs.dfs i b d hb hd
    have : b < n := by
      rw [List.all_eq_true] at hdf
      exact of_decide_eq_true (hdf b (List.mem_of_getElem? hb))
    exact ⟨q, h1, h2, by show (σ.L.take n)[b]? = _; rw [take_get this]; exact h3⟩
  · have hlb' : σ.ro = some lb := hlb
    obtain ⟨l, h1, h2⟩ := hs.ro lb hlb'
    rw [hlb'] at hro
    exact ⟨l, h1, hmono _ _ (by simpa [V.bel] using hro) h2⟩

theorem Weak.forget {k : Nat} {σ : TS} {fr' : List (Nat × V)} (hfr : SubF σ.fr fr') : Weak k σ { σ with fr := fr' } := by
  intro r g a w hs
  refine ⟨g, ⟨hs.n, fun i => ?_, hs.good, hs.k, hs.df, hs.dfs, hs.ro, hs.ro'⟩, Prog.refl _ _ _ _⟩
  rcases hfr.look i with h | h
  · show RV _ _ _ (look fr' i) _
    rw [h]; exact .poison _
  · exact norm_eq h (hs.fr i)

theorem St.prog {k : Nat} {g g' : Gh} {σ : TS} {a : Act} {w : World} {L' : List Blk} (hs : St k r g σ a w) (hp : Prog σ.L.length g w σ.L g' w L') (hg : Good g' w L') : St k r g' { σ with L := L' } a w :=
  hs.of_at (a' := a) (fr' := σ.fr) ⟨hs.n, frame_mono hs.fr hp, hg⟩ rfl hp

theorem Weak.nilOwn {k : Nat} {σ : TS} (d sz : Nat) (hd : look σ.fr d = .nil) (hsz : 0 < sz) : Weak k σ { σ with fr := (d, .own σ.L.length 0 0 0) :: σ.fr, L := σ.L ++ [.row 0 sz []] } := by
  intro r g a w hs
  have hp := add_prog hs.good (Ext.refl w) (.row 0 sz []) none (fun q h => by cases h) 0
  have hg := add_good (k' := .row 0 sz []) hs.good (Ext.refl w) none (fun q h => by cases h) 0 ⟨hsz, by simp, .inl ⟨by simp [Gh.add], rfl⟩⟩
  have hs' := hs.prog hp hg
  refine ⟨_, ⟨hs'.n, frame_set hs'.fr ?_, hs'.good, hs'.k, hs'.df, hs'.dfs, hs'.ro, hs'.ro'⟩, hp.le hs.k (Nat.le_refl _)⟩
  have hv := hs.fr d
  rw [hd] at hv
  generalize a.tmps.getD d undef = v at hv
  cases hv with
  | nil => exact .ownN _ _ sz [] (by simp) (by simp [Gh.add])

inductive Cv (S : Nat → Prop) (L : List Blk) : V → D → Prop
  | d (x : D) : Cv S L (.d x) x
  | nil : Cv S L .nil (.sl [])
  | tt : Cv S L .tt (.bool true)
  | ff : Cv S L .ff (.bool false)
  | own (b gen lo len sz : Nat) (els : List (List V)) (ds : List (List D)) (hb : S b) (hL : L[b]? = some (.row gen sz els)) (hlen : ((els.drop lo).take len).length = ds.length) (hl : len = ds.length)
      (hrow : ∀ e ∈ ds, e.length = sz)
      (hrec : ∀ (i j : Nat) (x : V) (y : D), (((els.drop lo).take len)[i]?).bind (fun e => e[j]?) = some x → (ds[i]?).bind (fun e => e[j]?) = some y → Cv S L x y) : Cv S L (.own b gen lo len) (.sl ds)
  | ptr (b off : Nat) (cs : List V) (ds : List D) (hb : S b) (hL : L[b]? = some (.cells cs)) (hlen : (cs.drop off).length = ds.length)
      (hrec : ∀ (j : Nat) (x : V) (y : D), (cs.drop off)[j]? = some x → ds[j]? = some y → Cv S L x y) : Cv S L (.ptr b off) (.rptr ds)
  | fn (f : FuncId) (caps : List V) (ds : List D) (hlen : caps.length = ds.length) (hrec : ∀ (j : Nat) (x : V) (y : D), caps[j]? = some x → ds[j]? = some y → Cv S L x y) : Cv S L (.fn f caps) (.fn f ds)

theorem Cv.row {S : Nat → Prop} {b gen lo len sz : Nat} {els : List (List V)} (ds : List (List D)) (hb : S b) (hL : L[b]? = some (.row gen sz els)) (he : (els.drop lo).take len = ds.map (·.map .d)) (hl : len = ds.length)
    (hrow : ∀ e ∈ ds, e.length = sz) : Cv S L (.own b gen lo len) (.sl ds) := by
  refine .own b gen lo len sz els ds hb hL (by rw [he]; simp) hl hrow (fun i j x y hx hy => ?_)
  rw [he, List.getElem?_map] at hx
  cases e : ds[i]? with
  | none => rw [e] at hy; cases hy
  | some d =>
    rw [e] at hx hy
    simp only [Option.map_some, Option.bind_some, List.getElem?_map] at hx hy
    rw [hy] at hx
    cases hx
    exact .d y

theorem Cv.rd {S : Nat → Prop} (hg : Good g w L) {I' : Nat → Prop} (hI : ∀ q, g.I q → I' q) (hI' : ∀ b q, S b → live L b → g.m b = some q → I' q) {x : V} {y : D} (h : Cv S L x y) : ∀ {v : Value}, RV g w L x v → RD I' w y v := by
  induction h with
  | d x => intro v hv; cases hv with | d _ _ hd => exact hd.mono hI (fun _ _ _ h => h)
  | nil => intro v hv; cases hv; exact .slNil _ _
  | tt => intro v hv; cases hv; exact .bool _
  | ff => intro v hv; cases hv; exact .bool _
  | own b gen lo len sz els ds hb hL hlen hl hrow hrec ih =>
    intro v hv
    obtain ⟨hsz0, hels, hr⟩ := hg.blk b _ hL
    cases hv with
    | ownX _ _ _ _ a n c hL' => rw [hL] at hL'; cases hL'
    | ownO _ _ gen2 _ _ _ _ a n c hL' hg' => rw [hL] at hL'; cases hL'; omega
    | ownN _ _ _ _ hL' hm' =>
      have : ds = [] := List.eq_nil_of_length_eq_zero hl.symm
      subst this
      exact .slNil _ _
    | own _ _ _ _ sz' r o c els' hL' hm ho hcap hlc hle =>
      rw [hL] at hL'; cases hL'
      rcases hr with ⟨hm', _⟩ | ⟨r', cur, T, hm', hh, hcapg, hbig, hone, hrc⟩
      · rw [hm] at hm'; cases hm'
      rw [hm] at hm'; cases hm'
      subst hl
      rcases Nat.eq_zero_or_pos ds.length with h0 | hpos
      · have : ds = [] := List.eq_nil_of_length_eq_zero h0
        subst this
        exact .slNil _ _
      · have ho' : o = lo * sz := by rcases ho with h0 | h0 <;> omega
        subst ho'
        have hcell : ∀ i j, i < ds.length → j < sz → ∃ u, cur[lo * sz + (i * sz + j)]? = some u := by
          intro i j hi hj
          have : lo * sz + (i * sz + j) < cur.size := by
            have h1 := Nat.mul_le_mul_right sz (show lo + i + 1 ≤ els.length by omega)
            rw [Nat.succ_mul, Nat.add_mul] at h1; omega
          exact ⟨_, Array.getElem?_eq_getElem this⟩
        refine .sl ds ⟨r, lo * sz, none⟩ c sz (fun i j => (cur[lo * sz + (i * sz + j)]?).getD undef) hrow (fun i j hi hj => ?_) (hI' b r hb ⟨_, hL, by simp⟩ hm) hlc (fun i j y hy => ?_)
        · obtain ⟨u, hu⟩ := hcell i j hi hj
          rw [Addr.add_lit, cell_row hh, hu]; rfl
        · have hi : i < ds.length := by
            rcases Nat.lt_or_ge i ds.length with h' | h'
            · exact h'
            · rw [List.getElem?_eq_none h'] at hy; cases hy
          have hj : j < sz := by
            cases e : ds[i]? with
            | none => rw [e] at hy; cases hy
            | some d => rw [e] at hy; have := lt_of_get (L := d) (by simpa using hy); have := hrow d (List.mem_of_getElem? e); omega
          obtain ⟨u, hu⟩ := hcell i j hi hj
          rw [hu]
          have hi2 : lo + i < els.length := by omega
          have hel := hels _ (List.getElem_mem hi2)
          have hx : (((els.drop lo).take ds.length)[i]?).bind (fun e => e[j]?) = some ((els[lo + i])[j]'(by omega)) := by
            rw [List.getElem?_take, if_pos hi, List.getElem?_drop, List.getElem?_eq_getElem hi2]
            simp
          refine ih i j _ y hx hy (hrc (lo + i) j _ u ?_ ?_)
          · rw [List.getElem?_eq_getElem hi2]; simp
          · rw [Nat.add_mul, Nat.add_assoc]; exact hu
  | ptr b off cs ds hb hL hlen hrec ih =>
    intro v hv
    obtain ⟨r, cur, T, hm, hh, hsz, hone, hrc⟩ := hg.blk b _ hL
    cases hv with
    | ptrX _ _ a hL' => rw [hL] at hL'; cases hL'
    | ptr _ _ r' cs' hL' hm' =>
      rw [hm] at hm'; cases hm'
      simp at hlen
      refine .rptr ds ⟨r, off, none⟩ (fun j => (cur[off + j]?).getD undef) (fun j hj => ?_) (hI' b r hb ⟨_, hL, by simp⟩ hm) (fun j y hy => ?_)
      · rw [Addr.add_lit, cell_row hh, Array.getElem?_eq_getElem (by omega)]; rfl
      · have hj := lt_of_get hy
        rw [Array.getElem?_eq_getElem (show off + j < cur.size by omega)]
        have hx : (cs.drop off)[j]? = some (cs[off + j]'(by omega)) := by
          rw [List.getElem?_drop, List.getElem?_eq_getElem]
        exact ih j _ y hx hy (hrc (off + j) _ _ (by rw [← List.getElem?_drop]; exact hx) (Array.getElem?_eq_getElem _))
  | fn f caps ds hlen hrec ih =>
    intro v hv
    cases hv with
    | fn _ _ vs hl hr => exact .fn f ds vs (by omega) (fun j y u hy hu => by
        have hj := lt_of_get hy
        have hx : caps[j]? = some (caps[j]'(by omega)) := List.getElem?_eq_getElem _
        exact ih j _ y hx hy (hr j _ u hx hu))

inductive Cw (S : Nat → Prop) (L : List Blk) : V → V → Prop
  | d {x : V} {y : D} (h : Cv S L x y) : Cw S L x (.d y)
  | agg (cs : List V) (ds : List D) (hlen : cs.length = ds.length) (h : ∀ (j : Nat) (x : V) (y : D), cs[j]? = some x → ds[j]? = some y → Cv S L x y) : Cw S L (.agg cs) (.agg (ds.map .d))
  | tup (cs : List V) (ds : List V) (hlen : cs.length = ds.length) (h : ∀ (j : Nat) (x y : V), cs[j]? = some x → ds[j]? = some y → Cw S L x y) : Cw S L (.tup cs) (.tup ds)

theorem Cw.rv {S : Nat → Prop} (hg : Good g w L) {g' : Gh} {L' : List Blk} (hI : ∀ q, g.I q → g'.I q) (hI' : ∀ b q, S b → live L b → g.m b = some q → g'.I q) {x y : V} (h : Cw S L x y) : ∀ {v : Value}, RV g w L x v → RV g' w L' y v := by
  induction h with
  | d h => intro v hv; exact .d _ _ (h.rd hg hI hI' hv)
  | agg cs ds hlen h =>
    intro v hv
    cases hv with
    | agg _ vs hl ho hr =>
      refine .agg _ vs (by simp; omega) ho (fun j y u hy hu => ?_)
      rw [List.getElem?_map] at hy
      cases e : ds[j]? with
      | none => rw [e] at hy; cases hy
      | some d =>
        rw [e] at hy; cases hy
        have hj := lt_of_get e
        have hx : cs[j]? = some (cs[j]'(by omega)) := List.getElem?_eq_getElem _
        exact .d _ _ ((h j _ d hx e).rd hg hI hI' (hr j _ u hx hu))
  | tup cs ds hlen h ih =>
    intro v hv
    cases hv with
    | tup _ vs hl hr =>
      refine .tup ds vs (by omega) (fun j y u hy hu => ?_)
      have hj := lt_of_get hy
      have hx : cs[j]? = some (cs[j]'(by omega)) := List.getElem?_eq_getElem _
      exact ih j _ y hx hy (hr j _ u hx hu)

def RetW (k : Nat) (X : V) (L : List Blk) (X' : V) (L' : List Blk) : Prop :=
  ∀ (g : Gh) (w : World) (v : Value), Good g w L → k ≤ L.length → RV g w L X v → ∃ g', Good g' w L' ∧ RV g' w L' X' v ∧ Prog k g w L g' w L'
@[irreducible] def FinP (k0 : Nat) (X : V) (L : List Blk) (k : V → List Blk → Prop) : Prop := ∃ X' L', RetW k0 X L X' L' ∧ k X' L'

theorem FinP.same {k0 : Nat} {X : V} {k : V → List Blk → Prop} (h : k X L) : FinP k0 X L k := by
  unfold FinP; exact ⟨X, L, fun g w v hg _ hv => ⟨g, hg, hv, Prog.refl _ _ _ _⟩, h⟩
theorem FinP.drop {k0 n : Nat} {X : V} {L' : List Blk} {k : V → List Blk → Prop} (hL : L.take n = L') (hk : k0 ≤ n) (hX : X.bel n = true) (hB : belB n L' = true) (h : k X L') : FinP k0 X L k := by
  unfold FinP
  subst hL
  refine ⟨X, L.take n, fun g w v hg hk0 hv => ?_, h⟩
  rcases Nat.lt_or_ge L.length n with hlt | hn
  · rw [List.take_of_length_le (by omega)]
    exact ⟨g, hg, hv, Prog.refl _ _ _ _⟩
  · obtain ⟨hmono, hgood⟩ := drop_good hg hB g.I (fun _ h => h) (fun _ h => .inl h)
    exact ⟨_, hgood, hmono _ _ hX hv, drop_prog hg hk hB hn g.I (fun _ h => h) (fun _ h => .inl h)⟩
theorem FinP.data {k0 : Nat} {X Y : V} {L' : List Blk} {k : V → List Blk → Prop} (hc : Cw (k0 ≤ ·) L X Y) (hL : L.take k0 = L') (hB : belB k0 L' = true) (h : k Y L') : FinP k0 X L k := by
  unfold FinP
  subst hL
  refine ⟨Y, L.take k0, fun g w v hg hk0 hv => ?_, h⟩
  have hI : ∀ q, g.I q → (g.I q ∨ ∃ b, k0 ≤ b ∧ live L b ∧ g.m b = some q) := fun q h => .inl h
  obtain ⟨hmono, hgood⟩ := drop_good hg hB (fun q => g.I q ∨ ∃ b, k0 ≤ b ∧ live L b ∧ g.m b = some q) hI (fun _ h => h)
  exact ⟨_, hgood, hc.rv hg (g' := { g with I := fun q => g.I q ∨ ∃ b, k0 ≤ b ∧ live L b ∧ g.m b = some q }) hI (fun b q h1 h2 h3 => .inr ⟨b, h1, h2, h3⟩) hv,
    drop_prog hg (Nat.le_refl _) hB hk0 _ hI (fun _ h => h)⟩

end
end Go.Tidy

/-
  The base layer: the entry of a function; rounds.
-/
namespace Go.Tidy

def initFr : Nat → List V → List (Nat × V)
  | _, [] => []
  | i, x :: r => (i, x) :: initFr (i + 1) r

def vResults (C : Ctx) (fr : List (Nat × V)) (L : List Blk) : List ResultVar → (List V → Prop) → Prop
  | [], k => k []
  | .tmp t :: r, k => vResults C fr L r fun xs => k (norm (look fr t) :: xs)
  | .cell a t :: r, k => vLoad C t (look fr a) L fun x => vResults C fr L r fun xs => k (x :: xs)

def resV : List V → V
  | [x] => x
  | xs => .tup xs

def killAll (df : List Nat) (L : List Blk) : List Blk := df.foldl (fun L b => L.set b .dead) L

def vRet (C : Ctx) (k0 : Nat) (rs : List ResultVar) (σ : TS) (k : V → List Blk → Prop) : Prop :=
  vResults C σ.fr (killAll σ.df σ.L) rs fun xs => FinP k0 (resV xs) (killAll σ.df σ.L) k

section
variable {C : Ctx} {g : Gh} {w : World} {L : List Blk} {r : Option Nat}

theorem look_init : ∀ (xs : List V) (n i : Nat), look (initFr n xs) i = if n ≤ i then (xs[i - n]?).getD .poison else .poison
  | [], n, i => by simp [initFr, look]
  | x :: xs, n, i => by
    simp only [initFr]
    rw [look_cons, look_init xs (n + 1) i]
    by_cases h : n = i
    · subst h; simp
    · rw [if_neg h]
      by_cases h2 : n ≤ i
      · rw [if_pos h2, if_pos (by omega)]
        have : i - n = (i - (n + 1)) + 1 := by omega
        rw [this]; simp
      · rw [if_neg h2, if_neg (by omega)]

theorem init_frame {xs : List V} {vs : Array Value} (h : RVs g w L xs vs) (n : Nat) : ∀ i, RV g w L (look (initFr 0 xs) i) ((vs ++ Array.replicate (n - vs.size) undef).getD i undef) := by
  intro i
  rw [look_init]
  simp only [Nat.zero_le, if_true, Nat.sub_zero]
  cases e : xs[i]? with
  | none => exact .poison _
  | some x =>
    have hi := lt_of_get e
    have hv : vs[i]? = some (vs[i]'(by rw [← h.1]; exact hi)) := Array.getElem?_eq_getElem _
    have : (vs ++ Array.replicate (n - vs.size) undef).getD i undef = vs[i]'(by rw [← h.1]; exact hi) := by
      rw [Array.getD_eq_getD_getElem?, Array.getElem?_append_left (by rw [← h.1]; exact hi), hv]; rfl
    rw [this]
    exact h.2 i x _ e hv

def resOne (tmps : Array Value) : ResultVar → Sem Value := fun
  | .tmp t => pure (tmps.getD t undef)
  | .cell a t => do loadVar t (← asAddr (tmps.getD a undef))
theorem results_eq (fn : Func) (tmps : Array Value) : results fn tmps = (do
  let vs ← fn.results.mapM (resOne tmps)
  pure (if h : vs.size = 1 then vs[0] else .tuple vs)) := rfl

theorem vResults_ok (hC : C.OK) {fr : List (Nat × V)} {tmps : Array Value} (hfr : ∀ i, RV g w L (look fr i) (tmps.getD i undef)) (hg : Good g w L) : ∀ (rs : List ResultVar) (k : List V → Prop), vResults C fr L rs k →
    ∃ vs xs, (rs.mapM (resOne tmps)).run C.P w = .ok vs w ∧ k xs ∧ xs.length = vs.length ∧ ∀ (j : Nat) (x : V) (v : Value), xs[j]? = some x → vs[j]? = some v → RV g w L x v
  | [], k, h => ⟨[], [], by simp, by simpa [vResults] using h, rfl, fun j x v h _ => by simp at h⟩
  | .tmp t :: rs, k, h => by
    simp only [vResults] at h
    obtain ⟨vs, xs, h1, h2, h3, h4⟩ := vResults_ok hC hfr hg rs _ h
    refine ⟨tmps.getD t undef :: vs, norm (look fr t) :: xs, ?_, h2, by simp [h3], fun j x v hx hv => ?_⟩
    · rw [List.mapM_cons]
      simp only [resOne, Sem.run_bind, Sem.run_pure, Result.andThen_ok]
      rw [show (rs.mapM (resOne tmps)).run C.P w = _ from h1]
      rfl
    · cases j with
      | zero => simp only [List.getElem?_cons_zero, Option.some.injEq] at hx hv; subst hx hv; exact norm_ok (hfr t)
      | succ j => exact h4 j x v (by simpa using hx) (by simpa using hv)
  | .cell a t :: rs, k, h => by
    simp only [vResults] at h
    obtain ⟨rv, X, hr, hk, hX⟩ := vLoad_ok hC hg (hfr a) h
    obtain ⟨vs, xs, h1, h2, h3, h4⟩ := vResults_ok hC hfr hg rs _ hk
    have hr' : (resOne tmps (.cell a t)).run C.P w = .ok rv w := by
      unfold Instr.loadAt Instr.sureAddr at hr
      cases hv : tmps.getD a undef <;> rw [hv] at hr
      case pointer p => cases p with
        | none => simp at hr
        | some p => simpa [resOne, hv, asAddr] using hr
      all_goals simp at hr
    refine ⟨rv :: vs, X :: xs, ?_, h2, by simp [h3], fun j x v hx hv => ?_⟩
    · rw [List.mapM_cons]
      rw [Sem.run_bind, hr']
      simp only [Sem.run_bind, Sem.run_pure, Result.andThen_ok]
      rw [show (rs.mapM (resOne tmps)).run C.P w = _ from h1]
      rfl
    · cases j with
      | zero => simp only [List.getElem?_cons_zero, Option.some.injEq] at hx hv; subst hx hv; exact hX
      | succ j => exact h4 j x v (by simpa using hx) (by simpa using hv)

theorem results_ok (hC : C.OK) {fn : Func} {fr : List (Nat × V)} {tmps : Array Value} (hfr : ∀ i, RV g w L (look fr i) (tmps.getD i undef)) (hg : Good g w L) {k : List V → Prop} (h : vResults C fr L fn.results.toList k) :
    ∃ v xs, (results fn tmps).run C.P w = .ok v w ∧ k xs ∧ RV g w L (resV xs) v := by
  obtain ⟨vs, xs, h1, h2, h3, h4⟩ := vResults_ok hC hfr hg _ k h
  have hrun : (results fn tmps).run C.P w = .ok (if h : vs.toArray.size = 1 then vs.toArray[0] else .tuple vs.toArray) w := by
    rw [results_eq, Array.mapM_eq_mapM_toList]
    simp only [Sem.run_bind, Sem.run_map, h1, Result.andThen_ok, Sem.run_pure]
  refine ⟨_, xs, hrun, h2, ?_⟩
  match xs, vs, h3, h4 with
  | [], [], _, _ => exact .tup [] #[] rfl (fun j x v h _ => by simp at h)
  | [x], [v], _, h4 => simpa [resV] using h4 0 x v rfl rfl
  | x :: y :: xs, v :: u :: vs, h3, h4 =>
    have e : (if h : (v :: u :: vs).toArray.size = 1 then (v :: u :: vs).toArray[0] else Value.tuple (v :: u :: vs).toArray) = .tuple (v :: u :: vs).toArray := by
      rw [dif_neg (by simp)]
    rw [e]
    exact .tup _ _ (by simpa using h3) (fun j x v hx hv => h4 j x v hx (by simpa using hv))

theorem marks_ok (hC : C.OK) {k0 : Nat} {fn : Func} {tmps : Array Value} {n : Nat} {R : Ending → World → Prop} {fr : List (Nat × V)} : ∀ (df : List Nat) (ds : List Deferred) (g : Gh) (w : World) (L : List Blk), ds.length = df.length →
    (∀ (i b : Nat) (d : Deferred), df[i]? = some b → ds[i]? = some d → ∃ q, g.m b = some q ∧ d = { target := .collected q, args := #[] } ∧ L[b]? = some .defr) → df.Nodup → (∀ b ∈ df, k0 ≤ b) →
    (∀ i, RV g w L (look fr i) (tmps.getD i undef)) → Good g w L → k0 ≤ L.length →
    (∀ (b : Nat) (l : LoopR), L[b]? = some (Blk.loop l) → l.df ∉ df) →
    (∀ g' w', (∀ i, RV g' w' (killAll df L) (look fr i) (tmps.getD i undef)) → Good g' w' (killAll df L) → Prog k0 g w L g' w' (killAll df L) → ∃ v, (results fn tmps).run C.P w' = .ok v w' ∧ R (.returned v) w') →
    LeavesInM Fence.wide n C.P fn tmps R ds .returning w
  | [], [], g, w, L, _, _, _, _, hfr, hg, _, _, hfin => by
    have := hfin g w hfr hg (Prog.refl _ _ _ _)
    simpa [LeavesInM, LeavesIn, killAll] using this
  | [], d :: ds, _, _, _, h, _, _, _, _, _, _, _, _ => by simp at h
  | b :: df, [], _, _, _, h, _, _, _, _, _, _, _, _ => by simp at h
  | b :: df, d :: ds, g, w, L, hlen, hds, hnd, hk, hfr, hg, hkl, hlp, hfin => by
    obtain ⟨q, h1, h2, h3⟩ := hds 0 b d rfl rfl
    subst h2
    obtain ⟨q', h4, h5⟩ := hg.blk b _ h3
    rw [h1] at h4; cases h4
    rw [List.nodup_cons] at hnd
    refine ⟨by simp, .inl ⟨q, _, rfl, run_takeDeferred h5, ?_⟩⟩
    have hbl := lt_of_get h3
    have hkb := hk b (by simp)
    -- the block for deferred calls is shut
    have hdead : (L.set b .dead)[b]? = some .dead := List.getElem?_set_self hbl
    have hother : ∀ b', b' ≠ b → (L.set b .dead)[b']? = L[b']? := fun b' e => List.getElem?_set_ne (Ne.symm e)
    have hown : owned g L q := ⟨b, ⟨_, h3, by simp⟩, h1⟩
    have hcell : ∀ (a : Addr) (v : Value), g.I a.block → w.cell? a = some v → (w.putObj q (.deferred none)).cell? a = some v := fun a v hI hc => by
      rw [World.cell?_of_block (w := w)]
      · exact hc
      · exact World.putObj_heap_other (fun e => hg.dis q hown (e ▸ hI))
    have hkeep : ∀ b', Keep g L g (L.set b .dead) b' := fun b' => by
      by_cases e : b' = b
      · subst e
        exact ⟨fun cs' e => (by rw [h3] at e; cases e), fun gen1 sz1 els1 e => (by rw [h3] at e; cases e), fun es e => (by rw [h3] at e; cases e), fun l e => (by rw [h3] at e; cases e), fun e => (by rw [h3] at e; cases e)⟩
      · exact Keep.same (hother b' e) rfl rfl
    have hmono : ∀ (x : V) (v : Value), RV g w L x v → RV g (w.putObj q (.deferred none)) (L.set b .dead) x v := fun x v hx =>
      RV.mono (g := g) (g' := g) (fun _ h => h) hcell (fun b' _ => hkeep b') hx.bel hx
    have hlive : ∀ b', live (L.set b .dead) b' → b' ≠ b ∧ live L b' := by
      rintro b' ⟨k, hk, hd⟩
      have : b' ≠ b := fun e => by rw [e, hdead] at hk; cases hk; exact hd rfl
      exact ⟨this, k, by rw [← hother b' this]; exact hk, hd⟩
    have hg' : Good g (w.putObj q (.deferred none)) (L.set b .dead) := by
      refine ⟨fun b1 b2 r l1 l2 => hg.inj b1 b2 r (hlive b1 l1).2 (hlive b2 l2).2, ?_, fun r hr => by simpa using hg.lt r hr, ?_, hg.gl.mono (fun _ h => h) hcell⟩
      · rintro r ⟨b1, l1, hm1⟩; exact hg.dis r ⟨b1, (hlive b1 l1).2, hm1⟩
      · intro b1 k hk1
        by_cases e : b1 = b
        · subst e; rw [hdead] at hk1; cases hk1; trivial
        · rw [hother b1 e] at hk1
          by_cases hd : k = .dead
          · subst hd; trivial
          · refine RB.mono' hmono rfl rfl (fun r o hm1 ho => ?_) (fun l hl => ?_) (hg.blk b1 k hk1)
            · rw [World.putObj_heap_other (fun e2 => e (hg.inj b1 b r ⟨k, hk1, hd⟩ ⟨_, h3, by simp⟩ hm1 (by rw [e2]; exact h1)))]; exact ho
            · subst hl
              have hne : l.df ≠ b := fun e2 => hlp b1 l hk1 (by rw [e2]; simp)
              exact ⟨rfl, fun h => by rw [hother _ hne]; exact h⟩
    have hp : Prog k0 g w L g (w.putObj q (.deferred none)) (L.set b .dead) := by
      refine ⟨⟨rfl, rfl, rfl⟩, by simp, fun r o ho hn => ?_, fun r ⟨b1, l1, hm1⟩ _ => ⟨b1, (hlive b1 l1).2, hm1⟩, fun r h => .inl h, fun r h => h, fun x v _ hx => hmono x v hx, fun b1 r hb1 hL1 hm1 => ⟨?_, hm1⟩, fun _ => by simpa using hkl⟩
      · rw [World.putObj_heap_other (fun e => hn (by rw [e]; exact hown))]; exact ho
      · rw [hother b1 (by omega)]; exact hL1
    refine marks_ok hC df ds g _ (L.set b .dead) (by simpa using hlen) (fun i b' d hb' hd' => ?_) hnd.2 (fun b' hb' => hk b' (by simp [hb'])) (fun i => hmono _ _ (hfr i)) hg' (by simpa using hkl) (fun b1 l hl => ?_) (fun g' w' f1 f2 f3 => hfin g' w' f1 f2 (hp.trans f3))
    · obtain ⟨q2, e1, e2, e3⟩ := hds (i + 1) b' d (by simpa using hb') (by simpa using hd')
      have : b' ≠ b := fun e => hnd.1 (by rw [← e]; exact List.mem_of_getElem? hb')
      exact ⟨q2, e1, e2, by rw [hother b' this]; exact e3⟩
    · by_cases e : b1 = b
      · subst e; rw [hdead] at hl; cases hl
      · rw [hother b1 e] at hl
        exact fun hmem => hlp b1 l hl (by simp [hmem])

theorem marks_pan {k0 : Nat} {fn : Func} {tmps : Array Value} {n : Nat} {R : Ending → World → Prop} {chain : List PanicEntry} {v : Value} {X : V} {g0 : Gh} {w0 : World} {L0 L' : List Blk} {g' : Gh} : ∀ (ds : List Deferred) (w : World), ds.Nodup →
    (∀ d ∈ ds, ∃ q, d = { target := .collected q, args := #[] } ∧ w.heap[q]? = some (.deferred (some [])) ∧ ¬ g'.I q ∧ ¬ owned g' L' q ∧ w0.heap.size ≤ q) → Good g0 w0 L0 → PanS C k0 g0 w0 L0 v X L' g' w →
    (∀ w', PanS C k0 g0 w0 L0 v X L' g' w' → R (.panicked chain) w') → LeavesInM Fence.wide n C.P fn tmps R ds (.panicking chain) w
  | [], w, _, _, _, hS, hfin => by simpa [LeavesInM, LeavesIn] using hfin w hS
  | d :: ds, w, hnd, hd, hg0, hS, hfin => by
    obtain ⟨q, rfl, h1, h2, h3, h4⟩ := hd d (by simp)
    rw [List.nodup_cons] at hnd
    refine ⟨by simp, .inl ⟨q, _, rfl, run_takeDeferred h1, ?_⟩⟩
    have hcell : ∀ (a : Addr) (v : Value), g'.I a.block → w.cell? a = some v → (w.putObj q (.deferred none)).cell? a = some v := fun a v hI hc => by
      rw [World.cell?_of_block (w := w)]
      · exact hc
      · exact World.putObj_heap_other (fun e => h2 (e ▸ hI))
    have hmono : ∀ (x : V) (v : Value), RV g' w L' x v → RV g' (w.putObj q (.deferred none)) L' x v := fun x v hx =>
      RV.mono (g := g') (g' := g') (fun _ h => h) hcell (fun b' _ => Keep.refl _ _ _) hx.bel hx
    have hgood : Good g' (w.putObj q (.deferred none)) L' := by
      refine ⟨hS.good.inj, hS.good.dis, fun r hr => by simpa using hS.good.lt r hr, fun b k hb => ?_, hS.good.gl.mono (fun _ h => h) hcell⟩
      by_cases hdead : k = .dead
      · subst hdead; trivial
      · refine RB.mono' hmono rfl rfl (fun r o hm ho => ?_) (fun l _ => ⟨rfl, fun h => h⟩) (hS.good.blk b k hb)
        rw [World.putObj_heap_other (fun e => h3 ⟨b, ⟨k, hb, hdead⟩, by rw [← e]; exact hm⟩)]; exact ho
    have hprog : Prog C.pn g0 w0 L0 g' (w.putObj q (.deferred none)) L' := by
      refine ⟨hS.prog.env, by simpa using hS.prog.size, fun r o ho hn => ?_, hS.prog.own, hS.prog.imm, hS.prog.immk, fun x v hb hx => hmono _ _ (hS.prog.mono x v hb hx), hS.prog.defr, hS.prog.len⟩
      have hr := (Array.getElem?_eq_some_iff.1 ho).1
      rw [World.putObj_heap_other (fun e => by omega)]
      exact hS.prog.kept r o ho hn
    refine marks_pan ds _ hnd.2 (fun d hd' => ?_) hg0 ⟨hS.pan, hS.hpn, hmono _ _ hS.rv, hgood, hprog, fun b p hb hL hm => ?_⟩ hfin
    · obtain ⟨p, e1, e2, e3, e4, e5⟩ := hd d (by simp [hd'])
      refine ⟨p, e1, ?_, e3, e4, e5⟩
      rw [World.putObj_heap_other (fun e => hnd.1 (by rw [← e, ← e1]; exact hd'))]; exact e2
    · obtain ⟨e1, e2⟩ := hS.df b p hb hL hm
      refine ⟨?_, e2⟩
      have hp := hg0.owned_lt ⟨b, ⟨_, hL, by simp⟩, hm⟩
      rw [World.putObj_heap_other (fun e => by omega)]; exact e1

def noLoop (L : List Blk) : Bool := L.all fun k => match k with | .loop _ => false | _ => true

def vEnd (C : Ctx) (k0 : Nat) (rs : List ResultVar) (k : V → List Blk → Prop) (e : Exit) (σ : TS) : Prop :=
  match e with
  | .normal | .ret => match σ.df with
    | [] => vRet C k0 rs σ k
    | _ => bif noLoop σ.L && σ.df.all (fun b => decide (k0 ≤ b)) && decide σ.df.Nodup then vRet C k0 rs σ k else False
  | _ => False

theorem calls_of_wpV {P : Program} {f : FuncId} {fn : Func} {c : Code} {args : Array Value} {R : Ending → World → Prop} (hf : P.funcs[f]? = some fn) (hb : fn.body = some c)
    (h : wpV none P c (bodyPostM Fence.wide 0 P fn R) { tmps := args ++ Array.replicate (fn.ntmps - args.size) undef, defers := [] } w) : Calls P f args w R := by
  intro cs
  obtain ⟨b, hbd⟩ : ∃ b : Frame, b = { (default : Frame) with fn := f, kind := .normal, roundOf := none } := ⟨_, rfl⟩
  have hbf : b.fn = f := by rw [hbd]
  have hbk : b.kind = .normal := by rw [hbd]
  have hbr : b.roundOf = none := by rw [hbd]
  have henter : Frame.enter P f args .normal = b.atR { tmps := args ++ Array.replicate (fn.ntmps - args.size) undef, defers := [] } [.code c] := by
    rw [hbd]; simp [Frame.enter, Frame.atR, hf, hb]
  obtain ⟨e, a', w', hq, hs⟩ := h b [] cs hbr ⟨fn, by rw [hbf]; exact hf⟩
  rw [← henter] at hs
  have go : ∀ (u : FrameMode) (todo : List Item), StepsIn (Machine.fenced P (Fx none)) P (lone (Frame.enter P f args .normal) cs w) (lone { b.atR a' todo with mode := u } cs w') → LeavesInM Fence.wide 0 P fn a'.tmps R a'.defers u w' →
      ∃ e w' fr, R e w' ∧ Comes P (lone (Frame.enter P f args .normal) cs w) (lone fr cs w') e ∧ fr.fn = f ∧ fr.leaving P w' e := by
    intro u todo s hl
    obtain ⟨e2, w2, fr2, hR, hs2, hfn, hlv⟩ := leaves_stepsInM a'.defers u w' { b.atR a' todo with mode := u } cs rfl rfl rfl (by simpa [Frame.atR, hbf] using hf) (by simpa [Frame.atR] using hbk) trivial (room_wide _) hl
    exact ⟨e2, w2, fr2, hR, Comes.of_steps s.steps hs2.comes, hfn.trans (by simpa [Frame.atR] using hbf), hlv⟩
  cases e with
  | normal => exact go .returning [] (StepsIn.trans hs (.one (fenced_Fx P _) (stepR_end hbr))) hq
  | ret => obtain ⟨todo, s⟩ := hs.1 hbr; exact go .returning todo s hq
  | panic ch => obtain ⟨todo, s⟩ := hs; exact go (.panicking ch) todo s hq
  | exit id => exact hq.elim
  | goto l => exact hq.elim
  | outgrown => exact ⟨.outgrown, w', b, hq, hs.resolve_left (by rw [hbk]; simp), hbf, trivial⟩

theorem callP_cut (cut : Code → Bool) {f : FuncId} {fn : Func} {c : Code} {args : List V} {k : V → List Blk → Prop} (hC : C.OK) (hf : C.P.funcs[f]? = some fn) (hb : fn.body = some c) (hname : (fn.name == "runtime.NumGoroutine") = false) {n : Nat} (hn : fn.ntmps = n) (ha : args.length ≤ n)
    {rs : List ResultVar} (hr : fn.results.toList = rs) (h : vc C cut L.length c ⟨initFr 0 args, n, L, [], none⟩ (vEnd C L.length rs k)) (hpn : C.pn ≤ L.length := by exact Nat.zero_le _) : CallP C f args L k := by
  unfold CallP
  refine ⟨⟨fn, hf, by rw [hb]; rfl, hname⟩, fun g w vs hg hv => ?_⟩
  refine calls_of_wpV hf hb ?_
  have hs : St L.length none g ⟨initFr 0 args, n, L, [], none⟩ { tmps := vs ++ Array.replicate (fn.ntmps - vs.size) undef, defers := [] } w := by
    refine ⟨?_, by rw [hn]; exact init_frame hv n, hg, Nat.le_refl _, rfl, fun i b d hb _ => (by simp at hb), fun lb h => (by cases h), fun _ => rfl⟩
    have := hv.1
    simp [hn]; omega
  have hwp := vc_ok (r := none) hC hpn c _ _ g _ w h hs
  refine wpV_mono hwp ?_
  rintro e a' w' ⟨⟨σ', g', hq, hs', hp⟩ | ⟨v, X, L', g', rfl, hS, hi⟩, hnew, -⟩
  rotate_left
  · refine marks_pan a'.defers w' (hnew.2 List.nodup_nil) (fun d hd => ?_) hg hS (fun w2 hS2 => .inr ⟨v, X, L', g', rfl, hS2⟩)
    obtain ⟨q, h1, h2, h3, h4⟩ := hi d hd
    refine ⟨q, h1, h2, h3, h4, ?_⟩
    rcases hnew.1 d hd with h5 | ⟨q', h5, h6⟩
    · simp at h5
    · rw [h1] at h5; cases h5; exact h6
  have fin : (e = .normal ∨ e = .ret) → LeavesInM Fence.wide 0 C.P fn a'.tmps (fun e w' => (∃ v X L' g', e = .returned v ∧ k X L' ∧ RV g' w' L' X v ∧ Good g' w' L' ∧ Prog L.length g w L g' w' L') ∨ PanO C g w L e w') a'.defers .returning w' := by
    intro he
    have key : vRet C L.length rs σ' k ∧ (σ'.df = [] ∨ noLoop σ'.L = true ∧ σ'.df.all (fun b => decide (L.length ≤ b)) = true ∧ σ'.df.Nodup) := by
      have hq' : match σ'.df with
        | [] => vRet C L.length rs σ' k
        | _ => bif noLoop σ'.L && σ'.df.all (fun b => decide (L.length ≤ b)) && decide σ'.df.Nodup then vRet C L.length rs σ' k else False := by
        rcases he with rfl | rfl <;> exact hq
      cases hd : σ'.df with
      | nil => rw [hd] at hq'; exact ⟨hq', .inl rfl⟩
      | cons b df =>
        rw [hd] at hq'
        simp only at hq'
        cases hc : (noLoop σ'.L && (b :: df).all (fun b => decide (L.length ≤ b)) && decide (b :: df).Nodup) with
        | false => rw [hc] at hq'; exact hq'.elim
        | true =>
          rw [hc] at hq'
          rw [Bool.and_eq_true, Bool.and_eq_true] at hc
          exact ⟨hq', .inr ⟨hc.1.1, hc.1.2, of_decide_eq_true hc.2⟩⟩
    obtain ⟨hret, hdfc⟩ := key
    refine marks_ok hC (k0 := L.length) σ'.df a'.defers g' w' σ'.L hs'.df hs'.dfs ?_ ?_ hs'.fr hs'.good hs'.k ?_ ?_
    · rcases hdfc with h | h
      · rw [h]; exact List.nodup_nil
      · exact h.2.2
    · rcases hdfc with h | h
      · rw [h]; simp
      · intro b hb
        have := h.2.1
        rw [List.all_eq_true] at this
        exact of_decide_eq_true (this b hb)
    · rcases hdfc with h | h
      · intro b l _; rw [h]; simp
      · intro b l hl
        have := h.1
        unfold noLoop at this
        rw [List.all_eq_true] at this
        have := this _ (List.mem_of_getElem? hl)
        simp at this
    · intro g2 w2 f1 f2 f3
      unfold vRet at hret
      rw [← hr] at hret
      obtain ⟨v, xs, r1, r2, r3⟩ := results_ok hC f1 f2 hret
      unfold FinP at r2
      obtain ⟨X', L', hW, hk⟩ := r2
      have hlen := (hp.trans f3).len (Nat.le_refl _)
      obtain ⟨g3, t1, t2, t3⟩ := hW g2 w2 v f2 hlen r3
      exact ⟨v, r1, .inl ⟨v, X', L', g3, rfl, hk, t2, t1, (hp.trans f3).trans t3⟩⟩
  cases e with
  | normal => exact fin (.inl rfl)
  | ret => exact fin (.inr rfl)
  | exit id => exact hq.elim
  | goto l => exact hq.elim
  | panic ch => exact hq.elim
  | outgrown => exact hq.elim

theorem callP_of {f : FuncId} {fn : Func} {c : Code} {args : List V} {k : V → List Blk → Prop} (hC : C.OK) (hf : C.P.funcs[f]? = some fn) (hb : fn.body = some c) (hname : (fn.name == "runtime.NumGoroutine") = false) {n : Nat} (hn : fn.ntmps = n) (ha : args.length ≤ n)
    {rs : List ResultVar} (hr : fn.results.toList = rs) (h : vc C (fun _ => false) L.length c ⟨initFr 0 args, n, L, [], none⟩ (vEnd C L.length rs k)) (hpn : C.pn ≤ L.length := by exact Nat.zero_le _) : CallP C f args L k := callP_cut _ hC hf hb hname hn ha hr h hpn

end
end Go.Tidy

/-
  The base layer: a call's contract under the empty memory holds under every memory.
-/
namespace Go.Tidy

mutual
def V.sh (n : Nat) : V → V
  | .own b g lo len => .own (b + n) g lo len
  | .ptr b off => .ptr (b + n) off
  | .eptr b g i off => .eptr (b + n) g i off
  | .map b => .map (b + n)
  | .yld b => .yld (b + n)
  | .fn f caps => .fn f (V.shL n caps)
  | .iface t x => .iface t (V.sh n x)
  | .agg cs => .agg (V.shL n cs)
  | .tup cs => .tup (V.shL n cs)
  | .poison => .poison
  | .tt => .tt
  | .ff => .ff
  | .d x => .d x
  | .nil => .nil
  | .glob k => .glob k
def V.shL (n : Nat) : List V → List V
  | [] => []
  | x :: r => V.sh n x :: V.shL n r
end

def shF (n : Nat) : List (Nat × V) → List (Nat × V)
  | [] => []
  | p :: r => (p.1, p.2.sh n) :: shF n r
def shM (n : Nat) : List (V × V) → List (V × V)
  | [] => []
  | p :: r => (p.1.sh n, p.2.sh n) :: shM n r
def shR (n : Nat) : List (List V) → List (List V)
  | [] => []
  | p :: r => V.shL n p :: shR n r
def Blk.sh (n : Nat) : Blk → Blk
  | .cells cs => .cells (V.shL n cs)
  | .row g sz els => .row g sz (shR n els)
  | .map es => .map (shM n es)
  | .loop l => .loop { l with fr := shF n l.fr, df := l.df + n }
  | .defr => .defr
  | .dead => .dead
def shB (n : Nat) : List Blk → List Blk
  | [] => []
  | p :: r => p.sh n :: shB n r

theorem V.shL_get (n : Nat) : ∀ (cs : List V) (j : Nat), (V.shL n cs)[j]? = (cs[j]?).map (V.sh n)
  | [], j => by simp [V.shL]
  | x :: r, 0 => by simp [V.shL]
  | x :: r, j + 1 => by simp [V.shL, V.shL_get n r j]
theorem V.shL_len (n : Nat) : ∀ (cs : List V), (V.shL n cs).length = cs.length
  | [] => rfl
  | x :: r => by simp [V.shL, V.shL_len n r]
theorem shB_get (n : Nat) : ∀ (cs : List Blk) (j : Nat), (shB n cs)[j]? = (cs[j]?).map (Blk.sh n)
  | [], j => by simp [shB]
  | x :: r, 0 => by simp [shB]
  | x :: r, j + 1 => by simp [shB, shB_get n r j]
theorem shM_get (n : Nat) : ∀ (cs : List (V × V)) (j : Nat), (shM n cs)[j]? = (cs[j]?).map fun p => (p.1.sh n, p.2.sh n)
  | [], j => by simp [shM]
  | x :: r, 0 => by simp [shM]
  | x :: r, j + 1 => by simp [shM, shM_get n r j]
theorem shM_len (n : Nat) : ∀ (cs : List (V × V)), (shM n cs).length = cs.length
  | [] => rfl
  | x :: r => by simp [shM, shM_len n r]
theorem shR_get (n : Nat) : ∀ (cs : List (List V)) (j : Nat), (shR n cs)[j]? = (cs[j]?).map (V.shL n)
  | [], j => by simp [shR]
  | x :: r, 0 => by simp [shR]
  | x :: r, j + 1 => by simp [shR, shR_get n r j]
theorem shR_len (n : Nat) : ∀ (cs : List (List V)), (shR n cs).length = cs.length
  | [] => rfl
  | x :: r => by simp [shR, shR_len n r]
theorem shF_look (n : Nat) : ∀ (fr : List (Nat × V)) (i : Nat), look (shF n fr) i = (look fr i).sh n
  | [], i => by simp [shF, look, V.sh]
  | p :: r, i => by
    simp only [shF, look]
    cases Nat.beq p.1 i
    · simpa using shF_look n r i
    · rfl

def Gh.join (g : Gh) (n : Nat) (g1 : Gh) : Gh :=
  { I := g1.I, m := fun b => if b < n then g.m b else g1.m (b - n), cap := fun b => if b < n then g.cap b else g1.cap (b - n) }

section
variable {C : Ctx} {g g1 : Gh} {w : World} {L L1 : List Blk}

theorem join_m (b : Nat) : (g.join L.length g1).m (b + L.length) = g1.m b := by
  simp only [Gh.join, Nat.add_sub_cancel, if_neg (Nat.not_lt.2 (Nat.le_add_left L.length b))]
theorem join_cap (b : Nat) : (g.join L.length g1).cap (b + L.length) = g1.cap b := by
  simp only [Gh.join, Nat.add_sub_cancel, if_neg (Nat.not_lt.2 (Nat.le_add_left L.length b))]
theorem join_get {k : Blk} {b : Nat} (h : L1[b]? = some k) : (L ++ shB L.length L1)[b + L.length]? = some (k.sh L.length) := by
  rw [List.getElem?_append_right (by omega), Nat.add_sub_cancel, shB_get, h]; rfl

theorem RV.sh {x : V} {v : Value} (h : RV g1 w L1 x v) : RV (g.join L.length g1) w (L ++ shB L.length L1) (x.sh L.length) v := by
  induction h with
  | poison v => exact .poison v
  | tt => exact .tt
  | ff => exact .ff
  | d x v h => exact .d x v h
  | nil => exact .nil
  | ptr b off r cs hL hm => exact .ptr _ off r _ (join_get hL) ((join_m b).trans hm)
  | ptrX b off a hL => exact .ptrX _ off a (join_get hL)
  | own b gen lo len sz r o c els hL hm ho hcap hlc hle =>
    exact .own _ gen lo len sz r o c _ (join_get hL) ((join_m b).trans hm) ho (by rw [join_cap]; exact hcap) hlc (by rw [shR_len]; exact hle)
  | ownN b gen sz els hL hm => exact .ownN _ gen sz _ (join_get hL) ((join_m b).trans hm)
  | ownO b gen gen1 sz lo len els a n c hL hg0 => exact .ownO _ gen gen1 sz lo len _ _ _ _ (join_get hL) hg0
  | ownX b gen lo len a n c hL => exact .ownX _ gen lo len a n c (join_get hL)
  | eptr b gen i off sz r els hL hm => exact .eptr _ gen i off sz r _ (join_get hL) ((join_m b).trans hm)
  | eptrO b gen gen1 sz i off els a hL hg0 => exact .eptrO _ gen gen1 sz i off _ _ (join_get hL) hg0
  | eptrX b gen i off a hL => exact .eptrX _ gen i off a (join_get hL)
  | map b r es hL hm => exact .map _ r _ (join_get hL) ((join_m b).trans hm)
  | mapX b a hL => exact .mapX _ a (join_get hL)
  | yld b r l hL hm => exact .yld _ r _ (join_get hL) ((join_m b).trans hm)
  | yldX b r hL => exact .yldX _ r (join_get hL)
  | fn f caps vs hlen _ ih =>
    refine .fn f _ vs (by rw [V.shL_len]; exact hlen) fun j x v h1 h2 => ?_
    rw [V.shL_get] at h1
    cases e : caps[j]? with
    | none => rw [e] at h1; cases h1
    | some y => rw [e] at h1; cases h1; exact ih j y v e h2
  | iface t x v _ ih => exact .iface t _ v ih
  | agg cs vs hlen hone _ ih =>
    refine .agg _ vs (by rw [V.shL_len]; exact hlen) hone fun j x v h1 h2 => ?_
    rw [V.shL_get] at h1
    cases e : cs[j]? with
    | none => rw [e] at h1; cases h1
    | some y => rw [e] at h1; cases h1; exact ih j y v e h2
  | tup cs vs hlen _ ih =>
    refine .tup _ vs (by rw [V.shL_len]; exact hlen) fun j x v h1 h2 => ?_
    rw [V.shL_get] at h1
    cases e : cs[j]? with
    | none => rw [e] at h1; cases h1
    | some y => rw [e] at h1; cases h1; exact ih j y v e h2
  | glob k => exact .glob k

theorem RB.sh {b : Nat} {k : Blk} (h : RB g1 w L1 b k) : RB (g.join L.length g1) w (L ++ shB L.length L1) (b + L.length) (k.sh L.length) := by
  cases k with
  | cells cs =>
    obtain ⟨r, cur, T, h1, h2, h3, h4, h5⟩ := h
    refine ⟨r, cur, T, (join_m b).trans h1, h2, by rw [V.shL_len]; exact h3, h4, fun i x v hx hv => ?_⟩
    rw [V.shL_get] at hx
    cases e : cs[i]? with
    | none => rw [e] at hx; cases hx
    | some y => rw [e] at hx; cases hx; exact (h5 i y v e hv).sh
  | row gen sz els =>
    obtain ⟨h0, h1, hh⟩ := h
    refine ⟨h0, fun e he => ?_, ?_⟩
    · obtain ⟨i, hi⟩ := List.mem_iff_getElem?.1 he
      rw [shR_get] at hi
      cases e1 : els[i]? with
      | none => rw [e1] at hi; cases hi
      | some y => rw [e1] at hi; cases hi; rw [V.shL_len]; exact h1 y (List.mem_of_getElem? e1)
    · rcases hh with ⟨h2, h3⟩ | ⟨r, cur, T, h2, h3, h4, h5, h6, h7⟩
      · exact .inl ⟨(join_m b).trans h2, by rw [h3]; rfl⟩
      · refine .inr ⟨r, cur, T, (join_m b).trans h2, h3, by rw [join_cap]; exact h4, by rw [shR_len]; exact h5, h6, fun i j x v hx hv => ?_⟩
        rw [shR_get] at hx
        cases e1 : els[i]? with
        | none => rw [e1] at hx; cases hx
        | some y =>
          rw [e1] at hx
          simp only [Option.map_some, Option.bind_some] at hx
          rw [V.shL_get] at hx
          cases e2 : y[j]? with
          | none => rw [e2] at hx; cases hx
          | some z => rw [e2] at hx; cases hx; exact (h7 i j z v (by rw [e1]; exact e2) hv).sh
  | map es =>
    obtain ⟨r, ents, clock, h1, h2, h3, h4⟩ := h
    refine ⟨r, ents, clock, (join_m b).trans h1, h2, by rw [shM_len]; exact h3, fun i x e hx he => ?_⟩
    rw [shM_get] at hx
    cases e1 : es[i]? with
    | none => rw [e1] at hx; cases hx
    | some y => rw [e1] at hx; cases hx; exact ⟨(h4 i y e e1 he).1.sh, (h4 i y e e1 he).2.sh⟩
  | loop l =>
    obtain ⟨r, rec, h1, h2, h3, h4, h5, h6, h7, h8, h9, h10, h11⟩ := h
    exact ⟨r, rec, (join_m b).trans h1, h2, h3, h4, h5, h6, h7, h8, fun i => by rw [show (LoopR.fr _) = shF L.length l.fr from rfl, shF_look]; exact (h9 i).sh, (join_m _).trans h10, join_get h11.1, h11.2⟩
  | defr =>
    obtain ⟨r, h1, h2⟩ := h
    exact ⟨r, (join_m b).trans h1, h2⟩
  | dead => trivial

theorem join_live {b : Nat} (h : live (L ++ shB L.length L1) b) : (b < L.length ∧ live L b) ∨ ∃ c, b = c + L.length ∧ live L1 c := by
  obtain ⟨k, hk, hd⟩ := h
  rcases Nat.lt_or_ge b L.length with hb | hb
  · rw [List.getElem?_append_left hb] at hk
    exact .inl ⟨hb, k, hk, hd⟩
  · rw [List.getElem?_append_right hb, shB_get] at hk
    refine .inr ⟨b - L.length, by omega, ?_⟩
    cases e : L1[b - L.length]? with
    | none => rw [e] at hk; cases hk
    | some y =>
      rw [e] at hk; cases hk
      refine ⟨y, e, fun hy => hd ?_⟩
      subst hy; rfl

theorem join_old {b : Nat} (hb : b < L.length) : (g.join L.length g1).m b = g.m b := by simp [Gh.join, hb]

theorem frame_ok {w0 : World} (hg : Good g w0 L) (hg1 : Good g1 w L1) (hp : Prog 0 { I := g.I, m := fun _ => none, cap := fun _ => 0 } w0 [] g1 w L1) :
    Good (g.join L.length g1) w (L ++ shB L.length L1) ∧ Prog L.length g w0 L (g.join L.length g1) w (L ++ shB L.length L1) := by
  have no : ∀ (g' : Gh) q, ¬ owned g' ([] : List Blk) q := fun g' q ⟨b, ⟨k, hk, _⟩, _⟩ => by simp at hk
  have heap : ∀ (q : Nat) (o : Obj), w0.heap[q]? = some o → w.heap[q]? = some o := fun q o h => hp.kept q o h (no _ q)
  have new : ∀ q, owned g1 L1 q → w0.heap.size ≤ q := fun q ho => Nat.le_of_not_lt fun hl => no _ q (hp.own q ho hl)
  have cells : ∀ (a : Addr) (v : Value), g.I a.block → w0.cell? a = some v → w.cell? a = some v := by
    intro a v hI hc
    have hlt := hg.lt _ hI
    have hh := heap a.block (w0.heap[a.block]) (Array.getElem?_eq_getElem hlt)
    rw [World.cell?_of_block (w := w0) (w' := w) (by rw [hh, Array.getElem?_eq_getElem hlt])]
    exact hc
  have mono : ∀ (x : V) (v : Value), RV g w0 L x v → RV (g.join L.length g1) w (L ++ shB L.length L1) x v := fun x v h =>
    RV.mono (g := g) (g' := g.join L.length g1) (fun q hq => hp.immk q hq) cells (fun b hb => Keep.same (List.getElem?_append_left hb) (join_old hb) (by simp [Gh.join, hb])) h.bel h
  have imm : ∀ q, g1.I q → g.I q ∨ w0.heap.size ≤ q := fun q hq => by
    rcases hp.imm q hq with h | h | h
    · exact .inl h
    · exact .inr h
    · exact absurd h (no _ q)
  refine ⟨⟨?_, ?_, ?_, ?_, hg1.gl⟩, ?_⟩
  · intro b b' q h1 h2 hm1 hm2
    rcases join_live h1 with ⟨hb, hl⟩ | ⟨c, rfl, hl⟩ <;> rcases join_live h2 with ⟨hb', hl'⟩ | ⟨c', rfl, hl'⟩
    · rw [join_old hb] at hm1; rw [join_old hb'] at hm2
      exact hg.inj b b' q hl hl' hm1 hm2
    · rw [join_old hb] at hm1; rw [join_m] at hm2
      have := hg.owned_lt ⟨b, hl, hm1⟩
      have := new q ⟨c', hl', hm2⟩
      omega
    · rw [join_old hb'] at hm2; rw [join_m] at hm1
      have := hg.owned_lt ⟨b', hl', hm2⟩
      have := new q ⟨c, hl, hm1⟩
      omega
    · rw [join_m] at hm1 hm2
      rw [hg1.inj c c' q hl hl' hm1 hm2]
  · rintro q ⟨b, hl, hm⟩ hq
    rcases join_live hl with ⟨hb, hl⟩ | ⟨c, rfl, hl'⟩
    · rw [join_old hb] at hm
      rcases imm q hq with h | h
      · exact hg.dis q ⟨b, hl, hm⟩ h
      · have := hg.owned_lt ⟨b, hl, hm⟩; omega
    · rw [join_m] at hm
      exact hg1.dis q ⟨c, hl', hm⟩ hq
  · exact fun q hq => hg1.lt q hq
  · intro b k hk
    rcases Nat.lt_or_ge b L.length with hb | hb
    · rw [List.getElem?_append_left hb] at hk
      refine RB.mono' mono (join_old hb) (by simp [Gh.join, hb]) (fun q o _ ho => heap q o ho) (fun l hl => ?_) (hg.blk b k hk)
      subst hl
      obtain ⟨_, _, _, _, _, _, _, _, _, _, _, _, hdf, _⟩ := hg.blk b _ hk
      have := lt_of_get hdf
      exact ⟨join_old this, fun h => by rw [List.getElem?_append_left this]; exact h⟩
    · rw [List.getElem?_append_right hb, shB_get] at hk
      cases e : L1[b - L.length]? with
      | none => rw [e] at hk; cases hk
      | some y =>
        rw [e] at hk; cases hk
        have := (hg1.blk _ y e).sh (g := g) (L := L)
        rwa [Nat.sub_add_cancel hb] at this
  · refine ⟨hp.env, hp.size, fun q o h _ => heap q o h, ?_, fun q hq => (imm q hq).imp_right .inl, hp.immk, fun x v _ h => mono x v h, ?_, fun _ => by simp⟩
    · rintro q ⟨b, hl, hm⟩ hlt
      rcases join_live hl with ⟨hb, hl⟩ | ⟨c, rfl, hl'⟩
      · rw [join_old hb] at hm; exact ⟨b, hl, hm⟩
      · rw [join_m] at hm
        have := new q ⟨c, hl', hm⟩; omega
    · intro b q hb hL hm
      exact ⟨by rw [List.getElem?_append_left hb]; exact hL, by rw [join_old hb]; exact hm⟩

theorem CallP.frame {f : FuncId} {args : List V} {q k : V → List Blk → Prop} (h : CallP C f args [] q) (ha : V.belL 0 args = true)
    (hk : ∀ X L', q X L' → k (X.sh L.length) (L ++ shB L.length L')) : CallP C f args L k := by
  have no : ∀ (g' : Gh) q, ¬ owned g' ([] : List Blk) q := fun g' q ⟨b, ⟨k, hk, _⟩, _⟩ => by simp at hk
  unfold CallP at h ⊢
  refine ⟨h.1, fun g w vs hg hv => (h.2 { I := g.I, m := fun _ => none, cap := fun _ => 0 } w vs ⟨?_, ?_, ?_, ?_, hg.gl⟩ ?_).mono ?_⟩
  · rintro b b' r ⟨k, hk, _⟩; simp at hk
  · rintro r ⟨b, ⟨k, hk, _⟩, _⟩; simp at hk
  · exact hg.lt
  · intro b k hk; simp at hk
  · refine ⟨hv.1, fun j x v hx hvj => ?_⟩
    exact RV.mono (g := g) (g' := { I := g.I, m := fun _ => none, cap := fun _ => 0 }) (L := L) (k := 0) (fun r h => h) (fun a v _ h => h) (fun b hb => absurd hb (Nat.not_lt_zero _)) (V.belL_get ha hx) (hv.2 j x v hx hvj)
  · rintro e w' (⟨v, X, L1, g1, he, hX, hr, hg1, hp⟩ | ⟨v, X, L1, g1, he, hS⟩)
    · obtain ⟨h1, h2⟩ := frame_ok hg hg1 hp
      exact .inl ⟨v, _, _, _, he, hk X L1 hX, hr.sh, h1, h2⟩
    · have hn : C.pn = 0 := Nat.le_zero.1 hS.hpn
      have hp := hS.prog
      rw [hn] at hp
      have imm : ∀ r, g1.I r → g.I r ∨ w.heap.size ≤ r := fun r hr => by
        rcases hp.imm r hr with h | h | h
        · exact .inl h
        · exact .inr h
        · exact absurd h (no _ _)
      refine .inr ⟨v, X, L1, g1, he, hS.pan, by omega, hS.rv, hS.good, ?_, fun b q hb hL hm => ?_⟩
      · rw [hn]
        refine ⟨hp.env, hp.size, fun r o ho _ => hp.kept r o ho (no _ _), fun r hr hs => absurd (hp.own r hr hs) (no _ _), fun r hr => (imm r hr).imp_right .inl, hp.immk, fun x v hb hx => hp.mono x v hb ?_, fun b r hb => absurd hb (Nat.not_lt_zero _), fun _ => Nat.zero_le _⟩
        exact RV.mono (g := g) (g' := { I := g.I, m := fun _ => none, cap := fun _ => 0 }) (L := L) (k := 0) (fun r h => h) (fun a v _ h => h) (fun b hb => absurd hb (Nat.not_lt_zero _)) hb hx
      · have hlive : live L b := ⟨_, hL, by simp⟩
        have hlt := hg.owned_lt ⟨b, hlive, hm⟩
        obtain ⟨q', h1, h2⟩ := hg.blk b _ hL
        rw [hm] at h1; cases h1
        refine ⟨hp.kept q _ h2 (no _ _), fun hI => ?_, fun ho => no _ _ (hp.own q ho hlt)⟩
        rcases imm q hI with h3 | h3
        · exact hg.dis q ⟨b, hlive, hm⟩ h3
        · omega
end
end Go.Tidy
