/-
  The base layer: arithmetic, comparison, composite values.
-/
import Derived.Test.YtnkfifkgbkgcjaaTidyD
namespace Go.Tidy

section
variable {C : Ctx} {g : Gh} {w : World} {L : List Blk}

/-! ### Equality of values -/
def vEq (C : Ctx) : Nat → TypeId → V → V → Option Bool
  | 0, _, _, _ => none
  | f + 1, t, x, y =>
    match C.tt t with
    | none => none
    | some ti =>
      match ti.k, x, y with
      | .int _, .d (.int k a), .d (.int k' b) => bif decide (k = k') then some (decide (a = b)) else none
      | .bool, .d (.bool a), .d (.bool b) => some (a == b)
      | .str, .d (.str a), .d (.str b) => some (a.toList == b.toList)
      | .struct fs, .agg xs, .agg ys => bif ti.eqok then fs.foldr (fun p acc =>
          match C.tt p.2 with
          | none => none
          | some fi => match cut fi xs p.1, cut fi ys p.1 with
            | some x', some y' => match vEq C f p.2 x' y', acc with
              | some b, some c => some (b && c)
              | _, _ => none
            | _, _ => none) (some true) else none
      | _, _, _ => none

theorem fieldsOf_eq {P : Program} {t : TypeId} {fields : Array Field} (h : P.underlying t = some (.struct fields)) : P.fieldsOf t = fields := by simp [Program.fieldsOf, h]

theorem vEq_ok (hC : C.OK) : ∀ (f d : Nat) (t : TypeId) (x y : V) (v u : Value) (b : Bool), f ≤ d → RV g w L x v → RV g w L y u → vEq C f t x y = some b → (Op.equalIn d t v u).run C.P w = .ok b w
  | 0, d, t, x, y, v, u, b, _, _, _, h => by simp [vEq] at h
  | f + 1, 0, t, x, y, v, u, b, hd, _, _, h => by omega
  | f + 1, d + 1, t, x, y, v, u, b, hd, hx, hy, h => by
    unfold vEq at h
    cases ht : C.tt t with
    | none => simp [ht] at h
    | some ti =>
    simp only [ht] at h
    have hT := hC t ti ht
    split at h
    · rename_i k0 k a k' b' hk
      cases hd' : decide (k = k') with
      | false => simp [hd'] at h
      | true =>
      simp only [hd', cond_true, Option.some.injEq] at h
      have hkk := of_decide_eq_true hd'
      subst hkk h
      cases hx with | d _ _ hx => cases hx; cases hy with | d _ _ hy =>
      cases hy
      rw [run_equalIn_int w d t k k0 a b' (hT.intK hk)]
      congr 1
    · rename_i a b' hk
      simp only [Option.some.injEq] at h
      subst h
      cases hx with | d _ _ hx => cases hx; cases hy with | d _ _ hy =>
      cases hy
      exact run_equalIn_bool' w d t a b' (hT.boolK hk)
    · rename_i a b' hk
      simp only [Option.some.injEq] at h
      subst h
      cases hx with | d _ _ hx => cases hx; cases hy with | d _ _ hy =>
      cases hy
      exact run_equalIn_string w d t a b' (hT.strK hk)
    · rename_i fs xs ys hk
      cases he : ti.eqok with
      | false => simp [he] at h
      | true =>
      simp only [he, cond_true] at h
      obtain ⟨fields, hu, hfs, hnames⟩ := hT.struct hk
      cases hx with | agg _ vs hl ho hr => cases hy with | agg _ us hl' ho' hr' =>
      rw [run_equalIn_struct w d t vs us (by rw [fieldsOf_eq hu]; exact hu) (hT.eqok he).2, fieldsOf_eq hu]
      subst hfs
      clear hu hk
      have hx : RV g w L (.agg xs) (.agg vs) := .agg xs vs hl ho hr
      have hy : RV g w L (.agg ys) (.agg us) := .agg ys us hl' ho' hr'
      generalize fields.toList = fl at h hnames
      induction fl generalizing b with
      | nil => simp at h; subst h; simp [Op.eqFields]
      | cons fld rest ih =>
        simp only [List.map_cons, List.foldr_cons] at h
        simp only [List.all_cons, Bool.and_eq_true] at hnames
        cases hf : C.tt fld.type with
        | none => simp [hf] at h
        | some fi =>
        simp only [hf] at h
        have hF := hC _ fi hf
        cases hcx : cut fi xs fld.offset with
        | none => simp [hcx] at h
        | some x' =>
        cases hcy : cut fi ys fld.offset with
        | none => simp [hcx, hcy] at h
        | some y' =>
        simp only [hcx, hcy] at h
        cases hv : vEq C f fld.type x' y' with
        | none => simp [hv] at h
        | some b1 =>
        simp only [hv] at h
        split at h
        · rename_i b2 c e1 e2
          simp only [Option.some.injEq] at e1 h
          subst e1 h
          obtain ⟨r1, hr1, hR1⟩ := part_ok hF hx hcx
          obtain ⟨r2, hr2, hR2⟩ := part_ok hF hy hcy
          have h3 := vEq_ok hC f d fld.type x' y' r1 r2 b1 (by omega) hR1 hR2 hv
          have hn : fld.name ≠ "_" := by simpa using hnames.1
          simp only [Op.eqFields, Sem.run_bind, hr1, hr2, h3, Result.andThen_ok, hn, ne_eq, not_false_eq_true, if_true, Sem.run_ite]
          cases b1 with
          | false => simp
          | true =>
            simp only [Bool.not_true, Bool.false_eq_true, if_false, Bool.true_and]
            exact ih c e2 hnames.2
        · simp at h
    · simp at h

/-! ### Operators -/
def intBin (op : BinOp) (k : IntKind) (x y : Int) (c : V → Prop) : Prop :=
  match op with
  | .add => c (.d (.int k (k.wrap (x + y))))
  | .sub => c (.d (.int k (k.wrap (x - y))))
  | .mul => c (.d (.int k (k.wrap (x * y))))
  | .eql => c (.d (.bool (decide (x = y))))
  | .neq => c (.d (.bool (!decide (x = y))))
  | .lss => c (.d (.bool (decide (x < y))))
  | .leq => c (.d (.bool (decide (x ≤ y))))
  | .gtr => c (.d (.bool (decide (y < x))))
  | .geq => c (.d (.bool (decide (y ≤ x))))
  | .quo => Need (y ≠ 0) (c (.d (.int k (k.wrap (x.tdiv y)))))
  | .rem => Need (y ≠ 0) (c (.d (.int k (x.tmod y))))
  | _ => False

def strBin (op : BinOp) (x y : ByteArray) (c : V → Prop) : Prop :=
  match op with
  | .eql => c (.d (.bool (x.toList == y.toList)))
  | .neq => c (.d (.bool (!(x.toList == y.toList))))
  | .lss => c (.d (.bool (Op.bytesLess x.toList y.toList)))
  | .leq => c (.d (.bool (Op.bytesLess x.toList y.toList || x.toList == y.toList)))
  | .gtr => c (.d (.bool (!(Op.bytesLess x.toList y.toList || x.toList == y.toList))))
  | .geq => c (.d (.bool (!Op.bytesLess x.toList y.toList)))
  | _ => False

def vBin (C : Ctx) (op : BinOp) (t : TypeId) (x y : V) (c : V → Prop) : Prop :=
  match x, y with
  | .d (.int k a), .d (.int k' b) => bif decide (k = k') then intBin op k a b c else False
  | .d (.str a), .d (.str b) => strBin op a b c
  | .d (.bool _), .d (.bool _) => match op with
    | .eql => match vEq C 8 t x y with | some b => c (.d (.bool b)) | none => False
    | .neq => match vEq C 8 t x y with | some b => c (.d (.bool (!b))) | none => False
    | _ => False
  | .agg _, .agg _ => match C.tt t with
    | some ti => bif ti.eqok then match op with
      | .eql => match vEq C 8 t x y with | some b => c (.d (.bool b)) | none => False
      | .neq => match vEq C 8 t x y with | some b => c (.d (.bool (!b))) | none => False
      | _ => False
      else False
    | none => False
  | _, _ => False

theorem vBin_ok (hC : C.OK) {op : BinOp} {t : TypeId} {x y : V} {v u : Value} (hx : RV g w L x v) (hy : RV g w L y u) (ox oy : Operand) {c : V → Prop} (h : vBin C op t x y c) :
    ∃ r X, (do eqGuard op t ox oy v u; binOp op t v u : Sem Value).run C.P w = .ok r w ∧ c X ∧ RV g w L X r := by
  have hd : ∀ {x : D} {v : Value}, RD g.I w x v → RV g w L (.d x) v := fun h => .d _ _ h
  unfold vBin at h
  split at h
  · rename_i k a k' b
    cases hk : decide (k = k') with
    | false => simp [hk] at h
    | true =>
    simp only [hk, cond_true] at h
    have hkk := of_decide_eq_true hk
    subst hkk
    cases hx with | d _ _ hx => cases hx; cases hy with | d _ _ hy =>
    cases hy
    simp only [eqGuard_at_int, Sem.run_bind, Sem.run_pure, Result.andThen_ok]
    unfold intBin at h
    cases op <;> simp only at h <;> first
      | exact h.elim
      | exact ⟨_, _, by simp [binOp, Op.intArith], h, hd (.int _ _)⟩
      | exact ⟨_, _, by simp [binOp, Op.intCmp, bne] <;> rfl, h, hd (.bool _)⟩
      | (obtain ⟨h0, h⟩ := h.out
         exact ⟨_, _, by simp [binOp, Op.intDiv, h0], h, hd (.int _ _)⟩)
  · rename_i a b
    cases hx with | d _ _ hx => cases hx; cases hy with | d _ _ hy =>
    cases hy
    simp only [eqGuard_at_string, Sem.run_bind, Sem.run_pure, Result.andThen_ok]
    unfold strBin at h
    cases op <;> simp only at h <;> first
      | exact h.elim
      | exact ⟨_, _, by simp [binOp, Op.stringOp], h, hd (.bool _)⟩
  · rename_i a b
    have hx' := hx; have hy' := hy
    cases hx with | d _ _ hx => cases hx; cases hy with | d _ _ hy =>
    cases hy
    simp only [eqGuard_at_bool, Sem.run_bind, Sem.run_pure, Result.andThen_ok]
    split at h
    · split at h
      · rename_i b' hb
        have := vEq_ok (L := L) hC 8 Op.maxDepth t _ _ _ _ b' (by decide) hx' hy' hb
        exact ⟨_, _, by simp [binOp, Op.equal, this], h, hd (.bool _)⟩
      · exact h.elim
    · split at h
      · rename_i b' hb
        have := vEq_ok (L := L) hC 8 Op.maxDepth t _ _ _ _ b' (by decide) hx' hy' hb
        exact ⟨_, _, by simp [binOp, Op.equal, this], h, hd (.bool _)⟩
      · exact h.elim
    · exact h.elim
  · rename_i xs ys
    cases ht : C.tt t with
    | none => simp [ht] at h
    | some ti =>
    simp only [ht] at h
    cases he : ti.eqok with
    | false => simp [he] at h
    | true =>
    simp only [he, cond_true] at h
    have hx' := hx; have hy' := hy
    cases hx with | agg _ vs hl ho hr => cases hy with | agg _ us hl' ho' hr' =>
    have hG : ∀ op, (eqGuard op t ox oy (.agg vs) (.agg us)).run C.P w = .ok () w := fun op => by
      cases op <;> simp [eqGuard, ((hC t ti ht).eqok he).1]
    simp only [Sem.run_bind, hG, Result.andThen_ok]
    split at h
    · split at h
      · rename_i b' hb
        have := vEq_ok (L := L) hC 8 Op.maxDepth t _ _ _ _ b' (by decide) hx' hy' hb
        exact ⟨_, _, by simp [binOp, Op.equal, this], h, hd (.bool _)⟩
      · exact h.elim
    · split at h
      · rename_i b' hb
        have := vEq_ok (L := L) hC 8 Op.maxDepth t _ _ _ _ b' (by decide) hx' hy' hb
        exact ⟨_, _, by simp [binOp, Op.equal, this], h, hd (.bool _)⟩
      · exact h.elim
    · exact h.elim
  · exact h.elim

def vUn (op : UnOp) (x : V) (c : V → Prop) : Prop :=
  match op, x with
  | .neg, .d (.int k n) => c (.d (.int k (k.wrap (0 - n))))
  | .not, .d (.bool b) => c (.d (.bool (!b)))
  | .not, .tt => c .ff
  | .not, .ff => c .tt
  | _, _ => False

theorem vUn_ok {op : UnOp} {x : V} {v : Value} (hx : RV g w L x v) {c : V → Prop} (h : vUn op x c) : ∃ r X, (Op.unary op v).run C.P w = .ok r w ∧ c X ∧ RV g w L X r := by
  unfold vUn at h
  split at h
  · cases hx with | d _ _ hx => cases hx; exact ⟨_, _, by simp [Op.unary, Op.intArith], h, .d _ _ (.int _ _)⟩
  · cases hx with | d _ _ hx => cases hx; exact ⟨_, _, by simp [Op.unary], h, .d _ _ (.bool _)⟩
  · cases hx; exact ⟨.bool false, _, by simp [Op.unary], h, .ff⟩
  · cases hx; exact ⟨.bool true, _, by simp [Op.unary], h, .tt⟩
  · exact h.elim

/-! ### Composite values -/
theorem foldl_set_list (vs : List Value) : ∀ (off i : Nat) (cells : Array Value), off + i + vs.length ≤ cells.size →
    ((vs.zipIdx i).foldl (fun cs (c, j) => cs.setIfInBounds (off + j) c) cells).toList = cells.toList.take (off + i) ++ vs ++ cells.toList.drop (off + i + vs.length) := by
  induction vs with
  | nil => intro off i cells _; simp
  | cons v rest ih =>
    intro off i cells h
    simp only [List.length_cons] at h
    rw [List.zipIdx_cons, List.foldl_cons, ih off (i + 1) _ (by simp; omega)]
    simp only [Array.toList_setIfInBounds]
    have e1 : off + (i + 1) = off + i + 1 := by omega
    rw [e1]
    have h2 : off + i < cells.toList.length := by simp; omega
    rw [List.take_add_one, List.getElem?_set_self h2, List.take_set_of_le (Nat.le_refl _), List.drop_set_of_lt (by omega)]
    simp only [Option.toList_some, List.append_assoc, List.cons_append, List.nil_append, List.length_cons]
    congr 4; omega

theorem fill_step {cells : Array Value} {v : Value} {off : Nat} (h : off + v.cells.size ≤ cells.size) :
    (v.cells.zipIdx.foldl (fun cs (c, j) => cs.setIfInBounds (off + j) c) cells).toList = cells.toList.take off ++ v.cells.toList ++ cells.toList.drop (off + v.cells.toList.length) := by
  have := foldl_set_list v.cells.toList off 0 cells (by simpa using h)
  simp only [Nat.add_zero] at this
  rw [← this]
  rw [← Array.foldl_toList]
  simp

/-- The cells of a value under construction. -/
def RL (g : Gh) (w : World) (L : List Blk) (cs : List V) (vs : List Value) : Prop :=
  cs.length = vs.length ∧ (∀ (j : Nat) (u : Value), vs[j]? = some u → u.oneCell' = true) ∧ ∀ (j : Nat) (y : V) (u : Value), cs[j]? = some y → vs[j]? = some u → RV g w L y u

theorem RL.splice {cs xs : List V} {vs us : List Value} {off : Nat} (h : RL g w L cs vs) (hx : RL g w L xs us) (hle : off + xs.length ≤ cs.length) :
    RL g w L (setCells cs off xs) (vs.take off ++ us ++ vs.drop (off + us.length)) := by
  have h1 := h.1; have h2 := hx.1
  refine ⟨by rw [setCells_length hle]; simp; omega, fun j u hu => ?_, fun j y u hy hu => ?_⟩
  · rw [splice_get (by omega)] at hu
    split at hu
    · exact h.2.1 j u hu
    · split at hu
      · exact hx.2.1 _ u hu
      · exact h.2.1 j u hu
  · rw [setCells_eq] at hy
    rw [splice_get hle] at hy
    rw [splice_get (by omega)] at hu
    split at hu
    · rename_i c1; rw [if_pos c1] at hy; exact h.2.2 j y u hy hu
    · rename_i c1; rw [if_neg c1] at hy
      split at hu
      · rename_i c2; rw [if_pos (by omega)] at hy; exact hx.2.2 _ y u hy hu
      · rename_i c2; rw [if_neg (by omega)] at hy; exact h.2.2 j y u hy hu

theorem RV.rl {x : V} {v : Value} (h : RV g w L x v) (hs : x.stor = true) : RL g w L (cellsOf x) v.cells.toList := by
  obtain ⟨h1, h2, h3⟩ := h.cells hs
  exact ⟨by simpa using h1, fun j u hu => h2 j u (by simpa using hu), fun j y u hy hu => h3 j y u hy (by simpa using hu)⟩

def vFill (place : Nat → Option (Nat × Nat)) : List (Nat × V) → List V → Option (List V)
  | [], cs => some cs
  | (i, x) :: r, cs => match place i with
    | none => none
    | some (off, sz) => bif x.stor && Nat.beq (cellsOf x).length sz && Nat.ble (off + sz) cs.length then vFill place r (setCells cs off (cellsOf x)) else none

theorem vFill_ok {place : Nat → Option (Nat × Nat)} : ∀ (ps : List (Nat × V)) (qs : List (Nat × Value)) (cs : List V) (vs : Array Value) (cs' : List V),
    (ps.map (·.1) = qs.map (·.1)) → (∀ (j : Nat) (p : Nat × V) (q : Nat × Value), ps[j]? = some p → qs[j]? = some q → RV g w L p.2 q.2) → RL g w L cs vs.toList → vFill place ps cs = some cs' →
    ∃ vs', Instr.fill place vs qs = some vs' ∧ RL g w L cs' vs'.toList
  | [], [], cs, vs, cs', _, _, h, hf => by simp [vFill] at hf; subst hf; exact ⟨vs, rfl, h⟩
  | [], q :: qs, _, _, _, h, _, _, _ => by simp at h
  | p :: ps, [], _, _, _, h, _, _, _ => by simp at h
  | (i, x) :: ps, (i', v) :: qs, cs, vs, cs', hi, hr, h, hf => by
    simp only [List.map_cons, List.cons.injEq] at hi
    obtain ⟨rfl, hi⟩ := hi
    unfold vFill at hf
    cases hp : place i with
    | none => simp [hp] at hf
    | some q =>
    obtain ⟨off, sz⟩ := q
    simp only [hp] at hf
    cases hc : (x.stor && Nat.beq (cellsOf x).length sz && Nat.ble (off + sz) cs.length) with
    | false => simp [hc] at hf
    | true =>
    simp only [hc, cond_true] at hf
    rw [Bool.and_eq_true, Bool.and_eq_true] at hc
    obtain ⟨⟨c1, c2⟩, c3⟩ := hc
    have c2 := Nat.eq_of_beq_eq_true c2
    have c3 := Nat.le_of_ble_eq_true c3
    have hxv := hr 0 (i, x) (i, v) rfl rfl
    have hrl := hxv.rl c1
    have hlen := hrl.1
    have hl := h.1
    simp at hlen hl
    have hsz : v.cells.size = sz := by omega
    have hstep := fill_step (cells := vs) (v := v) (off := off) (by omega)
    obtain ⟨vs', h1, h2⟩ := vFill_ok ps qs (setCells cs off (cellsOf x)) (v.cells.zipIdx.foldl (fun cs (c, j) => cs.setIfInBounds (off + j) c) vs) cs' hi
      (fun j p q hp hq => hr (j + 1) p q (by simpa using hp) (by simpa using hq)) (by rw [hstep]; exact h.splice hrl (by omega)) hf
    refine ⟨vs', ?_, h2⟩
    simp only [Instr.fill, hp, hsz]
    rw [if_neg (by simp; omega)]
    exact h1

theorem zero_RL {ti : TI} (h : zokB ti = true) : RL g w L (zeroCells ti) ti.zv.cells.toList := by
  obtain ⟨h1, h2, h3⟩ := zeroCells_ok g w L h
  exact ⟨by simpa using h1, fun j u hu => h2 j u (by simpa using hu), fun j y u hy hu => h3 j y u hy (by simpa using hu)⟩

theorem RL.agg {cs : List V} {vs : Array Value} (h : RL g w L cs vs.toList) : RV g w L (.agg cs) (.agg vs) :=
  .agg cs vs (by simpa using h.1) (fun j u hu => h.2.1 j u (by simpa using hu)) (fun j y u hy hu => h.2.2 j y u hy (by simpa using hu))

def placeOf (C : Ctx) (fs : List (Nat × TypeId)) (i : Nat) : Option (Nat × Nat) :=
  match fs[i]? with
  | some (off, ft) => match C.tt ft with | some fi => some (off, fi.sz) | none => none
  | none => none

def vBuild (C : Ctx) (t : TypeId) (ps : List (Nat × V)) (c : V → Prop) : Prop :=
  match C.tt t with
  | some ti => bif zokB ti then match ti.k with
    | .struct fs => bif fs.all (fun p => (C.tt p.2).isSome) then match vFill (placeOf C fs) ps (zeroCells ti) with | some cs => c (.agg cs) | none => False else False
    | .arr _ e => match C.tt e with
      | some ei => match vFill (fun i => some (i * ei.sz, ei.sz)) ps (zeroCells ti) with | some cs => c (.agg cs) | none => False
      | none => False
    | _ => False
    else False
  | none => False

theorem run_places (hC : C.OK) (fl : List Field) (hsome : (fl.map (fun f => (f.offset, f.type))).all (fun p => (C.tt p.2).isSome) = true) :
    ∃ places : List (Nat × Nat), (fl.mapM (fun f => Functor.map (Prod.mk f.offset) (sizeOf f.type) : Field → Sem (Nat × Nat))).run C.P w = .ok places w ∧ ∀ i, places[i]? = placeOf C (fl.map (fun f => (f.offset, f.type))) i := by
  induction fl with
  | nil => exact ⟨[], by simp, fun i => by simp [placeOf]⟩
  | cons f rest ih =>
    simp only [List.map_cons, List.all_cons, Bool.and_eq_true] at hsome
    obtain ⟨places, h1, h2⟩ := ih hsome.2
    cases hf : C.tt f.type with
    | none => rw [hf] at hsome; simp at hsome
    | some fi =>
    refine ⟨(f.offset, fi.sz) :: places, by simp [List.mapM_cons, (hC _ fi hf).run_sizeOf, h1], fun i => ?_⟩
    cases i with
    | zero => simp [placeOf, hf]
    | succ i =>
      have := h2 i
      simp only [List.getElem?_cons_succ, this]
      simp [placeOf]

theorem vBuild_ok (hC : C.OK) {t : TypeId} {ps : List (Nat × V)} {qs : Array (Nat × Value)} (hi : ps.map (·.1) = qs.toList.map (·.1))
    (hr : ∀ (j : Nat) (p : Nat × V) (q : Nat × Value), ps[j]? = some p → qs.toList[j]? = some q → RV g w L p.2 q.2) {c : V → Prop} (h : vBuild C t ps c) :
    ∃ r X, (Instr.build t qs).run C.P w = .ok r w ∧ c X ∧ RV g w L X r := by
  unfold vBuild at h
  cases ht : C.tt t with
  | none => simp [ht] at h
  | some ti =>
  simp only [ht] at h
  have hT := hC t ti ht
  cases hz : zokB ti with
  | false => simp [hz] at h
  | true =>
  simp only [hz, cond_true] at h
  split at h
  · rename_i fs hk
    cases hs : fs.all (fun p => (C.tt p.2).isSome) with
    | false => simp [hs] at h
    | true =>
    simp only [hs, cond_true] at h
    split at h
    · rename_i cs hf
      obtain ⟨fields, hu, hfs, _⟩ := hT.struct hk
      obtain ⟨vs', h1, h2⟩ := vFill_ok ps qs.toList (zeroCells ti) ti.zv.cells cs hi hr (zero_RL hz) hf
      obtain ⟨places, hp1, hp2⟩ := run_places (w := w) hC fields.toList (by rw [hfs]; exact hs)
      rw [hfs] at hp2
      have hp : (fun i => places.toArray[i]?) = placeOf C fs := funext fun i => by simpa using hp2 i
      have hm : (Array.mapM (fun f => Functor.map (Prod.mk f.offset) (sizeOf f.type) : Field → Sem (Nat × Nat)) fields).run C.P w = .ok places.toArray w := by
        rw [Array.mapM_eq_mapM_toList]
        simp [hp1]
      refine ⟨_, _, ?_, h, h2.agg⟩
      have hp' : (fun i => places[i]?) = placeOf C fs := by rw [← hp]; funext i; simp
      simp [Instr.build, hT.run_zero, run_underlying hu, hm, hp', h1]
    · exact h.elim
  · rename_i n e hk
    cases he : C.tt e with
    | none => simp [he] at h
    | some ei =>
    simp only [he] at h
    split at h
    · rename_i cs hf
      obtain ⟨vs', h1, h2⟩ := vFill_ok ps qs.toList (zeroCells ti) ti.zv.cells cs hi hr (zero_RL hz) hf
      refine ⟨_, _, ?_, h, h2.agg⟩
      simp [Instr.build, hT.run_zero, run_underlying (hT.array hk), (hC e ei he).run_sizeOf, h1]
    · exact h.elim
  · exact h.elim

end
end Go.Tidy
