import Derived.Test.YtjknhbfcdjjbhaaBaseA
/-
  The base layer: arithmetic, comparison, composite values.
-/
namespace Go.Tidy

section
variable {C : Ctx} {g : Gh} {w : World} {L : List Blk}

def vEq (C : Ctx) : Nat → TypeId → V → V → Option Bool
  | 0, _, _, _ => none
  | f + 1, t, x, y =>
    match C.tt t with
    | none => none
    | some ti =>
      match ti.k, x, y with
      | .int _, .d (.int k a), .d (.int k' b) => bif decide (k = k') then some (decide (a = b)) else none
      | .bool, .d (.bool a), .d (.bool b) => some (a == b)
      | .str, .d (.str a), .d (.str b) => some (a.toList == b.toList)
      | .struct fs, .agg xs, .agg ys => bif ti.eqok then fs.foldr (fun p acc =>
          match C.tt p.2 with
          | none => none
          | some fi => match cut fi xs p.1, cut fi ys p.1 with
            | some x', some y' => match vEq C f p.2 x' y', acc with
              | some b, some c => some (b && c)
              | _, _ => none
            | _, _ => none) (some true) else none
      | _, _, _ => none

theorem fieldsOf_eq {P : Program} {t : TypeId} {fields : Array Field} (h : P.underlying t = some (.struct fields)) : P.fieldsOf t = fields := by simp [Program.fieldsOf, h]

theorem vEq_ok (hC : C.OK) : ∀ (f d : Nat) (t : TypeId) (x y : V) (v u : Value) (b : Bool), f ≤ d → RV g w L x v → RV g w L y u → vEq C f t x y = some b → (Op.equalIn d t v u).run C.P w = .ok b w
  | 0, d, t, x, y, v, u, b, _, _, _, h => by simp [vEq] at h
  | f + 1, 0, t, x, y, v, u, b, hd, _, _, h => by omega
  | f + 1, d + 1, t, x, y, v, u, b, hd, hx, hy, h => by
    unfold vEq at h
    cases ht : C.tt t with
    | none => simp [ht] at h
    | some ti =>
    simp only [ht] at h
    have hT := hC t ti ht
    split at h
    · rename_i k0 k a k' b' hk
      cases hd' : decide (k = k') with
      | false => simp [hd'] at h
      | true =>
      simp only [hd', cond_true, Option.some.injEq] at h
      have hkk := of_decide_eq_true hd'
      subst hkk h
      cases hx with | d _ _ hx => cases hx; cases hy with | d _ _ hy =>
      cases hy
      rw [run_equalIn_int w d t k k0 a b' (hT.intK hk)]
      congr 1
    · rename_i a b' hk
      simp only [Option.some.injEq] at h
      subst h
      cases hx with | d _ _ hx => cases hx; cases hy with | d _ _ hy =>
      cases hy
      exact run_equalIn_bool' w d t a b' (hT.boolK hk)
    · rename_i a b' hk
      simp only [Option.some.injEq] at h
      subst h
      cases hx with | d _ _ hx => cases hx; cases hy with | d _ _ hy =>
      cases hy
      exact run_equalIn_string w d t a b' (hT.strK hk)
    · rename_i fs xs ys hk
      cases he : ti.eqok with
      | false => simp [he] at h
      | true =>
      simp only [he, cond_true] at h
      obtain ⟨fields, hu, hfs, hnames⟩ := hT.struct hk
      cases hx with | agg _ vs hl ho hr => cases hy with | agg _ us hl' ho' hr' =>
      rw [run_equalIn_struct w d t vs us (by rw [fieldsOf_eq hu]; exact hu) (hT.eqok he).2, fieldsOf_eq hu]
      subst hfs
      clear hu hk
      have hx : RV g w L (.agg xs) (.agg vs) := .agg xs vs hl ho hr
      have hy : RV g w L (.agg ys) (.agg us) := .agg ys us hl' ho' hr'
      generalize fields.toList = fl at h hnames
      induction fl generalizing b with
      | nil => simp at h; subst h; simp [Op.eqFields]
      | cons fld rest ih =>
        simp only [List.map_cons, List.foldr_cons] at h
        simp only [List.all_cons, Bool.and_eq_true] at hnames
        cases hf : C.tt fld.type with
        | none => simp [hf] at h
        | some fi =>
        simp only [hf] at h
        have hF := hC _ fi hf
        cases hcx : cut fi xs fld.offset with
        | none => simp [hcx] at h
        | some x' =>
        cases hcy : cut fi ys fld.offset with
        | none => simp [hcx, hcy] at h
        | some y' =>
        simp only [hcx, hcy] at h
        cases hv : vEq C f fld.type x' y' with
        | none => simp [hv] at h
        | some b1 =>
        simp only [hv] at h
        split at h
        · rename_i b2 c e1 e2
          simp only [Option.some.injEq] at e1 h
          subst e1 h
          obtain ⟨r1, hr1, hR1⟩ := part_ok hF hx hcx
          obtain ⟨r2, hr2, hR2⟩ := part_ok hF hy hcy
          have h3 := vEq_ok hC f d fld.type x' y' r1 r2 b1 (by omega) hR1 hR2 hv
          have hn : fld.name ≠ "_" := by simpa using hnames.1
          simp only [Op.eqFields, Sem.run_bind, hr1, hr2, h3, Result.andThen_ok, hn, ne_eq, not_false_eq_true, if_true, Sem.run_ite]
          cases b1 with
          | false => simp
          | true =>
            simp only [Bool.not_true, Bool.false_eq_true, if_false, Bool.true_and]
            exact ih c e2 hnames.2
        · simp at h
    · simp at h

@[irreducible] def andI (k : IntKind) (x y : Int) : Int := k.wrap (((BitVec.ofInt k.bits x &&& BitVec.ofInt k.bits y).toNat : Nat) : Int)
def intBin (op : BinOp) (k : IntKind) (x y : Int) (c : V → Prop) : Prop :=
  match op with
  | .add => c (.d (.int k (k.wrap (x + y))))
  | .sub => c (.d (.int k (k.wrap (x - y))))
  | .mul => c (.d (.int k (k.wrap (x * y))))
  | .eql => c (.d (.bool (decide (x = y))))
  | .neq => c (.d (.bool (!decide (x = y))))
  | .lss => c (.d (.bool (decide (x < y))))
  | .leq => c (.d (.bool (decide (x ≤ y))))
  | .gtr => c (.d (.bool (decide (y < x))))
  | .geq => c (.d (.bool (decide (y ≤ x))))
  | .quo => Need (y ≠ 0) (c (.d (.int k (k.wrap (x.tdiv y)))))
  | .rem => Need (y ≠ 0) (c (.d (.int k (x.tmod y))))
  | .and => c (.d (.int k (andI k x y)))
  | _ => False

def strBin (op : BinOp) (x y : ByteArray) (c : V → Prop) : Prop :=
  match op with
  | .eql => c (.d (.bool (x.toList == y.toList)))
  | .neq => c (.d (.bool (!(x.toList == y.toList))))
  | .lss => c (.d (.bool (Op.bytesLess x.toList y.toList)))
  | .leq => c (.d (.bool (Op.bytesLess x.toList y.toList || x.toList == y.toList)))
  | .gtr => c (.d (.bool (!(Op.bytesLess x.toList y.toList || x.toList == y.toList))))
  | .geq => c (.d (.bool (!Op.bytesLess x.toList y.toList)))
  | _ => False

def vNilI (C : Ctx) (op : BinOp) (t : TypeId) (b : Bool) (c : V → Prop) : Prop :=
  match C.tt t with
  | some ti => match ti.k with
    | .iface true => match op with
      | .eql => c (.d (.bool b))
      | .neq => c (.d (.bool (!b)))
      | _ => False
    | _ => False
  | none => False
theorem vNilI_ok (hC : C.OK) {op : BinOp} {t : TypeId} {v : Value} {b : Bool} (hv : (v = .nilIface ∧ b = true) ∨ ∃ t' u, v = .iface t' u ∧ b = false) (ox oy : Operand) {c : V → Prop} (h : vNilI C op t b c) :
    ∃ r X, (do eqGuard op t ox oy v .nilIface; binOp op t v .nilIface : Sem Value).run C.P w = .ok r w ∧ c X ∧ RV g w L X r := by
  unfold vNilI at h
  cases ht : C.tt t with
  | none => simp [ht] at h
  | some ti =>
  simp only [ht] at h
  have hT := hC t ti ht
  split at h
  · rename_i hk
    obtain ⟨u, hu, hku⟩ := hT.und
    rw [hk] at hku
    have hms : ∃ ms, u = .interface ms ∧ ms.isEmpty = true := by
      cases u <;> simp [kindOK] at hku
      exact ⟨_, rfl, by simpa using hku⟩
    obtain ⟨ms, rfl, hms⟩ := hms
    have key0 : ∀ d : Nat, (Op.equalIn (d + 1) t v .nilIface).run C.P w = .ok b w := by
      intro d
      rw [Op.equalIn]
      rcases hv with ⟨rfl, rfl⟩ | ⟨t', q, rfl, rfl⟩ <;> simp [run_underlying hu]
    have key : (Op.equal t v .nilIface).run C.P w = .ok b w := key0 9999
    have gd0 : ∀ d : Nat, (Op.eqGuardIn (d + 1) t .nilIface .nilIface).run C.P w = .ok false w := by
      intro d
      rw [Op.eqGuardIn]
      simp [run_underlying hu, hms]
    have gd : (Op.eqGuardIn Op.maxDepth t .nilIface .nilIface).run C.P w = .ok false w := gd0 9999
    have hG : ∀ op, (eqGuard op t ox oy v .nilIface).run C.P w = .ok () w := fun op => by
      rcases hv with ⟨rfl, rfl⟩ | ⟨t', q, rfl, rfl⟩
      · unfold eqGuard
        cases op <;> simp [gd]
        all_goals (split <;> simp [gd])
      · unfold eqGuard
        cases op <;> simp
    have hB : (binOp .eql t v .nilIface).run C.P w = .ok (.bool b) w ∧ (binOp .neq t v .nilIface).run C.P w = .ok (.bool (!b)) w := by
      rcases hv with ⟨rfl, rfl⟩ | ⟨t', q, rfl, rfl⟩ <;> exact ⟨by simp [binOp, key], by simp [binOp, key]⟩
    split at h
    · exact ⟨_, _, by simp only [Sem.run_bind, hG, Result.andThen_ok]; exact hB.1, h, .d _ _ (.bool _)⟩
    · exact ⟨_, _, by simp only [Sem.run_bind, hG, Result.andThen_ok]; exact hB.2, h, .d _ _ (.bool _)⟩
    · exact h.elim
  · exact h.elim

def vBin (C : Ctx) (op : BinOp) (t : TypeId) (x y : V) (c : V → Prop) : Prop :=
  match x, y with
  | .d (.int k a), .d (.int k' b) => bif decide (k = k') then intBin op k a b c else False
  | .d (.str a), .d (.str b) => strBin op a b c
  | .d (.bool _), .d (.bool _) => match op with
    | .eql => match vEq C 8 t x y with | some b => c (.d (.bool b)) | none => False
    | .neq => match vEq C 8 t x y with | some b => c (.d (.bool (!b))) | none => False
    | _ => False
  | .agg _, .agg _ => match C.tt t with
    | some ti => bif ti.eqok then match op with
      | .eql => match vEq C 8 t x y with | some b => c (.d (.bool b)) | none => False
      | .neq => match vEq C 8 t x y with | some b => c (.d (.bool (!b))) | none => False
      | _ => False
      else False
    | none => False
  | .d .niliface, .d .niliface => vNilI C op t true c
  | .d (.iface _ _ _), .d .niliface => vNilI C op t false c
  | .iface _ _, .d .niliface => vNilI C op t false c
  | _, _ => False

theorem vBin_ok (hC : C.OK) {op : BinOp} {t : TypeId} {x y : V} {v u : Value} (hx : RV g w L x v) (hy : RV g w L y u) (ox oy : Operand) {c : V → Prop} (h : vBin C op t x y c) :
    ∃ r X, (do eqGuard op t ox oy v u; binOp op t v u : Sem Value).run C.P w = .ok r w ∧ c X ∧ RV g w L X r := by
  have hd : ∀ {x : D} {v : Value}, RD g.I w x v → RV g w L (.d x) v := fun h => .d _ _ h
  unfold vBin at h
  split at h
  · rename_i k a k' b
    cases hk : decide (k = k') with
    | false => simp [hk] at h
    | true =>
    simp only [hk, cond_true] at h
    have hkk := of_decide_eq_true hk
    subst hkk
    cases hx with | d _ _ hx => cases hx; cases hy with | d _ _ hy =>
    cases hy
    simp only [eqGuard_at_int, Sem.run_bind, Sem.run_pure, Result.andThen_ok]
    unfold intBin at h
    cases op
    case and =>
      have hb : Sem.run C.P (Op.intBits .and k a b) w = .ok (.int k (andI k a b)) w := by unfold Op.intBits andI; rfl
      exact ⟨_, _, by simp [binOp, hb], h, hd (.int _ _)⟩
    all_goals simp only at h
    all_goals first
      | exact h.elim
      | exact ⟨_, _, by simp [binOp, Op.intArith], h, hd (.int _ _)⟩
      | exact ⟨_, _, by simp [binOp, Op.intCmp, bne] <;> rfl, h, hd (.bool _)⟩
      | (obtain ⟨h0, h⟩ := h.out
         exact ⟨_, _, by simp [binOp, Op.intDiv, h0], h, hd (.int _ _)⟩)
  · rename_i a b
    cases hx with | d _ _ hx => cases hx; cases hy with | d _ _ hy =>
    cases hy
    simp only [eqGuard_at_string, Sem.run_bind, Sem.run_pure, Result.andThen_ok]
    unfold strBin at h
    cases op <;> simp only at h <;> first
      | exact h.elim
      | exact ⟨_, _, by simp [binOp, Op.stringOp], h, hd (.bool _)⟩
  · rename_i a b
    have hx' := hx; have hy' := hy
    cases hx with | d _ _ hx => cases hx; cases hy with | d _ _ hy =>
    cases hy
    simp only [eqGuard_at_bool, Sem.run_bind, Sem.run_pure, Result.andThen_ok]
    split at h
    · split at h
      · rename_i b' hb
        have := vEq_ok (L := L) hC 8 Op.maxDepth t _ _ _ _ b' (by decide) hx' hy' hb
        exact ⟨_, _, by simp [binOp, Op.equal, this], h, hd (.bool _)⟩
      · exact h.elim
    · split at h
      · rename_i b' hb
        have := vEq_ok (L := L) hC 8 Op.maxDepth t _ _ _ _ b' (by decide) hx' hy' hb
        exact ⟨_, _, by simp [binOp, Op.equal, this], h, hd (.bool _)⟩
      · exact h.elim
    · exact h.elim
  · rename_i xs ys
    cases ht : C.tt t with
    | none => simp [ht] at h
    | some ti =>
    simp only [ht] at h
    cases he : ti.eqok with
    | false => simp [he] at h
    | true =>
    simp only [he, cond_true] at h
    have hx' := hx; have hy' := hy
    cases hx with | agg _ vs hl ho hr => cases hy with | agg _ us hl' ho' hr' =>
    have hG : ∀ op, (eqGuard op t ox oy (.agg vs) (.agg us)).run C.P w = .ok () w := fun op => by
      cases op <;> simp [eqGuard, ((hC t ti ht).eqok he).1]
    simp only [Sem.run_bind, hG, Result.andThen_ok]
    split at h
    · split at h
      · rename_i b' hb
        have := vEq_ok (L := L) hC 8 Op.maxDepth t _ _ _ _ b' (by decide) hx' hy' hb
        exact ⟨_, _, by simp [binOp, Op.equal, this], h, hd (.bool _)⟩
      · exact h.elim
    · split at h
      · rename_i b' hb
        have := vEq_ok (L := L) hC 8 Op.maxDepth t _ _ _ _ b' (by decide) hx' hy' hb
        exact ⟨_, _, by simp [binOp, Op.equal, this], h, hd (.bool _)⟩
      · exact h.elim
    · exact h.elim
  · cases hx with | d _ _ hx => cases hx; cases hy with | d _ _ hy =>
    cases hy
    exact vNilI_ok hC (.inl ⟨rfl, rfl⟩) ox oy h
  · cases hy with | d _ _ hy =>
    cases hy
    cases hx with | d _ _ hx =>
    cases hx with
    | ifaceA => exact vNilI_ok hC (.inr ⟨_, _, rfl, rfl⟩) ox oy h
    | ifaceL => exact vNilI_ok hC (.inr ⟨_, _, rfl, rfl⟩) ox oy h
  · cases hy with | d _ _ hy =>
    cases hy
    cases hx with | iface => exact vNilI_ok hC (.inr ⟨_, _, rfl, rfl⟩) ox oy h
  · exact h.elim

def vUn (op : UnOp) (x : V) (c : V → Prop) : Prop :=
  match op, x with
  | .neg, .d (.int k n) => c (.d (.int k (k.wrap (0 - n))))
  | .not, .d (.bool b) => c (.d (.bool (!b)))
  | .not, .tt => c .ff
  | .not, .ff => c .tt
  | _, _ => False

theorem vUn_ok {op : UnOp} {x : V} {v : Value} (hx : RV g w L x v) {c : V → Prop} (h : vUn op x c) : ∃ r X, (Op.unary op v).run C.P w = .ok r w ∧ c X ∧ RV g w L X r := by
  unfold vUn at h
  split at h
  · cases hx with | d _ _ hx => cases hx; exact ⟨_, _, by simp [Op.unary, Op.intArith], h, .d _ _ (.int _ _)⟩
  · cases hx with | d _ _ hx => cases hx; exact ⟨_, _, by simp [Op.unary], h, .d _ _ (.bool _)⟩
  · cases hx; exact ⟨.bool false, _, by simp [Op.unary], h, .ff⟩
  · cases hx; exact ⟨.bool true, _, by simp [Op.unary], h, .tt⟩
  · exact h.elim

def vConv (C : Ctx) (s t : TypeId) (x : V) (c : V → Prop) : Prop :=
  match x with
  | .d (.int _ n) => match C.tt s with
    | some _ => match C.tt t with
      | some ti => match ti.k with
        | .int k => c (.d (.int k (k.wrap n)))
        | _ => False
      | none => False
    | none => False
  | _ => False
theorem vConv_ok (hC : C.OK) {s t : TypeId} {x : V} {v : Value} (hx : RV g w L x v) {c : V → Prop} (h : vConv C s t x c) : ∃ r X, (convert s t v).run C.P w = .ok r w ∧ c X ∧ RV g w L X r := by
  unfold vConv at h
  split at h
  · split at h
    · rename_i si hs
      split at h
      · rename_i ti ht
        split at h
        · rename_i k hk
          obtain ⟨u, hu, _⟩ := (hC s si hs).und
          have ht' := (hC t ti ht).intK hk
          cases hx with | d _ _ hx =>
          cases hx
          exact ⟨_, _, by simp [convert, run_underlying hu, run_underlying ht', Conv.intToInt], h, .d _ _ (.int _ _)⟩
        · exact h.elim
      · exact h.elim
    · exact h.elim
  · exact h.elim

theorem foldl_set_list (vs : List Value) : ∀ (off i : Nat) (cells : Array Value), off + i + vs.length ≤ cells.size →
    ((vs.zipIdx i).foldl (fun cs (c, j) => cs.setIfInBounds (off + j) c) cells).toList = cells.toList.take (off + i) ++ vs ++ cells.toList.drop (off + i + vs.length) := by
  induction vs with
  | nil => intro off i cells _; simp
  | cons v rest ih =>
    intro off i cells h
    simp only [List.length_cons] at h
    rw [List.zipIdx_cons, List.foldl_cons, ih off (i + 1) _ (by simp; omega)]
    simp only [Array.toList_setIfInBounds]
    have e1 : off + (i + 1) = off + i + 1 := by omega
    rw [e1]
    have h2 : off + i < cells.toList.length := by simp; omega
    rw [List.take_add_one, List.getElem?_set_self h2, List.take_set_of_le (Nat.le_refl _), List.drop_set_of_lt (by omega)]
    simp only [Option.toList_some, List.append_assoc, List.cons_append, List.nil_append, List.length_cons]
    congr 4; omega

theorem fill_step {cells : Array Value} {v : Value} {off : Nat} (h : off + v.cells.size ≤ cells.size) :
    (v.cells.zipIdx.foldl (fun cs (c, j) => cs.setIfInBounds (off + j) c) cells).toList = cells.toList.take off ++ v.cells.toList ++ cells.toList.drop (off + v.cells.toList.length) := by
  have := foldl_set_list v.cells.toList off 0 cells (by simpa using h)
  simp only [Nat.add_zero] at this
  rw [← this]
  rw [← Array.foldl_toList]
  simp

def RL (g : Gh) (w : World) (L : List Blk) (cs : List V) (vs : List Value) : Prop :=
  cs.length = vs.length ∧ (∀ (j : Nat) (u : Value), vs[j]? = some u → u.oneCell' = true) ∧ ∀ (j : Nat) (y : V) (u : Value), cs[j]? = some y → vs[j]? = some u → RV g w L y u

theorem RL.splice {cs xs : List V} {vs us : List Value} {off : Nat} (h : RL g w L cs vs) (hx : RL g w L xs us) (hle : off + xs.length ≤ cs.length) :
    RL g w L (setCells cs off xs) (vs.take off ++ us ++ vs.drop (off + us.length)) := by
  have h1 := h.1; have h2 := hx.1
  refine ⟨by rw [setCells_length hle]; simp; omega, fun j u hu => ?_, fun j y u hy hu => ?_⟩
  · rw [splice_get (by omega)] at hu
    split at hu
    · exact h.2.1 j u hu
    · split at hu
      · exact hx.2.1 _ u hu
      · exact h.2.1 j u hu
  · rw [setCells_eq] at hy
    rw [splice_get hle] at hy
    rw [splice_get (by omega)] at hu
    split at hu
    · rename_i c1; rw [if_pos c1] at hy; exact h.2.2 j y u hy hu
    · rename_i c1; rw [if_neg c1] at hy
      split at hu
      · rename_i c2; rw [if_pos (by omega)] at hy; exact hx.2.2 _ y u hy hu
      · rename_i c2; rw [if_neg (by omega)] at hy; exact h.2.2 j y u hy hu

theorem RV.rl {x : V} {v : Value} (h : RV g w L x v) (hs : x.stor = true) : RL g w L (cellsOf x) v.cells.toList := by
  obtain ⟨h1, h2, h3⟩ := h.cells hs
  exact ⟨by simpa using h1, fun j u hu => h2 j u (by simpa using hu), fun j y u hy hu => h3 j y u hy (by simpa using hu)⟩

def vFill (place : Nat → Option (Nat × Nat)) : List (Nat × V) → List V → Option (List V)
  | [], cs => some cs
  | (i, x) :: r, cs => match place i with
    | none => none
    | some (off, sz) => bif x.stor && Nat.beq (cellsOf x).length sz && Nat.ble (off + sz) cs.length then vFill place r (setCells cs off (cellsOf x)) else none

theorem vFill_ok {place : Nat → Option (Nat × Nat)} : ∀ (ps : List (Nat × V)) (qs : List (Nat × Value)) (cs : List V) (vs : Array Value) (cs' : List V),
    (ps.map (·.1) = qs.map (·.1)) → (∀ (j : Nat) (p : Nat × V) (q : Nat × Value), ps[j]? = some p → qs[j]? = some q → RV g w L p.2 q.2) → RL g w L cs vs.toList → vFill place ps cs = some cs' →
    ∃ vs', Instr.fill place vs qs = some vs' ∧ RL g w L cs' vs'.toList
  | [], [], cs, vs, cs', _, _, h, hf => by simp [vFill] at hf; subst hf; exact ⟨vs, rfl, h⟩
  | [], q :: qs, _, _, _, h, _, _, _ => by simp at h
  | p :: ps, [], _, _, _, h, _, _, _ => by simp at h
  | (i, x) :: ps, (i', v) :: qs, cs, vs, cs', hi, hr, h, hf => by
    simp only [List.map_cons, List.cons.injEq] at hi
    obtain ⟨rfl, hi⟩ := hi
    unfold vFill at hf
    cases hp : place i with
    | none => simp [hp] at hf
    | some q =>
    obtain ⟨off, sz⟩ := q
    simp only [hp] at hf
    cases hc : (x.stor && Nat.beq (cellsOf x).length sz && Nat.ble (off + sz) cs.length) with
    | false => simp [hc] at hf
    | true =>
    simp only [hc, cond_true] at hf
    rw [Bool.and_eq_true, Bool.and_eq_true] at hc
    obtain ⟨⟨c1, c2⟩, c3⟩ := hc
    have c2 := Nat.eq_of_beq_eq_true c2
    have c3 := Nat.le_of_ble_eq_true c3
    have hxv := hr 0 (i, x) (i, v) rfl rfl
    have hrl := hxv.rl c1
    have hlen := hrl.1
    have hl := h.1
    simp at hlen hl
    have hsz : v.cells.size = sz := by omega
    have hstep := fill_step (cells := vs) (v := v) (off := off) (by omega)
    obtain ⟨vs', h1, h2⟩ := vFill_ok ps qs (setCells cs off (cellsOf x)) (v.cells.zipIdx.foldl (fun cs (c, j) => cs.setIfInBounds (off + j) c) vs) cs' hi
      (fun j p q hp hq => hr (j + 1) p q (by simpa using hp) (by simpa using hq)) (by rw [hstep]; exact h.splice hrl (by omega)) hf
    refine ⟨vs', ?_, h2⟩
    simp only [Instr.fill, hp, hsz]
    rw [if_neg (by simp; omega)]
    exact h1

theorem zero_RL {ti : TI} (h : zokB ti = true) : RL g w L (zeroCells ti) ti.zv.cells.toList := by
  obtain ⟨h1, h2, h3⟩ := zeroCells_ok g w L h
  exact ⟨by simpa using h1, fun j u hu => h2 j u (by simpa using hu), fun j y u hy hu => h3 j y u hy (by simpa using hu)⟩

theorem RL.agg {cs : List V} {vs : Array Value} (h : RL g w L cs vs.toList) : RV g w L (.agg cs) (.agg vs) :=
  .agg cs vs (by simpa using h.1) (fun j u hu => h.2.1 j u (by simpa using hu)) (fun j y u hy hu => h.2.2 j y u hy (by simpa using hu))

def placeOf (C : Ctx) (fs : List (Nat × TypeId)) (i : Nat) : Option (Nat × Nat) :=
  match fs[i]? with
  | some (off, ft) => match C.tt ft with | some fi => some (off, fi.sz) | none => none
  | none => none

def vBuild (C : Ctx) (t : TypeId) (ps : List (Nat × V)) (c : V → Prop) : Prop :=
  match C.tt t with
  | some ti => bif zokB ti then match ti.k with
    | .struct fs => bif fs.all (fun p => (C.tt p.2).isSome) then match vFill (placeOf C fs) ps (zeroCells ti) with | some cs => c (.agg cs) | none => False else False
    | .arr _ e => match C.tt e with
      | some ei => match vFill (fun i => some (i * ei.sz, ei.sz)) ps (zeroCells ti) with | some cs => c (.agg cs) | none => False
      | none => False
    | _ => False
    else False
  | none => False

theorem run_places (hC : C.OK) (fl : List Field) (hsome : (fl.map (fun f => (f.offset, f.type))).all (fun p => (C.tt p.2).isSome) = true) :
    ∃ places : List (Nat × Nat), (fl.mapM (fun f => Functor.map (Prod.mk f.offset) (sizeOf f.type) : Field → Sem (Nat × Nat))).run C.P w = .ok places w ∧ ∀ i, places[i]? = placeOf C (fl.map (fun f => (f.offset, f.type))) i := by
  induction fl with
  | nil => exact ⟨[], by simp, fun i => by simp [placeOf]⟩
  | cons f rest ih =>
    simp only [List.map_cons, List.all_cons, Bool.and_eq_true] at hsome
    obtain ⟨places, h1, h2⟩ := ih hsome.2
    cases hf : C.tt f.type with
    | none => rw [hf] at hsome; simp at hsome
    | some fi =>
    refine ⟨(f.offset, fi.sz) :: places, by simp [List.mapM_cons, (hC _ fi hf).run_sizeOf, h1], fun i => ?_⟩
    cases i with
    | zero => simp [placeOf, hf]
    | succ i =>
      have := h2 i
      simp only [List.getElem?_cons_succ, this]
      simp [placeOf]

theorem vBuild_ok (hC : C.OK) {t : TypeId} {ps : List (Nat × V)} {qs : Array (Nat × Value)} (hi : ps.map (·.1) = qs.toList.map (·.1))
    (hr : ∀ (j : Nat) (p : Nat × V) (q : Nat × Value), ps[j]? = some p → qs.toList[j]? = some q → RV g w L p.2 q.2) {c : V → Prop} (h : vBuild C t ps c) :
    ∃ r X, (Instr.build t qs).run C.P w = .ok r w ∧ c X ∧ RV g w L X r := by
  unfold vBuild at h
  cases ht : C.tt t with
  | none => simp [ht] at h
  | some ti =>
  simp only [ht] at h
  have hT := hC t ti ht
  cases hz : zokB ti with
  | false => simp [hz] at h
  | true =>
  simp only [hz, cond_true] at h
  split at h
  · rename_i fs hk
    cases hs : fs.all (fun p => (C.tt p.2).isSome) with
    | false => simp [hs] at h
    | true =>
    simp only [hs, cond_true] at h
    split at h
    · rename_i cs hf
      obtain ⟨fields, hu, hfs, _⟩ := hT.struct hk
      obtain ⟨vs', h1, h2⟩ := vFill_ok ps qs.toList (zeroCells ti) ti.zv.cells cs hi hr (zero_RL hz) hf
      obtain ⟨places, hp1, hp2⟩ := run_places (w := w) hC fields.toList (by rw [hfs]; exact hs)
      rw [hfs] at hp2
      have hp : (fun i => places.toArray[i]?) = placeOf C fs := funext fun i => by simpa using hp2 i
      have hm : (Array.mapM (fun f => Functor.map (Prod.mk f.offset) (sizeOf f.type) : Field → Sem (Nat × Nat)) fields).run C.P w = .ok places.toArray w := by
        rw [Array.mapM_eq_mapM_toList]
        simp [hp1]
      refine ⟨_, _, ?_, h, h2.agg⟩
      have hp' : (fun i => places[i]?) = placeOf C fs := by rw [← hp]; funext i; simp
      simp [Instr.build, hT.run_zero, run_underlying hu, hm, hp', h1]
    · exact h.elim
  · rename_i n e hk
    cases he : C.tt e with
    | none => simp [he] at h
    | some ei =>
    simp only [he] at h
    split at h
    · rename_i cs hf
      obtain ⟨vs', h1, h2⟩ := vFill_ok ps qs.toList (zeroCells ti) ti.zv.cells cs hi hr (zero_RL hz) hf
      refine ⟨_, _, ?_, h, h2.agg⟩
      simp [Instr.build, hT.run_zero, run_underlying (hT.array hk), (hC e ei he).run_sizeOf, h1]
    · exact h.elim
  · exact h.elim

end
end Go.Tidy

/-
  The base layer: slices of the activation's own.
-/
namespace Go.Tidy

section
variable {C : Ctx} {g : Gh} {w : World} {L : List Blk}

theorem flatten_get {α : Type} {sz : Nat} : ∀ {els : List (List α)}, (∀ e ∈ els, e.length = sz) → ∀ {i j : Nat}, j < sz → els.flatten[i * sz + j]? = (els[i]?).bind (fun e => e[j]?)
  | [], _, i, j, _ => by simp
  | e :: r, h, i, j, hj => by
    have he := h e (by simp)
    rw [List.flatten_cons]
    cases i with
    | zero => simp; rw [List.getElem?_append_left (by omega)]
    | succ i =>
      rw [List.getElem?_append_right (by rw [Nat.succ_mul]; omega)]
      have e1 : (i + 1) * sz + j - e.length = i * sz + j := by rw [Nat.succ_mul]; omega
      rw [e1, flatten_get (fun x hx => h x (by simp [hx])) hj]
      simp

theorem flatten_len {α : Type} {sz : Nat} : ∀ {els : List (List α)}, (∀ e ∈ els, e.length = sz) → els.flatten.length = els.length * sz
  | [], _ => by simp
  | e :: r, h => by
    rw [List.flatten_cons, List.length_append, flatten_len (fun x hx => h x (by simp [hx])), h e (by simp), List.length_cons, Nat.succ_mul]; omega

theorem RL.append {cs xs : List V} {vs us : List Value} (h : RL g w L cs vs) (hx : RL g w L xs us) : RL g w L (cs ++ xs) (vs ++ us) := by
  have h1 := h.1
  refine ⟨by rw [List.length_append, List.length_append, h.1, hx.1], fun j u hu => ?_, fun j y u hy hu => ?_⟩
  · rcases Nat.lt_or_ge j vs.length with hj | hj
    · rw [List.getElem?_append_left hj] at hu; exact h.2.1 j u hu
    · rw [List.getElem?_append_right hj] at hu; exact hx.2.1 _ u hu
  · rcases Nat.lt_or_ge j vs.length with hj | hj
    · rw [List.getElem?_append_left hj] at hu; rw [List.getElem?_append_left (by omega)] at hy; exact h.2.2 j y u hy hu
    · rw [List.getElem?_append_right hj] at hu; rw [List.getElem?_append_right (by omega), h1] at hy; exact hx.2.2 _ y u hy hu

theorem RL.nil : RL g w L [] [] := ⟨rfl, fun j u h => by simp at h, fun j y u h _ => by simp at h⟩

theorem RL.mono {g' : Gh} {w' : World} {L' : List Blk} {cs : List V} {vs : List Value} (hm : ∀ (x : V) (v : Value), RV g w L x v → RV g' w' L' x v) (h : RL g w L cs vs) : RL g' w' L' cs vs :=
  ⟨h.1, h.2.1, fun j y u hy hu => hm _ _ (h.2.2 j y u hy hu)⟩

theorem newRow_ext (hg : Good g w L) {w' : World} (hE : Ext w w') (T : TypeId) {sz : Nat} (hsz : 0 < sz) {els : List (List V)} (hels : ∀ e ∈ els, e.length = sz) {vs spare : List Value} (h : RL g w L els.flatten vs)
    (hsp : ∀ (j : Nat) (u : Value), spare[j]? = some u → u.oneCell' = true) (c : Nat) (hc : vs.length + spare.length = c * sz) (hcl : els.length ≤ c) (hnew : w'.heap[w.heap.size]? = some (.cells (vs ++ spare).toArray T (0, 0))) :
    ∃ g', RV g' w' (L ++ [.row 0 sz els]) (.own L.length 0 0 els.length) (.slice (some ⟨w.heap.size, 0, none⟩) els.length c) ∧ Good g' w' (L ++ [.row 0 sz els]) ∧
      Prog L.length g w L g' w' (L ++ [.row 0 sz els]) := by
  have hfl := flatten_len hels
  have hvl : vs.length = els.length * sz := by rw [← h.1, hfl]
  refine ⟨g.add L.length (some w.heap.size) (c * sz), .own _ _ _ _ sz _ 0 c els (by simp) (by simp [Gh.add]) (.inr (by simp)) (by simp [Gh.add]) hcl (by simp),
    add_good hg hE _ (fun q h => by cases h; exact Nat.le_refl _) _ ⟨hsz, hels, .inr ⟨_, _, T, by simp [Gh.add], hnew, by simp [Gh.add]; omega, by simp; omega, ?_, ?_⟩⟩, add_prog hg hE _ _ (fun q h => by cases h; exact Nat.le_refl _) _⟩
  · intro i v hv
    simp only [List.getElem?_toArray] at hv
    rcases Nat.lt_or_ge i vs.length with hi | hi
    · rw [List.getElem?_append_left hi] at hv; exact h.2.1 i v hv
    · rw [List.getElem?_append_right hi] at hv; exact hsp _ v hv
  · intro i j x v hx hv
    simp only [List.getElem?_toArray] at hv
    have hj : j < sz := by
      cases he : els[i]? with
      | none => rw [he] at hx; cases hx
      | some e => rw [he] at hx; have := lt_of_get (L := e) (by simpa using hx); have := hels e (List.mem_of_getElem? he); omega
    have hi : i < els.length := by
      rcases Nat.lt_or_ge i els.length with h' | h'
      · exact h'
      · rw [List.getElem?_eq_none h'] at hx; cases hx
    have hlt : i * sz + j < vs.length := by
      rw [hvl]
      have := Nat.mul_le_mul_right sz (show i + 1 ≤ els.length from hi)
      rw [Nat.succ_mul] at this; omega
    rw [List.getElem?_append_left hlt] at hv
    exact add_mono hg hE _ _ _ (h.2.2 (i * sz + j) x v (by rw [flatten_get hels hj]; exact hx) hv)

theorem newRow_ok (hg : Good g w L) (T : TypeId) {sz : Nat} (hsz : 0 < sz) {els : List (List V)} (hels : ∀ e ∈ els, e.length = sz) {vs spare : List Value} (h : RL g w L els.flatten vs)
    (hsp : ∀ (j : Nat) (u : Value), spare[j]? = some u → u.oneCell' = true) (c : Nat) (hc : vs.length + spare.length = c * sz) (hcl : els.length ≤ c) :
    ∃ g', RV g' (w.alloc (.cells (vs ++ spare).toArray T)) (L ++ [.row 0 sz els]) (.own L.length 0 0 els.length) (.slice (some ⟨w.heap.size, 0, none⟩) els.length c) ∧ Good g' (w.alloc (.cells (vs ++ spare).toArray T)) (L ++ [.row 0 sz els]) ∧
      Prog L.length g w L g' (w.alloc (.cells (vs ++ spare).toArray T)) (L ++ [.row 0 sz els]) :=
  newRow_ext hg (Ext.alloc w _) T hsz hels h hsp c hc hcl (heap_alloc_new w _)

def seqParts (sz : Nat) : Nat → List (Nat × V) → Option (List (List V))
  | _, [] => some []
  | i, (j, x) :: r => bif Nat.beq j i && x.stor && Nat.beq (cellsOf x).length sz then match seqParts sz (i + 1) r with | some els => some (cellsOf x :: els) | none => none else none

theorem seqParts_ok {sz : Nat} : ∀ (i : Nat) (ps : List (Nat × V)) (qs : List (Nat × Value)) (els : List (List V)) (cells : Array Value), seqParts sz i ps = some els → ps.map (·.1) = qs.map (·.1) →
    (∀ (j : Nat) (p : Nat × V) (q : Nat × Value), ps[j]? = some p → qs[j]? = some q → RV g w L p.2 q.2) → (i + ps.length) * sz ≤ cells.size →
    ∃ (vs' : Array Value) (news : List Value), Instr.fill (fun i => some (i * sz, sz)) cells qs = some vs' ∧ RL g w L els.flatten news ∧ els.length = ps.length ∧ (∀ e ∈ els, e.length = sz) ∧
      vs'.toList = cells.toList.take (i * sz) ++ news ++ cells.toList.drop ((i + ps.length) * sz)
  | i, [], [], els, cells, h, _, _, _ => by
    simp [seqParts] at h; subst h
    exact ⟨cells, [], rfl, RL.nil, rfl, by simp, by simp⟩
  | i, [], q :: qs, _, _, _, h, _, _ => by simp at h
  | i, p :: ps, [], _, _, _, h, _, _ => by simp at h
  | i, (j, x) :: ps, (j', v) :: qs, els, cells, h, hi, hr, hsz => by
    simp only [List.map_cons, List.cons.injEq] at hi
    obtain ⟨rfl, hi⟩ := hi
    unfold seqParts at h
    cases hc : (Nat.beq j i && x.stor && Nat.beq (cellsOf x).length sz) with
    | false => simp [hc] at h
    | true =>
    simp only [hc, cond_true] at h
    rw [Bool.and_eq_true, Bool.and_eq_true] at hc
    obtain ⟨⟨c1, c2⟩, c3⟩ := hc
    have c1 := Nat.eq_of_beq_eq_true c1
    have c3 := Nat.eq_of_beq_eq_true c3
    subst c1
    cases hs : seqParts sz (j + 1) ps with
    | none => simp [hs] at h
    | some els' =>
    simp only [hs, Option.some.injEq] at h
    subst h
    have hrl := (hr 0 (j, x) (j, v) rfl rfl).rl c2
    have hlen := hrl.1
    simp at hlen
    have hv : v.cells.size = sz := by omega
    simp only [List.length_cons] at hsz
    have hb : j * sz + sz ≤ cells.size := by
      have := Nat.mul_le_mul_right sz (show j + 1 ≤ j + (ps.length + 1) by omega)
      rw [Nat.succ_mul] at this; omega
    have hstep := fill_step (cells := cells) (v := v) (off := j * sz) (by omega)
    have hsize : (v.cells.zipIdx.foldl (fun cs (c, k) => cs.setIfInBounds (j * sz + k) c) cells).size = cells.size := by
      rw [← Array.length_toList, hstep]; simp; omega
    obtain ⟨vs', news, h1, h2, h3, h4, h5⟩ := seqParts_ok (j + 1) ps qs els' (v.cells.zipIdx.foldl (fun cs (c, k) => cs.setIfInBounds (j * sz + k) c) cells) hs hi
      (fun k p q hp hq => hr (k + 1) p q (by simpa using hp) (by simpa using hq)) (by rw [hsize, show j + 1 + ps.length = j + (ps.length + 1) by omega]; exact hsz)
    refine ⟨vs', v.cells.toList ++ news, ?_, ?_, by simp [h3], ?_, ?_⟩
    · simp only [Instr.fill, hv]
      rw [if_neg (by simp; omega)]
      exact h1
    · rw [List.flatten_cons]; exact hrl.append h2
    · intro e he
      rcases List.mem_cons.1 he with rfl | he
      · exact c3
      · exact h4 e he
    · rw [h5, hstep]
      have e1 : v.cells.toList.length = sz := by simpa using hv
      have e2 : (cells.toList.take (j * sz)).length = j * sz := by simp; omega
      rw [List.append_assoc (cells.toList.take (j * sz)) v.cells.toList (cells.toList.drop (j * sz + v.cells.toList.length))]
      have t1 : (cells.toList.take (j * sz) ++ (v.cells.toList ++ cells.toList.drop (j * sz + v.cells.toList.length))).take ((j + 1) * sz) = cells.toList.take (j * sz) ++ v.cells.toList := by
        rw [← List.append_assoc, List.take_append_of_le_length (by simp; rw [Nat.succ_mul]; omega), List.take_of_length_le (by simp; rw [Nat.succ_mul]; omega)]
      have t2 : (cells.toList.take (j * sz) ++ (v.cells.toList ++ cells.toList.drop (j * sz + v.cells.toList.length))).drop ((j + 1 + ps.length) * sz) = cells.toList.drop ((j + (ps.length + 1)) * sz) := by
        rw [← List.append_assoc, List.drop_append, List.drop_of_length_le (by simp; have := Nat.mul_le_mul_right sz (show j + 1 ≤ j + 1 + ps.length by omega); rw [Nat.succ_mul] at this; omega)]
        simp only [List.nil_append, List.drop_drop, List.length_append, e2, e1]
        congr 1
        have := Nat.mul_le_mul_right sz (show j + 1 ≤ j + 1 + ps.length by omega)
        rw [Nat.succ_mul] at this
        rw [show j + (ps.length + 1) = j + 1 + ps.length by omega]
        omega
      rw [t1, t2, List.append_assoc, List.append_assoc, List.append_assoc]
      simp []

def vBuildSlice (C : Ctx) (t : TypeId) (len : Nat) (ps : List (Nat × V)) (L : List Blk) (k : V → List Blk → Prop) : Prop :=
  match C.tt t with
  | some ti => match ti.k with
    | .sl e => match C.tt e with
      | some ei => bif Nat.blt 0 ei.sz && Nat.beq ps.length len && Nat.ble (len * ei.sz) 16777216 then
          match seqParts ei.sz 0 ps with
          | some els => k (.own L.length 0 0 len) (L ++ [.row 0 ei.sz els])
          | none => False
        else False
      | none => False
    | _ => False
  | none => False

theorem vBuildSlice_ok (hC : C.OK) (hg : Good g w L) {t : TypeId} {len : Nat} {ps : List (Nat × V)} {qs : Array (Nat × Value)} (hi : ps.map (·.1) = qs.toList.map (·.1))
    (hr : ∀ (j : Nat) (p : Nat × V) (q : Nat × Value), ps[j]? = some p → qs.toList[j]? = some q → RV g w L p.2 q.2) {k : V → List Blk → Prop} (h : vBuildSlice C t len ps L k) :
    ∃ r w' X L' g', (Instr.buildSlice t len qs).run C.P w = .ok r w' ∧ k X L' ∧ RV g' w' L' X r ∧ Good g' w' L' ∧ Prog L.length g w L g' w' L' := by
  unfold vBuildSlice at h
  cases ht : C.tt t with
  | none => simp [ht] at h
  | some ti =>
  simp only [ht] at h
  split at h
  · rename_i e hk
    cases he : C.tt e with
    | none => simp [he] at h
    | some ei =>
    simp only [he] at h
    have hE := hC e ei he
    cases hc : (Nat.blt 0 ei.sz && Nat.beq ps.length len && Nat.ble (len * ei.sz) 16777216) with
    | false => simp [hc] at h
    | true =>
    simp only [hc, cond_true] at h
    rw [Bool.and_eq_true, Bool.and_eq_true] at hc
    obtain ⟨⟨c1, c2⟩, c3⟩ := hc
    have c1 : 0 < ei.sz := by simpa [Nat.blt_eq] using c1
    have c2 := Nat.eq_of_beq_eq_true c2
    have c3 := Nat.le_of_ble_eq_true c3
    split at h
    · rename_i els hs
      have hz : ∃ z : Array Value, ∀ f : Array Value → World → Result Value, (if len * ei.sz = 0 then (Sem.run C.P (pure #[] : Sem (Array Value)) w).andThen f else (Sem.run C.P (zeroValue e) w).andThen fun a w' => (Sem.run C.P (pure a.cells : Sem (Array Value)) w').andThen f) = f z w := by
        by_cases h0 : len * ei.sz = 0
        · exact ⟨#[], fun f => by rw [if_pos h0]; rfl⟩
        · exact ⟨ei.zv.cells, fun f => by rw [if_neg h0, hE.run_zero]; rfl⟩
      obtain ⟨z, hz⟩ := hz
      obtain ⟨vs', news, h1, h2, h3, h4, h5⟩ := seqParts_ok 0 ps qs.toList els ((Array.range (len * ei.sz)).map (z[· % z.size]!)) hs hi hr (by simp; rw [c2]; exact Nat.le_refl _)
      have hv : vs' = (news ++ []).toArray := by
        apply Array.ext'
        rw [h5]
        simp [c2]
      have hlen : els.length = len := by omega
      have hnl : news.length = len * ei.sz := by rw [← h2.1, flatten_len h4, hlen]
      obtain ⟨g', r1, r2, r3⟩ := newRow_ok hg e c1 h4 h2 (spare := []) (fun j u hu => by simp at hu) len (by simp; exact hnl) (by omega)
      rw [hlen] at r1
      refine ⟨_, _, _, _, g', ?_, h, r1, r2, r3⟩
      rw [hv] at h1
      have hle : ¬ (len * ei.sz > 2 ^ 24) := by omega
      simp only [Instr.buildSlice, Sem.run_bind, run_underlying ((hC t ti ht).slice hk), Result.andThen_ok, hE.run_sizeOf, Sem.run_ite, hle, if_false]
      refine (hz _).trans ?_
      rw [h1]
      simp [newRow]
    · exact h.elim
  · exact h.elim

end
end Go.Tidy

/-
  The base layer: append, slicing, length.
-/
namespace Go.Tidy

section
variable {C : Ctx} {g : Gh} {w : World} {L : List Blk}

theorem seg_len {α : Type} {els : List (List α)} {sz lo len : Nat} (hels : ∀ e ∈ els, e.length = sz) (h : lo + len ≤ els.length) : ((els.drop lo).take len).flatten.length = len * sz := by
  rw [flatten_len (fun e he => hels e (List.mem_of_mem_drop (List.mem_of_mem_take he)))]
  congr 1
  simp; omega

theorem seg_get {α : Type} {els : List (List α)} {sz lo len p : Nat} (hels : ∀ e ∈ els, e.length = sz) (hsz : 0 < sz) (hp : p < len * sz) :
    ((els.drop lo).take len).flatten[p]? = (els[lo + p / sz]?).bind (fun e => e[p % sz]?) := by
  have h1 := Nat.div_add_mod p sz
  have h2 := Nat.mod_lt p hsz
  conv => lhs; rw [← h1, Nat.mul_comm]
  rw [flatten_get (fun e he => hels e (List.mem_of_mem_drop (List.mem_of_mem_take he))) h2]
  have h3 : p / sz < len := Nat.div_lt_of_lt_mul (by rw [Nat.mul_comm]; exact hp)
  rw [List.getElem?_take, if_pos h3, List.getElem?_drop]

theorem row_RL {sz lo len : Nat} {els : List (List V)} {cur : Array Value} (hsz : 0 < sz) (hels : ∀ e ∈ els, e.length = sz) (hbig : els.length * sz ≤ cur.size) (hone : ∀ (i : Nat) (v : Value), cur[i]? = some v → v.oneCell' = true)
    (hrec : ∀ (i j : Nat) (x : V) (v : Value), (els[i]?).bind (fun e => e[j]?) = some x → cur[i * sz + j]? = some v → RV g w L x v) (hle : lo + len ≤ els.length) :
    RL g w L ((els.drop lo).take len).flatten ((cur.toList.drop (lo * sz)).take (len * sz)) := by
  have hb : lo * sz + len * sz ≤ cur.size := by rw [← Nat.add_mul]; exact Nat.le_trans (Nat.mul_le_mul_right sz hle) hbig
  refine ⟨by rw [seg_len hels hle]; simp; omega, fun j u hu => ?_, fun j y u hy hu => ?_⟩
  · rw [List.getElem?_take] at hu
    split at hu
    · exact hone _ u (by simpa using hu)
    · cases hu
  · rw [List.getElem?_take] at hu
    split at hu
    · rename_i hj
      rw [seg_get hels hsz hj] at hy
      refine hrec (lo + j / sz) (j % sz) y u hy ?_
      have h1 := Nat.div_add_mod j sz
      rw [Nat.add_mul, Nat.add_assoc, Nat.mul_comm (j / sz), h1]
      simpa using hu
    · cases hu

theorem row_of_RL {sz : Nat} {els : List (List V)} {cur : List Value} (_hsz : 0 < sz) (hels : ∀ e ∈ els, e.length = sz) (h : RL g w L els.flatten (cur.take (els.length * sz))) :
    ∀ (i j : Nat) (x : V) (v : Value), (els[i]?).bind (fun e => e[j]?) = some x → cur[i * sz + j]? = some v → RV g w L x v := by
  intro i j x v hx hv
  have hj : j < sz := by
    cases he : els[i]? with
    | none => rw [he] at hx; cases hx
    | some e => rw [he] at hx; have := lt_of_get (L := e) (by simpa using hx); have := hels e (List.mem_of_getElem? he); omega
  have hi : i < els.length := by
    rcases Nat.lt_or_ge i els.length with h' | h'
    · exact h'
    · rw [List.getElem?_eq_none h'] at hx; cases hx
  have hlt : i * sz + j < els.length * sz := by
    have := Nat.mul_le_mul_right sz (show i + 1 ≤ els.length from hi)
    rw [Nat.succ_mul] at this; omega
  exact h.2.2 (i * sz + j) x v (by rw [flatten_get hels hj]; exact hx) (by rw [List.getElem?_take, if_pos hlt]; exact hv)

def vSrc (L : List Blk) (sz : Nat) (x : V) (k : List (List V) → Prop) : Prop :=
  match x with
  | .nil => k []
  | .d (.sl ys) => Need (∀ e ∈ ys, e.length = sz) (k (ys.map (·.map .d)))
  | .own b gen lo len => match L[b]? with
    | some (.row gen' sz' els) => bif Nat.beq gen gen' && Nat.beq sz sz' then k ((els.drop lo).take len) else False
    | _ => False
  | _ => False

structure Src (g : Gh) (w : World) (L : List Blk) (sz : Nat) (v : Value) (els : List (List V)) : Prop where
  len : ∀ e ∈ els, e.length = sz
  form : ∃ (a : Option Addr) (c : Nat) (vs : List Value), v = .slice a els.length c ∧ els.length ≤ c ∧ RL g w L els.flatten vs ∧ vs.length = els.length * sz ∧
    (0 < els.length → ∃ ad, a = some ad ∧ (g.I ad.block ∨ owned g L ad.block) ∧ ∀ (j : Nat) (u : Value), vs[j]? = some u → w.cell? (ad.add j) = some u)

theorem vSrc_ok (hg : Good g w L) {sz : Nat} (hsz : 0 < sz) {x : V} {v : Value} (hx : RV g w L x v) {k : List (List V) → Prop} (h : vSrc L sz x k) : ∃ els, Src g w L sz v els ∧ k els := by
  unfold vSrc at h
  split at h
  · cases hx with
    | nil => exact ⟨[], ⟨by simp, none, 0, [], rfl, Nat.le_refl _, RL.nil, by simp, by simp⟩, h⟩
  · rename_i ys
    obtain ⟨hlen, hk⟩ := h.out
    cases hx with | d _ _ hd =>
    cases hd with
    | slNil a c => exact ⟨_, ⟨by simp, a, c, [], by simp, by simp, RL.nil, by simp, by simp⟩, hk⟩
    | sl _ ad c sz' cs hsz' hcell hI hlc hrec =>
      rcases Nat.eq_zero_or_pos ys.length with h0 | hpos
      · have : ys = [] := List.eq_nil_of_length_eq_zero h0
        subst this
        exact ⟨_, ⟨by simp, some ad, c, [], by simp, by simp, RL.nil, by simp, by simp⟩, hk⟩
      · obtain ⟨y, hy⟩ : ∃ y, y ∈ ys := List.exists_mem_of_length_pos hpos
        have e1 : sz' = sz := (hsz' y hy).symm.trans (hlen y hy)
        subst e1
        have hels : ∀ e ∈ ys.map (·.map V.d), e.length = sz' := by
          intro e he
          obtain ⟨e', he', rfl⟩ := List.mem_map.1 he
          simpa using hlen e' he'
        have hfl := flatten_len hels
        have hget : ∀ (p : Nat), p < ys.length * sz' → ∃ x, (ys[p / sz']?).bind (fun e => e[p % sz']?) = some x ∧ (ys.map (·.map V.d)).flatten[p]? = some (.d x) ∧ RD g.I w x (cs (p / sz') (p % sz')) := by
          intro p hp
          have h3 : p / sz' < ys.length := Nat.div_lt_of_lt_mul (by rw [Nat.mul_comm]; exact hp)
          have h2 := Nat.mod_lt p hsz
          have hel := hlen (ys[p / sz']) (List.getElem_mem h3)
          have hx : (ys[p / sz']?).bind (fun e => e[p % sz']?) = some ((ys[p / sz'])[p % sz']'(by omega)) := by
            rw [List.getElem?_eq_getElem h3]; simp
          refine ⟨_, hx, ?_, hrec _ _ _ hx⟩
          have h1 := Nat.div_add_mod p sz'
          conv => lhs; rw [← h1, Nat.mul_comm]
          rw [flatten_get hels h2, List.getElem?_map, List.getElem?_eq_getElem h3]
          simp
        refine ⟨_, ⟨hels, some ad, c, (List.range (ys.length * sz')).map (fun p => cs (p / sz') (p % sz')), by simp, by simpa using hlc, ⟨by rw [hfl]; simp, fun j u hu => ?_, fun j y' u hy' hu => ?_⟩, by simp, fun _ => ⟨ad, rfl, .inl hI, fun j u hu => ?_⟩⟩, hk⟩
        all_goals
          rw [List.getElem?_map] at hu
          rcases Nat.lt_or_ge j (ys.length * sz') with hj | hj
          · rw [List.getElem?_range hj] at hu
            simp at hu
            obtain ⟨x, hx1, hx2, hx3⟩ := hget j hj
            first
              | exact hu ▸ hx3.one
              | (rw [hx2] at hy'; cases hy'; exact hu ▸ .d _ _ hx3)
              | (have h1 := Nat.div_add_mod j sz'
                 have h3 : j / sz' < ys.length := Nat.div_lt_of_lt_mul (by rw [Nat.mul_comm]; exact hj)
                 have := hcell (j / sz') (j % sz') h3 (Nat.mod_lt j hsz)
                 rw [Nat.mul_comm, h1] at this
                 rw [this, hu])
          · rw [List.getElem?_eq_none (by simpa using hj)] at hu; cases hu
  · rename_i b gen lo len
    split at h
    · rename_i gen' sz' els hL
      cases hle : (Nat.beq gen gen' && Nat.beq sz sz') with
      | false => simp only [hle, cond_false] at h
      | true =>
      simp only [hle, cond_true] at h
      rw [Bool.and_eq_true] at hle
      have e1 := Nat.eq_of_beq_eq_true hle.1
      have e2 := Nat.eq_of_beq_eq_true hle.2
      subst e1 e2
      obtain ⟨hsz0, hels, hrow⟩ := hg.blk b _ hL
      have hsub : ∀ e ∈ (els.drop lo).take len, e.length = sz := fun e he => hels e (List.mem_of_mem_drop (List.mem_of_mem_take he))
      cases hx with
      | ownX _ _ _ _ a n c hL' => rw [hL] at hL'; cases hL'
      | ownO _ _ gen2 _ _ _ _ a n c hL' hg' => rw [hL] at hL'; cases hL'; omega
      | ownN _ _ _ _ hL' hm' => exact ⟨_, ⟨hsub, _, 0, [], rfl, by simp, by simpa using RL.nil, by simp, by simp⟩, h⟩
      | own _ _ _ _ sz' r o c els' hL' hm' ho hc hlc hle =>
        rw [hL] at hL'; cases hL'
        rcases hrow with ⟨hm, rfl⟩ | ⟨r', cur, T, hm, hh, hcap, hbig, hone, hrec⟩
        · rw [hm] at hm'; cases hm'
        · rw [hm] at hm'; cases hm'
          have hn : ((els.drop lo).take len).length = len := by simp; omega
          have hb : lo * sz + len * sz ≤ cur.size := by rw [← Nat.add_mul]; exact Nat.le_trans (Nat.mul_le_mul_right sz hle) hbig
          refine ⟨_, ⟨hsub, some ⟨r, o, none⟩, c, (cur.toList.drop (lo * sz)).take (len * sz), by rw [hn], by rw [hn]; exact hlc, row_RL hsz0 hels hbig hone hrec hle, by rw [hn]; simp; omega, fun hpos => ⟨_, rfl, .inr ⟨b, ⟨_, hL, by simp⟩, hm⟩, fun j u hu => ?_⟩⟩, h⟩
          rw [hn] at hpos
          have ho' : o = lo * sz := by rcases ho with h0 | h0 <;> omega
          subst ho'
          rw [Addr.add_lit, cell_row hh]
          rw [List.getElem?_take] at hu
          split at hu
          · simpa using hu
          · cases hu
    · exact h.elim
  · exact h.elim

theorem TIok.infos {P : Program} {t : TypeId} {ti : TI} (h : TIok P t ti) : ∃ i, P.info? t = some i ∧ i.size = ti.sz ∧ i.bytes = ti.bytes ∧ i.zero = some ti.zv := by
  have hi := h.info
  cases e : P.info? t with
  | none => rw [e] at hi; cases hi
  | some i =>
    rw [e] at hi
    simp only [Option.map_some, Option.some.injEq, Prod.mk.injEq] at hi
    exact ⟨i, rfl, hi.1, hi.2.1, hi.2.2⟩

def apLim (b : Nat) : Nat := bif Nat.beq b 16 then 8796093022208 else 4294967296
theorem apLim_ge (b : Nat) : 4294967296 ≤ apLim b := by unfold apLim; cases Nat.beq b 16 <;> decide
theorem apLim_le {n b : Nat} (h : n ≤ apLim b) (hb : b ≤ 4096) : n * b ≤ 140737488355328 ∧ n ≤ 8796093022208 := by
  unfold apLim at h
  cases e : Nat.beq b 16 with
  | true =>
    rw [e] at h
    have := Nat.eq_of_beq_eq_true e
    subst this
    simp only [cond_true] at h
    omega
  | false =>
    rw [e] at h
    simp only [cond_false] at h
    exact ⟨Nat.le_trans (Nat.mul_le_mul h hb) (by decide), by omega⟩
def vAppend (C : Ctx) (t : TypeId) (s x : V) (L : List Blk) (k : V → List Blk → Prop) : Prop :=
  match C.tt t with
  | some ti => match ti.k with
    | .sl e => match C.tt e with
      | some ei => bif zokB ei && Nat.beq ei.zv.cells.size ei.sz && Nat.blt 0 ei.sz && Nat.ble ei.bytes 4096 then
          vSrc L ei.sz x fun news => match s with
            | .nil => Need (news.length ≤ apLim ei.bytes) (k (.own L.length 0 0 news.length) (L ++ [.row 0 ei.sz news]))
            | .own b gen 0 len => match L[b]? with
              | some (.row gen' sz els) => bif Nat.beq gen gen' && Nat.beq sz ei.sz then
                  Need (len + news.length ≤ apLim ei.bytes) (k (.own b (gen + 1) 0 (len + news.length)) (L.set b (.row (gen + 1) sz (els.take len ++ news)))) else False
              | _ => False
            | _ => False
        else False
      | none => False
    | _ => False
  | none => False

theorem zeros_one {z : Array Value} (h : z.all (·.oneCell') = true) (n : Nat) : ∀ (j : Nat) (u : Value), (Builtin.zeroCells z n).toList[j]? = some u → u.oneCell' = true := by
  intro j u hu
  have hu' : (Builtin.zeroCells z n)[j]? = some u := by simpa using hu
  unfold Builtin.zeroCells at hu'
  rw [Array.getElem?_map] at hu'
  rcases Nat.lt_or_ge j (n * z.size) with hj | hj
  · rw [Array.getElem?_eq_getElem (by simpa using hj)] at hu'
    simp at hu'
    have hz : 0 < z.size := by
      rcases Nat.eq_zero_or_pos z.size with h0 | h0
      · rw [h0] at hj; omega
      · exact h0
    rw [Array.all_eq_true] at h
    have hlt := Nat.mod_lt j hz
    rw [getElem!_pos z (j % z.size) hlt] at hu'
    exact hu' ▸ h _ hlt
  · rw [Array.getElem?_eq_none (by simpa using hj)] at hu'; cases hu'

theorem Src.drew {sz : Nat} {v : Value} {els : List (List V)} (h : Src g w L sz v els) : Src g w L sz v els := h

theorem run_append_zero {P : Program} {t ty e : TypeId} {ei : TI} (ht : P.underlying t = some (.slice e)) (hE : TIok P e ei) (base a : Option Addr) (sLen sCap c : Nat) (hle : sLen ≤ sCap) (w : World) :
    (Builtin.append_ #[t, t] ty #[.slice base sLen sCap, .slice a 0 c]).run P w = .ok (.slice base sLen sCap) w := by
  have hf : (Builtin.firstCells ei.sz 0 (.slice a 0 c)).run P w = .ok #[] w := by
    cases a <;> simp [Builtin.firstCells, loadCells, loadCellsFrom]
  cases base <;> simp [Builtin.append_, run_underlying ht, hE.run_sizeOf, Builtin.lenOf, hle, hf, storeCells]

theorem moved_ok (hg : Good g w L) {b gen gen' sz : Nat} {els : List (List V)} (hL : L[b]? = some (.row gen sz els)) (hgen : gen < gen') (e : TypeId) (hsz : 0 < sz) {els' : List (List V)} (hels : ∀ x ∈ els', x.length = sz) {vs spare : List Value}
    (h : RL g w L els'.flatten vs) (hsp : ∀ (j : Nat) (u : Value), spare[j]? = some u → u.oneCell' = true) (c : Nat) (hc : vs.length + spare.length = c * sz) (hcl : els'.length ≤ c) :
    ∃ g', RV g' (w.drew.alloc (.cells (vs ++ spare).toArray e)) (L.set b (.row gen' sz els')) (.own b gen' 0 els'.length) (.slice (some ⟨w.heap.size, 0, none⟩) els'.length c) ∧
      Good g' (w.drew.alloc (.cells (vs ++ spare).toArray e)) (L.set b (.row gen' sz els')) ∧ Prog L.length g w L g' (w.drew.alloc (.cells (vs ++ spare).toArray e)) (L.set b (.row gen' sz els')) := by
  have hbl := lt_of_get hL
  have hvl : vs.length = els'.length * sz := by rw [← h.1, flatten_len hels]
  have S : Step g w L b (.row gen' sz els') (g.add b (some w.heap.size) (c * sz)) (w.drew.alloc (.cells (vs ++ spare).toArray e)) := by
    refine ⟨hg, ⟨_, hL, by simp⟩, by rw [hL]; simp, ⟨rfl, rfl, rfl⟩, by simp, rfl, fun b' hb => by simp [Gh.add, hb], fun b' hb => by simp [Gh.add, hb], fun q o ho _ => heap_old (w := w.drew) ho, fun r hr => ?_, ?_⟩
    · simp [Gh.add] at hr; omega
    · exact ⟨fun cs' e => (by rw [hL] at e; cases e), fun gen1 sz1 els1 e => (by rw [hL] at e; cases e; exact .inr ⟨_, _, _, List.getElem?_set_self hbl, .inl hgen⟩), fun es e => (by rw [hL] at e; cases e), fun l e => (by rw [hL] at e; cases e), fun e => (by rw [hL] at e; cases e)⟩
  refine ⟨_, .own _ _ _ _ sz _ 0 c els' (List.getElem?_set_self hbl) (by simp [Gh.add]) (.inr (by simp)) (by simp [Gh.add]) hcl (by simp), S.good' ⟨hsz, hels, .inr ⟨_, _, e, by simp [Gh.add], heap_alloc_new w.drew _, by simp [Gh.add]; omega, by simp; omega, ?_, ?_⟩⟩, S.prog⟩
  · intro i v hv
    simp only [List.getElem?_toArray] at hv
    rcases Nat.lt_or_ge i vs.length with hi | hi
    · rw [List.getElem?_append_left hi] at hv; exact h.2.1 i v hv
    · rw [List.getElem?_append_right hi] at hv; exact hsp _ v hv
  · have h2 := row_of_RL (cur := vs ++ spare) hsz hels (by rw [List.take_append_of_le_length (by omega), List.take_of_length_le (by omega)]; exact h.mono fun x v hx => S.mono hx)
    intro i j x v hx hv
    exact h2 i j x v hx (by simpa using hv)

theorem set_same {b : Nat} {k k' : Blk} (_hL : L[b]? = some k) : (L.set b k').length = L.length := by simp

theorem run_append_room' {P : Program} (t ty e : TypeId) (i : TypeInfo) (ht : P.underlying t = some (.slice e)) (hi : P.info? e = some i)
    (g sLen sCap : Nat) (cur : Array Value) (T : TypeId) (hg : w.heap[g]? = some (.cells cur T (0, 0)))
    (a : Addr) (m c : Nat) (news : List Value) (hl : news.length = m * i.size) (hnews : ∀ j u, news[j]? = some u → w.cell? (a.add j) = some u) (h1 : ∀ u ∈ news, u.oneCell' = true)
    (hroom : sLen + m ≤ sCap) (hfit : sLen * i.size + news.length ≤ cur.size) :
    (Builtin.append_ #[t, t] ty #[.slice (some ⟨g, 0, none⟩) sLen sCap, .slice (some a) m c]).run P w =
      .ok (.slice (some ⟨g, 0, none⟩) (sLen + m) sCap) (w.setRow g (cur.toList.take (sLen * i.size) ++ news ++ cur.toList.drop (sLen * i.size + news.length)).toArray) := by
  have hf := run_firstCells_some (P := P) w i.size m a m c news hl hnews
  have hst := run_storeCells_at P g (sLen * i.size) T news 0 cur w hg (by simpa using hfit) h1
  simp only [Nat.add_zero] at hst
  simp [Builtin.append_, run_underlying ht, sizeOf, typeInfo, hi, Builtin.lenOf, hroom, hf, Addr.add_lit, hst]

theorem run_append_empty {P : Program} (w : World) (t ty e : TypeId) (i : TypeInfo) (z : Value) (ht : P.underlying t = some (.slice e)) (hi : P.info? e = some i) (hz : i.zero = some z) (a0 : Option Addr) (ad : Addr) (m c : Nat) (vs : List Value)
    (hvl : vs.length = m * i.size) (hcell : ∀ j u, vs[j]? = some u → w.cell? (ad.add j) = some u) (hpos : 0 < m) (hm : m ≤ 8796093022208) (hby : m * i.bytes ≤ 140737488355328) :
    ∃ cap, m ≤ cap ∧ (Builtin.append_ #[t, t] ty #[.slice a0 0 0, .slice (some ad) m c]).run P w = .ok (.slice (some ⟨w.heap.size, 0, none⟩) m cap) (w.drew.alloc (.cells (vs ++ (Builtin.zeroCells z.cells (cap - m)).toList).toArray e)) := by
  cases a0 with
  | none =>
    have hr := run_append_nil (P := P) w t ty e i z ht hi hz ad m c vs hvl hcell hpos (by omega) (by omega)
    exact ⟨_, grownCap_ge w m 0 e, hr.trans (by congr 3; simp)⟩
  | some a0 =>
    have hr := run_append_grow (P := P) w t ty e i z ht hi hz a0 0 0 [] (by simp) (by simp) ad m c vs hvl hcell (by omega) (by omega) (growslice_fits (by omega) (by simpa using hby))
    simp only [Nat.zero_add] at hr
    exact ⟨_, grownCap_ge w m 0 e, hr.trans (by congr 3; simp)⟩
theorem vAppend_ok (hC : C.OK) (hg : Good g w L) {t ty : TypeId} {s x : V} {v u : Value} (hs : RV g w L s v) (hx : RV g w L x u) {k : V → List Blk → Prop} (h : vAppend C t s x L k) :
    ∃ r w' X L' g', (Builtin.append_ #[t, t] ty #[v, u]).run C.P w = .ok r w' ∧ k X L' ∧ RV g' w' L' X r ∧ Good g' w' L' ∧ Prog L.length g w L g' w' L' := by
  unfold vAppend at h
  cases ht : C.tt t with
  | none => simp [ht] at h
  | some ti =>
  simp only [ht] at h
  split at h
  · rename_i e hk
    cases he : C.tt e with
    | none => simp [he] at h
    | some ei =>
    simp only [he] at h
    have hE := hC e ei he
    have hT := (hC t ti ht).slice hk
    cases hc : (zokB ei && Nat.beq ei.zv.cells.size ei.sz && Nat.blt 0 ei.sz && Nat.ble ei.bytes 4096) with
    | false => simp [hc] at h
    | true =>
    simp only [hc, cond_true] at h
    rw [Bool.and_eq_true, Bool.and_eq_true, Bool.and_eq_true] at hc
    obtain ⟨⟨⟨c1, c2⟩, c3⟩, c4⟩ := hc
    have c2 := Nat.eq_of_beq_eq_true c2
    have c3 : 0 < ei.sz := by simpa [Nat.blt_eq] using c3
    have c4 := Nat.le_of_ble_eq_true c4
    obtain ⟨i, hi, hi1, hi2, hi3⟩ := hE.infos
    obtain ⟨news, ⟨hlen, a, c, vs, rfl, hnc, hrl, hvl, hcells⟩, h⟩ := vSrc_ok hg c3 hx h
    have hz : ∀ n, (Builtin.zeroCells ei.zv.cells n).toList.length = n * ei.sz := fun n => by rw [Array.length_toList, size_zeroCells, c2]
    split at h
    · obtain ⟨hsmall, h⟩ := h.out
      have hsm := (apLim_le hsmall c4).2
      cases hs with
      | nil =>
      rcases Nat.eq_zero_or_pos news.length with h0 | hpos
      · have hn : news = [] := List.eq_nil_of_length_eq_zero h0
        subst hn
        exact ⟨_, w, _, _, g.add L.length none 0, run_append_zero hT hE none a 0 0 c (Nat.le_refl _) w, h, .ownN _ _ ei.sz [] (by simp) (by simp [Gh.add]),
          add_good hg (Ext.refl w) none (fun q h => by cases h) 0 ⟨c3, by simp, .inl ⟨by simp [Gh.add], rfl⟩⟩, add_prog hg (Ext.refl w) _ none (fun q h => by cases h) 0⟩
      · obtain ⟨ad, rfl, _, hcell⟩ := hcells hpos
        have hr := run_append_nil (P := C.P) w t ty e i ei.zv hT hi hi3 ad news.length c vs (by rw [hi1]; exact hvl) hcell hpos (by omega)
          (by rw [hi2]; exact Nat.le_trans (apLim_le hsmall c4).1 (by decide))
        have hge := grownCap_ge w news.length 0 e
        obtain ⟨g', r1, r2, r3⟩ := newRow_ext hg (Ext.drewAlloc w (.cells (vs ++ (Builtin.zeroCells ei.zv.cells (grownCap w news.length 0 e - news.length)).toList).toArray e)) e c3 hlen hrl (zeros_one (zokB_all c1) _) (grownCap w news.length 0 e)
          (by rw [hvl, hz, ← Nat.add_mul]; congr 1; omega) hge (heap_alloc_new w.drew _)
        refine ⟨_, _, _, _, g', hr.trans ?_, h, r1, r2, r3⟩
        congr 3
        simp
    · rename_i b gen len _
      split at h
      · rename_i gen' sz els hL
        cases hle : (Nat.beq gen gen' && Nat.beq sz ei.sz) with
        | false => simp only [hle, cond_false] at h
        | true =>
        simp only [hle, cond_true] at h
        rw [Bool.and_eq_true] at hle
        have e1 := Nat.eq_of_beq_eq_true hle.1
        have e2 := Nat.eq_of_beq_eq_true hle.2
        subst e1 e2
        obtain ⟨hsmall, h⟩ := h.out
        have hsm := (apLim_le hsmall c4).2
        have hbl := lt_of_get hL
        obtain ⟨hsz0, hels, hrow⟩ := hg.blk b _ hL
        have hels' : ∀ x ∈ els.take len ++ news, x.length = ei.sz := by
          intro x hx
          rcases List.mem_append.1 hx with hx | hx
          · exact hels x (List.mem_of_mem_take hx)
          · exact hlen x hx
        cases hs with
        | ownX _ _ _ _ a n c hL' => rw [hL] at hL'; cases hL'
        | ownO _ _ gen2 _ _ _ _ a n c hL' hg' => rw [hL] at hL'; cases hL'; omega
        | ownN _ _ sz2 els2 hL' hm' =>
          rw [hL] at hL'; cases hL'
          rcases hrow with ⟨hm, rfl⟩ | ⟨r', cur, T, hm, _⟩
          · have h : k (.own b (gen + 1) 0 news.length) (L.set b (.row (gen + 1) ei.sz news)) := by simpa using h
            have hsmall : news.length ≤ apLim ei.bytes := by omega
            have hsm := (apLim_le hsmall c4).2
            rcases Nat.eq_zero_or_pos news.length with h0 | hpos
            · have hn : news = [] := List.eq_nil_of_length_eq_zero h0
              subst hn
              have S : Step g w L b (.row (gen + 1) ei.sz []) g w := by
                refine ⟨hg, ⟨_, hL, by simp⟩, by rw [hL]; simp, ⟨rfl, rfl, rfl⟩, Nat.le_refl _, rfl, fun _ _ => rfl, fun _ _ => rfl, fun q o ho _ => ho, fun r hr => .inl hr, ?_⟩
                exact ⟨fun cs' e => (by rw [hL] at e; cases e), fun gen1 sz1 els1 e => (by rw [hL] at e; cases e; exact .inr ⟨_, _, _, List.getElem?_set_self hbl, .inl (Nat.lt_succ_self _)⟩), fun es e => (by rw [hL] at e; cases e), fun l e => (by rw [hL] at e; cases e), fun e => (by rw [hL] at e; cases e)⟩
              exact ⟨_, w, _, _, g, run_append_zero hT hE _ a 0 0 c (Nat.le_refl _) w, h, .ownN _ _ ei.sz [] (List.getElem?_set_self hbl) hm, S.good' ⟨c3, by simp, .inl ⟨hm, rfl⟩⟩, S.prog⟩
            · obtain ⟨ad, rfl, _, hcell⟩ := hcells hpos
              obtain ⟨cap, hge, hr⟩ := run_append_empty (P := C.P) w t ty e i ei.zv hT hi hi3 _ ad news.length c vs (by rw [hi1]; exact hvl) hcell hpos hsm (by rw [hi2]; exact (apLim_le hsmall c4).1)
              obtain ⟨g', r1, r2, r3⟩ := moved_ok hg hL (Nat.lt_succ_self gen) e c3 hlen hrl (zeros_one (zokB_all c1) (cap - news.length)) cap
                (by rw [hvl, hz, ← Nat.add_mul]; congr 1; omega) hge
              exact ⟨_, _, _, _, g', hr, h, r1, r2, r3⟩
          · rw [hm] at hm'; cases hm'
        | own _ _ _ _ sz2 r o cc els2 hL' hm' ho hcap hlc hle2 =>
          rw [hL] at hL'; cases hL'
          rcases hrow with ⟨hm, rfl⟩ | ⟨r', cur, T, hm, hh, hcapg, hbig, hone, hrec⟩
          · rw [hm] at hm'; cases hm'
          rw [hm] at hm'; cases hm'
          simp only [Nat.zero_add] at hle2 hcap
          have hro := row_RL (lo := 0) (len := len) c3 hels hbig hone hrec (by omega)
          simp only [Nat.zero_mul, List.drop_zero] at hro
          have htl : (els.take len).length = len := by simp; omega
          have hnl : (els.take len ++ news).length = len + news.length := by simp; omega
          have hoz : o = 0 ∨ cc = 0 := by rcases ho with h0 | h0 <;> omega
          rcases Nat.eq_zero_or_pos news.length with h0 | hpos
          · have hn : news = [] := List.eq_nil_of_length_eq_zero h0
            subst hn
            simp only [List.append_nil, List.length_nil, Nat.add_zero] at h hels' hnl
            have S : Step g w L b (.row (gen + 1) ei.sz (els.take len)) g w := by
              refine ⟨hg, ⟨_, hL, by simp⟩, by rw [hL]; simp, ⟨rfl, rfl, rfl⟩, Nat.le_refl _, rfl, fun _ _ => rfl, fun _ _ => rfl, fun q o ho _ => ho, fun r hr => .inl hr, ?_⟩
              exact ⟨fun cs' e => (by rw [hL] at e; cases e), fun gen1 sz1 els1 e => (by rw [hL] at e; cases e; exact .inr ⟨_, _, _, List.getElem?_set_self hbl, .inl (Nat.lt_succ_self _)⟩), fun es e => (by rw [hL] at e; cases e), fun l e => (by rw [hL] at e; cases e), fun e => (by rw [hL] at e; cases e)⟩
            refine ⟨_, w, _, _, g, run_append_zero hT hE _ a len cc c hlc w, h, .own _ _ _ _ ei.sz r o cc (els.take len) (List.getElem?_set_self hbl) hm ho (by simpa using hcap) hlc (by omega), S.good' ⟨c3, hels', .inr ⟨r, cur, T, hm, hh, hcapg, ?_, hone, ?_⟩⟩, S.prog⟩
            · rw [htl]; exact Nat.le_trans (Nat.mul_le_mul_right _ (by omega)) hbig
            · have := row_of_RL (g := g) (w := w) (L := L.set b (.row (gen + 1) ei.sz (els.take len))) (cur := cur.toList) c3 hels' (by rw [htl]; exact hro.mono fun x v hx => S.mono hx)
              intro i j x v hx hv
              exact this i j x v hx (by simpa using hv)
          · obtain ⟨ad, rfl, hIo, hcell⟩ := hcells hpos
            by_cases hroom : len + news.length ≤ cc
            · have ho0 : o = 0 := by omega
              subst ho0
              have hfit : len * i.size + vs.length ≤ cur.size := by
                rw [hvl, hi1, ← Nat.add_mul, hcapg]; exact Nat.le_trans (Nat.mul_le_mul_right _ hroom) hcap
              have hone2 : ∀ u ∈ vs, u.oneCell' = true := fun u hu => by
                obtain ⟨j, hj, rfl⟩ := List.getElem_of_mem hu
                exact hrl.2.1 j _ (List.getElem?_eq_getElem hj)
              have hr := run_append_room' (P := C.P) t ty e i hT hi r len cc cur T hh ad news.length c vs (by rw [hi1]; exact hvl) hcell hone2 hroom hfit
              rw [hi1] at hr hfit
              have S : Step g w L b (.row (gen + 1) ei.sz (els.take len ++ news)) g (w.setRow r (cur.toList.take (len * ei.sz) ++ vs ++ cur.toList.drop (len * ei.sz + vs.length)).toArray) := by
                refine ⟨hg, ⟨_, hL, by simp⟩, by rw [hL]; simp, setRow_env _ _ _, by rw [setRow_size]; exact Nat.le_refl _, rfl, fun _ _ => rfl, fun _ _ => rfl, fun q o ho hne => ?_, fun r hr => .inl hr, ?_⟩
                · rw [setRow_other (fun e => hne (by rw [← e]; exact hm))]; exact ho
                · exact ⟨fun cs' e => (by rw [hL] at e; cases e), fun gen1 sz1 els1 e => (by rw [hL] at e; cases e; exact .inr ⟨_, _, _, List.getElem?_set_self hbl, .inl (Nat.lt_succ_self _)⟩), fun es e => (by rw [hL] at e; cases e), fun l e => (by rw [hL] at e; cases e), fun e => (by rw [hL] at e; cases e)⟩
              have hflat : RL g w L (els.take len ++ news).flatten (cur.toList.take (len * ei.sz) ++ vs) := by
                rw [List.flatten_append]; exact hro.append hrl
              have hsum : (len + news.length) * ei.sz = len * ei.sz + vs.length := by rw [hvl, Nat.add_mul]
              refine ⟨_, _, _, _, g, hr, h, .own _ _ _ _ ei.sz r 0 cc (els.take len ++ news) (List.getElem?_set_self hbl) hm (.inr (by simp)) (by simpa using hcap) hroom (by omega), S.good' ⟨c3, hels', .inr ⟨r, _, T, hm, setRow_same hh, ?_, ?_, ?_, ?_⟩⟩, S.prog⟩
              · simp; omega
              · rw [hnl, hsum]; simp; omega
              · intro j v' hv'
                simp only [List.getElem?_toArray] at hv'
                rw [splice_get (by simp; omega)] at hv'
                split at hv'
                · exact hone j v' (by simpa using hv')
                · split at hv'
                  · exact hrl.2.1 _ v' hv'
                  · exact hone j v' (by simpa using hv')
              · have := row_of_RL (g := g) (w := w.setRow r (cur.toList.take (len * ei.sz) ++ vs ++ cur.toList.drop (len * ei.sz + vs.length)).toArray) (L := L.set b (.row (gen + 1) ei.sz (els.take len ++ news)))
                  (cur := cur.toList.take (len * ei.sz) ++ vs ++ cur.toList.drop (len * ei.sz + vs.length)) c3 hels' (by
                    have hlen1 : (cur.toList.take (len * ei.sz) ++ vs).length = len * ei.sz + vs.length := by simp; omega
                    have e3 : (cur.toList.take (len * ei.sz) ++ vs ++ cur.toList.drop (len * ei.sz + vs.length)).take ((els.take len ++ news).length * ei.sz) = cur.toList.take (len * ei.sz) ++ vs := by
                      rw [hnl, hsum, ← hlen1, List.take_left]
                    rw [e3]
                    exact hflat.mono fun x v hx => S.mono hx)
                intro i j x v hx hv
                exact this i j x v hx (by simpa using hv)
            · have hold : ∀ (j : Nat) (u : Value), (cur.toList.take (len * ei.sz))[j]? = some u → w.cell? ((⟨r, o, none⟩ : Addr).add j) = some u := by
                intro j u hu
                rw [List.getElem?_take] at hu
                split at hu
                · rename_i hj
                  have : 0 < len := by
                    rcases Nat.eq_zero_or_pos len with h0 | h0
                    · rw [h0] at hj; omega
                    · exact h0
                  have ho0 : o = 0 := by omega
                  subst ho0
                  rw [Addr.add_lit, Nat.zero_add, cell_row hh]
                  simpa using hu
                · cases hu
              have hcl : (cur.toList.take (len * ei.sz)).length = len * ei.sz := by
                have : len * ei.sz ≤ cur.size := Nat.le_trans (Nat.mul_le_mul_right _ (by omega)) hbig
                simp; omega
              have hbytes : (len + news.length) * i.bytes ≤ 140737488355328 := by rw [hi2]; exact (apLim_le hsmall c4).1
              have hr := run_append_grow (P := C.P) w t ty e i ei.zv hT hi hi3 ⟨r, o, none⟩ len cc (cur.toList.take (len * ei.sz)) (by rw [hi1]; exact hcl) hold ad news.length c vs (by rw [hi1]; exact hvl) hcell (by omega) (by omega)
                (growslice_fits (by omega) hbytes)
              have hge := grownCap_ge w (len + news.length) cc e
              obtain ⟨g', r1, r2, r3⟩ := moved_ok hg hL (Nat.lt_succ_self gen) e c3 hels' (vs := cur.toList.take (len * ei.sz) ++ vs) (by rw [List.flatten_append]; exact hro.append hrl) (zeros_one (zokB_all c1) (grownCap w (len + news.length) cc e - (len + news.length))) (grownCap w (len + news.length) cc e)
                (by rw [List.length_append, hcl, hvl, hz, ← Nat.add_mul, ← Nat.add_mul]; congr 1; omega) (by omega)
              rw [hnl] at r1
              refine ⟨_, _, _, _, g', hr.trans ?_, h, r1, r2, r3⟩
              congr 3
              simp
      · exact h.elim
    · exact h.elim
  · exact h.elim


def vClear (C : Ctx) (t : TypeId) (s : V) (L : List Blk) (k : List Blk → Prop) : Prop :=
  match C.tt t with
  | some ti => match ti.k with
    | .sl e => match C.tt e with
      | some ei => bif zokB ei && Nat.beq ei.zv.cells.size ei.sz && Nat.blt 0 ei.sz then
          match s with
          | .nil => k L
          | .own b gen lo len => match L[b]? with
            | some (.row gen' sz els) => bif Nat.beq gen gen' && Nat.beq sz ei.sz then k (L.set b (.row gen sz (els.take lo ++ (List.replicate len (Go.Tidy.zeroCells ei) ++ els.drop (lo + len))))) else False
            | _ => False
          | _ => False
        else False
      | none => False
    | _ => False
  | none => False
theorem take_rep_drop {α : Type} {els : List α} {lo : Nat} {z : α} (_h : lo ≤ els.length) : els.take lo ++ (List.replicate 0 z ++ els.drop (lo + 0)) = els := by simp
theorem trd_get {α : Type} {els : List α} {lo len : Nat} {z : α} (h : lo + len ≤ els.length) (i : Nat) :
    (els.take lo ++ (List.replicate len z ++ els.drop (lo + len)))[i]? = if i < lo then els[i]? else if i < lo + len then some z else els[i]? := by
  have hl : (els.take lo).length = lo := by simp; omega
  by_cases h1 : i < lo
  · rw [List.getElem?_append_left (by omega), if_pos h1, List.getElem?_take, if_pos h1]
  · rw [List.getElem?_append_right (by omega), if_neg h1, hl]
    by_cases h2 : i < lo + len
    · rw [if_pos h2, List.getElem?_append_left (by simp; omega), List.getElem?_replicate, if_pos (by omega)]
    · rw [if_neg h2, List.getElem?_append_right (by simp; omega), List.length_replicate, List.getElem?_drop]
      congr 1; omega
theorem zeroCells_at {z : Array Value} {n i j : Nat} (hi : i < n) (hj : j < z.size) : (Builtin.zeroCells z n).toList[i * z.size + j]? = z[j]? := by
  have hlt : i * z.size + j < n * z.size := by
    have := Nat.mul_le_mul_right z.size (show i + 1 ≤ n from hi)
    rw [Nat.succ_mul] at this; omega
  have hm : (i * z.size + j) % z.size = j := by rw [Nat.add_comm, Nat.add_mul_mod_self_right, Nat.mod_eq_of_lt hj]
  unfold Builtin.zeroCells
  rw [Array.getElem?_toList, Array.getElem?_map, Array.getElem?_range, if_pos hlt, Option.map_some, hm, getElem!_pos z j hj, Array.getElem?_eq_getElem hj]

theorem vClear_ok (hC : C.OK) (hg : Good g w L) {t ty : TypeId} {s : V} {v : Value} (hs : RV g w L s v) {k : List Blk → Prop} (h : vClear C t s L k) :
    ∃ w' L', (Builtin.clear_ #[t] ty #[v]).run C.P w = .ok (.tuple #[]) w' ∧ k L' ∧ Good g w' L' ∧ Prog L.length g w L g w' L' := by
  unfold vClear at h
  cases ht : C.tt t with
  | none => simp [ht] at h
  | some ti =>
  simp only [ht] at h
  split at h
  · rename_i e hk
    cases he : C.tt e with
    | none => simp [he] at h
    | some ei =>
    simp only [he] at h
    have hE := hC e ei he
    have hT := (hC t ti ht).slice hk
    cases hc : (zokB ei && Nat.beq ei.zv.cells.size ei.sz && Nat.blt 0 ei.sz) with
    | false => simp [hc] at h
    | true =>
    simp only [hc, cond_true] at h
    rw [Bool.and_eq_true, Bool.and_eq_true] at hc
    obtain ⟨⟨c1, c2⟩, c3⟩ := hc
    have c2 := Nat.eq_of_beq_eq_true c2
    have c3 : 0 < ei.sz := by simpa [Nat.blt_eq] using c3
    obtain ⟨z1, z2, z3⟩ := zeroCells_ok g w L c1
    have none_ok : ∀ (a : Option Addr) (c : Nat), (Builtin.clear_ #[t] ty #[.slice a 0 c]).run C.P w = .ok (.tuple #[]) w := by
      intro a c
      cases a <;> simp [Builtin.clear_, run_underlying hT]
    split at h
    · cases hs with
      | nil => exact ⟨w, _, none_ok _ _, h, hg, Prog.refl _ _ _ _⟩
    · rename_i b gen lo len
      split at h
      · rename_i gen' sz els hL
        cases hle : (Nat.beq gen gen' && Nat.beq sz ei.sz) with
        | false => simp only [hle, cond_false] at h
        | true =>
        simp only [hle, cond_true] at h
        rw [Bool.and_eq_true] at hle
        have e1 := Nat.eq_of_beq_eq_true hle.1
        have e2 := Nat.eq_of_beq_eq_true hle.2
        subst e1 e2
        have hbl := lt_of_get hL
        obtain ⟨hsz0, hels, hrow⟩ := hg.blk b _ hL
        have same : ∀ {lo : Nat}, lo ≤ els.length → k (L.set b (.row gen ei.sz (els.take lo ++ (List.replicate 0 (Go.Tidy.zeroCells ei) ++ els.drop (lo + 0))))) → k L := by
          intro lo hlo h
          have e : L.set b (.row gen ei.sz els) = L := by
            apply List.ext_getElem?
            intro i
            rw [List.getElem?_set]
            split
            · rename_i hi; subst hi; exact hL.symm
            · rfl
          rw [take_rep_drop hlo, e] at h
          exact h
        cases hs with
        | ownX _ _ _ _ a n c hL' => rw [hL] at hL'; cases hL'
        | ownO _ _ gen2 _ _ _ _ a n c hL' hg' => rw [hL] at hL'; cases hL'; omega
        | ownN _ _ sz2 els2 hL' hm' => exact ⟨w, L, none_ok _ _, same (Nat.zero_le _) h, hg, Prog.refl _ _ _ _⟩
        | own _ _ _ _ sz2 r o cc els2 hL' hm' ho hcap hlc hle2 =>
          rw [hL] at hL'; cases hL'
          rcases Nat.eq_zero_or_pos len with h0 | hpos
          · subst h0
            exact ⟨w, L, none_ok _ _, same (by omega) h, hg, Prog.refl _ _ _ _⟩
          rcases hrow with ⟨hm, rfl⟩ | ⟨r', cur, T, hm, hh, hcapg, hbig, honec, hrec⟩
          · simp at hle2; omega
          rw [hm] at hm'; cases hm'
          have ho' : o = lo * ei.sz := by
            rcases ho with h0 | h0
            · omega
            · exact h0
          subst ho'
          have hzl : (Builtin.zeroCells ei.zv.cells len).toList.length = len * ei.sz := by rw [Array.length_toList, size_zeroCells, c2]
          have hzs : (Builtin.zeroCells ei.zv.cells len).size = len * ei.sz := by rw [size_zeroCells, c2]
          have hb : lo * ei.sz + len * ei.sz ≤ cur.size := by rw [← Nat.add_mul]; exact Nat.le_trans (Nat.mul_le_mul_right _ hle2) hbig
          have hone := zeros_one (zokB_all c1) len
          have hst := run_storeCells_at (P := C.P) r (lo * ei.sz) T (Builtin.zeroCells ei.zv.cells len).toList 0 cur w hh (by rw [hzl]; omega) fun u hu => by
            obtain ⟨j, hj, rfl⟩ := List.getElem_of_mem hu
            exact hone j _ (List.getElem?_eq_getElem hj)
          simp only [Nat.add_zero] at hst
          have hrun : (Builtin.clear_ #[t] ty #[.slice (some ⟨r, lo * ei.sz, none⟩) len cc]).run C.P w = .ok (.tuple #[]) (w.setRow r (cur.toList.take (lo * ei.sz) ++ (Builtin.zeroCells ei.zv.cells len).toList ++ cur.toList.drop (lo * ei.sz + (Builtin.zeroCells ei.zv.cells len).toList.length)).toArray) := by
            obtain ⟨m, rfl⟩ : ∃ m, len = m + 1 := ⟨len - 1, by omega⟩
            have h0 : ∀ (a : Addr), (Builtin.clear_ #[t] ty #[.slice (some a) (m + 1) cc]).run C.P w = ((storeCells a (Builtin.zeroCells ei.zv.cells (m + 1)).toList).run C.P w).andThen fun _ w' => .ok (.tuple #[]) w' := fun a => by
              simp [Builtin.clear_, run_underlying hT, hE.run_zero]
            rw [h0, hst]
            rfl
          have S : Step g w L b (.row gen ei.sz (els.take lo ++ (List.replicate len (Go.Tidy.zeroCells ei) ++ els.drop (lo + len)))) g (w.setRow r (cur.toList.take (lo * ei.sz) ++ (Builtin.zeroCells ei.zv.cells len).toList ++ cur.toList.drop (lo * ei.sz + (Builtin.zeroCells ei.zv.cells len).toList.length)).toArray) := by
            refine ⟨hg, ⟨_, hL, by simp⟩, by rw [hL]; simp, setRow_env _ _ _, by rw [setRow_size]; exact Nat.le_refl _, rfl, fun _ _ => rfl, fun _ _ => rfl, fun q o ho hne => ?_, fun r hr => .inl hr, ?_⟩
            · rw [setRow_other (fun e => hne (by rw [← e]; exact hm))]; exact ho
            · exact ⟨fun cs' e => (by rw [hL] at e; cases e), fun gen' sz' els' e => (by rw [hL] at e; cases e; exact .inr ⟨_, _, _, List.getElem?_set_self hbl, .inr ⟨rfl, rfl, rfl, rfl, by simp; omega⟩⟩), fun es e => (by rw [hL] at e; cases e), fun l e => (by rw [hL] at e; cases e), fun e => (by rw [hL] at e; cases e)⟩
          refine ⟨_, _, hrun, h, S.good' ⟨c3, ?_, .inr ⟨r, _, T, hm, setRow_same hh, ?_, ?_, ?_, ?_⟩⟩, S.prog⟩
          · intro e' he'
            rcases List.mem_append.1 he' with h' | h'
            · exact hels e' (List.mem_of_mem_take h')
            · rcases List.mem_append.1 h' with h' | h'
              · rw [List.eq_of_mem_replicate h', z1, c2]
              · exact hels e' (List.mem_of_mem_drop h')
          · simp; omega
          · have : (els.take lo ++ (List.replicate len (Go.Tidy.zeroCells ei) ++ els.drop (lo + len))).length = els.length := by simp; omega
            rw [this]; simp; omega
          · intro j v' hv'
            simp only [List.getElem?_toArray] at hv'
            rw [splice_get (by simp; omega)] at hv'
            split at hv'
            · exact honec j v' (by simpa using hv')
            · split at hv'
              · exact hone _ v' hv'
              · exact honec j v' (by simpa using hv')
          · intro i' j x' v' hx' hv'
            simp only [List.getElem?_toArray] at hv'
            rw [splice_get (by simp; omega), hzl] at hv'
            rw [trd_get hle2] at hx'
            have hjs : ∀ (e' : List V), els[i']? = some e' → e'[j]? = some x' → j < ei.sz := fun e' h1 h2 => by
              have := lt_of_get h2; have := hels e' (List.mem_of_getElem? h1); omega
            have hbnd : ∀ (e' : List V), els[i']? = some e' → i' < els.length := fun e' h1 => lt_of_get h1
            by_cases h1 : i' < lo
            · rw [if_pos h1] at hx'
              cases hq : els[i']? with
              | none => rw [hq] at hx'; cases hx'
              | some e' =>
                have hj := hjs e' hq (by rw [hq] at hx'; simpa using hx')
                have : i' * ei.sz + j < lo * ei.sz := by
                  have := Nat.mul_le_mul_right ei.sz (show i' + 1 ≤ lo from h1)
                  rw [Nat.succ_mul] at this; omega
                rw [if_pos this] at hv'
                exact S.mono (hrec i' j x' v' hx' (by simpa using hv'))
            · rw [if_neg h1] at hx'
              have hlo : lo * ei.sz ≤ i' * ei.sz := Nat.mul_le_mul_right _ (by omega)
              by_cases h2 : i' < lo + len
              · rw [if_pos h2] at hx'
                simp only [Option.bind_some] at hx'
                have hj : j < ei.zv.cells.size := by rw [← z1]; exact lt_of_get hx'
                have hlt : i' * ei.sz + j < lo * ei.sz + len * ei.sz := by
                  rw [← Nat.add_mul]
                  have := Nat.mul_le_mul_right ei.sz (show i' + 1 ≤ lo + len from h2)
                  rw [Nat.succ_mul] at this; omega
                rw [if_neg (by omega), if_pos hlt] at hv'
                have hidx : i' * ei.sz + j - lo * ei.sz = (i' - lo) * ei.zv.cells.size + j := by rw [c2, Nat.sub_mul]; omega
                rw [hidx, zeroCells_at (by omega) hj] at hv'
                exact S.mono (z3 j x' v' hx' hv')
              · rw [if_neg h2] at hx'
                have hlt : lo * ei.sz + len * ei.sz ≤ i' * ei.sz := by rw [← Nat.add_mul]; exact Nat.mul_le_mul_right _ (by omega)
                rw [if_neg (by omega), if_neg (by omega)] at hv'
                exact S.mono (hrec i' j x' v' hx' (by simpa using hv'))
      · exact h.elim
    · exact h.elim
  · exact h.elim


def vMin (x y : V) (c : V → Prop) : Prop :=
  match x, y with
  | .d (.int k a), .d (.int k' b) => bif decide (k = k') then c (.d (.int k (if b < a then b else a))) else False
  | _, _ => False
def vMax (x y : V) (c : V → Prop) : Prop :=
  match x, y with
  | .d (.int k a), .d (.int k' b) => bif decide (k = k') then c (.d (.int k (if a < b then b else a))) else False
  | _, _ => False
theorem vMin_ok {x y : V} {v u : Value} (hx : RV g w L x v) (hy : RV g w L y u) (tys : Array TypeId) (ty : TypeId) {c : V → Prop} (h : vMin x y c) : ∃ r X, (Builtin.min_ tys ty #[v, u]).run C.P w = .ok r w ∧ c X ∧ RV g w L X r := by
  unfold vMin at h
  split at h
  · rename_i k a k' b
    cases hd : decide (k = k') with
    | false => simp [hd] at h
    | true =>
    simp only [hd, cond_true] at h
    have := of_decide_eq_true hd
    subst this
    cases hx with | d _ _ hx => cases hx; cases hy with | d _ _ hy =>
    cases hy
    exact ⟨_, _, by simp [Builtin.min_, Builtin.min2], h, .d _ _ (.int _ _)⟩
  · exact h.elim
theorem vMax_ok {x y : V} {v u : Value} (hx : RV g w L x v) (hy : RV g w L y u) (tys : Array TypeId) (ty : TypeId) {c : V → Prop} (h : vMax x y c) : ∃ r X, (Builtin.max_ tys ty #[v, u]).run C.P w = .ok r w ∧ c X ∧ RV g w L X r := by
  unfold vMax at h
  split at h
  · rename_i k a k' b
    cases hd : decide (k = k') with
    | false => simp [hd] at h
    | true =>
    simp only [hd, cond_true] at h
    have := of_decide_eq_true hd
    subst this
    cases hx with | d _ _ hx => cases hx; cases hy with | d _ _ hy =>
    cases hy
    exact ⟨_, _, by simp [Builtin.max_, Builtin.max2], h, .d _ _ (.int _ _)⟩
  · exact h.elim

end
end Go.Tidy
