/-
  The base layer: what one operation does to a tidy state, and that the machine's operation does so.
-/
import Derived.Test.YtnkfifkgbkgcjaaTidyA
namespace Go.Tidy

/-! ### The type table -/
def TK.isAgg : TK → Bool
  | .struct _ | .arr _ _ => true
  | _ => false

def kindOK : TK → TypeDesc → Prop
  | .int k, .int k' => k = k'
  | .bool, .bool => True
  | .str, .string => True
  | .sl e, .slice e' => e = e'
  | .map k e, .map k' e' => k = k' ∧ e = e'
  | .struct fs, .struct fields => fields.toList.map (fun f => (f.offset, f.type)) = fs ∧ fields.toList.all (fun f => f.name != "_") = true
  | .arr n e, .array n' e' => n = n' ∧ e = e'
  | .ptr e, .pointer e' => e = e'
  | .func, .func _ _ _ => True
  | .iface b, .interface ms => b = ms.isEmpty
  | .tuple, .tuple _ => True
  | .other, .struct _ => False
  | .other, .array _ _ => False
  | .other, _ => True
  | _, _ => False

structure TIok (P : Program) (t : TypeId) (ti : TI) : Prop where
  info : (P.info? t).map (fun i => (i.size, i.bytes, i.zero)) = some (ti.sz, ti.bytes, some ti.zv)
  und : ∃ u, P.underlying t = some u ∧ kindOK ti.k u
  one : ti.k.isAgg = false → ti.sz = 1
  eqok : ti.eqok = true → P.eqGuardType P.depth t = false ∧ P.stoodInHeld t = false

def Ctx.OK (C : Ctx) : Prop := ∀ t ti, C.tt t = some ti → TIok C.P t ti

/-! ### Words at which the executor waits for its user -/
@[irreducible] def Br (t : Bool) (k : Bool → Prop) : Prop := (t = true → k true) ∧ (t = false → k false)
theorem Br.intro {t : Bool} {k : Bool → Prop} (h1 : t = true → k true) (h2 : t = false → k false) : Br t k := by unfold Br; exact ⟨h1, h2⟩
theorem Br.lit {t : Bool} {k : Bool → Prop} (b : Bool) (h : t = b) (hk : k b) : Br t k := by subst h; unfold Br; exact ⟨fun h => h ▸ hk, fun h => h ▸ hk⟩
theorem Br.out {t : Bool} {k : Bool → Prop} (h : Br t k) : k t := by unfold Br at h; cases t; exact h.2 rfl; exact h.1 rfl

/-- Element i of a list. -/
@[irreducible] def Idx {α : Type} (els : List α) (i : Int) (k : Nat → α → Prop) : Prop := ∃ n : Nat, i = n ∧ ∃ e, els[n]? = some e ∧ k n e
theorem Idx.intro {α : Type} {els : List α} {i : Int} {k : Nat → α → Prop} (n : Nat) (e : α) (hi : i = n) (he : els[n]? = some e) (hk : k n e) : Idx els i k := by
  unfold Idx; exact ⟨n, hi, e, he, hk⟩
/-- An index within a length. -/
@[irreducible] def IdxN (len : Nat) (i : Int) (k : Nat → Prop) : Prop := ∃ n : Nat, i = n ∧ n < len ∧ k n
theorem IdxN.intro {len : Nat} {i : Int} {k : Nat → Prop} (n : Nat) (hi : i = n) (hn : n < len) (hk : k n) : IdxN len i k := by unfold IdxN; exact ⟨n, hi, hn, hk⟩
/-- An element that is there. -/
@[irreducible] def GetE {α : Type} (els : List α) (n : Nat) (k : α → Prop) : Prop := ∃ e, els[n]? = some e ∧ k e
theorem GetE.intro {α : Type} {els : List α} {n : Nat} {k : α → Prop} (e : α) (he : els[n]? = some e) (hk : k e) : GetE els n k := by unfold GetE; exact ⟨e, he, hk⟩
/-- Something that is to be shown. -/
@[irreducible] def Need (p : Prop) (k : Prop) : Prop := p ∧ k
theorem Need.intro {p k : Prop} (h : p) (hk : k) : Need p k := by unfold Need; exact ⟨h, hk⟩
theorem Need.out {p k : Prop} (h : Need p k) : p ∧ k := by unfold Need at h; exact h

/-! ### Worked out at once -/
def V.head (x : V) (K : V → Prop) : Prop :=
  match x with
  | .poison => K .poison
  | .tt => K .tt
  | .ff => K .ff
  | .d y => K (.d y)
  | .nil => K .nil
  | .own b g lo len => K (.own b g lo len)
  | .ptr b off => K (.ptr b off)
  | .eptr b g i off => K (.eptr b g i off)
  | .map b => K (.map b)
  | .fn f caps => K (.fn f caps)
  | .iface t y => K (.iface t y)
  | .agg cs => K (.agg cs)
  | .tup cs => K (.tup cs)
  | .yld l => K (.yld l)
  | .glob g => K (.glob g)
theorem V.head_eq (x : V) (K : V → Prop) : V.head x K = K x := by cases x <;> rfl
def forceL : List V → (List V → Prop) → Prop
  | [], K => K []
  | x :: r, K => V.head x fun x => forceL r fun r => K (x :: r)
theorem forceL_eq : ∀ (l : List V) (K : List V → Prop), forceL l K = K l
  | [], K => rfl
  | x :: r, K => by simp only [forceL, V.head_eq, forceL_eq r]
def V.force (x : V) (K : V → Prop) : Prop :=
  match x with
  | .agg cs => forceL cs fun cs => K (.agg cs)
  | .tup cs => forceL cs fun cs => K (.tup cs)
  | .fn f cs => forceL cs fun cs => K (.fn f cs)
  | x => V.head x K
theorem V.force_eq (x : V) (K : V → Prop) : V.force x K = K x := by cases x <;> simp [V.force, V.head, forceL_eq]
/-- L.set, worked out. -/
def setB : List Blk → Nat → Blk → (List Blk → Prop) → Prop
  | [], _, _, K => K []
  | _ :: r, 0, x, K => K (x :: r)
  | y :: r, n + 1, x, K => setB r n x fun r => K (y :: r)
theorem setB_eq : ∀ (L : List Blk) (b : Nat) (x : Blk) (K : List Blk → Prop), setB L b x K = K (L.set b x)
  | [], _, _, _ => rfl
  | _ :: _, 0, _, _ => rfl
  | y :: r, n + 1, x, K => by simp only [setB, setB_eq r n x, List.set]
def pushB : List Blk → Blk → (List Blk → Prop) → Prop
  | [], x, K => K [x]
  | y :: r, x, K => pushB r x fun r => K (y :: r)
theorem pushB_eq : ∀ (L : List Blk) (x : Blk) (K : List Blk → Prop), pushB L x K = K (L ++ [x])
  | [], _, _ => rfl
  | y :: r, x, K => by simp only [pushB, pushB_eq r x, List.cons_append]

/-! ### Values -/
def ofLeaf : Value → V
  | .bool b => .d (.bool b)
  | .int k n => .d (.int k n)
  | .string s => .d (.str s)
  | .pointer none => .d .nilptr
  | .slice none 0 0 => .nil
  | .map none => .d .nilmap
  | .nilFunc => .d .nilfn
  | .nilIface => .d .niliface
  | _ => .poison
def ofConst : Value → V
  | .agg cs => bif cs.toList.all (·.oneCell') then .agg (cs.toList.map ofLeaf) else .poison
  | v => ofLeaf v

theorem ofLeaf_ok (g : Gh) (w : World) (L : List Blk) (v : Value) : RV g w L (ofLeaf v) v := by
  unfold ofLeaf
  split
  · exact .d _ _ (.bool _)
  · exact .d _ _ (.int _ _)
  · exact .d _ _ (.str _)
  · exact .d _ _ .nilptr
  · exact .nil
  · exact .d _ _ .nilmap
  · exact .d _ _ .nilfn
  · exact .d _ _ .niliface
  · exact .poison _

theorem ofConst_ok (g : Gh) (w : World) (L : List Blk) (v : Value) : RV g w L (ofConst v) v := by
  unfold ofConst
  split
  · rename_i cs
    cases h : cs.toList.all (·.oneCell') with
    | true =>
      refine .agg _ _ (by simp) (fun j v hv => ?_) (fun j x v hx hv => ?_)
      · exact List.all_eq_true.1 h v (List.mem_of_getElem? (i := j) (by simpa using hv))
      · rw [List.getElem?_map] at hx
        have : cs.toList[j]? = some v := by simpa using hv
        rw [this] at hx
        cases hx
        exact ofLeaf_ok g w L v
    | false => exact .poison _
  · exact ofLeaf_ok g w L _

/-- A bool that a test has decided, as data. -/
def norm : V → V
  | .tt => .d (.bool true)
  | .ff => .d (.bool false)
  | v => v
theorem norm_ok {g : Gh} {w : World} {L : List Blk} {x : V} {v : Value} (h : RV g w L x v) : RV g w L (norm x) v := by
  unfold norm
  split
  · cases h; exact .d _ _ (.bool _)
  · cases h; exact .d _ _ (.bool _)
  · exact h
def ev (fr : List (Nat × V)) : Operand → V
  | .tmp t => norm (look fr t)
  | .const v => ofConst v
  | .global g => .glob g
  | .func f => .fn f []

theorem ev_ok {g : Gh} {w : World} {L : List Blk} {fr : List (Nat × V)} {a : Act} (h : ∀ i, RV g w L (look fr i) (a.tmps.getD i undef)) (x : Operand) : RV g w L (ev fr x) (a.eval x) := by
  cases x with
  | tmp t => exact norm_ok (h t)
  | const v => exact ofConst_ok g w L v
  | global k => exact .glob k
  | func f => exact .fn f [] #[] rfl (fun j x v h _ => by simp at h)

/-- A test's operand, as it stands. -/
def evB (fr : List (Nat × V)) : Operand → V
  | .tmp t => look fr t
  | .const (.bool true) => .tt
  | .const (.bool false) => .ff
  | x => ev fr x
theorem evB_ok {g : Gh} {w : World} {L : List Blk} {fr : List (Nat × V)} {a : Act} (h : ∀ i, RV g w L (look fr i) (a.tmps.getD i undef)) (x : Operand) : RV g w L (evB fr x) (a.eval x) := by
  cases x with
  | tmp t => exact h t
  | const v =>
    unfold evB
    split
    · rename_i e; cases e
    · rename_i e; cases e; exact .tt
    · rename_i e; cases e; exact .ff
    · exact ev_ok h (.const v)
  | global k => exact ev_ok h (.global k)
  | func f => exact ev_ok h (.func f)
theorem RV.bool_of {g : Gh} {w : World} {L : List Blk} {t : Bool} {v : Value} (h : RV g w L (.d (.bool t)) v) : v = .bool t := by cases h with | d _ _ hd => cases hd; rfl

def mk (agg : Bool) (cs : List V) : V := bif agg then .agg cs else match cs with | [v] => v | _ => .poison
def cellsOf : V → List V
  | .agg cs => cs
  | v => [v]
/-- Values whose cells may be laid into memory. -/
def V.stor : V → Bool
  | .poison | .tup _ => false
  | _ => true

theorem RV.cells {g : Gh} {w : World} {L : List Blk} {x : V} {v : Value} (h : RV g w L x v) (hs : x.stor = true) :
    (cellsOf x).length = v.cells.size ∧ (∀ (j : Nat) (u : Value), v.cells[j]? = some u → u.oneCell' = true) ∧
    ∀ (j : Nat) (y : V) (u : Value), (cellsOf x)[j]? = some y → v.cells[j]? = some u → RV g w L y u := by
  have leaf : ∀ {x : V} {v : Value}, RV g w L x v → cellsOf x = [x] → v.cells = #[v] → v.oneCell' = true → (cellsOf x).length = v.cells.size ∧ (∀ (j : Nat) (u : Value), v.cells[j]? = some u → u.oneCell' = true) ∧
      ∀ (j : Nat) (y : V) (u : Value), (cellsOf x)[j]? = some y → v.cells[j]? = some u → RV g w L y u := by
    intro x v h h1 h2 h3
    rw [h1, h2]
    refine ⟨rfl, fun j u hu => ?_, fun j y u hy hu => ?_⟩
    · cases j with
      | zero => simp at hu; exact hu ▸ h3
      | succ j => simp at hu
    · cases j with
      | zero => simp at hy hu; exact hy ▸ hu ▸ h
      | succ j => simp at hu
  cases h with
  | poison v => simp [V.stor] at hs
  | tt => exact leaf .tt rfl rfl rfl
  | ff => exact leaf .ff rfl rfl rfl
  | tup => simp [V.stor] at hs
  | d x v h => exact leaf (.d x v h) rfl (by cases h <;> rfl) h.one
  | agg cs vs hlen hone hrec => exact ⟨hlen, hone, hrec⟩
  | nil => exact leaf .nil rfl rfl rfl
  | ptr b off r cs hL hm => exact leaf (.ptr b off r cs hL hm) rfl rfl rfl
  | ptrX b off a hL => exact leaf (.ptrX b off a hL) rfl rfl rfl
  | own b gen lo len sz r o c els hL hm ho hc hlc hle => exact leaf (.own b gen lo len sz r o c els hL hm ho hc hlc hle) rfl rfl rfl
  | ownN b gen sz els hL hm => exact leaf (.ownN b gen sz els hL hm) rfl rfl rfl
  | ownO b gen gen' sz lo len els a n c hL hg => exact leaf (.ownO b gen gen' sz lo len els a n c hL hg) rfl rfl rfl
  | ownX b gen lo len a n c hL => exact leaf (.ownX b gen lo len a n c hL) rfl rfl rfl
  | eptr b gen i off sz r els hL hm => exact leaf (.eptr b gen i off sz r els hL hm) rfl rfl rfl
  | eptrO b gen gen' sz i off els a hL hg => exact leaf (.eptrO b gen gen' sz i off els a hL hg) rfl rfl rfl
  | eptrX b gen i off a hL => exact leaf (.eptrX b gen i off a hL) rfl rfl rfl
  | map b r es hL hm => exact leaf (.map b r es hL hm) rfl rfl rfl
  | mapX b a hL => exact leaf (.mapX b a hL) rfl rfl rfl
  | yld b r l hL hm => exact leaf (.yld b r l hL hm) rfl rfl rfl
  | yldX b r hL => exact leaf (.yldX b r hL) rfl rfl rfl
  | fn f caps vs hlen hrec => exact leaf (.fn f caps vs hlen hrec) rfl rfl rfl
  | iface t x v h => exact leaf (.iface t x v h) rfl rfl rfl
  | glob k => exact leaf (.glob k) rfl rfl rfl

/-! ### Loading -/
def vLoad (C : Ctx) (t : TypeId) (x : V) (L : List Blk) (k : V → Prop) : Prop :=
  match C.tt t with
  | none => False
  | some ti =>
    match x with
    | .ptr b off => match L[b]? with
      | some (.cells cs) => bif Nat.ble (off + ti.sz) cs.length then k (mk ti.k.isAgg ((cs.drop off).take ti.sz)) else False
      | _ => False
    | .eptr b gen i off => match L[b]? with
      | some (.row gen' sz els) => bif Nat.beq gen gen' && Nat.ble (off + ti.sz) sz then GetE els i fun e => k (mk ti.k.isAgg ((e.drop off).take ti.sz)) else False
      | _ => False
    | .d (.rptr cs) => bif Nat.ble ti.sz cs.length then k (mk ti.k.isAgg ((cs.take ti.sz).map .d)) else False
    | _ => False

section
variable {C : Ctx} {g : Gh} {w : World} {L : List Blk}

def uAgg : TypeDesc → Bool
  | .struct _ | .array _ _ => true
  | _ => false
theorem kindOK.agg {k : TK} {u : TypeDesc} (h : kindOK k u) : uAgg u = k.isAgg := by
  cases k <;> cases u <;> first | rfl | exact h.elim
theorem TIok.run_isAgg {P : Program} {t : TypeId} {ti : TI} (h : TIok P t ti) (w : World) : (isAgg t).run P w = .ok ti.k.isAgg w := by
  obtain ⟨u, hu, hk⟩ := h.und
  rw [← hk.agg]
  cases u <;> simp [isAgg, run_underlying hu, uAgg]

theorem TIok.run_sizeOf {P : Program} {t : TypeId} {ti : TI} (h : TIok P t ti) (w : World) : (sizeOf t).run P w = .ok ti.sz w := by
  have hi := h.info
  cases e : P.info? t with
  | none => rw [e] at hi; cases hi
  | some i =>
    rw [e] at hi
    simp only [Option.map_some, Option.some.injEq, Prod.mk.injEq] at hi
    simp [sizeOf, typeInfo, e, hi.1]

theorem TIok.run_zero {P : Program} {t : TypeId} {ti : TI} (h : TIok P t ti) (w : World) : (zeroValue t).run P w = .ok ti.zv w := by
  have hi := h.info
  cases e : P.info? t with
  | none => rw [e] at hi; cases hi
  | some i =>
    rw [e] at hi
    simp only [Option.map_some, Option.some.injEq, Prod.mk.injEq] at hi
    simp [zeroValue, typeInfo, e, hi.2.2]

theorem run_load_of {P : Program} {w : World} {a : Addr} {v : Value} (h : w.cell? a = some v) : (load a).run P w = .ok v w := by
  simp [h]

theorem loadVar_list {P : Program} {t : TypeId} {ti : TI} (hT : TIok P t ti) {a : Addr} {cs : List Value} (hn : cs.length = ti.sz)
    (h : ∀ (j : Nat) (v : Value), cs[j]? = some v → w.cell? (a.add j) = some v) :
    ∃ v, (loadVar t a).run P w = .ok v w ∧ ((ti.k.isAgg = true ∧ v = .agg cs.toArray) ∨ (ti.k.isAgg = false ∧ cs = [v])) := by
  cases hA : ti.k.isAgg with
  | true =>
    refine ⟨.agg cs.toArray, ?_, .inl ⟨rfl, rfl⟩⟩
    have h1 : (loadCells a cs.length).run P w = .ok cs.toArray w := run_loadCells_list w a cs h
    rw [hn] at h1
    simp [loadVar, hT.run_isAgg, hA, hT.run_sizeOf, h1]
  | false =>
    rw [hT.one hA] at hn
    match cs, hn with
    | [v], _ =>
      refine ⟨v, ?_, .inr ⟨rfl, rfl⟩⟩
      have := h 0 v rfl
      rw [show a.add 0 = a by simp [Addr.add]] at this
      simp [loadVar, hT.run_isAgg, hA, this]

theorem mk_ok {ti : TI} {xs : List V} {cs : List Value} {v : Value} (hlen : xs.length = cs.length) (hone : ∀ (j : Nat) (u : Value), cs[j]? = some u → u.oneCell' = true)
    (hrec : ∀ (j : Nat) (y : V) (u : Value), xs[j]? = some y → cs[j]? = some u → RV g w L y u)
    (h : (ti.k.isAgg = true ∧ v = .agg cs.toArray) ∨ (ti.k.isAgg = false ∧ cs = [v])) : RV g w L (mk ti.k.isAgg xs) v := by
  rcases h with ⟨hA, rfl⟩ | ⟨hA, rfl⟩
  · rw [hA]
    exact .agg xs cs.toArray (by simpa using hlen) (fun j u hu => hone j u (by simpa using hu)) (fun j y u hy hu => hrec j y u hy (by simpa using hu))
  · rw [hA]
    match xs, hlen with
    | [x], _ => exact hrec 0 x v rfl rfl

theorem cell_row {r i : Nat} {cur : Array Value} {T : TypeId} {fr : Nat × Nat} (h : w.heap[r]? = some (.cells cur T fr)) : w.cell? ⟨r, i, none⟩ = cur[i]? := cell_of_row w r i cur T fr h

theorem vLoad_ok (hC : C.OK) (hg : Good g w L) {t : TypeId} {x : V} {v : Value} (hx : RV g w L x v) {k : V → Prop} (h : vLoad C t x L k) :
    ∃ r V, (Instr.loadAt t v).run C.P w = .ok r w ∧ k V ∧ RV g w L V r := by
  unfold vLoad at h
  cases ht : C.tt t with
  | none => simp only [ht] at h
  | some ti =>
    simp only [ht] at h
    have hT := hC t ti ht
    split at h
    · rename_i b off
      split at h
      · rename_i cs hL
        cases hle : Nat.ble (off + ti.sz) cs.length with
        | false => simp only [hle, cond_false] at h
        | true =>
          simp only [hle, cond_true] at h
          have hle' := Nat.le_of_ble_eq_true hle
          obtain ⟨r, cur, T, hm, hh, hsz, hone, hrec⟩ := hg.blk b _ hL
          cases hx with
          | ptrX _ _ a hL' => rw [hL] at hL'; cases hL'
          | ptr _ _ r' cs' hL' hm' =>
            rw [hm] at hm'; cases hm'
            obtain ⟨v, hrun, hv⟩ := loadVar_list (P := C.P) (w := w) hT (a := ⟨r, off, none⟩) (cs := (cur.toList.drop off).take ti.sz) (by simp; omega) (fun j u hu => by
              rw [Addr.add_lit, cell_row hh]
              rw [List.getElem?_take] at hu
              split at hu
              · simpa using hu
              · cases hu)
            refine ⟨v, _, by simp [Instr.loadAt, Instr.sureAddr, hrun], h, mk_ok (by simp; omega) (fun j u hu => ?_) (fun j y u hy hu => ?_) hv⟩
            · rw [List.getElem?_take] at hu
              split at hu
              · exact hone (off + j) u (by simpa using hu)
              · cases hu
            · rw [List.getElem?_take] at hu hy
              split at hu
              · rename_i hj
                rw [if_pos hj] at hy
                exact hrec (off + j) y u (by simpa using hy) (by simpa using hu)
              · cases hu
      · exact h.elim
    · rename_i b gen i off
      split at h
      · rename_i gen' sz els hL
        cases hle : (Nat.beq gen gen' && Nat.ble (off + ti.sz) sz) with
        | false => simp only [hle, cond_false] at h
        | true =>
          simp only [hle, cond_true] at h
          rw [Bool.and_eq_true] at hle
          have hgen := Nat.eq_of_beq_eq_true hle.1
          subst hgen
          have hle' := Nat.le_of_ble_eq_true hle.2
          unfold GetE at h
          obtain ⟨e, he, h⟩ := h
          obtain ⟨hsz0, hels, hrow⟩ := hg.blk b _ hL
          have hel : e.length = sz := hels e (List.mem_of_getElem? he)
          rcases hrow with ⟨hm, rfl⟩ | ⟨r, cur, T, hm, hh, hcap, hbig, hone, hrec⟩
          · simp at he
          · cases hx with
            | eptrX _ _ _ _ a hL' => rw [hL] at hL'; cases hL'
            | eptrO _ _ gen' _ _ _ _ a hL' hg' => rw [hL] at hL'; cases hL'; omega
            | eptr _ _ _ _ sz' r' els' hL' hm' =>
              rw [hL] at hL'; cases hL'
              rw [hm] at hm'; cases hm'
              have hi : i < els.length := lt_of_get he
              have hbound : (i + 1) * sz ≤ cur.size := Nat.le_trans (Nat.mul_le_mul_right sz hi) hbig
              have hb2 : i * sz + sz ≤ cur.size := by rw [← Nat.succ_mul]; exact hbound
              obtain ⟨v, hrun, hv⟩ := loadVar_list (P := C.P) (w := w) hT (a := ⟨r, i * sz + off, none⟩) (cs := (cur.toList.drop (i * sz + off)).take ti.sz) (by simp; omega) (fun j u hu => by
                rw [Addr.add_lit, cell_row hh]
                rw [List.getElem?_take] at hu
                split at hu
                · simpa using hu
                · cases hu)
              refine ⟨v, _, by simp [Instr.loadAt, Instr.sureAddr, hrun], h, mk_ok (by simp; omega) (fun j u hu => ?_) (fun j y u hy hu => ?_) hv⟩
              · rw [List.getElem?_take] at hu
                split at hu
                · exact hone (i * sz + off + j) u (by simpa using hu)
                · cases hu
              · rw [List.getElem?_take] at hu hy
                split at hu
                · rename_i hj
                  rw [if_pos hj] at hy
                  refine hrec i (off + j) y u (by rw [he]; simpa using hy) (by simpa [Nat.add_assoc] using hu)
                · cases hu
      · exact h.elim
    · rename_i cs
      cases hle : Nat.ble ti.sz cs.length with
      | false => simp only [hle, cond_false] at h
      | true =>
        simp only [hle, cond_true] at h
        have hle' := Nat.le_of_ble_eq_true hle
        cases hx with
        | d _ _ hd =>
          cases hd with
          | rptr _ ad vs hcell hI hrec =>
            obtain ⟨v, hrun, hv⟩ := loadVar_list (P := C.P) (w := w) hT (a := ad) (cs := (List.range ti.sz).map vs) (by simp) (fun j u hu => by
              rw [List.getElem?_map] at hu
              rcases Nat.lt_or_ge j ti.sz with hj | hj
              · rw [List.getElem?_range hj] at hu
                simp at hu
                rw [hcell j (by omega), hu]
              · rw [List.getElem?_eq_none (by simpa using hj)] at hu; cases hu)
            have hr : ∀ (j : Nat) (y : D) , j < ti.sz → cs[j]? = some y → RD g.I w y (vs j) := fun j y _ hy => hrec j y hy
            refine ⟨v, _, by simp [Instr.loadAt, Instr.sureAddr, hrun], h, mk_ok (by simp; omega) (fun j u hu => ?_) (fun j y u hy hu => ?_) hv⟩
            · rw [List.getElem?_map] at hu
              rcases Nat.lt_or_ge j ti.sz with hj | hj
              · rw [List.getElem?_range hj] at hu
                simp at hu
                exact hu ▸ (hr j _ hj (List.getElem?_eq_getElem (by omega))).one
              · rw [List.getElem?_eq_none (by simpa using hj)] at hu; cases hu
            · rw [List.getElem?_map] at hu hy
              rcases Nat.lt_or_ge j ti.sz with hj | hj
              · rw [List.getElem?_range hj] at hu
                simp at hu
                rw [List.getElem?_take, if_pos hj, List.getElem?_eq_getElem (by omega)] at hy
                simp at hy
                subst hy hu
                exact .d _ _ (hr j _ hj (List.getElem?_eq_getElem (by omega)))
              · rw [List.getElem?_eq_none (by simpa using hj)] at hu; cases hu
    · exact h.elim

end
end Go.Tidy
