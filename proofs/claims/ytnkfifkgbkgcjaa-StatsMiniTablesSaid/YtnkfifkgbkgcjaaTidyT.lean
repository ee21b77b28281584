/-
  The base layer: from a law's arguments, as they are read, to tidy data; from a call's contract to the law's.
-/
import Derived.Test.YtnkfifkgbkgcjaaTidyS
import Derived.ReadAgain
import Derived.ChangeArms
import Derived.ChangeSame
import Derived.ChangeShapes
import Derived.RowKit3
import Derived.WideShapes
namespace Go.Tidy

/-- Data of a type. -/
inductive TyI (P : Program) : TypeId → List D → Prop
  | bool {t : TypeId} (h : P.underlying t = some .bool) (b : Bool) : TyI P t [.bool b]
  | int {t : TypeId} {k : IntKind} (h : P.underlying t = some (.int k)) (n : Int) (hw : (Lit.int k n).wf = true) : TyI P t [.int k n]
  | str {t : TypeId} (h : P.underlying t = some .string) (s : ByteArray) (hs : s.size ≤ maxLen) : TyI P t [.str s]
  | sl {t e : TypeId} (h : P.underlying t = some (.slice e)) (els : List (List D)) (hl : els.length ≤ maxLen) (hsz : ∀ y ∈ els, y.length = P.cellsOf e) (he : ∀ y ∈ els, TyI P e y) : TyI P t [.sl els]
  | struct {t : TypeId} {fs : Array Field} (h : P.underlying t = some (.struct fs)) (xs : List D) (hl : xs.length = P.cellsOf t)
      (hf : ∀ f ∈ fs.toList, TyI P f.type ((xs.drop f.offset).take (P.cellsOf f.type))) : TyI P t xs

def plainB (P : Program) (l : List TypeId) : Bool := l.all fun t => match P.underlying t with
  | some .bool | some (.int _) | some .string => true
  | some (.slice e) => l.contains e && Nat.blt 0 (P.cellsOf e)
  | some (.struct fs) => fs.toList.all fun f => l.contains f.type
  | _ => false

section
variable {H : Type} {enc : TypeId × Value → H} {P : Program} {w : World} {T : TypeId → Prop}

def RDL (w : World) (xs : List D) (cs : List Value) : Prop := xs.length = cs.length ∧ ∀ (j : Nat) (x : D) (v : Value), xs[j]? = some x → cs[j]? = some v → RD (· < w.heap.size) w x v

theorem RDL.one {x : D} {v : Value} (h : RD (· < w.heap.size) w x v) : RDL w [x] [v] := by
  refine ⟨rfl, fun j y u hy hu => ?_⟩
  cases j with
  | zero => simp at hy hu; subst hy hu; exact h
  | succ j => simp at hy

theorem RDL.append {xs ys : List D} {cs ds : List Value} (h : RDL w xs cs) (h' : RDL w ys ds) : RDL w (xs ++ ys) (cs ++ ds) := by
  refine ⟨by simp [h.1, h'.1], fun j x v hx hv => ?_⟩
  rcases Nat.lt_or_ge j xs.length with hj | hj
  · rw [List.getElem?_append_left hj] at hx
    rw [List.getElem?_append_left (by rw [← h.1]; exact hj)] at hv
    exact h.2 j x v hx hv
  · rw [List.getElem?_append_right hj] at hx
    rw [List.getElem?_append_right (by rw [← h.1]; exact hj), ← h.1] at hv
    exact h'.2 _ x v hx hv

/-- The fields, one behind the other. -/
theorem fields_rd (cs : List Value) : ∀ (fl : List Field) (o : Nat), (∀ (j : Nat) f, fl[j]? = some f → f.offset = o + ((fl.take j).map fun f => P.cellsOf f.type).sum) → (cs.drop o).length = (fl.map fun f => P.cellsOf f.type).sum →
    (∀ f ∈ fl, ∃ ys, RDL w ys ((cs.drop f.offset).take (P.cellsOf f.type)) ∧ TyI P f.type ys) →
    ∃ xs, RDL w xs (cs.drop o) ∧ ∀ f ∈ fl, o ≤ f.offset ∧ TyI P f.type ((xs.drop (f.offset - o)).take (P.cellsOf f.type))
  | [], o, _, hl, _ => by
    have : cs.drop o = [] := List.eq_nil_of_length_eq_zero (by simpa using hl)
    rw [this]
    exact ⟨[], ⟨rfl, fun j x v hx => by simp at hx⟩, fun f hf => by simp at hf⟩
  | f :: fl, o, ho, hl, hf => by
    have h0 : f.offset = o := by simpa using ho 0 f rfl
    obtain ⟨ys, hy1, hy2⟩ := hf f (by simp)
    simp only [List.map_cons, List.sum_cons] at hl
    have hlen : ((cs.drop o).take (P.cellsOf f.type)).length = P.cellsOf f.type := by rw [List.length_take]; omega
    rw [h0] at hy1
    have hyl : ys.length = P.cellsOf f.type := hy1.1.trans hlen
    obtain ⟨xs, hx1, hx2⟩ := fields_rd cs fl (o + P.cellsOf f.type) (fun j g hg => by
      have := ho (j + 1) g (by simpa using hg)
      simp only [List.take_succ_cons, List.map_cons, List.sum_cons] at this
      omega) (by
      rw [← List.drop_drop, List.length_drop]; omega) (fun g hg => hf g (by simp [hg]))
    have hcs : cs.drop o = (cs.drop o).take (P.cellsOf f.type) ++ cs.drop (o + P.cellsOf f.type) := by
      rw [← List.drop_drop, List.take_append_drop]
    refine ⟨ys ++ xs, by rw [hcs]; exact hy1.append hx1, fun g hg => ?_⟩
    rcases List.mem_cons.1 hg with rfl | hg
    · refine ⟨by omega, ?_⟩
      rw [h0, Nat.sub_self, List.drop_zero, List.take_append_of_le_length (by omega), List.take_of_length_le (by omega)]
      exact hy2
    · obtain ⟨h1, h2⟩ := hx2 g hg
      refine ⟨by omega, ?_⟩
      rw [List.drop_append, List.drop_eq_nil_of_le (by omega), List.nil_append, hyl, show g.offset - o - P.cellsOf f.type = g.offset - (o + P.cellsOf f.type) by omega]
      exact h2

theorem mapM_range {α : Type} {f : Nat → Option α} {n : Nat} {l : List α} (h : (List.range n).mapM f = some l) : l.length = n ∧ ∀ i, i < n → f i = l[i]? := by
  have key : ∀ (xs : List Nat) (l : List α), xs.mapM f = some l → l.length = xs.length ∧ ∀ (i : Nat) (x : Nat), xs[i]? = some x → f x = l[i]? := by
    intro xs
    induction xs with
    | nil => intro l h; simp at h; subst h; exact ⟨rfl, fun i x hx => by simp at hx⟩
    | cons x xs ih =>
      intro l h
      rw [List.mapM_cons] at h
      cases hx : f x with
      | none => simp [hx] at h
      | some y =>
        cases hy : xs.mapM f with
        | none => simp [hx, hy] at h
        | some ys =>
          simp [hx, hy] at h
          subst h
          obtain ⟨h1, h2⟩ := ih ys hy
          refine ⟨by simp [h1], fun i z hz => ?_⟩
          cases i with
          | zero => simp at hz; subst hz; simpa using hx
          | succ i => simpa using h2 i z (by simpa using hz)
  obtain ⟨h1, h2⟩ := key _ _ h
  refine ⟨by simpa using h1, fun i hi => h2 i i (by rw [List.getElem?_range hi])⟩

theorem cell_lt {a : Addr} {v : Value} (h : w.cell? a = some v) : a.block < w.heap.size := by
  rcases Nat.lt_or_ge a.block w.heap.size with hl | hl
  · exact hl
  · have : w.heap[a.block]? = none := Array.getElem?_eq_none hl
    unfold World.cell? at h
    rw [this] at h
    cases h

theorem block_add (a : Addr) (n : Nat) : (a.add n).block = a.block := by unfold Addr.add; split <;> rfl

/-- What is read, as tidy data. -/
theorem trod_rd (K : Kids P (· < P.types.size)) {l : List TypeId} (hp : plainB P l = true) (hl : ∀ t ∈ l, t < P.types.size) : ∀ (n : Nat) (t : TypeId) (cs : List Value) (x : DataW H × List MemPlace), t ∈ l →
    DataW.trod enc P w 0 (fun _ => true) true n t cs = some x → ∃ xs, RDL w xs cs ∧ TyI P t xs := by
  intro n
  induction n with
  | zero => intro t cs x _ h; simp [DataW.trod] at h
  | succ n ih =>
    intro t cs x ht h
    have hpt := hp
    unfold plainB at hpt
    rw [List.all_eq_true] at hpt
    have hpt := hpt t ht
    cases hu : P.underlying t with
    | none => rw [hu] at hpt; cases hpt
    | some d =>
      rw [hu] at hpt
      cases d
      all_goals first | (cases hpt; done) | skip
      case bool =>
        obtain ⟨b, rfl, _⟩ := DataW.trod_bool hu h
        exact ⟨[.bool b], RDL.one (.bool b), .bool hu b⟩
      case int k =>
        obtain ⟨v, rfl, _, hw⟩ := DataW.trod_int hu h
        exact ⟨[.int k v], RDL.one (.int k v), .int hu v hw⟩
      case string =>
        obtain ⟨s, rfl, _, hs⟩ := DataW.trod_string hu h
        exact ⟨[.str s], RDL.one (.str s), .str hu s hs⟩
      case slice e =>
        simp only [Bool.and_eq_true, List.contains_iff_mem, Nat.blt_eq] at hpt
        rcases DataW.trod_slice hu h with ⟨rfl, _⟩ | ⟨a, len, cap, elems, rest, m, hm, rfl, _, _, hlc, hcm, hlen, hel, _, _⟩
        · exact ⟨[.sl []], RDL.one (.slNil _ _), .sl hu [] (Nat.zero_le _) (fun y hy => by simp at hy) (fun y hy => by simp at hy)⟩
        · obtain rfl : n = m := by omega
          have each : ∀ i, i < len → ∃ (cs : Nat → Value) (ys : List D), (∀ j, j < P.cellsOf e → w.cell? ((a.add (i * P.cellsOf e)).add j) = some (cs j)) ∧ ys.length = P.cellsOf e ∧ (∀ (j : Nat) (x : D), ys[j]? = some x → RD (· < w.heap.size) w x (cs j)) ∧ TyI P e ys := by
            intro i hi
            have h1 := hel i hi
            have h2 : elems[i]? = some elems[i] := List.getElem?_eq_getElem (by omega)
            rw [h2] at h1
            rw [Option.bind_eq_some_iff] at h1
            obtain ⟨vs, h3, h4⟩ := h1
            obtain ⟨ys, h5, h6⟩ := ih e vs _ hpt.1 h4
            unfold World.cells? at h3
            rw [if_pos (Nat.zero_le _)] at h3
            obtain ⟨h7, h8⟩ := mapM_range h3
            refine ⟨fun j => vs[j]?.getD default, ys, fun j hj => ?_, by rw [h5.1]; exact h7, fun j x hx => ?_, h6⟩
            · rw [h8 j hj]; simp [List.getElem?_eq_getElem (show j < vs.length by omega)]
            · have hj : j < vs.length := by have := lt_of_get hx; rw [h5.1] at this; exact this
              simp only [List.getElem?_eq_getElem hj, Option.getD_some]
              exact h5.2 j x _ hx (List.getElem?_eq_getElem hj)
          have hch : ∃ (f : Nat → Nat → Value) (g : Nat → List D), ∀ i, i < len → (∀ j, j < P.cellsOf e → w.cell? ((a.add (i * P.cellsOf e)).add j) = some (f i j)) ∧ (g i).length = P.cellsOf e ∧ (∀ (j : Nat) (x : D), (g i)[j]? = some x → RD (· < w.heap.size) w x (f i j)) ∧ TyI P e (g i) := by
            refine ⟨fun i => if h : i < len then Classical.choose (each i h) else fun _ => default, fun i => if h : i < len then Classical.choose (Classical.choose_spec (each i h)) else [], fun i hi => ?_⟩
            simp only [hi, dif_pos]
            exact Classical.choose_spec (Classical.choose_spec (each i hi))
          obtain ⟨f, g, hfg⟩ := hch
          have hels : ∀ y ∈ (List.range len).map g, ∃ i, i < len ∧ y = g i := fun y hy => by
            obtain ⟨i, hi, rfl⟩ := List.mem_map.1 hy
            exact ⟨i, by simpa using hi, rfl⟩
          have hsz : ∀ y ∈ (List.range len).map g, y.length = P.cellsOf e := fun y hy => by obtain ⟨i, hi, rfl⟩ := hels y hy; exact (hfg i hi).2.1
          refine ⟨[.sl ((List.range len).map g)], RDL.one ?_, .sl hu _ (by simp; omega) hsz fun y hy => by obtain ⟨i, hi, rfl⟩ := hels y hy; exact (hfg i hi).2.2.2⟩
          by_cases h0 : len = 0
          · subst h0; exact .slNil _ _
          · have hadd : ∀ i j, (a.add (i * P.cellsOf e)).add j = a.add (i * P.cellsOf e + j) := fun i j => Addr.add_add _ _ _
            have := RD.sl (I := (· < w.heap.size)) (w := w) ((List.range len).map g) a cap (P.cellsOf e) f hsz (fun i j hi hj => by
              rw [← hadd]; exact (hfg i (by simpa using hi)).1 j hj) (by
              have h1 := (hfg 0 (by omega)).1 0 hpt.2
              have := cell_lt h1
              rwa [block_add, block_add] at this) (by simpa using hlc) (fun i j x hx => by
              rw [List.getElem?_map] at hx
              cases hr : (List.range len)[i]? with
              | none => rw [hr] at hx; cases hx
              | some i' =>
                have hi : i < len := by have := lt_of_get hr; simpa using this
                rw [List.getElem?_range hi] at hr
                cases hr
                rw [List.getElem?_range hi] at hx
                exact (hfg i hi).2.2.1 j x hx)
            simpa using this
      case struct fs =>
        obtain ⟨xs, m, hm, _, hlen, hxl, hfl⟩ := DataW.trod_struct hu h
        obtain rfl : n = m := by omega
        simp only [List.all_eq_true, List.contains_iff_mem] at hpt
        obtain ⟨_, hk2, hk3⟩ := K.struct (hl t ht) hu
        obtain ⟨ys, h1, h2⟩ := fields_rd (P := P) (w := w) cs fs.toList 0 (fun j f hf => by rw [Nat.zero_add]; exact hk3 j f hf) (by rw [List.drop_zero, hlen, hk2]) (fun f hf => by
          obtain ⟨i, hi⟩ := List.mem_iff_getElem?.1 hf
          have hi' : fs[i]? = some f := by simpa using hi
          have hlt : i < xs.length := by rw [hxl]; exact (Array.getElem?_eq_some_iff.1 hi').1
          have := hfl i f hi'
          rw [List.getElem?_eq_getElem hlt] at this
          exact ih f.type _ _ (hpt f hf) this)
        rw [List.drop_zero] at h1
        exact ⟨ys, h1, .struct hu ys (h1.1.trans hlen) fun f hf => by simpa using (h2 f hf).2⟩
end
end Go.Tidy
