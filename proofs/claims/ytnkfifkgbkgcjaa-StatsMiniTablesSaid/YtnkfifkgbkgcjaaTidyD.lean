/-
  The base layer: addresses, numbers, comparisons, composite values.
-/
import Derived.Test.YtnkfifkgbkgcjaaTidyC
namespace Go.Tidy

section
variable {C : Ctx} {g : Gh} {w : World} {L : List Blk}

theorem add_add (a : Addr) (i j : Nat) : (a.add i).add j = a.add (i + j) := by
  unfold Addr.add
  by_cases hi : i = 0 <;> by_cases hj : j = 0 <;> simp [hi, hj, Nat.add_assoc]
theorem add_block (a : Addr) (n : Nat) : (a.add n).block = a.block := by unfold Addr.add; split <;> rfl

theorem RD.drop {I : Nat → Prop} {cs : List D} {ad : Addr} (h : RD I w (.rptr cs) (.pointer (some ad))) (n : Nat) (hn : n ≤ cs.length) : RD I w (.rptr (cs.drop n)) (.pointer (some (ad.add n))) := by
  cases h with
  | rptr _ _ vs hcell hI hrec =>
    refine .rptr _ _ (fun j => vs (n + j)) (fun j hj => ?_) (by rw [add_block]; exact hI) (fun j x hx => hrec (n + j) x (by simpa using hx))
    rw [add_add]
    exact hcell (n + j) (by simp at hj; omega)

/-! ### The address of a field -/
def vFieldAddr (C : Ctx) (s : TypeId) (x : V) (f : Nat) (k : V → Prop) : Prop :=
  match C.tt s with
  | some si => match si.k with
    | .struct fs => match fs[f]? with
      | some (off, ft) => match C.tt ft with
        | some fi => bif Nat.blt 0 fi.sz then
            match x with
            | .ptr b o => k (.ptr b (o + off))
            | .eptr b gen i o => k (.eptr b gen i (o + off))
            | .d (.rptr cs) => bif Nat.ble off cs.length then k (.d (.rptr (cs.drop off))) else False
            | _ => False
          else False
        | none => False
      | none => False
    | _ => False
  | none => False

theorem TIok.struct {P : Program} {t : TypeId} {ti : TI} (h : TIok P t ti) {fs : List (Nat × TypeId)} (hk : ti.k = .struct fs) :
    ∃ fields, P.underlying t = some (.struct fields) ∧ fields.toList.map (fun f => (f.offset, f.type)) = fs ∧ fields.toList.all (fun f => f.name != "_") = true := by
  obtain ⟨u, hu, hko⟩ := h.und
  rw [hk] at hko
  cases u <;> first | exact hko.elim | exact ⟨_, hu, hko.1, hko.2⟩

theorem field_get {fields : Array Field} {fs : List (Nat × TypeId)} (h : fields.toList.map (fun f => (f.offset, f.type)) = fs) {i off : Nat} {ft : TypeId} (hf : fs[i]? = some (off, ft)) :
    ∃ fld, fields[i]? = some fld ∧ fld.offset = off ∧ fld.type = ft := by
  subst h
  rw [List.getElem?_map] at hf
  cases e : fields.toList[i]? with
  | none => rw [e] at hf; cases hf
  | some fld =>
    rw [e] at hf
    simp at hf
    exact ⟨fld, by simpa using e, hf.1, hf.2⟩

theorem run_fieldAt {P : Program} {s ft : TypeId} {si fi : TI} {fs : List (Nat × TypeId)} {f off : Nat} (hS : TIok P s si) (hk : si.k = .struct fs) (hf : fs[f]? = some (off, ft)) (hF : TIok P ft fi) (hpos : 0 < fi.sz) (a : Addr) (w : World) :
    (Instr.fieldAt s (.pointer (some a)) f).run P w = .ok (.pointer (some (a.add off))) w := by
  obtain ⟨fields, hu, hfs, _⟩ := hS.struct hk
  obtain ⟨fld, h1, h2, h3⟩ := field_get hfs hf
  subst h2 h3
  have h0 : fi.sz ≠ 0 := by omega
  simp [Instr.fieldAt, run_underlying hu, h1, Instr.sureAddr, fieldPlace, hF.run_sizeOf, h0]

theorem vFieldAddr_ok (hC : C.OK) {s : TypeId} {x : V} {v : Value} {f : Nat} (hx : RV g w L x v) {k : V → Prop} (h : vFieldAddr C s x f k) :
    ∃ r X, (Instr.fieldAt s v f).run C.P w = .ok r w ∧ k X ∧ RV g w L X r := by
  unfold vFieldAddr at h
  cases hs : C.tt s with
  | none => simp only [hs] at h
  | some si =>
  simp only [hs] at h
  split at h
  · rename_i fs hk
    split at h
    · rename_i off ft hf
      cases hft : C.tt ft with
      | none => simp only [hft] at h
      | some fi =>
      simp only [hft] at h
      cases hpos : Nat.blt 0 fi.sz with
      | false => simp only [hpos, cond_false] at h
      | true =>
      simp only [hpos, cond_true] at h
      have hp : 0 < fi.sz := by simpa [Nat.blt_eq] using hpos
      have hrun := fun a => run_fieldAt (hC s si hs) hk hf (hC ft fi hft) hp a w
      split at h
      · rename_i b o
        cases hx with
        | ptr _ _ r cs hL hm => exact ⟨_, _, hrun _, h, by rw [Addr.add_lit]; exact .ptr b _ r cs hL hm⟩
        | ptrX _ _ a hL => exact ⟨_, _, hrun _, h, .ptrX _ _ _ hL⟩
      · rename_i b gen i o
        cases hx with
        | eptr _ _ _ _ sz r els hL hm => exact ⟨_, _, hrun _, h, by rw [Addr.add_lit, Nat.add_assoc]; exact .eptr b gen i _ sz r els hL hm⟩
        | eptrO _ _ gen' sz _ _ els a hL hg => exact ⟨_, _, hrun _, h, .eptrO _ _ _ _ _ _ _ _ hL hg⟩
        | eptrX _ _ _ _ a hL => exact ⟨_, _, hrun _, h, .eptrX _ _ _ _ _ hL⟩
      · rename_i cs
        cases hle : Nat.ble off cs.length with
        | false => simp only [hle, cond_false] at h
        | true =>
        simp only [hle, cond_true] at h
        cases hx with
        | d _ _ hd =>
          have hd' := hd
          cases hd with
          | rptr _ ad vs hcell hI hrec => exact ⟨_, _, hrun _, h, .d _ _ (hd'.drop off (Nat.le_of_ble_eq_true hle))⟩
      · exact h.elim
    · exact h.elim
  · exact h.elim

theorem TIok.slice {P : Program} {t e : TypeId} {ti : TI} (h : TIok P t ti) (hk : ti.k = .sl e) : P.underlying t = some (.slice e) := by
  obtain ⟨u, hu, hko⟩ := h.und
  rw [hk] at hko
  cases u <;> first | exact hko.elim | (rename_i e'; have : e = e' := hko; subst this; exact hu)
theorem TIok.array {P : Program} {t e : TypeId} {n : Nat} {ti : TI} (h : TIok P t ti) (hk : ti.k = .arr n e) : P.underlying t = some (.array n e) := by
  obtain ⟨u, hu, hko⟩ := h.und
  rw [hk] at hko
  cases u <;> first | exact hko.elim | (rename_i n' e'; obtain ⟨h1, h2⟩ : n = n' ∧ e = e' := hko; subst h1 h2; exact hu)
theorem TIok.intK {P : Program} {t : TypeId} {k : IntKind} {ti : TI} (h : TIok P t ti) (hk : ti.k = .int k) : P.underlying t = some (.int k) := by
  obtain ⟨u, hu, hko⟩ := h.und
  rw [hk] at hko
  cases u <;> first | exact hko.elim | (rename_i k'; have : k = k' := hko; subst this; exact hu)
theorem TIok.boolK {P : Program} {t : TypeId} {ti : TI} (h : TIok P t ti) (hk : ti.k = .bool) : P.underlying t = some .bool := by
  obtain ⟨u, hu, hko⟩ := h.und
  rw [hk] at hko
  cases u <;> first | exact hko.elim | exact hu
theorem TIok.strK {P : Program} {t : TypeId} {ti : TI} (h : TIok P t ti) (hk : ti.k = .str) : P.underlying t = some .string := by
  obtain ⟨u, hu, hko⟩ := h.und
  rw [hk] at hko
  cases u <;> first | exact hko.elim | exact hu

/-! ### The address of an element -/
def vIndexAddr (C : Ctx) (t : TypeId) (x i : V) (k : V → Prop) (L : List Blk) : Prop :=
  match C.tt t with
  | some ti => match i with
    | .d (.int _ n) => match ti.k with
      | .sl e => match C.tt e with
        | some ei => match x with
          | .d (.sl els) => Idx els n fun _ e => Need (e.length = ei.sz) (k (.d (.rptr e)))
          | .own b gen lo len => match L[b]? with
            | some (.row gen' sz _) => bif Nat.beq gen gen' && Nat.beq sz ei.sz then IdxN len n fun j => k (.eptr b gen (lo + j) 0) else False
            | _ => False
          | _ => False
        | none => False
      | .arr len e => match C.tt e with
        | some ei => match x with
          | .ptr b o => IdxN len n fun j => k (.ptr b (o + j * ei.sz))
          | .eptr b gen i o => IdxN len n fun j => k (.eptr b gen i (o + j * ei.sz))
          | .d (.rptr cs) => bif Nat.beq cs.length (len * ei.sz) then IdxN len n fun j => k (.d (.rptr (cs.drop (j * ei.sz)))) else False
          | _ => False
        | none => False
      | _ => False
    | _ => False
  | none => False

theorem run_indexAt_sl {P : Program} {t e : TypeId} {ei : TI} (ht : P.underlying t = some (.slice e)) (hE : TIok P e ei) (a : Addr) (len c : Nat) (kk : IntKind) {n : Nat} (hn : n < len) (w : World) :
    (Instr.indexAt t (.slice (some a) len c) (.int kk n)).run P w = .ok (.pointer (some (a.add (n * ei.sz)))) w := by
  simp [Instr.indexAt, asIntOf, run_underlying ht, hE.run_sizeOf]
  intro hh; omega
theorem run_indexAt_ar {P : Program} {t e : TypeId} {ei : TI} {len : Nat} (ht : P.underlying t = some (.array len e)) (hE : TIok P e ei) (a : Addr) (kk : IntKind) {n : Nat} (hn : n < len) (w : World) :
    (Instr.indexAt t (.pointer (some a)) (.int kk n)).run P w = .ok (.pointer (some (a.add (n * ei.sz)))) w := by
  simp [Instr.indexAt, asIntOf, run_underlying ht, hE.run_sizeOf, Instr.sureAddr]
  intro hh; omega

theorem vIndexAddr_ok (hC : C.OK) (_hg : Good g w L) {t : TypeId} {x i : V} {v u : Value} (hx : RV g w L x v) (hi : RV g w L i u) {k : V → Prop} (h : vIndexAddr C t x i k L) :
    ∃ r X, (Instr.indexAt t v u).run C.P w = .ok r w ∧ k X ∧ RV g w L X r := by
  unfold vIndexAddr at h
  cases ht : C.tt t with
  | none => simp only [ht] at h
  | some ti =>
  simp only [ht] at h
  have hT := hC t ti ht
  split at h
  · rename_i kk n
    have hu : u = .int kk n := by cases hi with | d _ _ hd => cases hd; rfl
    subst hu
    split at h
    · rename_i e hk
      cases he : C.tt e with
      | none => simp only [he] at h
      | some ei =>
      simp only [he] at h
      have hE := hC e ei he
      have hsl := hT.slice hk
      split at h
      · rename_i els
        unfold Idx at h
        obtain ⟨m, hm, el, hel, h⟩ := h
        obtain ⟨hlen, h⟩ := h.out
        subst hm
        cases hx with
        | d _ _ hd =>
          cases hd with
          | slNil a c => simp at hel
          | sl _ ad c sz cs hsz hcell hI hlc hrec =>
            have hlt := lt_of_get hel
            have hszz : sz = ei.sz := by rw [← hlen]; exact (hsz el (List.mem_of_getElem? hel)).symm
            refine ⟨_, _, run_indexAt_sl hsl hE ad _ c kk hlt w, h, .d _ _ (.rptr _ _ (fun j => cs m j) (fun j hj => ?_) (by rw [add_block]; exact hI) (fun j x hx => hrec m j x (by rw [hel]; exact hx)))⟩
            rw [add_add, ← hszz]
            exact hcell m j hlt (by rw [hszz, ← hlen]; exact hj)
      · rename_i b gen lo len
        split at h
        · rename_i gen' sz els hL
          cases hle : (Nat.beq gen gen' && Nat.beq sz ei.sz) with
          | false => simp only [hle, cond_false] at h
          | true =>
          simp only [hle, cond_true] at h
          rw [Bool.and_eq_true] at hle
          have e1 := Nat.eq_of_beq_eq_true hle.1
          have e2 := Nat.eq_of_beq_eq_true hle.2
          subst e1 e2
          unfold IdxN at h
          obtain ⟨m, hm, hlt, h⟩ := h
          subst hm
          cases hx with
          | ownX _ _ _ _ a n c hL' => rw [hL] at hL'; cases hL'
          | ownO _ _ gen2 _ _ _ _ a n c hL' hg' => rw [hL] at hL'; cases hL'; omega
          | ownN _ _ _ _ hL' hm' => omega
          | own _ _ _ _ sz' r o c els' hL' hm' ho hc hlc hle =>
            rw [hL] at hL'; cases hL'
            have ho' : o = lo * ei.sz := by rcases ho with h0 | h0 <;> omega
            subst ho'
            refine ⟨_, _, run_indexAt_sl hsl hE _ len c kk hlt w, h, ?_⟩
            rw [Addr.add_lit, ← Nat.add_mul]
            exact .eptr b gen (lo + m) 0 ei.sz r els hL hm'
        · exact h.elim
      · exact h.elim
    · rename_i len e hk
      cases he : C.tt e with
      | none => simp only [he] at h
      | some ei =>
      simp only [he] at h
      have hE := hC e ei he
      have har := hT.array hk
      split at h
      · rename_i b o
        unfold IdxN at h
        obtain ⟨m, hm, hlt, h⟩ := h
        subst hm
        cases hx with
        | ptr _ _ r cs hL hm => exact ⟨_, _, run_indexAt_ar har hE _ kk hlt w, h, by rw [Addr.add_lit]; exact .ptr b _ r cs hL hm⟩
        | ptrX _ _ a hL => exact ⟨_, _, run_indexAt_ar har hE _ kk hlt w, h, .ptrX _ _ _ hL⟩
      · rename_i b gen i o
        unfold IdxN at h
        obtain ⟨m, hm, hlt, h⟩ := h
        subst hm
        cases hx with
        | eptr _ _ _ _ sz r els hL hm => exact ⟨_, _, run_indexAt_ar har hE _ kk hlt w, h, by rw [Addr.add_lit, Nat.add_assoc]; exact .eptr b gen i _ sz r els hL hm⟩
        | eptrO _ _ gen' sz _ _ els a hL hg => exact ⟨_, _, run_indexAt_ar har hE _ kk hlt w, h, .eptrO _ _ _ _ _ _ _ _ hL hg⟩
        | eptrX _ _ _ _ a hL => exact ⟨_, _, run_indexAt_ar har hE _ kk hlt w, h, .eptrX _ _ _ _ _ hL⟩
      · rename_i cs
        cases hle : Nat.beq cs.length (len * ei.sz) with
        | false => simp only [hle, cond_false] at h
        | true =>
        simp only [hle, cond_true] at h
        have hlen := Nat.eq_of_beq_eq_true hle
        unfold IdxN at h
        obtain ⟨m, hm, hlt, h⟩ := h
        subst hm
        cases hx with
        | d _ _ hd =>
          have hd' := hd
          cases hd with
          | rptr _ ad vs hcell hI hrec => exact ⟨_, _, run_indexAt_ar har hE _ kk hlt w, h, .d _ _ (hd'.drop _ (by rw [hlen]; exact Nat.mul_le_mul_right _ (Nat.le_of_lt hlt)))⟩
      · exact h.elim
    · exact h.elim
  · exact h.elim

/-! ### Part of a value -/
def cut (ti : TI) (cs : List V) (off : Nat) : Option V := bif Nat.ble (off + ti.sz) cs.length then some (mk ti.k.isAgg ((cs.drop off).take ti.sz)) else none

theorem part_ok {t : TypeId} {ti : TI} (hT : TIok C.P t ti) {cs : List V} {vs : Array Value} (hx : RV g w L (.agg cs) (.agg vs)) {off : Nat} {X : V} (h : cut ti cs off = some X) :
    ∃ r, (part t vs off).run C.P w = .ok r w ∧ RV g w L X r := by
  unfold cut at h
  cases hle : Nat.ble (off + ti.sz) cs.length with
  | false => rw [hle] at h; cases h
  | true =>
  rw [hle] at h
  simp only [cond_true, Option.some.injEq] at h
  subst h
  have hle' := Nat.le_of_ble_eq_true hle
  cases hx with
  | agg _ _ hlen hone hrec =>
    have hget : ∀ (j : Nat) (u : Value), ((vs.toList.drop off).take ti.sz)[j]? = some u → vs[off + j]? = some u ∧ j < ti.sz := by
      intro j u hu
      rw [List.getElem?_take] at hu
      split at hu
      · exact ⟨by simpa using hu, by assumption⟩
      · cases hu
    have hmk : ∀ v, ((ti.k.isAgg = true ∧ v = .agg ((vs.toList.drop off).take ti.sz).toArray) ∨ (ti.k.isAgg = false ∧ (vs.toList.drop off).take ti.sz = [v])) → RV g w L (mk ti.k.isAgg ((cs.drop off).take ti.sz)) v :=
      fun v hv => mk_ok (by simp; omega) (fun j u hu => hone _ u (hget j u hu).1) (fun j y u hy hu => by
        rw [List.getElem?_take, if_pos (hget j u hu).2] at hy
        exact hrec (off + j) y u (by simpa using hy) (hget j u hu).1) hv
    cases hA : ti.k.isAgg with
    | true =>
      refine ⟨.agg (vs.extract off (off + ti.sz)), by simp [part, hT.run_isAgg, hA, hT.run_sizeOf], ?_⟩
      have := hmk (.agg (vs.extract off (off + ti.sz))) (.inl ⟨hA, by congr 1; apply Array.ext'; simp [List.extract_eq_take_drop]⟩)
      rwa [hA] at this
    | false =>
      have h1 := hT.one hA
      have hv : vs[off]? = some vs[off] := Array.getElem?_eq_getElem (by omega)
      refine ⟨vs[off], by simp [part, hT.run_isAgg, hA, hv], ?_⟩
      have := hmk vs[off] (.inr ⟨hA, by
        rw [h1]
        rw [List.drop_eq_getElem_cons (by simp; omega)]
        simp⟩)
      rwa [hA] at this

end
end Go.Tidy
