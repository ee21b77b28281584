/-
  The base layer: append, slicing, length.
-/
import Derived.Test.YtnkfifkgbkgcjaaTidyF
namespace Go.Tidy

section
variable {C : Ctx} {g : Gh} {w : World} {L : List Blk}

/-- A row's elements lo .. lo + len, as one list of cells. -/
theorem seg_len {α : Type} {els : List (List α)} {sz lo len : Nat} (hels : ∀ e ∈ els, e.length = sz) (h : lo + len ≤ els.length) : ((els.drop lo).take len).flatten.length = len * sz := by
  rw [flatten_len (fun e he => hels e (List.mem_of_mem_drop (List.mem_of_mem_take he)))]
  congr 1
  simp; omega

theorem seg_get {α : Type} {els : List (List α)} {sz lo len p : Nat} (hels : ∀ e ∈ els, e.length = sz) (hsz : 0 < sz) (hp : p < len * sz) :
    ((els.drop lo).take len).flatten[p]? = (els[lo + p / sz]?).bind (fun e => e[p % sz]?) := by
  have h1 := Nat.div_add_mod p sz
  have h2 := Nat.mod_lt p hsz
  conv => lhs; rw [← h1, Nat.mul_comm]
  rw [flatten_get (fun e he => hels e (List.mem_of_mem_drop (List.mem_of_mem_take he))) h2]
  have h3 : p / sz < len := Nat.div_lt_of_lt_mul (by rw [Nat.mul_comm]; exact hp)
  rw [List.getElem?_take, if_pos h3, List.getElem?_drop]

theorem row_RL {sz lo len : Nat} {els : List (List V)} {cur : Array Value} (hsz : 0 < sz) (hels : ∀ e ∈ els, e.length = sz) (hbig : els.length * sz ≤ cur.size) (hone : ∀ (i : Nat) (v : Value), cur[i]? = some v → v.oneCell' = true)
    (hrec : ∀ (i j : Nat) (x : V) (v : Value), (els[i]?).bind (fun e => e[j]?) = some x → cur[i * sz + j]? = some v → RV g w L x v) (hle : lo + len ≤ els.length) :
    RL g w L ((els.drop lo).take len).flatten ((cur.toList.drop (lo * sz)).take (len * sz)) := by
  have hb : lo * sz + len * sz ≤ cur.size := by rw [← Nat.add_mul]; exact Nat.le_trans (Nat.mul_le_mul_right sz hle) hbig
  refine ⟨by rw [seg_len hels hle]; simp; omega, fun j u hu => ?_, fun j y u hy hu => ?_⟩
  · rw [List.getElem?_take] at hu
    split at hu
    · exact hone _ u (by simpa using hu)
    · cases hu
  · rw [List.getElem?_take] at hu
    split at hu
    · rename_i hj
      rw [seg_get hels hsz hj] at hy
      refine hrec (lo + j / sz) (j % sz) y u hy ?_
      have h1 := Nat.div_add_mod j sz
      rw [Nat.add_mul, Nat.add_assoc, Nat.mul_comm (j / sz), h1]
      simpa using hu
    · cases hu

theorem row_of_RL {sz : Nat} {els : List (List V)} {cur : List Value} (_hsz : 0 < sz) (hels : ∀ e ∈ els, e.length = sz) (h : RL g w L els.flatten (cur.take (els.length * sz))) :
    ∀ (i j : Nat) (x : V) (v : Value), (els[i]?).bind (fun e => e[j]?) = some x → cur[i * sz + j]? = some v → RV g w L x v := by
  intro i j x v hx hv
  have hj : j < sz := by
    cases he : els[i]? with
    | none => rw [he] at hx; cases hx
    | some e => rw [he] at hx; have := lt_of_get (L := e) (by simpa using hx); have := hels e (List.mem_of_getElem? he); omega
  have hi : i < els.length := by
    rcases Nat.lt_or_ge i els.length with h' | h'
    · exact h'
    · rw [List.getElem?_eq_none h'] at hx; cases hx
  have hlt : i * sz + j < els.length * sz := by
    have := Nat.mul_le_mul_right sz (show i + 1 ≤ els.length from hi)
    rw [Nat.succ_mul] at this; omega
  exact h.2.2 (i * sz + j) x v (by rw [flatten_get hels hj]; exact hx) (by rw [List.getElem?_take, if_pos hlt]; exact hv)

/-- A slice as a source. -/
def vSrc (L : List Blk) (sz : Nat) (x : V) (k : List (List V) → Prop) : Prop :=
  match x with
  | .nil => k []
  | .d (.sl ys) => Need (∀ e ∈ ys, e.length = sz) (k (ys.map (·.map .d)))
  | .own b gen lo len => match L[b]? with
    | some (.row gen' sz' els) => bif Nat.beq gen gen' && Nat.beq sz sz' then k ((els.drop lo).take len) else False
    | _ => False
  | _ => False

/-- What a source holds, cell by cell. -/
structure Src (g : Gh) (w : World) (L : List Blk) (sz : Nat) (v : Value) (els : List (List V)) : Prop where
  len : ∀ e ∈ els, e.length = sz
  form : ∃ (a : Option Addr) (c : Nat) (vs : List Value), v = .slice a els.length c ∧ els.length ≤ c ∧ RL g w L els.flatten vs ∧ vs.length = els.length * sz ∧
    (0 < els.length → ∃ ad, a = some ad ∧ (g.I ad.block ∨ owned g L ad.block) ∧ ∀ (j : Nat) (u : Value), vs[j]? = some u → w.cell? (ad.add j) = some u)

theorem vSrc_ok (hg : Good g w L) {sz : Nat} (hsz : 0 < sz) {x : V} {v : Value} (hx : RV g w L x v) {k : List (List V) → Prop} (h : vSrc L sz x k) : ∃ els, Src g w L sz v els ∧ k els := by
  unfold vSrc at h
  split at h
  · cases hx with
    | nil => exact ⟨[], ⟨by simp, none, 0, [], rfl, Nat.le_refl _, RL.nil, by simp, by simp⟩, h⟩
  · rename_i ys
    obtain ⟨hlen, hk⟩ := h.out
    cases hx with | d _ _ hd =>
    cases hd with
    | slNil a c => exact ⟨_, ⟨by simp, a, c, [], by simp, by simp, RL.nil, by simp, by simp⟩, hk⟩
    | sl _ ad c sz' cs hsz' hcell hI hlc hrec =>
      rcases Nat.eq_zero_or_pos ys.length with h0 | hpos
      · have : ys = [] := List.eq_nil_of_length_eq_zero h0
        subst this
        exact ⟨_, ⟨by simp, some ad, c, [], by simp, by simp, RL.nil, by simp, by simp⟩, hk⟩
      · obtain ⟨y, hy⟩ : ∃ y, y ∈ ys := List.exists_mem_of_length_pos hpos
        have e1 : sz' = sz := (hsz' y hy).symm.trans (hlen y hy)
        subst e1
        have hels : ∀ e ∈ ys.map (·.map V.d), e.length = sz' := by
          intro e he
          obtain ⟨e', he', rfl⟩ := List.mem_map.1 he
          simpa using hlen e' he'
        have hfl := flatten_len hels
        have hget : ∀ (p : Nat), p < ys.length * sz' → ∃ x, (ys[p / sz']?).bind (fun e => e[p % sz']?) = some x ∧ (ys.map (·.map V.d)).flatten[p]? = some (.d x) ∧ RD g.I w x (cs (p / sz') (p % sz')) := by
          intro p hp
          have h3 : p / sz' < ys.length := Nat.div_lt_of_lt_mul (by rw [Nat.mul_comm]; exact hp)
          have h2 := Nat.mod_lt p hsz
          have hel := hlen (ys[p / sz']) (List.getElem_mem h3)
          have hx : (ys[p / sz']?).bind (fun e => e[p % sz']?) = some ((ys[p / sz'])[p % sz']'(by omega)) := by
            rw [List.getElem?_eq_getElem h3]; simp
          refine ⟨_, hx, ?_, hrec _ _ _ hx⟩
          have h1 := Nat.div_add_mod p sz'
          conv => lhs; rw [← h1, Nat.mul_comm]
          rw [flatten_get hels h2, List.getElem?_map, List.getElem?_eq_getElem h3]
          simp
        refine ⟨_, ⟨hels, some ad, c, (List.range (ys.length * sz')).map (fun p => cs (p / sz') (p % sz')), by simp, by simpa using hlc, ⟨by rw [hfl]; simp, fun j u hu => ?_, fun j y' u hy' hu => ?_⟩, by simp, fun _ => ⟨ad, rfl, .inl hI, fun j u hu => ?_⟩⟩, hk⟩
        all_goals
          rw [List.getElem?_map] at hu
          rcases Nat.lt_or_ge j (ys.length * sz') with hj | hj
          · rw [List.getElem?_range hj] at hu
            simp at hu
            obtain ⟨x, hx1, hx2, hx3⟩ := hget j hj
            first
              | exact hu ▸ hx3.one
              | (rw [hx2] at hy'; cases hy'; exact hu ▸ .d _ _ hx3)
              | (have h1 := Nat.div_add_mod j sz'
                 have h3 : j / sz' < ys.length := Nat.div_lt_of_lt_mul (by rw [Nat.mul_comm]; exact hj)
                 have := hcell (j / sz') (j % sz') h3 (Nat.mod_lt j hsz)
                 rw [Nat.mul_comm, h1] at this
                 rw [this, hu])
          · rw [List.getElem?_eq_none (by simpa using hj)] at hu; cases hu
  · rename_i b gen lo len
    split at h
    · rename_i gen' sz' els hL
      cases hle : (Nat.beq gen gen' && Nat.beq sz sz') with
      | false => simp only [hle, cond_false] at h
      | true =>
      simp only [hle, cond_true] at h
      rw [Bool.and_eq_true] at hle
      have e1 := Nat.eq_of_beq_eq_true hle.1
      have e2 := Nat.eq_of_beq_eq_true hle.2
      subst e1 e2
      obtain ⟨hsz0, hels, hrow⟩ := hg.blk b _ hL
      have hsub : ∀ e ∈ (els.drop lo).take len, e.length = sz := fun e he => hels e (List.mem_of_mem_drop (List.mem_of_mem_take he))
      cases hx with
      | ownX _ _ _ _ a n c hL' => rw [hL] at hL'; cases hL'
      | ownO _ _ gen2 _ _ _ _ a n c hL' hg' => rw [hL] at hL'; cases hL'; omega
      | ownN _ _ _ _ hL' hm' => exact ⟨_, ⟨hsub, _, 0, [], rfl, by simp, by simpa using RL.nil, by simp, by simp⟩, h⟩
      | own _ _ _ _ sz' r o c els' hL' hm' ho hc hlc hle =>
        rw [hL] at hL'; cases hL'
        rcases hrow with ⟨hm, rfl⟩ | ⟨r', cur, T, hm, hh, hcap, hbig, hone, hrec⟩
        · rw [hm] at hm'; cases hm'
        · rw [hm] at hm'; cases hm'
          have hn : ((els.drop lo).take len).length = len := by simp; omega
          have hb : lo * sz + len * sz ≤ cur.size := by rw [← Nat.add_mul]; exact Nat.le_trans (Nat.mul_le_mul_right sz hle) hbig
          refine ⟨_, ⟨hsub, some ⟨r, o, none⟩, c, (cur.toList.drop (lo * sz)).take (len * sz), by rw [hn], by rw [hn]; exact hlc, row_RL hsz0 hels hbig hone hrec hle, by rw [hn]; simp; omega, fun hpos => ⟨_, rfl, .inr ⟨b, ⟨_, hL, by simp⟩, hm⟩, fun j u hu => ?_⟩⟩, h⟩
          rw [hn] at hpos
          have ho' : o = lo * sz := by rcases ho with h0 | h0 <;> omega
          subst ho'
          rw [Addr.add_lit, cell_row hh]
          rw [List.getElem?_take] at hu
          split at hu
          · simpa using hu
          · cases hu
    · exact h.elim
  · exact h.elim

theorem TIok.infos {P : Program} {t : TypeId} {ti : TI} (h : TIok P t ti) : ∃ i, P.info? t = some i ∧ i.size = ti.sz ∧ i.bytes = ti.bytes ∧ i.zero = some ti.zv := by
  have hi := h.info
  cases e : P.info? t with
  | none => rw [e] at hi; cases hi
  | some i =>
    rw [e] at hi
    simp only [Option.map_some, Option.some.injEq, Prod.mk.injEq] at hi
    exact ⟨i, rfl, hi.1, hi.2.1, hi.2.2⟩

def vAppend (C : Ctx) (t : TypeId) (s x : V) (L : List Blk) (k : V → List Blk → Prop) : Prop :=
  match C.tt t with
  | some ti => match ti.k with
    | .sl e => match C.tt e with
      | some ei => bif zokB ei && Nat.beq ei.zv.cells.size ei.sz && Nat.blt 0 ei.sz && Nat.ble ei.bytes 4096 then
          vSrc L ei.sz x fun news => match s with
            | .nil => Need (news.length ≤ 4294967296) (k (.own L.length 0 0 news.length) (L ++ [.row 0 ei.sz news]))
            | .own b gen 0 len => match L[b]? with
              | some (.row gen' sz els) => bif Nat.beq gen gen' && Nat.beq sz ei.sz then
                  Need (len + news.length ≤ 4294967296) (k (.own b (gen + 1) 0 (len + news.length)) (L.set b (.row (gen + 1) sz (els.take len ++ news)))) else False
              | _ => False
            | _ => False
        else False
      | none => False
    | _ => False
  | none => False

theorem zeros_one {z : Array Value} (h : z.all (·.oneCell') = true) (n : Nat) : ∀ (j : Nat) (u : Value), (Builtin.zeroCells z n).toList[j]? = some u → u.oneCell' = true := by
  intro j u hu
  have hu' : (Builtin.zeroCells z n)[j]? = some u := by simpa using hu
  unfold Builtin.zeroCells at hu'
  rw [Array.getElem?_map] at hu'
  rcases Nat.lt_or_ge j (n * z.size) with hj | hj
  · rw [Array.getElem?_eq_getElem (by simpa using hj)] at hu'
    simp at hu'
    have hz : 0 < z.size := by
      rcases Nat.eq_zero_or_pos z.size with h0 | h0
      · rw [h0] at hj; omega
      · exact h0
    rw [Array.all_eq_true] at h
    have hlt := Nat.mod_lt j hz
    rw [getElem!_pos z (j % z.size) hlt] at hu'
    exact hu' ▸ h _ hlt
  · rw [Array.getElem?_eq_none (by simpa using hj)] at hu'; cases hu'

theorem Src.drew {sz : Nat} {v : Value} {els : List (List V)} (h : Src g w L sz v els) : Src g w L sz v els := h

theorem run_append_zero {P : Program} {t ty e : TypeId} {ei : TI} (ht : P.underlying t = some (.slice e)) (hE : TIok P e ei) (base a : Option Addr) (sLen sCap c : Nat) (hle : sLen ≤ sCap) (w : World) :
    (Builtin.append_ #[t, t] ty #[.slice base sLen sCap, .slice a 0 c]).run P w = .ok (.slice base sLen sCap) w := by
  have hf : (Builtin.firstCells ei.sz 0 (.slice a 0 c)).run P w = .ok #[] w := by
    cases a <;> simp [Builtin.firstCells, loadCells, loadCellsFrom]
  cases base <;> simp [Builtin.append_, run_underlying ht, hE.run_sizeOf, Builtin.lenOf, hle, hf, storeCells]

/-- A row that moves to a new place in memory (or comes into being). -/
theorem moved_ok (hg : Good g w L) {b gen gen' sz : Nat} {els : List (List V)} (hL : L[b]? = some (.row gen sz els)) (hgen : gen < gen') (e : TypeId) (hsz : 0 < sz) {els' : List (List V)} (hels : ∀ x ∈ els', x.length = sz) {vs spare : List Value}
    (h : RL g w L els'.flatten vs) (hsp : ∀ (j : Nat) (u : Value), spare[j]? = some u → u.oneCell' = true) (c : Nat) (hc : vs.length + spare.length = c * sz) (hcl : els'.length ≤ c) :
    ∃ g', RV g' (w.drew.alloc (.cells (vs ++ spare).toArray e)) (L.set b (.row gen' sz els')) (.own b gen' 0 els'.length) (.slice (some ⟨w.heap.size, 0, none⟩) els'.length c) ∧
      Good g' (w.drew.alloc (.cells (vs ++ spare).toArray e)) (L.set b (.row gen' sz els')) ∧ Prog L.length g w L g' (w.drew.alloc (.cells (vs ++ spare).toArray e)) (L.set b (.row gen' sz els')) := by
  have hbl := lt_of_get hL
  have hvl : vs.length = els'.length * sz := by rw [← h.1, flatten_len hels]
  have S : Step g w L b (.row gen' sz els') (g.add b (some w.heap.size) (c * sz)) (w.drew.alloc (.cells (vs ++ spare).toArray e)) := by
    refine ⟨hg, ⟨_, hL, by simp⟩, by rw [hL]; simp, ⟨rfl, rfl, rfl⟩, by simp, rfl, fun b' hb => by simp [Gh.add, hb], fun b' hb => by simp [Gh.add, hb], fun q o ho _ => heap_old (w := w.drew) ho, fun r hr => ?_, ?_⟩
    · simp [Gh.add] at hr; omega
    · exact ⟨fun cs' e => (by rw [hL] at e; cases e), fun gen1 sz1 els1 e => (by rw [hL] at e; cases e; exact .inr ⟨_, _, _, List.getElem?_set_self hbl, .inl hgen⟩), fun es e => (by rw [hL] at e; cases e), fun l e => (by rw [hL] at e; cases e), fun e => (by rw [hL] at e; cases e)⟩
  refine ⟨_, .own _ _ _ _ sz _ 0 c els' (List.getElem?_set_self hbl) (by simp [Gh.add]) (.inr (by simp)) (by simp [Gh.add]) hcl (by simp), S.good' ⟨hsz, hels, .inr ⟨_, _, e, by simp [Gh.add], heap_alloc_new w.drew _, by simp [Gh.add]; omega, by simp; omega, ?_, ?_⟩⟩, S.prog⟩
  · intro i v hv
    simp only [List.getElem?_toArray] at hv
    rcases Nat.lt_or_ge i vs.length with hi | hi
    · rw [List.getElem?_append_left hi] at hv; exact h.2.1 i v hv
    · rw [List.getElem?_append_right hi] at hv; exact hsp _ v hv
  · have h2 := row_of_RL (cur := vs ++ spare) hsz hels (by rw [List.take_append_of_le_length (by omega), List.take_of_length_le (by omega)]; exact h.mono fun x v hx => S.mono hx)
    intro i j x v hx hv
    exact h2 i j x v hx (by simpa using hv)

theorem set_same {b : Nat} {k k' : Blk} (_hL : L[b]? = some k) : (L.set b k').length = L.length := by simp

theorem run_append_room' {P : Program} (t ty e : TypeId) (i : TypeInfo) (ht : P.underlying t = some (.slice e)) (hi : P.info? e = some i)
    (g sLen sCap : Nat) (cur : Array Value) (T : TypeId) (hg : w.heap[g]? = some (.cells cur T (0, 0)))
    (a : Addr) (m c : Nat) (news : List Value) (hl : news.length = m * i.size) (hnews : ∀ j u, news[j]? = some u → w.cell? (a.add j) = some u) (h1 : ∀ u ∈ news, u.oneCell' = true)
    (hroom : sLen + m ≤ sCap) (hfit : sLen * i.size + news.length ≤ cur.size) :
    (Builtin.append_ #[t, t] ty #[.slice (some ⟨g, 0, none⟩) sLen sCap, .slice (some a) m c]).run P w =
      .ok (.slice (some ⟨g, 0, none⟩) (sLen + m) sCap) (w.setRow g (cur.toList.take (sLen * i.size) ++ news ++ cur.toList.drop (sLen * i.size + news.length)).toArray) := by
  have hf := run_firstCells_some (P := P) w i.size m a m c news hl hnews
  have hst := run_storeCells_at P g (sLen * i.size) T news 0 cur w hg (by simpa using hfit) h1
  simp only [Nat.add_zero] at hst
  simp [Builtin.append_, run_underlying ht, sizeOf, typeInfo, hi, Builtin.lenOf, hroom, hf, Addr.add_lit, hst]

theorem run_append_empty {P : Program} (w : World) (t ty e : TypeId) (i : TypeInfo) (z : Value) (ht : P.underlying t = some (.slice e)) (hi : P.info? e = some i) (hz : i.zero = some z) (a0 : Option Addr) (ad : Addr) (m c : Nat) (vs : List Value)
    (hvl : vs.length = m * i.size) (hcell : ∀ j u, vs[j]? = some u → w.cell? (ad.add j) = some u) (hpos : 0 < m) (hm : m ≤ 4294967296) (hby : m * i.bytes ≤ 140737488355328) :
    ∃ cap, m ≤ cap ∧ (Builtin.append_ #[t, t] ty #[.slice a0 0 0, .slice (some ad) m c]).run P w = .ok (.slice (some ⟨w.heap.size, 0, none⟩) m cap) (w.drew.alloc (.cells (vs ++ (Builtin.zeroCells z.cells (cap - m)).toList).toArray e)) := by
  cases a0 with
  | none =>
    have hr := run_append_nil (P := P) w t ty e i z ht hi hz ad m c vs hvl hcell hpos (by omega) (by omega)
    exact ⟨_, grownCap_ge w m 0 e, hr.trans (by congr 3; simp)⟩
  | some a0 =>
    have hr := run_append_grow (P := P) w t ty e i z ht hi hz a0 0 0 [] (by simp) (by simp) ad m c vs hvl hcell (by omega) (by omega) (growslice_fits (by omega) (by simpa using hby))
    simp only [Nat.zero_add] at hr
    exact ⟨_, grownCap_ge w m 0 e, hr.trans (by congr 3; simp)⟩
theorem vAppend_ok (hC : C.OK) (hg : Good g w L) {t ty : TypeId} {s x : V} {v u : Value} (hs : RV g w L s v) (hx : RV g w L x u) {k : V → List Blk → Prop} (h : vAppend C t s x L k) :
    ∃ r w' X L' g', (Builtin.append_ #[t, t] ty #[v, u]).run C.P w = .ok r w' ∧ k X L' ∧ RV g' w' L' X r ∧ Good g' w' L' ∧ Prog L.length g w L g' w' L' := by
  unfold vAppend at h
  cases ht : C.tt t with
  | none => simp [ht] at h
  | some ti =>
  simp only [ht] at h
  split at h
  · rename_i e hk
    cases he : C.tt e with
    | none => simp [he] at h
    | some ei =>
    simp only [he] at h
    have hE := hC e ei he
    have hT := (hC t ti ht).slice hk
    cases hc : (zokB ei && Nat.beq ei.zv.cells.size ei.sz && Nat.blt 0 ei.sz && Nat.ble ei.bytes 4096) with
    | false => simp [hc] at h
    | true =>
    simp only [hc, cond_true] at h
    rw [Bool.and_eq_true, Bool.and_eq_true, Bool.and_eq_true] at hc
    obtain ⟨⟨⟨c1, c2⟩, c3⟩, c4⟩ := hc
    have c2 := Nat.eq_of_beq_eq_true c2
    have c3 : 0 < ei.sz := by simpa [Nat.blt_eq] using c3
    have c4 := Nat.le_of_ble_eq_true c4
    obtain ⟨i, hi, hi1, hi2, hi3⟩ := hE.infos
    obtain ⟨news, ⟨hlen, a, c, vs, rfl, hnc, hrl, hvl, hcells⟩, h⟩ := vSrc_ok hg c3 hx h
    have hz : ∀ n, (Builtin.zeroCells ei.zv.cells n).toList.length = n * ei.sz := fun n => by rw [Array.length_toList, size_zeroCells, c2]
    split at h
    · obtain ⟨hsmall, h⟩ := h.out
      cases hs with
      | nil =>
      rcases Nat.eq_zero_or_pos news.length with h0 | hpos
      · have hn : news = [] := List.eq_nil_of_length_eq_zero h0
        subst hn
        exact ⟨_, w, _, _, g.add L.length none 0, run_append_zero hT hE none a 0 0 c (Nat.le_refl _) w, h, .ownN _ _ ei.sz [] (by simp) (by simp [Gh.add]),
          add_good hg (Ext.refl w) none (fun q h => by cases h) 0 ⟨c3, by simp, .inl ⟨by simp [Gh.add], rfl⟩⟩, add_prog hg (Ext.refl w) _ none (fun q h => by cases h) 0⟩
      · obtain ⟨ad, rfl, _, hcell⟩ := hcells hpos
        have hr := run_append_nil (P := C.P) w t ty e i ei.zv hT hi hi3 ad news.length c vs (by rw [hi1]; exact hvl) hcell hpos (by omega)
          (by rw [hi2]; exact Nat.le_trans (Nat.mul_le_mul hsmall c4) (by decide))
        have hge := grownCap_ge w news.length 0 e
        obtain ⟨g', r1, r2, r3⟩ := newRow_ext hg (Ext.drewAlloc w (.cells (vs ++ (Builtin.zeroCells ei.zv.cells (grownCap w news.length 0 e - news.length)).toList).toArray e)) e c3 hlen hrl (zeros_one (zokB_all c1) _) (grownCap w news.length 0 e)
          (by rw [hvl, hz, ← Nat.add_mul]; congr 1; omega) hge (heap_alloc_new w.drew _)
        refine ⟨_, _, _, _, g', hr.trans ?_, h, r1, r2, r3⟩
        congr 3
        simp
    · rename_i b gen len _
      split at h
      · rename_i gen' sz els hL
        cases hle : (Nat.beq gen gen' && Nat.beq sz ei.sz) with
        | false => simp only [hle, cond_false] at h
        | true =>
        simp only [hle, cond_true] at h
        rw [Bool.and_eq_true] at hle
        have e1 := Nat.eq_of_beq_eq_true hle.1
        have e2 := Nat.eq_of_beq_eq_true hle.2
        subst e1 e2
        obtain ⟨hsmall, h⟩ := h.out
        have hbl := lt_of_get hL
        obtain ⟨hsz0, hels, hrow⟩ := hg.blk b _ hL
        have hels' : ∀ x ∈ els.take len ++ news, x.length = ei.sz := by
          intro x hx
          rcases List.mem_append.1 hx with hx | hx
          · exact hels x (List.mem_of_mem_take hx)
          · exact hlen x hx
        cases hs with
        | ownX _ _ _ _ a n c hL' => rw [hL] at hL'; cases hL'
        | ownO _ _ gen2 _ _ _ _ a n c hL' hg' => rw [hL] at hL'; cases hL'; omega
        | ownN _ _ sz2 els2 hL' hm' =>
          rw [hL] at hL'; cases hL'
          rcases hrow with ⟨hm, rfl⟩ | ⟨r', cur, T, hm, _⟩
          · have h : k (.own b (gen + 1) 0 news.length) (L.set b (.row (gen + 1) ei.sz news)) := by simpa using h
            have hsmall : news.length ≤ 4294967296 := by omega
            rcases Nat.eq_zero_or_pos news.length with h0 | hpos
            · have hn : news = [] := List.eq_nil_of_length_eq_zero h0
              subst hn
              have S : Step g w L b (.row (gen + 1) ei.sz []) g w := by
                refine ⟨hg, ⟨_, hL, by simp⟩, by rw [hL]; simp, ⟨rfl, rfl, rfl⟩, Nat.le_refl _, rfl, fun _ _ => rfl, fun _ _ => rfl, fun q o ho _ => ho, fun r hr => .inl hr, ?_⟩
                exact ⟨fun cs' e => (by rw [hL] at e; cases e), fun gen1 sz1 els1 e => (by rw [hL] at e; cases e; exact .inr ⟨_, _, _, List.getElem?_set_self hbl, .inl (Nat.lt_succ_self _)⟩), fun es e => (by rw [hL] at e; cases e), fun l e => (by rw [hL] at e; cases e), fun e => (by rw [hL] at e; cases e)⟩
              exact ⟨_, w, _, _, g, run_append_zero hT hE _ a 0 0 c (Nat.le_refl _) w, h, .ownN _ _ ei.sz [] (List.getElem?_set_self hbl) hm, S.good' ⟨c3, by simp, .inl ⟨hm, rfl⟩⟩, S.prog⟩
            · obtain ⟨ad, rfl, _, hcell⟩ := hcells hpos
              obtain ⟨cap, hge, hr⟩ := run_append_empty (P := C.P) w t ty e i ei.zv hT hi hi3 _ ad news.length c vs (by rw [hi1]; exact hvl) hcell hpos hsmall (by rw [hi2]; exact Nat.le_trans (Nat.mul_le_mul hsmall c4) (by decide))
              obtain ⟨g', r1, r2, r3⟩ := moved_ok hg hL (Nat.lt_succ_self gen) e c3 hlen hrl (zeros_one (zokB_all c1) (cap - news.length)) cap
                (by rw [hvl, hz, ← Nat.add_mul]; congr 1; omega) hge
              exact ⟨_, _, _, _, g', hr, h, r1, r2, r3⟩
          · rw [hm] at hm'; cases hm'
        | own _ _ _ _ sz2 r o cc els2 hL' hm' ho hcap hlc hle2 =>
          rw [hL] at hL'; cases hL'
          rcases hrow with ⟨hm, rfl⟩ | ⟨r', cur, T, hm, hh, hcapg, hbig, hone, hrec⟩
          · rw [hm] at hm'; cases hm'
          rw [hm] at hm'; cases hm'
          simp only [Nat.zero_add] at hle2 hcap
          have hro := row_RL (lo := 0) (len := len) c3 hels hbig hone hrec (by omega)
          simp only [Nat.zero_mul, List.drop_zero] at hro
          have htl : (els.take len).length = len := by simp; omega
          have hnl : (els.take len ++ news).length = len + news.length := by simp; omega
          have hoz : o = 0 ∨ cc = 0 := by rcases ho with h0 | h0 <;> omega
          rcases Nat.eq_zero_or_pos news.length with h0 | hpos
          · have hn : news = [] := List.eq_nil_of_length_eq_zero h0
            subst hn
            simp only [List.append_nil, List.length_nil, Nat.add_zero] at h hels' hnl
            have S : Step g w L b (.row (gen + 1) ei.sz (els.take len)) g w := by
              refine ⟨hg, ⟨_, hL, by simp⟩, by rw [hL]; simp, ⟨rfl, rfl, rfl⟩, Nat.le_refl _, rfl, fun _ _ => rfl, fun _ _ => rfl, fun q o ho _ => ho, fun r hr => .inl hr, ?_⟩
              exact ⟨fun cs' e => (by rw [hL] at e; cases e), fun gen1 sz1 els1 e => (by rw [hL] at e; cases e; exact .inr ⟨_, _, _, List.getElem?_set_self hbl, .inl (Nat.lt_succ_self _)⟩), fun es e => (by rw [hL] at e; cases e), fun l e => (by rw [hL] at e; cases e), fun e => (by rw [hL] at e; cases e)⟩
            refine ⟨_, w, _, _, g, run_append_zero hT hE _ a len cc c hlc w, h, .own _ _ _ _ ei.sz r o cc (els.take len) (List.getElem?_set_self hbl) hm ho (by simpa using hcap) hlc (by omega), S.good' ⟨c3, hels', .inr ⟨r, cur, T, hm, hh, hcapg, ?_, hone, ?_⟩⟩, S.prog⟩
            · rw [htl]; exact Nat.le_trans (Nat.mul_le_mul_right _ (by omega)) hbig
            · have := row_of_RL (g := g) (w := w) (L := L.set b (.row (gen + 1) ei.sz (els.take len))) (cur := cur.toList) c3 hels' (by rw [htl]; exact hro.mono fun x v hx => S.mono hx)
              intro i j x v hx hv
              exact this i j x v hx (by simpa using hv)
          · obtain ⟨ad, rfl, hIo, hcell⟩ := hcells hpos
            by_cases hroom : len + news.length ≤ cc
            · have ho0 : o = 0 := by omega
              subst ho0
              have hfit : len * i.size + vs.length ≤ cur.size := by
                rw [hvl, hi1, ← Nat.add_mul, hcapg]; exact Nat.le_trans (Nat.mul_le_mul_right _ hroom) hcap
              have hone2 : ∀ u ∈ vs, u.oneCell' = true := fun u hu => by
                obtain ⟨j, hj, rfl⟩ := List.getElem_of_mem hu
                exact hrl.2.1 j _ (List.getElem?_eq_getElem hj)
              have hr := run_append_room' (P := C.P) t ty e i hT hi r len cc cur T hh ad news.length c vs (by rw [hi1]; exact hvl) hcell hone2 hroom hfit
              rw [hi1] at hr hfit
              have S : Step g w L b (.row (gen + 1) ei.sz (els.take len ++ news)) g (w.setRow r (cur.toList.take (len * ei.sz) ++ vs ++ cur.toList.drop (len * ei.sz + vs.length)).toArray) := by
                refine ⟨hg, ⟨_, hL, by simp⟩, by rw [hL]; simp, setRow_env _ _ _, by rw [setRow_size]; exact Nat.le_refl _, rfl, fun _ _ => rfl, fun _ _ => rfl, fun q o ho hne => ?_, fun r hr => .inl hr, ?_⟩
                · rw [setRow_other (fun e => hne (by rw [← e]; exact hm))]; exact ho
                · exact ⟨fun cs' e => (by rw [hL] at e; cases e), fun gen1 sz1 els1 e => (by rw [hL] at e; cases e; exact .inr ⟨_, _, _, List.getElem?_set_self hbl, .inl (Nat.lt_succ_self _)⟩), fun es e => (by rw [hL] at e; cases e), fun l e => (by rw [hL] at e; cases e), fun e => (by rw [hL] at e; cases e)⟩
              have hflat : RL g w L (els.take len ++ news).flatten (cur.toList.take (len * ei.sz) ++ vs) := by
                rw [List.flatten_append]; exact hro.append hrl
              have hsum : (len + news.length) * ei.sz = len * ei.sz + vs.length := by rw [hvl, Nat.add_mul]
              refine ⟨_, _, _, _, g, hr, h, .own _ _ _ _ ei.sz r 0 cc (els.take len ++ news) (List.getElem?_set_self hbl) hm (.inr (by simp)) (by simpa using hcap) hroom (by omega), S.good' ⟨c3, hels', .inr ⟨r, _, T, hm, setRow_same hh, ?_, ?_, ?_, ?_⟩⟩, S.prog⟩
              · simp; omega
              · rw [hnl, hsum]; simp; omega
              · intro j v' hv'
                simp only [List.getElem?_toArray] at hv'
                rw [splice_get (by simp; omega)] at hv'
                split at hv'
                · exact hone j v' (by simpa using hv')
                · split at hv'
                  · exact hrl.2.1 _ v' hv'
                  · exact hone j v' (by simpa using hv')
              · have := row_of_RL (g := g) (w := w.setRow r (cur.toList.take (len * ei.sz) ++ vs ++ cur.toList.drop (len * ei.sz + vs.length)).toArray) (L := L.set b (.row (gen + 1) ei.sz (els.take len ++ news)))
                  (cur := cur.toList.take (len * ei.sz) ++ vs ++ cur.toList.drop (len * ei.sz + vs.length)) c3 hels' (by
                    have hlen1 : (cur.toList.take (len * ei.sz) ++ vs).length = len * ei.sz + vs.length := by simp; omega
                    have e3 : (cur.toList.take (len * ei.sz) ++ vs ++ cur.toList.drop (len * ei.sz + vs.length)).take ((els.take len ++ news).length * ei.sz) = cur.toList.take (len * ei.sz) ++ vs := by
                      rw [hnl, hsum, ← hlen1, List.take_left]
                    rw [e3]
                    exact hflat.mono fun x v hx => S.mono hx)
                intro i j x v hx hv
                exact this i j x v hx (by simpa using hv)
            · have hold : ∀ (j : Nat) (u : Value), (cur.toList.take (len * ei.sz))[j]? = some u → w.cell? ((⟨r, o, none⟩ : Addr).add j) = some u := by
                intro j u hu
                rw [List.getElem?_take] at hu
                split at hu
                · rename_i hj
                  have : 0 < len := by
                    rcases Nat.eq_zero_or_pos len with h0 | h0
                    · rw [h0] at hj; omega
                    · exact h0
                  have ho0 : o = 0 := by omega
                  subst ho0
                  rw [Addr.add_lit, Nat.zero_add, cell_row hh]
                  simpa using hu
                · cases hu
              have hcl : (cur.toList.take (len * ei.sz)).length = len * ei.sz := by
                have : len * ei.sz ≤ cur.size := Nat.le_trans (Nat.mul_le_mul_right _ (by omega)) hbig
                simp; omega
              have hbytes : (len + news.length) * i.bytes ≤ 140737488355328 := by rw [hi2]; exact Nat.le_trans (Nat.mul_le_mul hsmall c4) (by decide)
              have hr := run_append_grow (P := C.P) w t ty e i ei.zv hT hi hi3 ⟨r, o, none⟩ len cc (cur.toList.take (len * ei.sz)) (by rw [hi1]; exact hcl) hold ad news.length c vs (by rw [hi1]; exact hvl) hcell (by omega) (by omega)
                (growslice_fits (by omega) hbytes)
              have hge := grownCap_ge w (len + news.length) cc e
              obtain ⟨g', r1, r2, r3⟩ := moved_ok hg hL (Nat.lt_succ_self gen) e c3 hels' (vs := cur.toList.take (len * ei.sz) ++ vs) (by rw [List.flatten_append]; exact hro.append hrl) (zeros_one (zokB_all c1) (grownCap w (len + news.length) cc e - (len + news.length))) (grownCap w (len + news.length) cc e)
                (by rw [List.length_append, hcl, hvl, hz, ← Nat.add_mul, ← Nat.add_mul]; congr 1; omega) (by omega)
              rw [hnl] at r1
              refine ⟨_, _, _, _, g', hr.trans ?_, h, r1, r2, r3⟩
              congr 3
              simp
      · exact h.elim
    · exact h.elim
  · exact h.elim


/-! ### clear -/
def vClear (C : Ctx) (t : TypeId) (s : V) (L : List Blk) (k : List Blk → Prop) : Prop :=
  match C.tt t with
  | some ti => match ti.k with
    | .sl e => match C.tt e with
      | some ei => bif zokB ei && Nat.beq ei.zv.cells.size ei.sz && Nat.blt 0 ei.sz then
          match s with
          | .nil => k L
          | .own b gen lo len => match L[b]? with
            | some (.row gen' sz els) => bif Nat.beq gen gen' && Nat.beq sz ei.sz then k (L.set b (.row gen sz (els.take lo ++ (List.replicate len (Go.Tidy.zeroCells ei) ++ els.drop (lo + len))))) else False
            | _ => False
          | _ => False
        else False
      | none => False
    | _ => False
  | none => False
theorem take_rep_drop {α : Type} {els : List α} {lo : Nat} {z : α} (_h : lo ≤ els.length) : els.take lo ++ (List.replicate 0 z ++ els.drop (lo + 0)) = els := by simp
theorem trd_get {α : Type} {els : List α} {lo len : Nat} {z : α} (h : lo + len ≤ els.length) (i : Nat) :
    (els.take lo ++ (List.replicate len z ++ els.drop (lo + len)))[i]? = if i < lo then els[i]? else if i < lo + len then some z else els[i]? := by
  have hl : (els.take lo).length = lo := by simp; omega
  by_cases h1 : i < lo
  · rw [List.getElem?_append_left (by omega), if_pos h1, List.getElem?_take, if_pos h1]
  · rw [List.getElem?_append_right (by omega), if_neg h1, hl]
    by_cases h2 : i < lo + len
    · rw [if_pos h2, List.getElem?_append_left (by simp; omega), List.getElem?_replicate, if_pos (by omega)]
    · rw [if_neg h2, List.getElem?_append_right (by simp; omega), List.length_replicate, List.getElem?_drop]
      congr 1; omega
theorem zeroCells_at {z : Array Value} {n i j : Nat} (hi : i < n) (hj : j < z.size) : (Builtin.zeroCells z n).toList[i * z.size + j]? = z[j]? := by
  have hlt : i * z.size + j < n * z.size := by
    have := Nat.mul_le_mul_right z.size (show i + 1 ≤ n from hi)
    rw [Nat.succ_mul] at this; omega
  have hm : (i * z.size + j) % z.size = j := by rw [Nat.add_comm, Nat.add_mul_mod_self_right, Nat.mod_eq_of_lt hj]
  unfold Builtin.zeroCells
  rw [Array.getElem?_toList, Array.getElem?_map, Array.getElem?_range, if_pos hlt, Option.map_some, hm, getElem!_pos z j hj, Array.getElem?_eq_getElem hj]

theorem vClear_ok (hC : C.OK) (hg : Good g w L) {t ty : TypeId} {s : V} {v : Value} (hs : RV g w L s v) {k : List Blk → Prop} (h : vClear C t s L k) :
    ∃ w' L', (Builtin.clear_ #[t] ty #[v]).run C.P w = .ok (.tuple #[]) w' ∧ k L' ∧ Good g w' L' ∧ Prog L.length g w L g w' L' := by
  unfold vClear at h
  cases ht : C.tt t with
  | none => simp [ht] at h
  | some ti =>
  simp only [ht] at h
  split at h
  · rename_i e hk
    cases he : C.tt e with
    | none => simp [he] at h
    | some ei =>
    simp only [he] at h
    have hE := hC e ei he
    have hT := (hC t ti ht).slice hk
    cases hc : (zokB ei && Nat.beq ei.zv.cells.size ei.sz && Nat.blt 0 ei.sz) with
    | false => simp [hc] at h
    | true =>
    simp only [hc, cond_true] at h
    rw [Bool.and_eq_true, Bool.and_eq_true] at hc
    obtain ⟨⟨c1, c2⟩, c3⟩ := hc
    have c2 := Nat.eq_of_beq_eq_true c2
    have c3 : 0 < ei.sz := by simpa [Nat.blt_eq] using c3
    obtain ⟨z1, z2, z3⟩ := zeroCells_ok g w L c1
    have none_ok : ∀ (a : Option Addr) (c : Nat), (Builtin.clear_ #[t] ty #[.slice a 0 c]).run C.P w = .ok (.tuple #[]) w := by
      intro a c
      cases a <;> simp [Builtin.clear_, run_underlying hT]
    split at h
    · cases hs with
      | nil => exact ⟨w, _, none_ok _ _, h, hg, Prog.refl _ _ _ _⟩
    · rename_i b gen lo len
      split at h
      · rename_i gen' sz els hL
        cases hle : (Nat.beq gen gen' && Nat.beq sz ei.sz) with
        | false => simp only [hle, cond_false] at h
        | true =>
        simp only [hle, cond_true] at h
        rw [Bool.and_eq_true] at hle
        have e1 := Nat.eq_of_beq_eq_true hle.1
        have e2 := Nat.eq_of_beq_eq_true hle.2
        subst e1 e2
        have hbl := lt_of_get hL
        obtain ⟨hsz0, hels, hrow⟩ := hg.blk b _ hL
        have same : ∀ {lo : Nat}, lo ≤ els.length → k (L.set b (.row gen ei.sz (els.take lo ++ (List.replicate 0 (Go.Tidy.zeroCells ei) ++ els.drop (lo + 0))))) → k L := by
          intro lo hlo h
          have e : L.set b (.row gen ei.sz els) = L := by
            apply List.ext_getElem?
            intro i
            rw [List.getElem?_set]
            split
            · rename_i hi; subst hi; exact hL.symm
            · rfl
          rw [take_rep_drop hlo, e] at h
          exact h
        cases hs with
        | ownX _ _ _ _ a n c hL' => rw [hL] at hL'; cases hL'
        | ownO _ _ gen2 _ _ _ _ a n c hL' hg' => rw [hL] at hL'; cases hL'; omega
        | ownN _ _ sz2 els2 hL' hm' => exact ⟨w, L, none_ok _ _, same (Nat.zero_le _) h, hg, Prog.refl _ _ _ _⟩
        | own _ _ _ _ sz2 r o cc els2 hL' hm' ho hcap hlc hle2 =>
          rw [hL] at hL'; cases hL'
          rcases Nat.eq_zero_or_pos len with h0 | hpos
          · subst h0
            exact ⟨w, L, none_ok _ _, same (by omega) h, hg, Prog.refl _ _ _ _⟩
          rcases hrow with ⟨hm, rfl⟩ | ⟨r', cur, T, hm, hh, hcapg, hbig, honec, hrec⟩
          · simp at hle2; omega
          rw [hm] at hm'; cases hm'
          have ho' : o = lo * ei.sz := by
            rcases ho with h0 | h0
            · omega
            · exact h0
          subst ho'
          have hzl : (Builtin.zeroCells ei.zv.cells len).toList.length = len * ei.sz := by rw [Array.length_toList, size_zeroCells, c2]
          have hzs : (Builtin.zeroCells ei.zv.cells len).size = len * ei.sz := by rw [size_zeroCells, c2]
          have hb : lo * ei.sz + len * ei.sz ≤ cur.size := by rw [← Nat.add_mul]; exact Nat.le_trans (Nat.mul_le_mul_right _ hle2) hbig
          have hone := zeros_one (zokB_all c1) len
          have hst := run_storeCells_at (P := C.P) r (lo * ei.sz) T (Builtin.zeroCells ei.zv.cells len).toList 0 cur w hh (by rw [hzl]; omega) fun u hu => by
            obtain ⟨j, hj, rfl⟩ := List.getElem_of_mem hu
            exact hone j _ (List.getElem?_eq_getElem hj)
          simp only [Nat.add_zero] at hst
          have hrun : (Builtin.clear_ #[t] ty #[.slice (some ⟨r, lo * ei.sz, none⟩) len cc]).run C.P w = .ok (.tuple #[]) (w.setRow r (cur.toList.take (lo * ei.sz) ++ (Builtin.zeroCells ei.zv.cells len).toList ++ cur.toList.drop (lo * ei.sz + (Builtin.zeroCells ei.zv.cells len).toList.length)).toArray) := by
            obtain ⟨m, rfl⟩ : ∃ m, len = m + 1 := ⟨len - 1, by omega⟩
            have h0 : ∀ (a : Addr), (Builtin.clear_ #[t] ty #[.slice (some a) (m + 1) cc]).run C.P w = ((storeCells a (Builtin.zeroCells ei.zv.cells (m + 1)).toList).run C.P w).andThen fun _ w' => .ok (.tuple #[]) w' := fun a => by
              simp [Builtin.clear_, run_underlying hT, hE.run_zero]
            rw [h0, hst]
            rfl
          have S : Step g w L b (.row gen ei.sz (els.take lo ++ (List.replicate len (Go.Tidy.zeroCells ei) ++ els.drop (lo + len)))) g (w.setRow r (cur.toList.take (lo * ei.sz) ++ (Builtin.zeroCells ei.zv.cells len).toList ++ cur.toList.drop (lo * ei.sz + (Builtin.zeroCells ei.zv.cells len).toList.length)).toArray) := by
            refine ⟨hg, ⟨_, hL, by simp⟩, by rw [hL]; simp, setRow_env _ _ _, by rw [setRow_size]; exact Nat.le_refl _, rfl, fun _ _ => rfl, fun _ _ => rfl, fun q o ho hne => ?_, fun r hr => .inl hr, ?_⟩
            · rw [setRow_other (fun e => hne (by rw [← e]; exact hm))]; exact ho
            · exact ⟨fun cs' e => (by rw [hL] at e; cases e), fun gen' sz' els' e => (by rw [hL] at e; cases e; exact .inr ⟨_, _, _, List.getElem?_set_self hbl, .inr ⟨rfl, rfl, rfl, rfl, by simp; omega⟩⟩), fun es e => (by rw [hL] at e; cases e), fun l e => (by rw [hL] at e; cases e), fun e => (by rw [hL] at e; cases e)⟩
          refine ⟨_, _, hrun, h, S.good' ⟨c3, ?_, .inr ⟨r, _, T, hm, setRow_same hh, ?_, ?_, ?_, ?_⟩⟩, S.prog⟩
          · intro e' he'
            rcases List.mem_append.1 he' with h' | h'
            · exact hels e' (List.mem_of_mem_take h')
            · rcases List.mem_append.1 h' with h' | h'
              · rw [List.eq_of_mem_replicate h', z1, c2]
              · exact hels e' (List.mem_of_mem_drop h')
          · simp; omega
          · have : (els.take lo ++ (List.replicate len (Go.Tidy.zeroCells ei) ++ els.drop (lo + len))).length = els.length := by simp; omega
            rw [this]; simp; omega
          · intro j v' hv'
            simp only [List.getElem?_toArray] at hv'
            rw [splice_get (by simp; omega)] at hv'
            split at hv'
            · exact honec j v' (by simpa using hv')
            · split at hv'
              · exact hone _ v' hv'
              · exact honec j v' (by simpa using hv')
          · intro i' j x' v' hx' hv'
            simp only [List.getElem?_toArray] at hv'
            rw [splice_get (by simp; omega), hzl] at hv'
            rw [trd_get hle2] at hx'
            have hjs : ∀ (e' : List V), els[i']? = some e' → e'[j]? = some x' → j < ei.sz := fun e' h1 h2 => by
              have := lt_of_get h2; have := hels e' (List.mem_of_getElem? h1); omega
            have hbnd : ∀ (e' : List V), els[i']? = some e' → i' < els.length := fun e' h1 => lt_of_get h1
            by_cases h1 : i' < lo
            · rw [if_pos h1] at hx'
              cases hq : els[i']? with
              | none => rw [hq] at hx'; cases hx'
              | some e' =>
                have hj := hjs e' hq (by rw [hq] at hx'; simpa using hx')
                have : i' * ei.sz + j < lo * ei.sz := by
                  have := Nat.mul_le_mul_right ei.sz (show i' + 1 ≤ lo from h1)
                  rw [Nat.succ_mul] at this; omega
                rw [if_pos this] at hv'
                exact S.mono (hrec i' j x' v' hx' (by simpa using hv'))
            · rw [if_neg h1] at hx'
              have hlo : lo * ei.sz ≤ i' * ei.sz := Nat.mul_le_mul_right _ (by omega)
              by_cases h2 : i' < lo + len
              · rw [if_pos h2] at hx'
                simp only [Option.bind_some] at hx'
                have hj : j < ei.zv.cells.size := by rw [← z1]; exact lt_of_get hx'
                have hlt : i' * ei.sz + j < lo * ei.sz + len * ei.sz := by
                  rw [← Nat.add_mul]
                  have := Nat.mul_le_mul_right ei.sz (show i' + 1 ≤ lo + len from h2)
                  rw [Nat.succ_mul] at this; omega
                rw [if_neg (by omega), if_pos hlt] at hv'
                have hidx : i' * ei.sz + j - lo * ei.sz = (i' - lo) * ei.zv.cells.size + j := by rw [c2, Nat.sub_mul]; omega
                rw [hidx, zeroCells_at (by omega) hj] at hv'
                exact S.mono (z3 j x' v' hx' hv')
              · rw [if_neg h2] at hx'
                have hlt : lo * ei.sz + len * ei.sz ≤ i' * ei.sz := by rw [← Nat.add_mul]; exact Nat.mul_le_mul_right _ (by omega)
                rw [if_neg (by omega), if_neg (by omega)] at hv'
                exact S.mono (hrec i' j x' v' hx' (by simpa using hv'))
      · exact h.elim
    · exact h.elim
  · exact h.elim

end
end Go.Tidy
