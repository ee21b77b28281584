/-
  The base layer: maps.
-/
import Derived.Test.YtnkfifkgbkgcjaaTidyG
import Derived.MapKept
import Derived.ChangeMaps4
namespace Go.Tidy

/-- Keys of one cell. -/
def keyV : TK → V → Bool
  | .int k, .d (.int k' _) => decide (k = k')
  | .bool, .d (.bool _) => true
  | .str, .d (.str _) => true
  | _, _ => false

@[irreducible] def MapF (tk : TK) (es : List (V × V)) (key : V) (k : Option (Nat × V) → Prop) : Prop :=
  (∀ kv ∈ es, keyV tk kv.1 = true) ∧ ((∃ i v, es[i]? = some (key, v) ∧ (∀ j kv, j < i → es[j]? = some kv → kv.1 ≠ key) ∧ k (some (i, v))) ∨ ((∀ kv ∈ es, kv.1 ≠ key) ∧ k none))
theorem MapF.hit {tk : TK} {es : List (V × V)} {key : V} {k : Option (Nat × V) → Prop} (i : Nat) (v : V) (hk : ∀ kv ∈ es, keyV tk kv.1 = true) (hi : es[i]? = some (key, v)) (hj : ∀ j kv, j < i → es[j]? = some kv → kv.1 ≠ key) (h : k (some (i, v))) : MapF tk es key k := by
  unfold MapF; exact ⟨hk, .inl ⟨i, v, hi, hj, h⟩⟩
theorem MapF.miss {tk : TK} {es : List (V × V)} {key : V} {k : Option (Nat × V) → Prop} (hk : ∀ kv ∈ es, keyV tk kv.1 = true) (hj : ∀ kv ∈ es, kv.1 ≠ key) (h : k none) : MapF tk es key k := by
  unfold MapF; exact ⟨hk, .inr ⟨hj, h⟩⟩
theorem MapF.nil {tk : TK} {key : V} {k : Option (Nat × V) → Prop} (h : k none) : MapF tk [] key k := MapF.miss (fun kv hkv => by simp at hkv) (fun kv hkv => by simp at hkv) h

section
variable {C : Ctx} {g : Gh} {w : World} {L : List Blk}

theorem keyV_form {tk : TK} {x : V} (h : keyV tk x = true) : (∃ k n, tk = .int k ∧ x = .d (.int k n)) ∨ (tk = .bool ∧ ∃ b, x = .d (.bool b)) ∨ (tk = .str ∧ ∃ s, x = .d (.str s)) := by
  unfold keyV at h
  split at h
  · simp at h; subst h; exact .inl ⟨_, _, rfl, rfl⟩
  · exact .inr (.inl ⟨rfl, _, rfl⟩)
  · exact .inr (.inr ⟨rfl, _, rfl⟩)
  · cases h

theorem keyV_is {tk : TK} {u : TypeDesc} (hu : kindOK tk u) {x : V} {v : Value} (hx : RV g w L x v) (h : keyV tk x = true) : MapKept.IsKey u v := by
  rcases keyV_form h with ⟨k, n, rfl, rfl⟩ | ⟨rfl, b, rfl⟩ | ⟨rfl, s, rfl⟩
  all_goals
    cases hx with | d _ _ hd =>
    cases hd
    cases u <;> first | exact hu.elim | skip
    first | exact (show _ = _ from hu) | trivial

theorem keyV_eq {tk : TK} {x y : V} {v u : Value} (hx : RV g w L x v) (hy : RV g w L y u) (h : keyV tk x = true) (h' : keyV tk y = true) : v = u ↔ x = y := by
  rcases keyV_form h with ⟨k, n, rfl, rfl⟩ | ⟨rfl, b, rfl⟩ | ⟨rfl, s, rfl⟩ <;> rcases keyV_form h' with ⟨k', n', e, rfl⟩ | ⟨e, b', rfl⟩ | ⟨e, s', rfl⟩
  all_goals first | (cases e; done) | skip
  all_goals
    cases hx with | d _ _ hd =>
    cases hd
    cases hy with | d _ _ hd =>
    cases hd
    cases e
    simp

/-- What the map's own search finds. -/
theorem find_ok {tk : TK} {u : TypeDesc} (hu : kindOK tk u) {es : List (V × V)} {ents : List MapEntry} (hlen : ents.length = es.length) (hes : ∀ (i : Nat) (x : V × V) (e : MapEntry), es[i]? = some x → ents[i]? = some e → RV g w L x.1 e.key ∧ RV g w L x.2 e.val)
    {key : V} {kv : Value} (hkey : RV g w L key kv) (hk : keyV tk key = true) {k : Option (Nat × V) → Prop} (h : MapF tk es key k) :
    (∃ i v e, es[i]? = some (key, v) ∧ ents[i]? = some e ∧ e.key = kv ∧ k (some (i, v)) ∧ Instr.findNow u kv ents 0 = some (some (i, e.val))) ∨ (Instr.findNow u kv ents 0 = some none ∧ k none) := by
  unfold MapF at h
  obtain ⟨h1, h2⟩ := h
  have ex : ∀ (i : Nat) (e : MapEntry), ents[i]? = some e → ∃ x, es[i]? = some x := fun i e he => ⟨es[i]'(by have := lt_of_get he; omega), List.getElem?_eq_getElem _⟩
  have hall : ∀ x ∈ ents, MapKept.IsKey u x.key := by
    intro x hx
    obtain ⟨i, hi⟩ := List.mem_iff_getElem?.1 hx
    obtain ⟨y, hy⟩ := ex i x hi
    exact keyV_is hu (hes i y x hy hi).1 (h1 y (List.mem_of_getElem? hy))
  have hkv := keyV_is hu hkey hk
  have heq : ∀ (i : Nat) (x : V × V) (e : MapEntry), es[i]? = some x → ents[i]? = some e → (e.key = kv ↔ x.1 = key) := fun i x e hx he =>
    keyV_eq (hes i x e hx he).1 hkey (h1 x (List.mem_of_getElem? hx)) hk
  rcases h2 with ⟨i, v, hi, hj, hk'⟩ | ⟨hno, hk'⟩
  · left
    have hil : i < ents.length := by have := lt_of_get hi; omega
    refine ⟨i, v, ents[i], hi, List.getElem?_eq_getElem hil, (heq i _ _ hi (List.getElem?_eq_getElem hil)).2 rfl, hk', ?_⟩
    have key' : ∀ (l : List MapEntry) (o j : Nat) (e : MapEntry), (∀ x ∈ l, MapKept.IsKey u x.key) → l[j]? = some e → e.key = kv → (∀ m x, m < j → l[m]? = some x → x.key ≠ kv) → Instr.findNow u kv l o = some (some (o + j, e.val)) := by
      intro l
      induction l with
      | nil => intro o j e _ he; simp at he
      | cons a l ih =>
        intro o j e hl he hek hm
        obtain ⟨r, hr, hiff⟩ := MapKept.sameNow_of_keys hkv (hl a (by simp))
        cases j with
        | zero =>
          simp at he
          subst he
          have : r = true := hiff.2 hek.symm
          subst this
          simp [Instr.findNow, hr]
        | succ j =>
          have hne : r = false := by
            cases r with
            | false => rfl
            | true => exact absurd (hiff.1 rfl).symm (hm 0 a (by omega) rfl)
          subst hne
          have := ih (o + 1) j e (fun x hx => hl x (by simp [hx])) (by simpa using he) hek fun m x hm' hx => hm (m + 1) x (by omega) (by simpa using hx)
          simp only [Instr.findNow, hr, this]
          congr 3
          omega
    have := key' ents 0 i ents[i] hall (List.getElem?_eq_getElem hil) ((heq i _ _ hi (List.getElem?_eq_getElem hil)).2 rfl) fun m x hm hx => by
      obtain ⟨y, hy⟩ := ex m x hx
      exact fun e => hj m y hm hy ((heq m y x hy hx).1 e)
    simpa using this
  · right
    refine ⟨?_, hk'⟩
    rcases MapKept.findNow_spec hkv ents 0 hall with ⟨h, _⟩ | ⟨j, e, _, he, hek⟩
    · exact h
    · obtain ⟨y, hy⟩ := ex j e he
      exact absurd ((heq j y e hy he).1 hek) (hno y (List.mem_of_getElem? hy))

/-! ### The operations -/
def zeroV (ti : TI) : V := ofConst ti.zv

def vLookup (C : Ctx) (t : TypeId) (m key : V) (ok : Bool) (L : List Blk) (k : V → Prop) : Prop :=
  match C.tt t with
  | some ti => match ti.k with
    | .map kt et => match C.tt kt, C.tt et with
      | some ki, some ei => bif keyV ki.k key then
          match m with
          | .map b => match L[b]? with
            | some (.map es) => MapF ki.k es key fun r => match r with
              | some (_, v) => k (bif ok then .tup [v, .d (.bool true)] else v)
              | none => k (bif ok then .tup [zeroV ei, .d (.bool false)] else zeroV ei)
            | _ => False
          | .d .nilmap => k (bif ok then .tup [zeroV ei, .d (.bool false)] else zeroV ei)
          | _ => False
        else False
      | _, _ => False
    | _ => False
  | none => False

def vMapUpdate (C : Ctx) (t : TypeId) (m key v : V) (L : List Blk) (k : List Blk → Prop) : Prop :=
  match C.tt t with
  | some ti => match ti.k with
    | .map kt _ => match C.tt kt with
      | some ki => bif keyV ki.k key then
          match m with
          | .map b => match L[b]? with
            | some (.map es) => MapF ki.k es key fun r => match r with
              | some (i, _) => k (L.set b (.map (es.set i (key, v))))
              | none => k (L.set b (.map (es ++ [(key, v)])))
            | _ => False
          | _ => False
        else False
      | none => False
    | _ => False
  | none => False

theorem RV.tup2 {x y : V} {v u : Value} (hx : RV g w L x v) (hy : RV g w L y u) : RV g w L (.tup [x, y]) (.tuple #[v, u]) := by
  refine .tup _ _ rfl fun j z s hz hs => ?_
  match j with
  | 0 => simp at hz hs; subst hz hs; exact hx
  | 1 => simp at hz hs; subst hz hs; exact hy
  | j + 2 => simp at hz

theorem TIok.map {t : TypeId} {ti : TI} (h : TIok C.P t ti) {kt et : TypeId} (hk : ti.k = .map kt et) : C.P.underlying t = some (.map kt et) := by
  obtain ⟨u, hu, hku⟩ := h.und
  rw [hk] at hku
  cases u <;> first | exact hku.elim | skip
  obtain ⟨rfl, rfl⟩ := hku
  exact hu

theorem vLookup_ok (hC : C.OK) (hg : Good g w L) {t : TypeId} {m key : V} {ok : Bool} {mv kv : Value} (hm : RV g w L m mv) (hkey : RV g w L key kv) {k : V → Prop} (h : vLookup C t m key ok L k) :
    ∃ r X, (Instr.lookup t mv kv ok).run C.P w = .ok r w ∧ k X ∧ RV g w L X r := by
  unfold vLookup at h
  cases ht : C.tt t with
  | none => simp only [ht] at h
  | some ti =>
  simp only [ht] at h
  have hT := hC t ti ht
  cases hk : ti.k
  all_goals first | (simp only [hk] at h; done) | skip
  rename_i kt et
  simp only [hk] at h
  have hmt := hT.map hk
  cases hkt : C.tt kt with
  | none => simp only [hkt] at h
  | some ki =>
  cases het : C.tt et with
  | none => simp only [hkt, het] at h
  | some ei =>
  simp only [hkt, het] at h
  have hK := hC kt ki hkt
  have hE := hC et ei het
  obtain ⟨u, hu, hku⟩ := hK.und
  cases hkv : keyV ki.k key with
  | false => simp only [hkv, cond_false] at h
  | true =>
  simp only [hkv, cond_true] at h
  have hz : RV g w L (zeroV ei) ei.zv := ofConst_ok g w L ei.zv
  have hck : ∀ e, (Instr.checkKey e 10000 kt kv).run C.P w = .ok () w := fun e => MapKept.run_checkKey hu (keyV_is hku hkey hkv) e 9999
  split at h
  · rename_i b
    split at h
    · rename_i es hL
      obtain ⟨r, ents, clock, hmr, hh, hsz, hrec⟩ := hg.blk b _ hL
      cases hm with
      | mapX _ a hL' => rw [hL] at hL'; cases hL'
      | map _ r' es' hL' hm' =>
      rw [hmr] at hm'; cases hm'
      have hfound := find_ok hku (ents := ents.toList) (by simpa using hsz) (fun i x e hx he => hrec i x e hx (by simpa using he)) hkey hkv h
      rcases hfound with ⟨i, v, e, hi, he, hek, hk', hf⟩ | ⟨hf, hk'⟩
      · have hv := (hrec i _ e hi (by simpa using he)).2
        cases ok with
        | true => exact ⟨_, _, by simp [Instr.lookup, run_underlying hmt, MapKept.run_getObj_map hh, hck, MapKept.run_findKey hu hf, Result.andThen], hk', hv.tup2 (.d _ _ (.bool true))⟩
        | false => exact ⟨_, _, by simp [Instr.lookup, run_underlying hmt, MapKept.run_getObj_map hh, hck, MapKept.run_findKey hu hf, Result.andThen], hk', hv⟩
      · cases ok with
        | true => exact ⟨_, _, by simp [Instr.lookup, run_underlying hmt, MapKept.run_getObj_map hh, hck, MapKept.run_findKey hu hf, Result.andThen, hE.run_zero], hk', hz.tup2 (.d _ _ (.bool false))⟩
        | false => exact ⟨_, _, by simp [Instr.lookup, run_underlying hmt, MapKept.run_getObj_map hh, hck, MapKept.run_findKey hu hf, Result.andThen, hE.run_zero], hk', hz⟩
    · exact h.elim
  · cases hm with | d _ _ hd =>
    cases hd
    have hf : Instr.findNow u kv ([] : List MapEntry) 0 = some none := rfl
    cases ok with
    | true => exact ⟨_, _, by simp [Instr.lookup, run_underlying hmt, hck, MapKept.run_findKey hu hf, Result.andThen, hE.run_zero], h, hz.tup2 (.d _ _ (.bool false))⟩
    | false => exact ⟨_, _, by simp [Instr.lookup, run_underlying hmt, hck, MapKept.run_findKey hu hf, Result.andThen, hE.run_zero], h, hz⟩
  · exact h.elim

theorem map_step (hg : Good g w L) {b r : Nat} {es es' : List (V × V)} {ents ents' : Array MapEntry} {clock clock' : Nat} (hL : L[b]? = some (.map es)) (hm : g.m b = some r) (hh : w.heap[r]? = some (.map ents clock)) (hlen : ents'.size = es'.length)
    (hrec : ∀ (i : Nat) (x : V × V) (e : MapEntry), es'[i]? = some x → ents'[i]? = some e → RV g w L x.1 e.key ∧ RV g w L x.2 e.val) :
    Good g { w with heap := w.heap.setIfInBounds r (.map ents' clock') } (L.set b (.map es')) ∧ Prog L.length g w L g { w with heap := w.heap.setIfInBounds r (.map ents' clock') } (L.set b (.map es')) := by
  have hbl := lt_of_get hL
  have S : Step g w L b (.map es') g { w with heap := w.heap.setIfInBounds r (.map ents' clock') } := by
    refine ⟨hg, ⟨_, hL, by simp⟩, by rw [hL]; simp, ⟨rfl, rfl, rfl⟩, by simp, rfl, fun _ _ => rfl, fun _ _ => rfl, fun q o ho hne => ?_, fun r hr => .inl hr, ?_⟩
    · have : q ≠ r := fun e => hne (by rw [e]; exact hm)
      rw [(MapKept.heap_set hh).2 q this]; exact ho
    · exact ⟨fun cs e => (by rw [hL] at e; cases e), fun gen sz els e => (by rw [hL] at e; cases e), fun es0 _ => .inr ⟨_, List.getElem?_set_self hbl, rfl⟩, fun l e => (by rw [hL] at e; cases e), fun e => (by rw [hL] at e; cases e)⟩
  refine ⟨S.good' ⟨r, ents', clock', hm, (MapKept.heap_set hh).1, hlen, fun i x e hx he => ?_⟩, S.prog⟩
  obtain ⟨h1, h2⟩ := hrec i x e hx he
  exact ⟨S.mono h1, S.mono h2⟩

theorem run_keyStays {u : TypeDesc} {kv : Value} (h : MapKept.IsKey u kv) : (Instr.keyThatStays kv kv).run C.P w = .ok kv w := by
  cases u <;> cases kv <;> simp_all [MapKept.IsKey, Instr.keyThatStays, Instr.sameBits]
  rename_i s
  have : (s == s) = true := (MapKept.bytes_beq s s).2 rfl
  simp [this]

theorem vMapUpdate_ok (hC : C.OK) (hg : Good g w L) {t : TypeId} {m key x : V} {mv kv xv : Value} (hm : RV g w L m mv) (hkey : RV g w L key kv) (hx : RV g w L x xv) {k : List Blk → Prop} (h : vMapUpdate C t m key x L k) :
    ∃ w' L', (Instr.mapUpdate t mv kv xv).run C.P w = .ok () w' ∧ k L' ∧ Good g w' L' ∧ Prog L.length g w L g w' L' := by
  unfold vMapUpdate at h
  cases ht : C.tt t with
  | none => simp only [ht] at h
  | some ti =>
  simp only [ht] at h
  have hT := hC t ti ht
  cases hk : ti.k
  all_goals first | (simp only [hk] at h; done) | skip
  rename_i kt et
  simp only [hk] at h
  have hmt := hT.map hk
  cases hkt : C.tt kt with
  | none => simp only [hkt] at h
  | some ki =>
  simp only [hkt] at h
  have hK := hC kt ki hkt
  obtain ⟨u, hu, hku⟩ := hK.und
  cases hkv : keyV ki.k key with
  | false => simp only [hkv, cond_false] at h
  | true =>
  simp only [hkv, cond_true] at h
  have hik := keyV_is hku hkey hkv
  have hck : ∀ e, (Instr.checkKey e 10000 kt kv).run C.P w = .ok () w := fun e => MapKept.run_checkKey hu hik e 9999
  split at h
  · rename_i b
    split at h
    · rename_i es hL
      obtain ⟨r, ents, clock, hmr, hh, hsz, hrec⟩ := hg.blk b _ hL
      cases hm with
      | mapX _ a hL' => rw [hL] at hL'; cases hL'
      | map _ r' es' hL' hm' =>
      rw [hmr] at hm'; cases hm'
      have hfound := find_ok hku (ents := ents.toList) (by simpa using hsz) (fun i x e hx he => hrec i x e hx (by simpa using he)) hkey hkv h
      rcases hfound with ⟨i, v, e, hi, he, hek, hk', hf⟩ | ⟨hf, hk'⟩
      · have he' : ents[i]? = some e := by simpa using he
        have hks : (Instr.keyThatStays (((ents[i]?).map (·.key)).getD kv) kv).run C.P w = .ok kv w := by
          rw [he']; simp only [Option.map_some, Option.getD_some, hek]; exact run_keyStays hik
        obtain ⟨h1, h2⟩ := map_step (ents' := ents.modify i fun e => { e with key := kv, val := xv }) (es' := es.set i (key, x)) (clock' := clock) hg hL hmr hh (by simp [hsz]) (fun j y f hy hf' => by
          by_cases ej : i = j
          · subst ej
            rw [List.getElem?_set_self (lt_of_get hi)] at hy
            cases hy
            rw [Array.getElem?_modify, if_pos rfl, he'] at hf'
            cases hf'
            exact ⟨hkey, hx⟩
          · rw [List.getElem?_set_ne ej] at hy
            rw [Array.getElem?_modify, if_neg ej] at hf'
            exact hrec j y f hy hf')
        exact ⟨_, _, by simp [Instr.mapUpdate, run_underlying hmt, MapKept.run_getObj_map hh, hck, MapKept.run_findKey hu hf, hks, MapKept.run_setObj_map _ hh, Result.andThen], hk', h1, h2⟩
      · obtain ⟨h1, h2⟩ := map_step (ents' := ents.push { key := kv, val := xv, born := clock }) (es' := es ++ [(key, x)]) (clock' := clock + 1) hg hL hmr hh (by simp [hsz]) (fun j y f hy hf' => by
          rcases Nat.lt_or_ge j es.length with hj | hj
          · rw [List.getElem?_append_left hj] at hy
            rw [Array.getElem?_push, if_neg (by omega)] at hf'
            exact hrec j y f hy hf'
          · rw [List.getElem?_append_right hj] at hy
            have : j = es.length := by
              have := lt_of_get hy
              simp at this; omega
            subst this
            simp at hy
            subst hy
            rw [Array.getElem?_push, if_pos hsz.symm] at hf'
            cases hf'
            exact ⟨hkey, hx⟩)
        exact ⟨_, _, by simp [Instr.mapUpdate, run_underlying hmt, MapKept.run_getObj_map hh, hck, MapKept.run_findKey hu hf, MapKept.run_setObj_map _ hh, Result.andThen], hk', h1, h2⟩
    · exact h.elim
  · exact h.elim

theorem makeMap_ok (hg : Good g w L) : Good (g.add L.length (some w.heap.size) 0) (w.alloc (.map #[] 0)) (L ++ [.map []]) ∧ Prog L.length g w L (g.add L.length (some w.heap.size) 0) (w.alloc (.map #[] 0)) (L ++ [.map []]) ∧
    RV (g.add L.length (some w.heap.size) 0) (w.alloc (.map #[] 0)) (L ++ [.map []]) (.map L.length) (.map (some w.heap.size)) := by
  refine ⟨alloc_good hg _ _ (fun q h => by cases h; rfl) 0 ⟨w.heap.size, #[], 0, by simp [Gh.add], (MapKept.heap_alloc w _).1, rfl, fun i x e hx => by simp at hx⟩, alloc_prog hg _ _ _ (fun q h => by cases h; rfl) 0, ?_⟩
  exact .map _ _ [] (by simp) (by simp [Gh.add])
end
end Go.Tidy
