/-
  The base layer: changes of one block, new blocks; storing, allocating.
-/
import Derived.Test.YtnkfifkgbkgcjaaTidyB
namespace Go.Tidy

section
variable {g g' : Gh} {w w' : World} {L : List Blk} {b : Nat} {k' : Blk}

/-- One block of the activation's own is changed (in place, or moved to a new place). -/
structure Step (g : Gh) (w : World) (L : List Blk) (b : Nat) (k' : Blk) (g' : Gh) (w' : World) : Prop where
  good : Good g w L
  lv : live L b
  nd : L[b]? ≠ some .defr
  env : w'.tape = w.tape ∧ w'.os = w.os ∧ w'.output = w.output
  size : w.heap.size ≤ w'.heap.size
  I : g'.I = g.I
  m : ∀ b', b' ≠ b → g'.m b' = g.m b'
  cap : ∀ b', b' ≠ b → g'.cap b' = g.cap b'
  heap : ∀ q o, w.heap[q]? = some o → g.m b ≠ some q → w'.heap[q]? = some o
  new : ∀ r, g'.m b = some r → g.m b = some r ∨ w.heap.size ≤ r
  keep : Keep g L g' (L.set b k') b

theorem Step.lt (h : Step g w L b k' g' w') : b < L.length := by obtain ⟨k, hk, _⟩ := h.lv; exact lt_of_get hk

theorem Step.cells (h : Step g w L b k' g' w') : ∀ (a : Addr) (v : Value), g.I a.block → w.cell? a = some v → w'.cell? a = some v := by
  intro a v hI hc
  have hlt := h.good.lt _ hI
  have hne : g.m b ≠ some a.block := fun e => h.good.dis a.block ⟨b, h.lv, e⟩ hI
  have hh := h.heap a.block (w.heap[a.block]) (Array.getElem?_eq_getElem hlt) hne
  rw [World.cell?_of_block (w := w) (w' := w') (by rw [hh, Array.getElem?_eq_getElem hlt])]
  exact hc

theorem Step.keeps (h : Step g w L b k' g' w') (b' : Nat) : Keep g L g' (L.set b k') b' := by
  by_cases e : b' = b
  · subst e; exact h.keep
  · exact Keep.same (by rw [List.getElem?_set_ne (Ne.symm e)]) (h.m b' e) (h.cap b' e)

theorem Step.mono (h : Step g w L b k' g' w') {x : V} {v : Value} (hx : RV g w L x v) : RV g' w' (L.set b k') x v :=
  hx.mono (fun r hr => by rw [h.I]; exact hr) h.cells (fun b' _ => h.keeps b') hx.bel

theorem RB.mono' {g g' : Gh} {w w' : World} {L L' : List Blk} {b : Nat} {k : Blk} (hmono : ∀ (x : V) (v : Value), RV g w L x v → RV g' w' L' x v)
    (hm : g'.m b = g.m b) (hcap : g'.cap b = g.cap b) (hheap : ∀ r o, g.m b = some r → w.heap[r]? = some o → w'.heap[r]? = some o)
    (hdf : ∀ l, k = .loop l → g'.m l.df = g.m l.df ∧ (L[l.df]? = some .defr → L'[l.df]? = some .defr)) (h : RB g w L b k) : RB g' w' L' b k := by
  cases k with
  | cells cs =>
    obtain ⟨r, cur, T, h1, h2, h3, h4, h5⟩ := h
    exact ⟨r, cur, T, hm.trans h1, hheap r _ h1 h2, h3, h4, fun i x v hx hv => hmono x v (h5 i x v hx hv)⟩
  | row gen sz els =>
    obtain ⟨h0, h1, ⟨h2, h3⟩ | ⟨r, cur, T, h2, h3, h4, h5, h6, h7⟩⟩ := h
    · exact ⟨h0, h1, .inl ⟨hm.trans h2, h3⟩⟩
    · exact ⟨h0, h1, .inr ⟨r, cur, T, hm.trans h2, hheap r _ h2 h3, by rw [hcap]; exact h4, h5, h6, fun i j x v hx hv => hmono x v (h7 i j x v hx hv)⟩⟩
  | map es =>
    obtain ⟨r, ents, clock, h1, h2, h3, h4⟩ := h
    exact ⟨r, ents, clock, hm.trans h1, hheap r _ h1 h2, h3, fun i x e hx he => ⟨hmono _ _ (h4 i x e hx he).1, hmono _ _ (h4 i x e hx he).2⟩⟩
  | loop l =>
    obtain ⟨r, rec, h1, h2, h3, h4, h5, h6, h7, h8, h9, h10, h11⟩ := h
    exact ⟨r, rec, hm.trans h1, hheap r _ h1 h2, h3, h4, h5, h6, h7, h8, fun i => hmono _ _ (h9 i), (hdf l rfl).1.trans h10, (hdf l rfl).2 h11⟩
  | defr =>
    obtain ⟨r, h1, h2⟩ := h
    exact ⟨r, hm.trans h1, hheap r _ h1 h2⟩
  | dead => trivial

theorem Step.good' (h : Step g w L b k' g' w') (hrb : RB g' w' (L.set b k') b k') : Good g' w' (L.set b k') := by
  have hlive : ∀ b', b' ≠ b → live (L.set b k') b' → live L b' := fun b' e ⟨k, hk, hd⟩ => ⟨k, by rw [List.getElem?_set_ne (Ne.symm e)] at hk; exact hk, hd⟩
  refine ⟨?_, ?_, ?_, ?_⟩
  · intro b1 b2 r h1 h2 hm1 hm2
    by_cases e1 : b1 = b <;> by_cases e2 : b2 = b
    · rw [e1, e2]
    · subst e1
      rw [h.m b2 e2] at hm2
      have h2' := hlive b2 e2 h2
      rcases h.new r hm1 with hn | hn
      · exact h.good.inj _ _ r h.lv h2' hn hm2
      · have := h.good.owned_lt ⟨b2, h2', hm2⟩; omega
    · subst e2
      rw [h.m b1 e1] at hm1
      have h1' := hlive b1 e1 h1
      rcases h.new r hm2 with hn | hn
      · exact h.good.inj _ _ r h1' h.lv hm1 hn
      · have := h.good.owned_lt ⟨b1, h1', hm1⟩; omega
    · rw [h.m b1 e1] at hm1; rw [h.m b2 e2] at hm2
      exact h.good.inj _ _ r (hlive b1 e1 h1) (hlive b2 e2 h2) hm1 hm2
  · rintro r ⟨b1, h1, hm1⟩ hI
    rw [h.I] at hI
    by_cases e1 : b1 = b
    · subst e1
      rcases h.new r hm1 with hn | hn
      · exact h.good.dis r ⟨_, h.lv, hn⟩ hI
      · have := h.good.lt r hI; omega
    · rw [h.m b1 e1] at hm1
      exact h.good.dis r ⟨b1, hlive b1 e1 h1, hm1⟩ hI
  · intro r hI
    rw [h.I] at hI
    exact Nat.lt_of_lt_of_le (h.good.lt r hI) h.size
  · intro b1 k hk
    by_cases e1 : b1 = b
    · subst e1
      rw [List.getElem?_set_self h.lt] at hk
      cases hk
      exact hrb
    · rw [List.getElem?_set_ne (Ne.symm e1)] at hk
      by_cases hd : k = .dead
      · subst hd; trivial
      · have hl : Tidy.live L b1 := ⟨k, hk, hd⟩
        refine RB.mono' (fun x v hx => h.mono hx) (h.m b1 e1) (h.cap b1 e1) (fun r o hr ho => h.heap r o ho (fun e => e1 (h.good.inj _ _ r hl h.lv hr e))) (fun l hl' => ?_) (h.good.blk b1 k hk)
        subst hl'
        obtain ⟨_, _, _, _, _, _, _, _, _, _, _, _, hdf⟩ := h.good.blk b1 _ hk
        have hne : l.df ≠ b := fun e => h.nd (by rw [← e]; exact hdf)
        exact ⟨h.m _ hne, fun hh => by rw [List.getElem?_set_ne (Ne.symm hne)]; exact hh⟩

theorem Step.prog (h : Step g w L b k' g' w') : Prog L.length g w L g' w' (L.set b k') := by
  refine ⟨h.env, h.size, fun r o hr hn => h.heap r o hr (fun e => hn ⟨b, h.lv, e⟩), ?_, fun r hr => .inl (by rw [h.I] at hr; exact hr), fun r hr => by rw [h.I]; exact hr, fun x v _ hx => h.mono hx,
    fun b1 r _ hL hm => ?_, fun _ => by simp⟩
  · rintro r ⟨b1, ⟨k, hk, hd⟩, hm1⟩ hlt
    by_cases e1 : b1 = b
    · subst e1
      rcases h.new r hm1 with hn | hn
      · exact ⟨_, h.lv, hn⟩
      · omega
    · rw [h.m b1 e1] at hm1
      rw [List.getElem?_set_ne (Ne.symm e1)] at hk
      exact ⟨b1, ⟨k, hk, hd⟩, hm1⟩
  · have e1 : b1 ≠ b := fun e => h.nd (by rw [← e]; exact hL)
    exact ⟨by rw [List.getElem?_set_ne (Ne.symm e1)]; exact hL, by rw [h.m b1 e1]; exact hm⟩

/-! ### A new block -/
def Gh.add (g : Gh) (b : Nat) (r : Option Nat) (c : Nat) : Gh :=
  { I := g.I, m := fun x => if x = b then r else g.m x, cap := fun x => if x = b then c else g.cap x }

theorem alloc_keep (g : Gh) (L : List Blk) (k' : Blk) (r : Option Nat) (c b' : Nat) (hb : b' < L.length) : Keep g L (g.add L.length r c) (L ++ [k']) b' :=
  Keep.same (by rw [List.getElem?_append_left hb]) (by simp [Gh.add]; omega) (by simp [Gh.add]; omega)

theorem heap_old {w : World} {o o' : Obj} {q : Nat} (h : w.heap[q]? = some o) : (w.alloc o').heap[q]? = some o := by
  rw [heap_alloc_old w o' (Array.getElem?_eq_some_iff.1 h).1]; exact h

/-- What was there is there. -/
structure Ext (w w' : World) : Prop where
  env : w'.tape = w.tape ∧ w'.os = w.os ∧ w'.output = w.output
  size : w.heap.size ≤ w'.heap.size
  old : ∀ (q : Nat) (o : Obj), w.heap[q]? = some o → w'.heap[q]? = some o

theorem Ext.refl (w : World) : Ext w w := ⟨⟨rfl, rfl, rfl⟩, Nat.le_refl _, fun _ _ h => h⟩
theorem Ext.alloc (w : World) (o : Obj) : Ext w (w.alloc o) := ⟨⟨rfl, rfl, rfl⟩, by simp, fun _ _ h => heap_old h⟩
theorem Ext.drewAlloc (w : World) (o : Obj) : Ext w (w.drew.alloc o) := ⟨⟨rfl, rfl, rfl⟩, by simp, fun _ _ h => heap_old (w := w.drew) h⟩
theorem Ext.cell {w w' : World} (h : Ext w w') {a : Addr} (hlt : a.block < w.heap.size) : w'.cell? a = w.cell? a :=
  World.cell?_of_block (by rw [h.old a.block _ (Array.getElem?_eq_getElem hlt), Array.getElem?_eq_getElem hlt])

theorem add_mono (hg : Good g w L) (hE : Ext w w') (k' : Blk) (r : Option Nat) (c : Nat) {x : V} {v : Value} (hx : RV g w L x v) : RV (g.add L.length r c) w' (L ++ [k']) x v :=
  RV.mono (g := g) (g' := g.add L.length r c) (fun r hr => hr) (fun a v hI hc => by rw [hE.cell (hg.lt _ hI)]; exact hc)
    (fun b' hb => alloc_keep g L k' r c b' hb) hx.bel hx

theorem add_good (hg : Good g w L) (hE : Ext w w') (r : Option Nat) (hr : ∀ q, r = some q → w.heap.size ≤ q) (c : Nat) (hrb : RB (g.add L.length r c) w' (L ++ [k']) L.length k') :
    Good (g.add L.length r c) w' (L ++ [k']) := by
  have hold : ∀ b', b' ≠ L.length → live (L ++ [k']) b' → live L b' := by
    rintro b' e ⟨k, hk, hd⟩
    have hlt := lt_of_get hk
    simp at hlt
    rw [List.getElem?_append_left (by omega)] at hk
    exact ⟨k, hk, hd⟩
  have hm : ∀ b', b' ≠ L.length → (g.add L.length r c).m b' = g.m b' := fun b' e => by simp [Gh.add, e]
  have hmL : (g.add L.length r c).m L.length = r := by simp [Gh.add]
  refine ⟨?_, ?_, ?_, ?_⟩
  · intro b1 b2 q h1 h2 hm1 hm2
    by_cases e1 : b1 = L.length <;> by_cases e2 : b2 = L.length
    · rw [e1, e2]
    · subst e1
      rw [hmL] at hm1; rw [hm b2 e2] at hm2
      have := hg.owned_lt ⟨b2, hold b2 e2 h2, hm2⟩; have := hr q hm1; omega
    · subst e2
      rw [hmL] at hm2; rw [hm b1 e1] at hm1
      have := hg.owned_lt ⟨b1, hold b1 e1 h1, hm1⟩; have := hr q hm2; omega
    · rw [hm b1 e1] at hm1; rw [hm b2 e2] at hm2
      exact hg.inj _ _ q (hold b1 e1 h1) (hold b2 e2 h2) hm1 hm2
  · rintro q ⟨b1, h1, hm1⟩ hI
    have hI' : g.I q := hI
    by_cases e1 : b1 = L.length
    · subst e1
      rw [hmL] at hm1
      have := hr q hm1; have := hg.lt q hI'; omega
    · rw [hm b1 e1] at hm1
      exact hg.dis q ⟨b1, hold b1 e1 h1, hm1⟩ hI'
  · intro q hI
    exact Nat.lt_of_lt_of_le (hg.lt q hI) hE.size
  · intro b1 k hk
    by_cases e1 : b1 = L.length
    · subst e1
      simp at hk
      subst hk
      exact hrb
    · have hlt := lt_of_get hk
      simp at hlt
      rw [List.getElem?_append_left (by omega)] at hk
      refine RB.mono' (fun x v hx => add_mono hg hE k' r c hx) (hm b1 e1) (by simp [Gh.add, e1]) (fun q o' _ ho => hE.old q o' ho) (fun l hl => ?_) (hg.blk b1 k hk)
      subst hl
      obtain ⟨_, _, _, _, _, _, _, _, _, _, _, _, hdf⟩ := hg.blk b1 _ hk
      have hlt2 := lt_of_get hdf
      exact ⟨hm _ (by omega), fun hh => by rw [List.getElem?_append_left hlt2]; exact hh⟩

theorem add_prog (hg : Good g w L) (hE : Ext w w') (k' : Blk) (r : Option Nat) (hr : ∀ q, r = some q → w.heap.size ≤ q) (c : Nat) : Prog L.length g w L (g.add L.length r c) w' (L ++ [k']) := by
  refine ⟨hE.env, hE.size, fun q o' ho _ => hE.old q o' ho, ?_, fun q hq => .inl hq, fun q hq => hq, fun x v _ hx => add_mono hg hE k' r c hx,
    fun b1 q hb hL hm => ⟨by rw [List.getElem?_append_left hb]; exact hL, by simp [Gh.add]; rw [if_neg (by omega)]; exact hm⟩, fun _ => by simp⟩
  rintro q ⟨b1, ⟨k, hk, hd⟩, hm1⟩ hlt
  by_cases e1 : b1 = L.length
  · subst e1
    simp [Gh.add] at hm1
    have := hr q hm1; omega
  · have hl := lt_of_get hk
    simp at hl
    rw [List.getElem?_append_left (by omega)] at hk
    simp [Gh.add, e1] at hm1
    exact ⟨b1, ⟨k, hk, hd⟩, hm1⟩

theorem alloc_mono (hg : Good g w L) (k' : Blk) (o : Obj) (r : Option Nat) (c : Nat) {x : V} {v : Value} (hx : RV g w L x v) : RV (g.add L.length r c) (w.alloc o) (L ++ [k']) x v :=
  add_mono hg (Ext.alloc w o) k' r c hx
theorem alloc_good (hg : Good g w L) (o : Obj) (r : Option Nat) (hr : ∀ q, r = some q → q = w.heap.size) (c : Nat) (hrb : RB (g.add L.length r c) (w.alloc o) (L ++ [k']) L.length k') :
    Good (g.add L.length r c) (w.alloc o) (L ++ [k']) := add_good hg (Ext.alloc w o) r (fun q h => Nat.le_of_eq (hr q h).symm) c hrb
theorem alloc_prog (hg : Good g w L) (k' : Blk) (o : Obj) (r : Option Nat) (hr : ∀ q, r = some q → q = w.heap.size) (c : Nat) : Prog L.length g w L (g.add L.length r c) (w.alloc o) (L ++ [k']) :=
  add_prog hg (Ext.alloc w o) k' r (fun q h => Nat.le_of_eq (hr q h).symm) c

end

/-! ### Storing -/
def setCells : List V → Nat → List V → List V
  | [], _, vs => vs
  | c :: cs, 0, [] => c :: cs
  | _ :: cs, 0, v :: vs => v :: setCells cs 0 vs
  | c :: cs, off + 1, vs => c :: setCells cs off vs
theorem setCells_eq : ∀ (cs : List V) (off : Nat) (vs : List V), setCells cs off vs = cs.take off ++ vs ++ cs.drop (off + vs.length)
  | [], _, vs => by simp [setCells]
  | c :: cs, 0, [] => by simp [setCells]
  | _ :: cs, 0, v :: vs => by simp [setCells, setCells_eq cs 0 vs]
  | c :: cs, off + 1, vs => by
    rw [setCells, setCells_eq cs off vs, show off + 1 + vs.length = (off + vs.length) + 1 by omega]
    rfl

theorem setCells_length {cs vs : List V} {off : Nat} (h : off + vs.length ≤ cs.length) : (setCells cs off vs).length = cs.length := by
  simp [setCells_eq]; omega

theorem splice_get {α : Type} {cs vs : List α} {off j : Nat} (h : off + vs.length ≤ cs.length) :
    (cs.take off ++ vs ++ cs.drop (off + vs.length))[j]? = if j < off then cs[j]? else if j < off + vs.length then vs[j - off]? else cs[j]? := by
  rw [List.append_assoc]
  by_cases h1 : j < off
  · rw [List.getElem?_append_left (by simp; omega), if_pos h1, List.getElem?_take, if_pos h1]
  · rw [List.getElem?_append_right (by simp; omega), if_neg h1]
    have e : (cs.take off).length = off := by simp; omega
    rw [e]
    by_cases h2 : j < off + vs.length
    · rw [if_pos h2, List.getElem?_append_left (by omega)]
    · rw [if_neg h2, List.getElem?_append_right (by omega), List.getElem?_drop]
      congr 1; omega

theorem Value.cells_list (v : Value) (j : Nat) : v.cells.toList[j]? = v.cells[j]? := by simp

section
variable {C : Ctx} {g : Gh} {w : World} {L : List Blk}

theorem setRow_env (w : World) (r : Nat) (cs : Array Value) : (w.setRow r cs).tape = w.tape ∧ (w.setRow r cs).os = w.os ∧ (w.setRow r cs).output = w.output := ⟨rfl, rfl, rfl⟩
theorem setRow_size (w : World) (r : Nat) (cs : Array Value) : (w.setRow r cs).heap.size = w.heap.size := by simp [World.setRow]
theorem setRow_other {w : World} {r q : Nat} {cs : Array Value} (h : r ≠ q) : (w.setRow r cs).heap[q]? = w.heap[q]? := by
  simp [World.setRow, Array.getElem?_modify, h]
theorem setRow_same {w : World} {r : Nat} {cs cur : Array Value} {T : TypeId} {fr : Nat × Nat} (h : w.heap[r]? = some (.cells cur T fr)) : (w.setRow r cs).heap[r]? = some (.cells cs T fr) := by
  simp [World.setRow, Array.getElem?_modify, h]

theorem run_storeVar {P : Program} {t : TypeId} {ti : TI} (hT : TIok P t ti) {v : Value} (hsz : v.cells.size = ti.sz) (hone : ∀ (j : Nat) (u : Value), v.cells[j]? = some u → u.oneCell' = true)
    {r off : Nat} {cur : Array Value} {T : TypeId} (hh : w.heap[r]? = some (.cells cur T (0, 0))) (hb : off + v.cells.size ≤ cur.size) :
    (storeVar t ⟨r, off, none⟩ v).run P w = .ok () (w.setRow r (cur.toList.take off ++ v.cells.toList ++ cur.toList.drop (off + v.cells.toList.length)).toArray) := by
  have := run_storeCells_at P r off T v.cells.toList 0 cur w hh (by simpa using hb) (fun u hu => by
    obtain ⟨j, hj, rfl⟩ := List.getElem_of_mem hu
    exact hone j _ (by rw [← Value.cells_list]; exact List.getElem?_eq_getElem hj))
  simp only [Nat.add_zero] at this
  simp [storeVar, hT.run_sizeOf, hsz, this]

def vStore (C : Ctx) (t : TypeId) (x y : V) (L : List Blk) (k : List Blk → Prop) : Prop :=
  match C.tt t with
  | none => False
  | some ti =>
    bif y.stor && Nat.beq (cellsOf y).length ti.sz then
      match x with
      | .ptr b off => match L[b]? with
        | some (.cells cs) => bif Nat.ble (off + ti.sz) cs.length then k (L.set b (.cells (setCells cs off (cellsOf y)))) else False
        | _ => False
      | .eptr b gen i off => match L[b]? with
        | some (.row gen' sz els) => bif Nat.beq gen gen' && Nat.ble (off + ti.sz) sz then GetE els i fun e => k (L.set b (.row gen' sz (els.set i (setCells e off (cellsOf y))))) else False
        | _ => False
      | _ => False
    else False

theorem vStore_ok (hC : C.OK) (hg : Good g w L) {t : TypeId} {x y : V} {v u : Value} (hx : RV g w L x v) (hy : RV g w L y u) {k : List Blk → Prop} (h : vStore C t x y L k) :
    ∃ w' L', (Instr.storeAt t v u).run C.P w = .ok () w' ∧ k L' ∧ L'.length = L.length ∧ Good g w' L' ∧ Prog L.length g w L g w' L' := by
  unfold vStore at h
  cases ht : C.tt t with
  | none => simp only [ht] at h
  | some ti =>
    simp only [ht] at h
    have hT := hC t ti ht
    cases hst : (y.stor && Nat.beq (cellsOf y).length ti.sz) with
    | false => simp only [hst, cond_false] at h
    | true =>
    simp only [hst, cond_true] at h
    rw [Bool.and_eq_true] at hst
    have hlen := Nat.eq_of_beq_eq_true hst.2
    obtain ⟨hl, hone, hrec⟩ := hy.cells hst.1
    have husz : u.cells.size = ti.sz := by omega
    split at h
    · rename_i b off
      split at h
      · rename_i cs hL
        cases hle : Nat.ble (off + ti.sz) cs.length with
        | false => simp only [hle, cond_false] at h
        | true =>
        simp only [hle, cond_true] at h
        have hle' := Nat.le_of_ble_eq_true hle
        have hb := hg.blk b _ hL
        obtain ⟨r, cur, T, hm, hh, hsz, honec, hrecc⟩ := hb
        cases hx with
        | ptrX _ _ a hL' => rw [hL] at hL'; cases hL'
        | ptr _ _ r' cs' hL' hm' =>
          rw [hm] at hm'; cases hm'
          have hrun := run_storeVar (w := w) hT husz hone (off := off) hh (by omega)
          have hbl := lt_of_get hL
          have S : Step g w L b (.cells (setCells cs off (cellsOf y))) g (w.setRow r (cur.toList.take off ++ u.cells.toList ++ cur.toList.drop (off + u.cells.toList.length)).toArray) := by
            refine ⟨hg, ⟨_, hL, by simp⟩, by rw [hL]; simp, setRow_env _ _ _, by rw [setRow_size]; exact Nat.le_refl _, rfl, fun _ _ => rfl, fun _ _ => rfl, fun q o ho hne => ?_, fun r hr => .inl hr, ?_⟩
            · rw [setRow_other (fun e => hne (by rw [← e]; exact hm))]; exact ho
            · exact ⟨fun cs' _ => .inr ⟨_, List.getElem?_set_self hbl, rfl⟩, fun gen sz els e => (by rw [hL] at e; cases e), fun es e => (by rw [hL] at e; cases e), fun l e => (by rw [hL] at e; cases e), fun e => (by rw [hL] at e; cases e)⟩
          refine ⟨_, _, by simp [Instr.storeAt, Instr.sureAddr, hrun], h, by simp, S.good' ⟨r, _, T, hm, setRow_same hh, ?_, ?_, ?_⟩, S.prog⟩
          · rw [setCells_length (by omega)]
            simp; omega
          · intro i v' hv'
            simp only [List.getElem?_toArray] at hv'
            rw [splice_get (by simp; omega)] at hv'
            split at hv'
            · exact honec i v' (by simpa using hv')
            · split at hv'
              · exact hone _ v' (by rw [← Value.cells_list]; exact hv')
              · exact honec i v' (by simpa using hv')
          · intro i x' v' hx' hv'
            simp only [List.getElem?_toArray] at hv'
            rw [splice_get (by simp; omega)] at hv'
            rw [setCells_eq] at hx'
            rw [splice_get (by omega)] at hx'
            have e : u.cells.toList.length = (cellsOf y).length := by simp; omega
            rw [e] at hv'
            split at hv'
            · rename_i h1
              rw [if_pos h1] at hx'
              exact S.mono (hrecc i x' v' hx' (by simpa using hv'))
            · rename_i h1
              rw [if_neg h1] at hx'
              split at hv'
              · rename_i h2
                rw [if_pos h2] at hx'
                exact S.mono (hrec _ x' v' hx' (by rw [← Value.cells_list]; exact hv'))
              · rename_i h2
                rw [if_neg h2] at hx'
                exact S.mono (hrecc i x' v' hx' (by simpa using hv'))
      · exact h.elim
    · rename_i b gen i off
      split at h
      · rename_i gen' sz els hL
        cases hle : (Nat.beq gen gen' && Nat.ble (off + ti.sz) sz) with
        | false => simp only [hle, cond_false] at h
        | true =>
        simp only [hle, cond_true] at h
        rw [Bool.and_eq_true] at hle
        have hgen := Nat.eq_of_beq_eq_true hle.1
        subst hgen
        have hle' := Nat.le_of_ble_eq_true hle.2
        unfold GetE at h
        obtain ⟨e, he, h⟩ := h
        obtain ⟨hsz0, hels, hrow⟩ := hg.blk b _ hL
        have hel : e.length = sz := hels e (List.mem_of_getElem? he)
        rcases hrow with ⟨hm, rfl⟩ | ⟨r, cur, T, hm, hh, hcap, hbig, honec, hrecc⟩
        · simp at he
        · cases hx with
          | eptrX _ _ _ _ a hL' => rw [hL] at hL'; cases hL'
          | eptrO _ _ gen' _ _ _ _ a hL' hg' => rw [hL] at hL'; cases hL'; omega
          | eptr _ _ _ _ sz' r' els' hL' hm' =>
            rw [hL] at hL'; cases hL'
            rw [hm] at hm'; cases hm'
            have hi : i < els.length := lt_of_get he
            have hbound : (i + 1) * sz ≤ cur.size := Nat.le_trans (Nat.mul_le_mul_right sz hi) hbig
            have hb2 : i * sz + sz ≤ cur.size := by rw [← Nat.succ_mul]; exact hbound
            have hrun := run_storeVar (w := w) hT husz hone (off := i * sz + off) hh (by omega)
            have hbl := lt_of_get hL
            have S : Step g w L b (.row gen sz (els.set i (setCells e off (cellsOf y)))) g (w.setRow r (cur.toList.take (i * sz + off) ++ u.cells.toList ++ cur.toList.drop (i * sz + off + u.cells.toList.length)).toArray) := by
              refine ⟨hg, ⟨_, hL, by simp⟩, by rw [hL]; simp, setRow_env _ _ _, by rw [setRow_size]; exact Nat.le_refl _, rfl, fun _ _ => rfl, fun _ _ => rfl, fun q o ho hne => ?_, fun r hr => .inl hr, ?_⟩
              · rw [setRow_other (fun e => hne (by rw [← e]; exact hm))]; exact ho
              · exact ⟨fun cs' e => (by rw [hL] at e; cases e), fun gen' sz' els' e => (by rw [hL] at e; cases e; exact .inr ⟨_, _, _, List.getElem?_set_self hbl, .inr ⟨rfl, rfl, rfl, rfl, by simp⟩⟩), fun es e => (by rw [hL] at e; cases e), fun l e => (by rw [hL] at e; cases e), fun e => (by rw [hL] at e; cases e)⟩
            refine ⟨_, _, by simp [Instr.storeAt, Instr.sureAddr, hrun], h, by simp, S.good' ⟨hsz0, ?_, .inr ⟨r, _, T, hm, setRow_same hh, ?_, ?_, ?_, ?_⟩⟩, S.prog⟩
            · intro e' he'
              rcases List.mem_or_eq_of_mem_set he' with h' | h'
              · exact hels e' h'
              · rw [h', setCells_length (by omega)]; exact hel
            · simp; omega
            · simp only [List.length_set]; simp; omega
            · intro j v' hv'
              simp only [List.getElem?_toArray] at hv'
              rw [splice_get (by simp; omega)] at hv'
              split at hv'
              · exact honec j v' (by simpa using hv')
              · split at hv'
                · exact hone _ v' (by rw [← Value.cells_list]; exact hv')
                · exact honec j v' (by simpa using hv')
            · intro i' j x' v' hx' hv'
              simp only [List.getElem?_toArray] at hv'
              rw [splice_get (by simp; omega)] at hv'
              have elen : u.cells.toList.length = (cellsOf y).length := by simp; omega
              rw [elen] at hv'
              have hjs : j < sz := by
                cases hq : (els.set i (setCells e off (cellsOf y)))[i']? with
                | none => rw [hq] at hx'; cases hx'
                | some e' =>
                  rw [hq] at hx'
                  have := lt_of_get (L := e') (by simpa using hx')
                  have hmem := List.mem_of_getElem? hq
                  rcases List.mem_or_eq_of_mem_set hmem with h' | h'
                  · have := hels e' h'; omega
                  · rw [h', setCells_length (by omega)] at this; omega
              by_cases hii : i' = i
              · subst hii
                rw [List.getElem?_set_self hi] at hx'
                simp only [Option.bind_some] at hx'
                rw [setCells_eq] at hx'
                rw [splice_get (by omega)] at hx'
                by_cases h1 : j < off
                · rw [if_pos h1] at hx'; rw [if_pos (by omega)] at hv'
                  exact S.mono (hrecc i' j x' v' (by rw [he]; simpa using hx') (by simpa using hv'))
                · rw [if_neg h1] at hx'; rw [if_neg (by omega)] at hv'
                  by_cases h2 : j < off + (cellsOf y).length
                  · rw [if_pos h2] at hx'; rw [if_pos (by omega)] at hv'
                    exact S.mono (hrec _ x' v' hx' (by rw [← Value.cells_list]; rw [← hv']; congr 1; omega))
                  · rw [if_neg h2] at hx'; rw [if_neg (by omega)] at hv'
                    exact S.mono (hrecc i' j x' v' (by rw [he]; simpa using hx') (by simpa using hv'))
              · rw [List.getElem?_set_ne (Ne.symm hii)] at hx'
                have hout : ¬ (i * sz ≤ i' * sz + j ∧ i' * sz + j < i * sz + sz) := by
                  rintro ⟨h1, h2⟩
                  rcases Nat.lt_or_ge i' i with hlt | hge
                  · have := Nat.mul_le_mul_right sz (show i' + 1 ≤ i from hlt)
                    rw [Nat.succ_mul] at this; omega
                  · have := Nat.mul_le_mul_right sz (show i + 1 ≤ i' by omega)
                    rw [Nat.succ_mul] at this; omega
                have hv2 : cur.toList[i' * sz + j]? = some v' := by
                  split at hv'
                  · exact hv'
                  · split at hv'
                    · omega
                    · exact hv'
                exact S.mono (hrecc i' j x' v' hx' (by simpa using hv2))
      · exact h.elim
    · exact h.elim

/-! ### Allocating -/
def vBox (x : V) (L : List Blk) (k : V → List Blk → Prop) : Prop := bif x.stor then k (.ptr L.length 0) (L ++ [.cells (cellsOf x)]) else False

theorem newCells_ok (hg : Good g w L) (T : TypeId) {cs : List V} {vs : Array Value} (hl : cs.length = vs.size) (hone : ∀ (j : Nat) (u : Value), vs[j]? = some u → u.oneCell' = true)
    (hrec : ∀ (j : Nat) (y : V) (u : Value), cs[j]? = some y → vs[j]? = some u → RV g w L y u) :
    ∃ g', RV g' (w.alloc (.cells vs T)) (L ++ [.cells cs]) (.ptr L.length 0) (.pointer (some ⟨w.heap.size, 0, none⟩)) ∧ Good g' (w.alloc (.cells vs T)) (L ++ [.cells cs]) ∧
      Prog L.length g w L g' (w.alloc (.cells vs T)) (L ++ [.cells cs]) := by
  refine ⟨g.add L.length (some w.heap.size) 0, .ptr _ _ _ cs (by simp) (by simp [Gh.add]), alloc_good hg _ _ (fun q h => by cases h; rfl) _ ⟨_, vs, T, by simp [Gh.add], heap_alloc_new w _, by omega, hone, ?_⟩,
    alloc_prog hg _ _ _ (fun q h => by cases h; rfl) _⟩
  exact fun i x v hx hv => alloc_mono hg _ _ _ _ (hrec i x v hx hv)

theorem vBox_ok (hg : Good g w L) (t : TypeId) {x : V} {v : Value} (hx : RV g w L x v) {k : V → List Blk → Prop} (h : vBox x L k) :
    ∃ r w' X L' g', (Instr.box t v).run C.P w = .ok r w' ∧ k X L' ∧ RV g' w' L' X r ∧ Good g' w' L' ∧ Prog L.length g w L g' w' L' := by
  unfold vBox at h
  cases hst : x.stor with
  | false => simp only [hst, cond_false] at h
  | true =>
    simp only [hst, cond_true] at h
    obtain ⟨hl, hone, hrec⟩ := hx.cells hst
    obtain ⟨g', h1, h2, h3⟩ := newCells_ok hg t hl hone hrec
    exact ⟨_, _, _, _, g', by simp [Instr.box, newVar, newRow], h, h1, h2, h3⟩

def zokB (ti : TI) : Bool := ti.zv.cells.toList.all (·.oneCell')
theorem zokB_all {ti : TI} (h : zokB ti = true) : ti.zv.cells.all (·.oneCell') = true := by rw [← Array.all_toList]; exact h
def zeroCells (ti : TI) : List V := ti.zv.cells.toList.map ofLeaf
def vAlloc (C : Ctx) (t : TypeId) (L : List Blk) (k : V → List Blk → Prop) : Prop :=
  match C.tt t with
  | none => False
  | some ti => bif zokB ti then k (.ptr L.length 0) (L ++ [.cells (zeroCells ti)]) else False

theorem zeroCells_ok (g : Gh) (w : World) (L : List Blk) {ti : TI} (h : zokB ti = true) : (zeroCells ti).length = ti.zv.cells.size ∧ (∀ (j : Nat) (u : Value), ti.zv.cells[j]? = some u → u.oneCell' = true) ∧
    ∀ (j : Nat) (y : V) (u : Value), (zeroCells ti)[j]? = some y → ti.zv.cells[j]? = some u → RV g w L y u := by
  refine ⟨by simp [zeroCells], fun j u hu => ?_, fun j y u hy hu => ?_⟩
  · have h := zokB_all h
    rw [Array.all_eq_true] at h
    obtain ⟨hj, rfl⟩ := Array.getElem?_eq_some_iff.1 hu
    exact h j hj
  · unfold zeroCells at hy
    rw [List.getElem?_map, Value.cells_list, hu] at hy
    cases hy
    exact ofLeaf_ok g w L u

theorem vAlloc_ok (hC : C.OK) (hg : Good g w L) {t : TypeId} {k : V → List Blk → Prop} (h : vAlloc C t L k) :
    ∃ r w' X L' g', (Instr.alloc t true (.tuple #[])).run C.P w = .ok r w' ∧ k X L' ∧ RV g' w' L' X r ∧ Good g' w' L' ∧ Prog L.length g w L g' w' L' := by
  unfold vAlloc at h
  cases ht : C.tt t with
  | none => simp only [ht] at h
  | some ti =>
    simp only [ht] at h
    have hT := hC t ti ht
    cases hst : zokB ti with
    | false => simp only [hst, cond_false] at h
    | true =>
      simp only [hst, cond_true] at h
      obtain ⟨hl, hone, hrec⟩ := zeroCells_ok g w L hst
      obtain ⟨g', h1, h2, h3⟩ := newCells_ok hg t hl hone hrec
      exact ⟨_, _, _, _, g', by simp [Instr.alloc, hT.run_zero, newVar, newRow], h, h1, h2, h3⟩

end
end Go.Tidy
