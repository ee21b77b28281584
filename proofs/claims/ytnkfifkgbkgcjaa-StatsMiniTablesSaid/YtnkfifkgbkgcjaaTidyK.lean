/-
  The base layer: forgetting, dropping blocks, making data of what is the activation's own; the entry of a function; rounds.
-/
import Derived.Test.YtnkfifkgbkgcjaaTidyJ
namespace Go.Tidy

/-! ### Blocks that speak of few others -/
def belF (n : Nat) : List (Nat × V) → Bool
  | [] => true
  | p :: r => p.2.bel n && belF n r
def belM (n : Nat) : List (V × V) → Bool
  | [] => true
  | p :: r => p.1.bel n && p.2.bel n && belM n r
def belR (n : Nat) : List (List V) → Bool
  | [] => true
  | p :: r => V.belL n p && belR n r
def Blk.bel (n : Nat) : Blk → Bool
  | .cells cs => V.belL n cs
  | .row _ _ els => belR n els
  | .map es => belM n es
  | .loop l => belF n l.fr && decide (l.df < n)
  | .defr => true
  | .dead => true
def belB (n : Nat) : List Blk → Bool
  | [] => true
  | k :: r => k.bel n && belB n r

theorem belF_look {n : Nat} : ∀ {fr : List (Nat × V)}, belF n fr = true → ∀ i, (look fr i).bel n = true
  | [], _, i => rfl
  | (d, v) :: r, h, i => by
    simp only [belF, Bool.and_eq_true] at h
    rw [look_cons]
    split
    · exact h.1
    · exact belF_look h.2 i
theorem belM_get {n : Nat} : ∀ {es : List (V × V)}, belM n es = true → ∀ {i : Nat} {x : V × V}, es[i]? = some x → x.1.bel n = true ∧ x.2.bel n = true
  | [], _, i, x, h => by simp at h
  | p :: r, h, 0, x, hx => by simp only [belM, Bool.and_eq_true] at h; simp at hx; exact hx ▸ h.1
  | p :: r, h, i + 1, x, hx => by simp only [belM, Bool.and_eq_true] at h; exact belM_get h.2 (by simpa using hx)
theorem belR_get {n : Nat} : ∀ {els : List (List V)}, belR n els = true → ∀ {i j : Nat} {x : V}, (els[i]?).bind (fun e => e[j]?) = some x → x.bel n = true
  | [], _, i, j, x, h => by simp at h
  | p :: r, h, 0, j, x, hx => by simp only [belR, Bool.and_eq_true] at h; exact V.belL_get h.1 (by simpa using hx)
  | p :: r, h, i + 1, j, x, hx => by simp only [belR, Bool.and_eq_true] at h; exact belR_get h.2 (by simpa using hx)
theorem belB_get {n : Nat} : ∀ {L : List Blk}, belB n L = true → ∀ {i : Nat} {k : Blk}, L[i]? = some k → k.bel n = true
  | [], _, i, k, h => by simp at h
  | p :: r, h, 0, k, hx => by simp only [belB, Bool.and_eq_true] at h; simp at hx; exact hx ▸ h.1
  | p :: r, h, i + 1, k, hx => by simp only [belB, Bool.and_eq_true] at h; exact belB_get h.2 (by simpa using hx)

section
variable {C : Ctx} {g : Gh} {w : World} {L : List Blk} {r : Option Nat}

theorem RB.mono_bel {g g' : Gh} {w w' : World} {L L' : List Blk} {b n : Nat} {k : Blk} (hb : k.bel n = true) (hmono : ∀ (x : V) (v : Value), x.bel n = true → RV g w L x v → RV g' w' L' x v)
    (hm : g'.m b = g.m b) (hcap : g'.cap b = g.cap b) (hheap : ∀ r o, g.m b = some r → w.heap[r]? = some o → w'.heap[r]? = some o)
    (hdf : ∀ l, k = .loop l → g'.m l.df = g.m l.df ∧ (L[l.df]? = some .defr → L'[l.df]? = some .defr)) (h : RB g w L b k) : RB g' w' L' b k := by
  cases k with
  | cells cs =>
    obtain ⟨r, cur, T, h1, h2, h3, h4, h5⟩ := h
    exact ⟨r, cur, T, hm.trans h1, hheap r _ h1 h2, h3, h4, fun i x v hx hv => hmono x v (V.belL_get hb hx) (h5 i x v hx hv)⟩
  | row gen sz els =>
    obtain ⟨h0, h1, ⟨h2, h3⟩ | ⟨r, cur, T, h2, h3, h4, h5, h6, h7⟩⟩ := h
    · exact ⟨h0, h1, .inl ⟨hm.trans h2, h3⟩⟩
    · exact ⟨h0, h1, .inr ⟨r, cur, T, hm.trans h2, hheap r _ h2 h3, by rw [hcap]; exact h4, h5, h6, fun i j x v hx hv => hmono x v (belR_get hb hx) (h7 i j x v hx hv)⟩⟩
  | map es =>
    obtain ⟨r, ents, clock, h1, h2, h3, h4⟩ := h
    exact ⟨r, ents, clock, hm.trans h1, hheap r _ h1 h2, h3, fun i x e hx he => ⟨hmono _ _ (belM_get hb hx).1 (h4 i x e hx he).1, hmono _ _ (belM_get hb hx).2 (h4 i x e hx he).2⟩⟩
  | loop l =>
    simp only [Blk.bel, Bool.and_eq_true] at hb
    obtain ⟨r, rec, h1, h2, h3, h4, h5, h6, h7, h8, h9, h10, h11⟩ := h
    exact ⟨r, rec, hm.trans h1, hheap r _ h1 h2, h3, h4, h5, h6, h7, h8, fun i => hmono _ _ (belF_look hb.1 i) (h9 i), (hdf l rfl).1.trans h10, (hdf l rfl).2 h11⟩
  | defr =>
    obtain ⟨r, h1, h2⟩ := h
    exact ⟨r, hm.trans h1, hheap r _ h1 h2⟩
  | dead => trivial

theorem take_get {n b : Nat} (hb : b < n) : (L.take n)[b]? = L[b]? := by rw [List.getElem?_take, if_pos hb]

theorem take_live {n b : Nat} (h : live (L.take n) b) : b < n ∧ live L b := by
  obtain ⟨k, hk, hd⟩ := h
  rw [List.getElem?_take] at hk
  split at hk
  · exact ⟨by assumption, k, hk, hd⟩
  · cases hk

/-- Blocks behind the first n are spoken of no more. (I' may hold what they were.) -/
theorem drop_good (hg : Good g w L) {n : Nat} (hB : belB n (L.take n) = true) (I' : Nat → Prop) (hI : ∀ q, g.I q → I' q) (hI' : ∀ q, I' q → g.I q ∨ ∃ b, n ≤ b ∧ live L b ∧ g.m b = some q) :
    (∀ (x : V) (v : Value), x.bel n = true → RV g w L x v → RV { g with I := I' } w (L.take n) x v) ∧ Good { g with I := I' } w (L.take n) := by
  have hmono : ∀ (x : V) (v : Value), x.bel n = true → RV g w L x v → RV { g with I := I' } w (L.take n) x v := fun x v hx h =>
    RV.mono (g := g) (g' := { g with I := I' }) (L := L) (L' := L.take n) hI (fun a v _ h => h) (fun b hb => Keep.same (take_get hb) rfl rfl) hx h
  refine ⟨hmono, ?_, ?_, ?_, ?_⟩
  · intro b b' q h1 h2 hm1 hm2
    exact hg.inj b b' q (take_live h1).2 (take_live h2).2 hm1 hm2
  · rintro q ⟨b, h1, hm⟩ hq
    obtain ⟨hbn, hl⟩ := take_live h1
    rcases hI' q hq with h | ⟨b', hb', hl', hm'⟩
    · exact hg.dis q ⟨b, hl, hm⟩ h
    · have := hg.inj b b' q hl hl' hm hm'; omega
  · intro q hq
    rcases hI' q hq with h | ⟨b', hb', hl', hm'⟩
    · exact hg.lt q h
    · exact hg.owned_lt ⟨b', hl', hm'⟩
  · intro b k hk
    have hkb := belB_get hB hk
    rw [List.getElem?_take] at hk
    split at hk
    · refine RB.mono_bel hkb hmono rfl rfl (fun _ _ _ h => h) (fun l hl => ⟨rfl, fun h => ?_⟩) (hg.blk b k hk)
      subst hl
      simp only [Blk.bel, Bool.and_eq_true, decide_eq_true_eq] at hkb
      rw [take_get hkb.2]; exact h
    · cases hk

theorem drop_prog (hg : Good g w L) {n k : Nat} (hk : k ≤ n) (hB : belB n (L.take n) = true) (hn : n ≤ L.length) (I' : Nat → Prop) (hI : ∀ q, g.I q → I' q) (hI' : ∀ q, I' q → g.I q ∨ ∃ b, n ≤ b ∧ live L b ∧ g.m b = some q) :
    Prog k g w L { g with I := I' } w (L.take n) := by
  obtain ⟨hmono, hgood⟩ := drop_good hg hB I' hI hI'
  refine ⟨⟨rfl, rfl, rfl⟩, Nat.le_refl _, fun _ _ h _ => h, ?_, ?_, hI, fun x v hx h => hmono x v (V.bel_le hk x hx) h, fun b q hb hL hm => ⟨by rw [take_get (by omega)]; exact hL, hm⟩, fun _ => by simp; omega⟩
  · rintro q ⟨b, h1, hm⟩ _
    exact ⟨b, (take_live h1).2, hm⟩
  · intro q hq
    rcases hI' q hq with h | ⟨b', hb', hl', hm'⟩
    · exact .inl h
    · exact .inr (.inr ⟨b', hl', hm'⟩)

/-! ### Forgetting -/
def SubF (fr : List (Nat × V)) : List (Nat × V) → Prop
  | [] => True
  | p :: q => norm (look fr p.1) = norm p.2 ∧ SubF fr q
theorem norm_eq {g : Gh} {w : World} {L : List Blk} {x y : V} {v : Value} (h : norm x = norm y) (hx : RV g w L x v) : RV g w L y v := by
  have hy : RV g w L (norm y) v := h ▸ norm_ok hx
  unfold norm at hy
  split at hy
  · rw [hy.bool_of]; exact .tt
  · rw [hy.bool_of]; exact .ff
  · exact hy
theorem norm_bel {n : Nat} {x y : V} (h : norm x = norm y) (hx : x.bel n = true) : y.bel n = true := by
  have : (norm x).bel n = true := by unfold norm; split <;> first | rfl | exact hx
  rw [h] at this
  unfold norm at this
  split at this <;> first | rfl | exact this
theorem SubF.look {fr : List (Nat × V)} : ∀ {fr' : List (Nat × V)}, SubF fr fr' → ∀ i, look fr' i = .poison ∨ norm (look fr i) = norm (look fr' i)
  | [], _, i => .inl rfl
  | (d, v) :: q, h, i => by
    rw [look_cons]
    split
    · rename_i e; subst e; exact .inr h.1
    · exact SubF.look h.2 i

theorem Weak.refl (k : Nat) (σ : TS) : Weak k σ σ := fun _r g _a _w h => ⟨g, h, Prog.refl _ _ _ _⟩
theorem Weak.trans {k : Nat} {σ σ' σ'' : TS} (h : Weak k σ σ') (h' : Weak k σ' σ'') : Weak k σ σ'' := fun r g a w hs => by
  obtain ⟨g1, hs1, hp1⟩ := h r g a w hs
  obtain ⟨g2, hs2, hp2⟩ := h' r g1 a w hs1
  exact ⟨g2, hs2, hp1.trans hp2⟩

/-- Slots are forgotten; blocks behind the first n are dropped. -/
theorem Weak.fd {k n : Nat} {σ : TS} {fr' : List (Nat × V)} {L' : List Blk} (hfr : SubF σ.fr fr') (hL : σ.L.take n = L') (hk : k ≤ n) (hn : n ≤ σ.L.length) (hf : belF n fr' = true) (hB : belB n L' = true)
    (hdf : σ.df.all (fun b => decide (b < n)) = true) (hro : (match σ.ro with | some b => decide (b < n) | none => true) = true) : Weak k σ { σ with fr := fr', L := L' } := by
  intro r g a w hs
  subst hL
  obtain ⟨hmono, hgood⟩ := drop_good hs.good hB g.I (fun _ h => h) (fun _ h => .inl h)
  refine ⟨{ g with I := g.I }, ⟨hs.n, fun i => ?_, hgood, by simp; omega, hs.df, fun i b d hb hd => ?_, fun lb hlb => ?_, hs.ro'⟩, drop_prog hs.good hk hB hn g.I (fun _ h => h) (fun _ h => .inl h)⟩
  · have hb := belF_look hf i
    rcases hfr.look i with h | h
    · show RV _ _ _ (look fr' i) _
      rw [h]; exact .poison _
    · exact hmono _ _ hb (norm_eq h (hs.fr i))
  · obtain ⟨q, h1, h2, h3⟩ := hs.dfs i b d hb hd
    have : b < n := by
      rw [List.all_eq_true] at hdf
      exact of_decide_eq_true (hdf b (List.mem_of_getElem? hb))
    exact ⟨q, h1, h2, by show (σ.L.take n)[b]? = _; rw [take_get this]; exact h3⟩
  · have hlb' : σ.ro = some lb := hlb
    obtain ⟨l, h1, h2⟩ := hs.ro lb hlb'
    rw [hlb'] at hro
    exact ⟨l, h1, hmono _ _ (by simpa [V.bel] using hro) h2⟩

/-- Slots are forgotten. -/
theorem Weak.forget {k : Nat} {σ : TS} {fr' : List (Nat × V)} (hfr : SubF σ.fr fr') : Weak k σ { σ with fr := fr' } := by
  intro r g a w hs
  refine ⟨g, ⟨hs.n, fun i => ?_, hs.good, hs.k, hs.df, hs.dfs, hs.ro, hs.ro'⟩, Prog.refl _ _ _ _⟩
  rcases hfr.look i with h | h
  · show RV _ _ _ (look fr' i) _
    rw [h]; exact .poison _
  · exact norm_eq h (hs.fr i)

theorem St.prog {k : Nat} {g g' : Gh} {σ : TS} {a : Act} {w : World} {L' : List Blk} (hs : St k r g σ a w) (hp : Prog σ.L.length g w σ.L g' w L') (hg : Good g' w L') : St k r g' { σ with L := L' } a w :=
  hs.of_at (a' := a) (fr' := σ.fr) ⟨hs.n, frame_mono hs.fr hp, hg⟩ rfl hp

/-- A nil slice as an empty row of the activation's own. -/
theorem Weak.nilOwn {k : Nat} {σ : TS} (d sz : Nat) (hd : look σ.fr d = .nil) (hsz : 0 < sz) : Weak k σ { σ with fr := (d, .own σ.L.length 0 0 0) :: σ.fr, L := σ.L ++ [.row 0 sz []] } := by
  intro r g a w hs
  have hp := add_prog hs.good (Ext.refl w) (.row 0 sz []) none (fun q h => by cases h) 0
  have hg := add_good (k' := .row 0 sz []) hs.good (Ext.refl w) none (fun q h => by cases h) 0 ⟨hsz, by simp, .inl ⟨by simp [Gh.add], rfl⟩⟩
  have hs' := hs.prog hp hg
  refine ⟨_, ⟨hs'.n, frame_set hs'.fr ?_, hs'.good, hs'.k, hs'.df, hs'.dfs, hs'.ro, hs'.ro'⟩, hp.le hs.k (Nat.le_refl _)⟩
  have hv := hs.fr d
  rw [hd] at hv
  generalize a.tmps.getD d undef = v at hv
  cases hv with
  | nil => exact .ownN _ _ sz [] (by simp) (by simp [Gh.add])

/-! ### Data out of what is the activation's own -/
inductive Cv (S : Nat → Prop) (L : List Blk) : V → D → Prop
  | d (x : D) : Cv S L (.d x) x
  | nil : Cv S L .nil (.sl [])
  | tt : Cv S L .tt (.bool true)
  | ff : Cv S L .ff (.bool false)
  | own (b gen lo len sz : Nat) (els : List (List V)) (ds : List (List D)) (hb : S b) (hL : L[b]? = some (.row gen sz els)) (hlen : ((els.drop lo).take len).length = ds.length) (hl : len = ds.length)
      (hrow : ∀ e ∈ ds, e.length = sz)
      (hrec : ∀ (i j : Nat) (x : V) (y : D), (((els.drop lo).take len)[i]?).bind (fun e => e[j]?) = some x → (ds[i]?).bind (fun e => e[j]?) = some y → Cv S L x y) : Cv S L (.own b gen lo len) (.sl ds)
  | ptr (b off : Nat) (cs : List V) (ds : List D) (hb : S b) (hL : L[b]? = some (.cells cs)) (hlen : (cs.drop off).length = ds.length)
      (hrec : ∀ (j : Nat) (x : V) (y : D), (cs.drop off)[j]? = some x → ds[j]? = some y → Cv S L x y) : Cv S L (.ptr b off) (.rptr ds)
  | fn (f : FuncId) (caps : List V) (ds : List D) (hlen : caps.length = ds.length) (hrec : ∀ (j : Nat) (x : V) (y : D), caps[j]? = some x → ds[j]? = some y → Cv S L x y) : Cv S L (.fn f caps) (.fn f ds)

/-- Where the row's elements are data already. -/
theorem Cv.row {S : Nat → Prop} {b gen lo len sz : Nat} {els : List (List V)} (ds : List (List D)) (hb : S b) (hL : L[b]? = some (.row gen sz els)) (he : (els.drop lo).take len = ds.map (·.map .d)) (hl : len = ds.length)
    (hrow : ∀ e ∈ ds, e.length = sz) : Cv S L (.own b gen lo len) (.sl ds) := by
  refine .own b gen lo len sz els ds hb hL (by rw [he]; simp) hl hrow (fun i j x y hx hy => ?_)
  rw [he, List.getElem?_map] at hx
  cases e : ds[i]? with
  | none => rw [e] at hy; cases hy
  | some d =>
    rw [e] at hx hy
    simp only [Option.map_some, Option.bind_some, List.getElem?_map] at hx hy
    rw [hy] at hx
    cases hx
    exact .d y

theorem Cv.rd {S : Nat → Prop} (hg : Good g w L) {I' : Nat → Prop} (hI : ∀ q, g.I q → I' q) (hI' : ∀ b q, S b → live L b → g.m b = some q → I' q) {x : V} {y : D} (h : Cv S L x y) : ∀ {v : Value}, RV g w L x v → RD I' w y v := by
  induction h with
  | d x => intro v hv; cases hv with | d _ _ hd => exact hd.mono hI (fun _ _ _ h => h)
  | nil => intro v hv; cases hv; exact .slNil _ _
  | tt => intro v hv; cases hv; exact .bool _
  | ff => intro v hv; cases hv; exact .bool _
  | own b gen lo len sz els ds hb hL hlen hl hrow hrec ih =>
    intro v hv
    obtain ⟨hsz0, hels, hr⟩ := hg.blk b _ hL
    cases hv with
    | ownX _ _ _ _ a n c hL' => rw [hL] at hL'; cases hL'
    | ownO _ _ gen2 _ _ _ _ a n c hL' hg' => rw [hL] at hL'; cases hL'; omega
    | ownN _ _ _ _ hL' hm' =>
      have : ds = [] := List.eq_nil_of_length_eq_zero hl.symm
      subst this
      exact .slNil _ _
    | own _ _ _ _ sz' r o c els' hL' hm ho hcap hlc hle =>
      rw [hL] at hL'; cases hL'
      rcases hr with ⟨hm', _⟩ | ⟨r', cur, T, hm', hh, hcapg, hbig, hone, hrc⟩
      · rw [hm] at hm'; cases hm'
      rw [hm] at hm'; cases hm'
      subst hl
      rcases Nat.eq_zero_or_pos ds.length with h0 | hpos
      · have : ds = [] := List.eq_nil_of_length_eq_zero h0
        subst this
        exact .slNil _ _
      · have ho' : o = lo * sz := by rcases ho with h0 | h0 <;> omega
        subst ho'
        have hcell : ∀ i j, i < ds.length → j < sz → ∃ u, cur[lo * sz + (i * sz + j)]? = some u := by
          intro i j hi hj
          have : lo * sz + (i * sz + j) < cur.size := by
            have h1 := Nat.mul_le_mul_right sz (show lo + i + 1 ≤ els.length by omega)
            rw [Nat.succ_mul, Nat.add_mul] at h1; omega
          exact ⟨_, Array.getElem?_eq_getElem this⟩
        refine .sl ds ⟨r, lo * sz, none⟩ c sz (fun i j => (cur[lo * sz + (i * sz + j)]?).getD undef) hrow (fun i j hi hj => ?_) (hI' b r hb ⟨_, hL, by simp⟩ hm) hlc (fun i j y hy => ?_)
        · obtain ⟨u, hu⟩ := hcell i j hi hj
          rw [Addr.add_lit, cell_row hh, hu]; rfl
        · have hi : i < ds.length := by
            rcases Nat.lt_or_ge i ds.length with h' | h'
            · exact h'
            · rw [List.getElem?_eq_none h'] at hy; cases hy
          have hj : j < sz := by
            cases e : ds[i]? with
            | none => rw [e] at hy; cases hy
            | some d => rw [e] at hy; have := lt_of_get (L := d) (by simpa using hy); have := hrow d (List.mem_of_getElem? e); omega
          obtain ⟨u, hu⟩ := hcell i j hi hj
          rw [hu]
          have hi2 : lo + i < els.length := by omega
          have hel := hels _ (List.getElem_mem hi2)
          have hx : (((els.drop lo).take ds.length)[i]?).bind (fun e => e[j]?) = some ((els[lo + i])[j]'(by omega)) := by
            rw [List.getElem?_take, if_pos hi, List.getElem?_drop, List.getElem?_eq_getElem hi2]
            simp
          refine ih i j _ y hx hy (hrc (lo + i) j _ u ?_ ?_)
          · rw [List.getElem?_eq_getElem hi2]; simp
          · rw [Nat.add_mul, Nat.add_assoc]; exact hu
  | ptr b off cs ds hb hL hlen hrec ih =>
    intro v hv
    obtain ⟨r, cur, T, hm, hh, hsz, hone, hrc⟩ := hg.blk b _ hL
    cases hv with
    | ptrX _ _ a hL' => rw [hL] at hL'; cases hL'
    | ptr _ _ r' cs' hL' hm' =>
      rw [hm] at hm'; cases hm'
      simp at hlen
      refine .rptr ds ⟨r, off, none⟩ (fun j => (cur[off + j]?).getD undef) (fun j hj => ?_) (hI' b r hb ⟨_, hL, by simp⟩ hm) (fun j y hy => ?_)
      · rw [Addr.add_lit, cell_row hh, Array.getElem?_eq_getElem (by omega)]; rfl
      · have hj := lt_of_get hy
        rw [Array.getElem?_eq_getElem (show off + j < cur.size by omega)]
        have hx : (cs.drop off)[j]? = some (cs[off + j]'(by omega)) := by
          rw [List.getElem?_drop, List.getElem?_eq_getElem]
        exact ih j _ y hx hy (hrc (off + j) _ _ (by rw [← List.getElem?_drop]; exact hx) (Array.getElem?_eq_getElem _))
  | fn f caps ds hlen hrec ih =>
    intro v hv
    cases hv with
    | fn _ _ vs hl hr => exact .fn f ds vs (by omega) (fun j y u hy hu => by
        have hj := lt_of_get hy
        have hx : caps[j]? = some (caps[j]'(by omega)) := List.getElem?_eq_getElem _
        exact ih j _ y hx hy (hr j _ u hx hu))

/-- A result, as data. -/
inductive Cw (S : Nat → Prop) (L : List Blk) : V → V → Prop
  | d {x : V} {y : D} (h : Cv S L x y) : Cw S L x (.d y)
  | agg (cs : List V) (ds : List D) (hlen : cs.length = ds.length) (h : ∀ (j : Nat) (x : V) (y : D), cs[j]? = some x → ds[j]? = some y → Cv S L x y) : Cw S L (.agg cs) (.agg (ds.map .d))
  | tup (cs : List V) (ds : List V) (hlen : cs.length = ds.length) (h : ∀ (j : Nat) (x y : V), cs[j]? = some x → ds[j]? = some y → Cw S L x y) : Cw S L (.tup cs) (.tup ds)

theorem Cw.rv {S : Nat → Prop} (hg : Good g w L) {g' : Gh} {L' : List Blk} (hI : ∀ q, g.I q → g'.I q) (hI' : ∀ b q, S b → live L b → g.m b = some q → g'.I q) {x y : V} (h : Cw S L x y) : ∀ {v : Value}, RV g w L x v → RV g' w L' y v := by
  induction h with
  | d h => intro v hv; exact .d _ _ (h.rd hg hI hI' hv)
  | agg cs ds hlen h =>
    intro v hv
    cases hv with
    | agg _ vs hl ho hr =>
      refine .agg _ vs (by simp; omega) ho (fun j y u hy hu => ?_)
      rw [List.getElem?_map] at hy
      cases e : ds[j]? with
      | none => rw [e] at hy; cases hy
      | some d =>
        rw [e] at hy; cases hy
        have hj := lt_of_get e
        have hx : cs[j]? = some (cs[j]'(by omega)) := List.getElem?_eq_getElem _
        exact .d _ _ ((h j _ d hx e).rd hg hI hI' (hr j _ u hx hu))
  | tup cs ds hlen h ih =>
    intro v hv
    cases hv with
    | tup _ vs hl hr =>
      refine .tup ds vs (by omega) (fun j y u hy hu => ?_)
      have hj := lt_of_get hy
      have hx : cs[j]? = some (cs[j]'(by omega)) := List.getElem?_eq_getElem _
      exact ih j _ y hx hy (hr j _ u hx hu)

/-! ### The end of a function or of a round -/
def RetW (k : Nat) (X : V) (L : List Blk) (X' : V) (L' : List Blk) : Prop :=
  ∀ (g : Gh) (w : World) (v : Value), Good g w L → k ≤ L.length → RV g w L X v → ∃ g', Good g' w L' ∧ RV g' w L' X' v ∧ Prog k g w L g' w L'
@[irreducible] def FinP (k0 : Nat) (X : V) (L : List Blk) (k : V → List Blk → Prop) : Prop := ∃ X' L', RetW k0 X L X' L' ∧ k X' L'

theorem FinP.same {k0 : Nat} {X : V} {k : V → List Blk → Prop} (h : k X L) : FinP k0 X L k := by
  unfold FinP; exact ⟨X, L, fun g w v hg _ hv => ⟨g, hg, hv, Prog.refl _ _ _ _⟩, h⟩
theorem FinP.drop {k0 n : Nat} {X : V} {L' : List Blk} {k : V → List Blk → Prop} (hL : L.take n = L') (hk : k0 ≤ n) (hX : X.bel n = true) (hB : belB n L' = true) (h : k X L') : FinP k0 X L k := by
  unfold FinP
  subst hL
  refine ⟨X, L.take n, fun g w v hg hk0 hv => ?_, h⟩
  rcases Nat.lt_or_ge L.length n with hlt | hn
  · rw [List.take_of_length_le (by omega)]
    exact ⟨g, hg, hv, Prog.refl _ _ _ _⟩
  · obtain ⟨hmono, hgood⟩ := drop_good hg hB g.I (fun _ h => h) (fun _ h => .inl h)
    exact ⟨_, hgood, hmono _ _ hX hv, drop_prog hg hk hB hn g.I (fun _ h => h) (fun _ h => .inl h)⟩
/-- The result is made data; all blocks of the activation's own are dropped. -/
theorem FinP.data {k0 : Nat} {X Y : V} {L' : List Blk} {k : V → List Blk → Prop} (hc : Cw (k0 ≤ ·) L X Y) (hL : L.take k0 = L') (hB : belB k0 L' = true) (h : k Y L') : FinP k0 X L k := by
  unfold FinP
  subst hL
  refine ⟨Y, L.take k0, fun g w v hg hk0 hv => ?_, h⟩
  have hI : ∀ q, g.I q → (g.I q ∨ ∃ b, k0 ≤ b ∧ live L b ∧ g.m b = some q) := fun q h => .inl h
  obtain ⟨hmono, hgood⟩ := drop_good hg hB (fun q => g.I q ∨ ∃ b, k0 ≤ b ∧ live L b ∧ g.m b = some q) hI (fun _ h => h)
  exact ⟨_, hgood, hc.rv hg (g' := { g with I := fun q => g.I q ∨ ∃ b, k0 ≤ b ∧ live L b ∧ g.m b = some q }) hI (fun b q h1 h2 h3 => .inr ⟨b, h1, h2, h3⟩) hv,
    drop_prog hg (Nat.le_refl _) hB hk0 _ hI (fun _ h => h)⟩

end
end Go.Tidy
