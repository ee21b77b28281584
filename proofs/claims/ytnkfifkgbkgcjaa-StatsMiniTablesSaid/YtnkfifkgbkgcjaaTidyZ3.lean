/-
  The base layer: blocks dropped and numbered anew.
-/
import Derived.Test.YtnkfifkgbkgcjaaTidyZ2
namespace Go.Tidy

mutual
theorem V.rn_id {ρ : Nat → Nat} {k : Nat} (hρ : ∀ b, b < k → ρ b = b) : ∀ x : V, x.bel k = true → x.rn ρ = x
  | .own b _ _ _, h | .ptr b _, h | .eptr b _ _ _, h | .map b, h | .yld b, h => by
    simp only [V.bel, decide_eq_true_eq] at h
    simp only [V.rn, hρ b h]
  | .fn _ caps, h => by simp only [V.bel] at h; simp only [V.rn, V.rnL_id hρ caps h]
  | .iface _ x, h => by simp only [V.bel] at h; simp only [V.rn, V.rn_id hρ x h]
  | .agg cs, h => by simp only [V.bel] at h; simp only [V.rn, V.rnL_id hρ cs h]
  | .tup cs, h => by simp only [V.bel] at h; simp only [V.rn, V.rnL_id hρ cs h]
  | .poison, _ | .tt, _ | .ff, _ | .d _, _ | .nil, _ | .glob _, _ => rfl
theorem V.rnL_id {ρ : Nat → Nat} {k : Nat} (hρ : ∀ b, b < k → ρ b = b) : ∀ cs : List V, V.belL k cs = true → V.rnL ρ cs = cs
  | [], _ => rfl
  | x :: r, h => by
    simp only [V.belL, Bool.and_eq_true] at h
    simp only [V.rnL, V.rn_id hρ x h.1, V.rnL_id hρ r h.2]
end

section
variable {g : Gh} {w : World} {L L' : List Blk} {bs : List Nat} {k : Nat}

theorem Part.below (h : Part bs L' L) (hk : ∀ b, b < k → bs[b]? = some b) : (∀ b, b < k → rnI bs L.length b = b) ∧ k ≤ L'.length := by
  refine ⟨fun b hb => by unfold rnI; rw [hk b hb], ?_⟩
  rw [← h.len]
  rcases Nat.lt_or_ge bs.length k with hlt | hge
  · have := hk bs.length hlt
    simp at this
  · exact hge

theorem Part.prog (h : Part bs L' L) (hk : ∀ b, b < k → bs[b]? = some b) : Prog k g w L (g.small (rnI bs L.length)) w L' := by
  obtain ⟨hρ, hlen⟩ := h.below hk
  refine ⟨⟨rfl, rfl, rfl⟩, Nat.le_refl _, fun _ _ ho _ => ho, fun r ho _ => h.owns ho, fun r hr => .inl hr, fun r hr => hr, fun x v hx hv => ?_, fun b r hb hL hm => ?_, fun _ => hlen⟩
  · exact hv.dn h.emb x (V.rn_id hρ x hx).symm (V.bel_le hlen x hx)
  · have := h.get b b (hk b hb)
    rw [hL] at this
    obtain ⟨k0, e1, e2⟩ := map_some this.symm
    refine ⟨?_, by show g.m (rnI bs L.length b) = _; rw [hρ b hb]; exact hm⟩
    cases k0 <;> simp only [Blk.rn, reduceCtorEq] at e2
    exact e1

/-- At the end of a function: some blocks are kept, under new numbers. -/
theorem FinP.part {X X' : V} {q : V → List Blk → Prop} (bs : List Nat) (L' : List Blk) (h : Part bs L' L) (hk : ∀ b, b < k → bs[b]? = some b) (hX : X'.rn (rnI bs L.length) = X) (hb : X'.bel L'.length = true) (hq : q X' L') : FinP k X L q := by
  unfold FinP
  refine ⟨X', L', fun g w v hg _ hv => ⟨_, h.good hg, hv.dn h.emb X' hX.symm hb, h.prog hk⟩, hq⟩

theorem Weak.part {σ σ' : TS} (bs : List Nat) (h : Part bs σ'.L σ.L) (hk : ∀ b, b < k → bs[b]? = some b) (hfr : SubF σ.fr (rnF (rnI bs σ.L.length) σ'.fr)) (hn : σ'.n = σ.n) (hf : belF σ'.L.length σ'.fr = true)
    (hdf : σ.df = σ'.df.map (rnI bs σ.L.length)) (hdb : ∀ b ∈ σ'.df, b < σ'.L.length) (hro : σ.ro = σ'.ro.map (rnI bs σ.L.length)) (hrb : ∀ b, σ'.ro = some b → b < σ'.L.length) : Weak k σ σ' := by
  intro r g a w hs
  have e := h.emb (g := g)
  have dn : ∀ (x : V) (v : Value), x.bel σ'.L.length = true → RV g w σ.L (x.rn (rnI bs σ.L.length)) v → RV (g.small (rnI bs σ.L.length)) w σ'.L x v := fun x v hx hv => hv.dn e x rfl hx
  refine ⟨g.small (rnI bs σ.L.length), ⟨hs.n.trans hn.symm, fun i => ?_, h.good hs.good, (h.below hk).2, ?_, fun i b d hb hd => ?_, fun lb hlb => ?_, fun hn => hs.ro' (by rw [hro, hn]; rfl)⟩, h.prog hk⟩
  · refine dn _ _ (belF_look hf i) ?_
    rw [← rnF_look]
    rcases hfr.look i with h0 | h0
    · rw [h0]; exact .poison _
    · exact norm_eq h0 (hs.fr i)
  · rw [hs.df, hdf]; simp
  · have hbl := hdb b (List.mem_of_getElem? hb)
    obtain ⟨q, h1, h2, h3⟩ := hs.dfs i (rnI bs σ.L.length b) d (by rw [hdf, List.getElem?_map, hb]; rfl) hd
    refine ⟨q, h1, h2, ?_⟩
    obtain ⟨c, c1, c2, _⟩ := h.rn hbl
    rw [c2, h.get b c c1] at h3
    obtain ⟨k0, e1, e2⟩ := map_some h3
    cases k0 <;> simp only [Blk.rn, reduceCtorEq] at e2
    exact e1
  · obtain ⟨l, h1, h2⟩ := hs.ro (rnI bs σ.L.length lb) (by rw [hro, hlb]; rfl)
    exact ⟨l, h1, dn (.yld lb) _ (by simp [V.bel, hrb lb hlb]) h2⟩
end
end Go.Tidy
namespace Go.Tidy
/-! ### Maps whose keys are numbers -/
theorem MapF.ints {kk : IntKind} {es : List (V × V)} {n : Int} {k : Option (Nat × V) → Prop} (ks : List Int) (hks : es.map (·.1) = ks.map fun m => .d (.int kk m))
    (h : (∃ i v, ks[i]? = some n ∧ (∀ j, j < i → ks[j]? ≠ some n) ∧ es[i]? = some (.d (.int kk n), v) ∧ k (some (i, v))) ∨ (n ∉ ks ∧ k none)) : MapF (.int kk) es (.d (.int kk n)) k := by
  have hkey : ∀ j : Nat, (es[j]?).map (·.1) = (ks[j]?).map fun m => V.d (.int kk m) := fun j => by
    rw [← List.getElem?_map, ← List.getElem?_map, hks]
  have hok : ∀ kv ∈ es, keyV (.int kk) kv.1 = true := by
    intro kv hkv
    have : kv.1 ∈ es.map (·.1) := List.mem_map_of_mem hkv
    rw [hks] at this
    obtain ⟨m, _, hm⟩ := List.mem_map.1 this
    rw [← hm]
    cases kk <;> rfl
  rcases h with ⟨i, v, h1, h2, h3, h4⟩ | ⟨h1, h2⟩
  · refine MapF.hit i v hok h3 (fun j kv hj hkv he => ?_) h4
    have := hkey j
    rw [hkv] at this
    obtain ⟨m, e1, e2⟩ := map_some this.symm
    simp only [he] at e2
    cases e2
    exact h2 j hj e1
  · refine MapF.miss hok (fun kv hkv he => ?_) h2
    obtain ⟨j, hj⟩ := List.mem_iff_getElem?.1 hkv
    have := hkey j
    rw [hj] at this
    obtain ⟨m, e1, e2⟩ := map_some this.symm
    simp only [he] at e2
    cases e2
    exact h1 (List.mem_of_getElem? e1)
def firstAt (n : Int) : List Int → Nat → Bool
  | [], _ => false
  | m :: _, 0 => m == n
  | m :: r, i + 1 => m != n && firstAt n r i
theorem firstAt_ok {n : Int} : ∀ {ks : List Int} {i : Nat}, firstAt n ks i = true → ks[i]? = some n ∧ ∀ j, j < i → ks[j]? ≠ some n
  | [], _, h => by simp [firstAt] at h
  | m :: r, 0, h => by simp [firstAt] at h; subst h; exact ⟨rfl, fun j hj => by omega⟩
  | m :: r, i + 1, h => by
    simp [firstAt] at h
    obtain ⟨h1, h2⟩ := firstAt_ok h.2
    refine ⟨by simpa using h1, fun j hj => ?_⟩
    cases j with
    | zero => simpa using h.1
    | succ j => simpa using h2 j (by omega)
theorem MapF.at {kk : IntKind} {es : List (V × V)} {n : Int} {k : Option (Nat × V) → Prop} (ks : List Int) (i : Nat) (v : V) (hks : es.map (·.1) = ks.map fun m => .d (.int kk m)) (hi : firstAt n ks i = true) (hv : es[i]? = some (.d (.int kk n), v)) (h : k (some (i, v))) :
    MapF (.int kk) es (.d (.int kk n)) k :=
  MapF.ints ks hks (.inl ⟨i, v, (firstAt_ok hi).1, (firstAt_ok hi).2, hv, h⟩)
theorem MapF.no {kk : IntKind} {es : List (V × V)} {n : Int} {k : Option (Nat × V) → Prop} (ks : List Int) (hks : es.map (·.1) = ks.map fun m => .d (.int kk m)) (hn : n ∉ ks) (h : k none) : MapF (.int kk) es (.d (.int kk n)) k :=
  MapF.ints ks hks (.inr ⟨hn, h⟩)
end Go.Tidy
namespace Go.Tidy
theorem DrawP.go {C : Ctx} {n : Nat} {ops : Array Oper} {fr : List (Nat × V)} {L : List Blk} {K : List (Nat × V) → List Blk → Prop} (hm : C.P.follows .mixedOrders = true) (hst : stableB ops.toList (tblGo ops.toList []) = true)
    (h : qOps C n ops.toList ops.toList fr L K) : DrawP C n ops fr L K := DrawP.quiet hm _ hst h
end Go.Tidy
namespace Go.Tidy
/-- A nil slice in a cell as an empty row of the activation's own. -/
theorem Weak.nilCell {k : Nat} {σ : TS} (b j sz : Nat) (cs : List V) (hb : σ.L[b]? = some (.cells cs)) (hj : cs[j]? = some .nil) (hsz : 0 < sz) :
    Weak k σ { σ with L := (σ.L ++ [Blk.row 0 sz []]).set b (.cells (cs.set j (.own σ.L.length 0 0 0))) } := by
  intro r g a w hs
  have hp := add_prog hs.good (Ext.refl w) (.row 0 sz []) none (fun q h => by cases h) 0
  have hg := add_good (k' := .row 0 sz []) hs.good (Ext.refl w) none (fun q h => by cases h) 0 ⟨hsz, by simp, .inl ⟨by simp [Gh.add], rfl⟩⟩
  have hbl := lt_of_get hb
  have hb1 : (σ.L ++ [Blk.row 0 sz []])[b]? = some (.cells cs) := by rw [List.getElem?_append_left hbl]; exact hb
  have S : Step (g.add σ.L.length none 0) w (σ.L ++ [Blk.row 0 sz []]) b (.cells (cs.set j (.own σ.L.length 0 0 0))) (g.add σ.L.length none 0) w := by
    refine ⟨hg, ⟨_, hb1, by simp⟩, by rw [hb1]; simp, ⟨rfl, rfl, rfl⟩, Nat.le_refl _, rfl, fun _ _ => rfl, fun _ _ => rfl, fun p o' hp hne => hp, fun r hr => .inl hr, ?_⟩
    exact ⟨fun cs0 e => .inr ⟨_, List.getElem?_set_self (by simp; omega), rfl⟩, fun gen sz els e => (by rw [hb1] at e; cases e), fun es e => (by rw [hb1] at e; cases e), fun l0 e => (by rw [hb1] at e; cases e), fun e => (by rw [hb1] at e; cases e)⟩
  have hrow : ((σ.L ++ [Blk.row 0 sz []]).set b (.cells (cs.set j (.own σ.L.length 0 0 0))))[σ.L.length]? = some (.row 0 sz []) := by
    rw [List.getElem?_set_ne (by omega), List.getElem?_append_right (Nat.le_refl _), Nat.sub_self]; rfl
  obtain ⟨q, cur, T, h1, h2, h3, h4, h5⟩ := hg.blk b _ hb1
  have hg2 := S.good' ⟨q, cur, T, h1, h2, by simpa using h3, h4, fun i x v hx hv => by
    rw [List.getElem?_set] at hx
    by_cases e : j = i
    · subst e
      rw [if_pos rfl] at hx
      split at hx
      · cases hx
        have hv' := h5 j .nil v hj hv
        cases hv' with
        | nil => exact .ownN _ _ sz [] hrow (by simp [Gh.add])
      · cases hx
    · rw [if_neg e] at hx
      exact S.mono (h5 i x v hx hv)⟩
  have hs' := (hs.prog hp hg).prog (L' := (σ.L ++ [Blk.row 0 sz []]).set b (.cells (cs.set j (.own σ.L.length 0 0 0)))) S.prog hg2
  exact ⟨_, hs', (hp.le hs.k (Nat.le_refl _)).trans (S.prog.le (by simp; exact Nat.le_succ_of_le hs.k) (Nat.le_refl _))⟩
end Go.Tidy
namespace Go.Tidy
theorem Weak.nilCellTo {k : Nat} {σ σ' : TS} (b j sz : Nat) (cs : List V) (hb : σ.L[b]? = some (.cells cs)) (hj : cs[j]? = some .nil) (hsz : 0 < sz) (hL : (σ.L ++ [Blk.row 0 sz []]).set b (.cells (cs.set j (.own σ.L.length 0 0 0))) = σ'.L)
    (hfr : SubF σ.fr σ'.fr) (h1 : σ'.n = σ.n := by rfl) (h2 : σ'.df = σ.df := by rfl) (h3 : σ'.ro = σ.ro := by rfl) : Weak k σ σ' := by
  have h := Weak.nilCell (k := k) (σ := σ) b j sz cs hb hj hsz
  rw [hL] at h
  refine h.trans (Weak.by hfr rfl h1 h2 h3)
theorem Cw.pair {S : Nat → Prop} {L : List Blk} {x x' y y' : V} (hx : Cw S L x x') (hy : Cw S L y y') : Cw S L (.tup [x, y]) (.tup [x', y']) := by
  refine .tup [x, y] [x', y'] rfl fun j a b ha hb => ?_
  match j with
  | 0 => simp at ha hb; subst ha hb; exact hx
  | 1 => simp at ha hb; subst ha hb; exact hy
  | j + 2 => simp at ha
theorem Cw.triple {S : Nat → Prop} {L : List Blk} {x x' y y' z z' : V} (hx : Cw S L x x') (hy : Cw S L y y') (hz : Cw S L z z') : Cw S L (.tup [x, y, z]) (.tup [x', y', z']) := by
  refine .tup [x, y, z] [x', y', z'] rfl fun j a b ha hb => ?_
  match j with
  | 0 => simp at ha hb; subst ha hb; exact hx
  | 1 => simp at ha hb; subst ha hb; exact hy
  | 2 => simp at ha hb; subst ha hb; exact hz
  | j + 3 => simp at ha
end Go.Tidy
