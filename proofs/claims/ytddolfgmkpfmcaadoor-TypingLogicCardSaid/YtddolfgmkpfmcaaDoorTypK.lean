/-
  typing: rows of numbers; a call under a small memory, under a greater one; what Direct applies.
-/
import Derived.Test.YtddolfgmkpfmcaaDoorTypJ
namespace Go.Tidy
section
variable {C : Ctx} {L : List Blk}
theorem CallP.pre {f : FuncId} {args : List V} {S E : List Blk} {q k : V → List Blk → Prop} (h : CallP C f args S q) (hS : belB S.length S = true) (hd : dfB S = true) (ha : V.belL S.length args = true)
    (hk : ∀ X L1, q X L1 → L1.length = S.length ∧ belB S.length L1 = true ∧ X.bel S.length = true ∧ k X (L1 ++ E)) : CallP C f args (S ++ E) k := by
  have hρ : ∀ c, c < S.length → rnI (List.range S.length) (S ++ E).length c = c := fun c hc => rnI_range hc
  have := CallP.embed (k := k) (List.range S.length) h (Part.pre (E := E) hS hd) ha fun X L1 hX => by
    obtain ⟨h1, h2, h3, h4⟩ := hk X L1 hX
    rw [V.rn_id hρ _ h3, rnB_id hρ _ h2, putB_range h1]
    exact h4
  rw [V.rnL_id hρ _ ha] at this
  exact this
theorem CallP.nilCell {f : FuncId} {args : List V} {k : V → List Blk → Prop} (b j sz : Nat) (cs : List V) (hb : L[b]? = some (.cells cs)) (hj : cs[j]? = some .nil) (hsz : 0 < sz)
    (h : CallP C f args ((L ++ [Blk.row 0 sz []]).set b (.cells (cs.set j (.own L.length 0 0 0)))) k) : CallP C f args L k := by
  unfold CallP at h ⊢
  refine ⟨h.1, fun g w vs hg hv => ?_⟩
  have hp := add_prog hg (Ext.refl w) (.row 0 sz []) none (fun q h => by cases h) 0
  have hg1 := add_good (k' := .row 0 sz []) hg (Ext.refl w) none (fun q h => by cases h) 0 ⟨hsz, by simp, .inl ⟨by simp [Gh.add], rfl⟩⟩
  have hbl := lt_of_get hb
  have hb1 : (L ++ [Blk.row 0 sz []])[b]? = some (.cells cs) := by rw [List.getElem?_append_left hbl]; exact hb
  have S : Step (g.add L.length none 0) w (L ++ [Blk.row 0 sz []]) b (.cells (cs.set j (.own L.length 0 0 0))) (g.add L.length none 0) w := by
    refine ⟨hg1, ⟨_, hb1, by simp⟩, by rw [hb1]; simp, ⟨rfl, rfl, rfl⟩, Nat.le_refl _, rfl, fun _ _ => rfl, fun _ _ => rfl, fun p o' hp hne => hp, fun r hr => .inl hr, ?_⟩
    exact ⟨fun cs0 e => .inr ⟨_, List.getElem?_set_self (by simp; omega), rfl⟩, fun gen sz els e => (by rw [hb1] at e; cases e), fun es e => (by rw [hb1] at e; cases e), fun l0 e => (by rw [hb1] at e; cases e), fun e => (by rw [hb1] at e; cases e)⟩
  have hrow : ((L ++ [Blk.row 0 sz []]).set b (.cells (cs.set j (.own L.length 0 0 0))))[L.length]? = some (.row 0 sz []) := by
    rw [List.getElem?_set_ne (by omega), List.getElem?_append_right (Nat.le_refl _), Nat.sub_self]; rfl
  obtain ⟨q, cur, T, h1, h2, h3, h4, h5⟩ := hg1.blk b _ hb1
  have hg2 := S.good' ⟨q, cur, T, h1, h2, by simpa using h3, h4, fun i x v hx hv => by
    rw [List.getElem?_set] at hx
    by_cases e : j = i
    · subst e
      rw [if_pos rfl] at hx
      split at hx
      · cases hx
        have hv' := h5 j .nil v hj hv
        cases hv' with
        | nil => exact .ownN _ _ sz [] hrow (by simp [Gh.add])
      · cases hx
    · rw [if_neg e] at hx
      exact S.mono (h5 i x v hx hv)⟩
  have hlen : L.length ≤ (L ++ [Blk.row 0 sz []]).length := by simp
  have hlen2 : (L ++ [Blk.row 0 sz []]).length ≤ ((L ++ [Blk.row 0 sz []]).set b (.cells (cs.set j (.own L.length 0 0 0)))).length := by simp
  refine (h.2 _ w vs hg2 ⟨hv.1, fun i x v hx hvi => S.mono (add_mono hg (Ext.refl w) _ none 0 (hv.2 i x v hx hvi))⟩).mono ?_
  rintro e w' ⟨v, X, L', g', he, hX, hr, hgood, hpr⟩
  exact ⟨v, X, L', g', he, hX, hr, hgood, hp.trans ((S.prog.le hlen (Nat.le_refl _)).trans (hpr.le (Nat.le_trans hlen hlen2) (Nat.le_refl _)))⟩
end
end Go.Tidy
namespace Go.Proofs.YtddolfgmkpfmcaaDoor
open Go.Tidy
set_option maxRecDepth 100000
set_option maxHeartbeats 0
set_option linter.unusedSimpArgs false
set_option linter.unusedVariables false
variable {L : List Blk} {k : V → List Blk → Prop}
def rdI (l : List Int) : List (List V) := l.map fun n => [I n]
def ins (l : List Int) : D := .sl (l.map fun n => [DI n])
theorem rdI_bel (n : Nat) : ∀ x : List Int, belR n (rdI x) = true
  | [] => rfl
  | _ :: x => by simp only [rdI, List.map_cons, belR, V.belL, V.bel, Bool.true_and]; exact rdI_bel n x
theorem rdI_rn (ρ : Nat → Nat) : ∀ x : List Int, rnR ρ (rdI x) = rdI x
  | [] => rfl
  | v :: x => by
    have := rdI_rn ρ x
    unfold rdI at this ⊢
    rw [List.map_cons, rnR, this]; rfl
theorem rdI_rnB (ρ : Nat → Nat) (n : Nat) (x : List Int) : (Blk.row n 1 (rdI x)).rn ρ = .row n 1 (rdI x) := by rw [Blk.rn, rdI_rn]
theorem rdI_sh (m : Nat) : ∀ x : List Int, shR m (rdI x) = rdI x
  | [] => rfl
  | v :: x => by
    have := rdI_sh m x
    unfold rdI at this ⊢
    rw [List.map_cons, shR, this]; rfl
theorem rdI_shB (m n : Nat) (x : List Int) : (Blk.row n 1 (rdI x)).sh m = .row n 1 (rdI x) := by rw [Blk.sh, rdI_sh]
theorem rdI_rows {S : Nat → Prop} {L : List Blk} : ∀ x : List Int, CvLL S L (rdI x) (x.map fun v => [DI v])
  | [] => .nil
  | _ :: x => .cons (.cons (.d _) .nil) (rdI_rows x)
theorem rdI_rows' {S : Nat → Prop} {L : List Blk} (x : List Int) : CvLL S L (((rdI x).drop 0).take x.length) (x.map fun v => [DI v]) := by
  rw [List.drop_zero, List.take_of_length_le (by simp [rdI])]; exact rdI_rows x
theorem rdI_e (x : List Int) : ∀ e ∈ x.map (fun v => [DI v]), e.length = 1 := by
  intro e he; obtain ⟨v, _, rfl⟩ := List.mem_map.1 he; rfl
theorem iidx_c (l : List Int) (hl : l.length ≤ 4611686018427387904) (m : Int) (h : k (I (findI (fun v => decide (m = v)) l)) L) :
    CallP C 60 [.d (ins l), I m] L k := by
  refine CallP.pure ?_ rfl (fun _ => rfl) h
  clear h
  refine callP_of C_ok Tryd.func60 rfl rfl (n := _) rfl (Nat.le_of_ble_eq_true rfl) (rs := _) rfl ?_
  conv => whnf
  refine LoopP.inv (fun i => i ≤ l.length ∧ ∀ (j : Nat) (hj : j < l.length), j < i → decide (m = l[j]) = false) (fun i => ⟨[(0, .d (ins l)), (1, I m), (7, I l.length), (8, I i)], Tryd.f60.ntmps, [], [], none⟩) (fun i => l.length - i) 0 ⟨Nat.zero_le _, fun j _ h => absurd h (Nat.not_lt_zero j)⟩ ?_ ?_
  · exact Weak.by ⟨rfl, rfl, congrArg I (by simp), rfl, trivial⟩
  rintro i ⟨hi, hno⟩
  by_cases hi' : i < l.length
  · have hlt : (i : Int) < (l.length : Int) := by omega
    have hw : IntKind.i64.wrap ((i : Int) + 1) = ((i + 1 : Nat) : Int) := by rw [wrap_in (by omega)]; omega
    have r1 : (l.map fun n => [DI n])[i]? = some [DI l[i]] := by rw [List.getElem?_map, List.getElem?_eq_getElem hi']; rfl
    by_cases hq : decide (m = l[i]) = true
    · repeat' (conv => whnf
               first | refine Br.yes (decide_eq_true hlt) ?_ | refine Br.yes hq ?_ | refine Br.tt ?_ | refine Br.ff ?_ | refine Br.dec (fun h => ?_) (fun h => ?_) | refine Br.not ?_ | refine Br.intro (fun h => ?_) (fun h => ?_) | refine GetE.intro _ rfl ?_ | refine Need.intro rfl ?_ | refine DrawP.go mixed rfl ?_ | refine Idx.intro i _ rfl r1 ?_)
      conv => whnf
      exact FinP.drop (n := 0) rfl (Nat.le_refl 0) rfl rfl ⟨rfl, congrArg I (findI_hit (p := fun v => decide (m = v)) hi' hq hno).symm⟩
    · have hq' : decide (m = l[i]) = false := by simpa using hq
      repeat' (conv => whnf
               first | refine Br.yes (decide_eq_true hlt) ?_ | refine Br.no hq' ?_ | refine Br.tt ?_ | refine Br.ff ?_ | refine Br.dec (fun h => ?_) (fun h => ?_) | refine Br.not ?_ | refine Br.intro (fun h => ?_) (fun h => ?_) | refine GetE.intro _ rfl ?_ | refine Need.intro rfl ?_ | refine DrawP.go mixed rfl ?_ | refine Idx.intro i _ rfl r1 ?_)
      conv => whnf
      exact ⟨i + 1, ⟨hi', fun j hj hji => by
        by_cases e : j = i
        · subst e; exact hq'
        · exact hno j hj (by omega)⟩, by omega, Weak.by ⟨rfl, rfl, rfl, congrArg I hw, trivial⟩⟩
  · have hlt : ¬ (i : Int) < (l.length : Int) := by omega
    repeat' (conv => whnf
             first | refine Br.no (decide_eq_false hlt) ?_ | refine Br.tt ?_ | refine Br.ff ?_ | refine Br.dec (fun h => ?_) (fun h => ?_) | refine Br.not ?_ | refine Br.intro (fun h => ?_) (fun h => ?_) | refine GetE.intro _ rfl ?_ | refine Need.intro rfl ?_ | refine DrawP.go mixed rfl ?_)
    conv => whnf
    exact FinP.drop (n := 0) rfl (Nat.le_refl 0) rfl rfl ⟨rfl, congrArg I (findI_miss (p := fun v => decide (m = v)) fun j hj => hno j hj (by omega)).symm⟩
theorem icontains_c (l : List Int) (hl : l.length ≤ 4611686018427387904) (m : Int) (h : k (B (l.any fun v => decide (m = v))) L) :
    CallP C 50 [.d (ins l), I m] L k := by
  refine CallP.pure ?_ rfl (fun _ => rfl) h
  clear h
  refine callP_of C_ok Tryd.func50 rfl rfl (n := _) rfl (Nat.le_of_ble_eq_true rfl) (rs := _) rfl ?_
  repeat' (conv => whnf
           first | refine Br.tt ?_ | refine Br.ff ?_ | refine Br.dec (fun h => ?_) (fun h => ?_) | refine Br.not ?_ | refine Br.intro (fun h => ?_) (fun h => ?_) | refine GetE.intro _ rfl ?_ | refine Need.intro rfl ?_ | refine DrawP.go mixed rfl ?_ | refine iidx_c l hl m ?_)
  conv => whnf
  exact FinP.drop (n := 0) rfl (Nat.le_refl 0) rfl rfl ⟨rfl, congrArg B (findI_any _ l)⟩
/-! ### What an order applies -/
mutual
def dS (x : En) (by_ : List Int) : Sp → List Int
  | .mk k b c t e => if k = 2 then (if hoF x c = true then dSs x by_ t else dSs x by_ e) else if (by_.any fun v => decide (b = v)) = true then by_ else by_ ++ [b]
def dSs (x : En) (by_ : List Int) : List Sp → List Int
  | [] => by_
  | s :: ss => dSs x (dS x by_ s) ss
end
theorem dSs_foldl (x : En) : ∀ (l : List Sp) (b : List Int), dSs x b l = l.foldl (dS x) b
  | [], b => by rw [dSs]; rfl
  | s :: ss, b => by rw [dSs, dSs_foldl x ss]; rfl
theorem dSs_take (x : En) (b : List Int) (l : List Sp) {i : Nat} (h : i < l.length) : dSs x b (l.take (i + 1)) = dS x (dSs x b (l.take i)) l[i] := by
  rw [dSs_foldl, dSs_foldl, take_next h, List.foldl_append]; rfl
/-- A step of a valid order. -/
inductive DSp : Sp → Prop
  | mk {s : Sp} (hc : s.kind = 2 → HCo s.cond) (hb : s.kind ≠ 2 → 1 ≤ s.by_ ∧ s.by_ ≤ 12) (l1 : s.thn.length ≤ 4398046511104) (l2 : s.els.length ≤ 4398046511104) (ht : ∀ p ∈ s.thn, DSp p) (he : ∀ p ∈ s.els, DSp p) : DSp s
/-- The criteria so far. -/
structure ByOk (l : List Int) : Prop where
  nd : l.Nodup
  rg : ∀ b ∈ l, 1 ≤ b ∧ b ≤ 12
theorem ByOk.len {l : List Int} (h : ByOk l) : l.length ≤ 12 := by
  have := List.Nodup.length_le_of_subset (l₂ := [1, 2, 3, 4, 5, 6, 7, 8, 9, 10, 11, 12]) h.nd (fun b hb => by
    have := h.rg b hb
    simp only [List.mem_cons, List.not_mem_nil, or_false]; omega)
  simpa using this
theorem ByOk.snoc {l : List Int} (h : ByOk l) {b : Int} (hb : 1 ≤ b ∧ b ≤ 12) (hn : ¬ (l.any fun v => decide (b = v)) = true) : ByOk (l ++ [b]) := by
  have hm : b ∉ l := fun hm => hn (List.any_eq_true.2 ⟨b, hm, decide_eq_true rfl⟩)
  refine ⟨List.nodup_append.2 ⟨h.nd, by simp, fun a ha c hc => ?_⟩, fun c hc => ?_⟩
  · rw [List.mem_singleton] at hc; subst hc; exact fun e => hm (e ▸ ha)
  · rcases List.mem_append.1 hc with hc | hc
    · exact h.rg c hc
    · rw [List.mem_singleton] at hc; subst hc; exact hb
end Go.Proofs.YtddolfgmkpfmcaaDoor
