/-
  typing: a call that is lent its caller's memory and gives back a row of its own; Direct so.
-/
import Derived.Test.YtddolfgmkpfmcaaDoorTypM
namespace Go.Tidy
section
variable {C : Ctx} {L : List Blk}
theorem CallP.borrowR {f : FuncId} {args dargs : List V} {q k : V → List Blk → Prop} (h : CallP C f dargs [] q) (hc : CwL (fun _ => True) L args dargs) (ha : V.belL 0 dargs = true)
    (hk : ∀ X L', q X L' → ∃ (gen sz len : Nat) (els : List (List V)) (x : V), L' = [.row gen sz els] ∧ X = .tup [.own 0 gen 0 len, x] ∧ x.scalar = true ∧ (∀ e ∈ els, V.scalarL e = true) ∧ k (X.sh L.length) (L ++ shB L.length L')) : CallP C f args L k := by
  unfold CallP at h ⊢
  have hbel : ∀ x ∈ dargs, x.bel 0 = true := fun x hx => by
    obtain ⟨j, hj⟩ := List.mem_iff_getElem?.1 hx
    exact V.belL_get ha hj
  refine ⟨h.1, fun g w vs hg hv => (h.2 { I := fun r => r < w.heap.size, m := fun _ => none, cap := fun _ => 0 } w vs ⟨?_, ?_, ?_, ?_, hg.gl.mono (fun r h => hg.lt r h) (fun a v _ h => h)⟩ ?_).mono ?_⟩
  · rintro b b' r ⟨k, hk, _⟩; simp at hk
  · rintro r ⟨b, ⟨k, hk, _⟩, _⟩; simp at hk
  · exact fun r h => h
  · intro b k hk; simp at hk
  · refine ⟨hc.len ▸ hv.1, fun j y v hy hvj => ?_⟩
    refine hc.rvs hg (g' := { I := fun r => r < w.heap.size, m := fun _ => none, cap := fun _ => 0 }) (L' := []) (fun r hr => hg.lt r hr) (fun b r _ hl hm => hg.owned_lt ⟨b, hl, hm⟩) (fun x u hx hu => ?_) vs.toList
      (fun j x v hx hv' => hv.2 j x v hx (by simpa using hv')) j y v hy (by simpa using hvj)
    exact RV.mono (g := g) (g' := { I := fun r => r < w.heap.size, m := fun _ => none, cap := fun _ => 0 }) (L := L) (k := 0) (fun r h => hg.lt r h) (fun a v _ h => h) (fun b hb => absurd hb (Nat.not_lt_zero _)) (hbel x hx) hu
  · rintro e w' ⟨v, X, L1, g1, he, hX, hr, hg1, hp⟩
    obtain ⟨gen, sz, len, els, x, rfl, rfl, hsc, hels, hkX⟩ := hk X L1 hX
    have no : ∀ (g' : Gh) q, ¬ owned g' ([] : List Blk) q := fun g' q ⟨b, ⟨k, hk, _⟩, _⟩ => by simp at hk
    have heap : ∀ (q : Nat) (o : Obj), w.heap[q]? = some o → w'.heap[q]? = some o := fun q o h => hp.kept q o h (no _ q)
    have cells : ∀ (a : Addr) (v : Value), g.I a.block → w.cell? a = some v → w'.cell? a = some v := by
      intro a v hI hc
      have hlt := hg.lt _ hI
      have hh := heap a.block (w.heap[a.block]) (Array.getElem?_eq_getElem hlt)
      rw [World.cell?_of_block (w := w) (w' := w') (by rw [hh, Array.getElem?_eq_getElem hlt])]
      exact hc
    let g2 : Gh := { I := g.I, m := g1.m, cap := g1.cap }
    have hr2 : RV g2 w' [Blk.row gen sz els] (.tup [.own 0 gen 0 len, x]) v := by
      cases hr with
      | tup cs vs hlen hrec =>
        refine .tup _ _ hlen fun j y u hy hu => ?_
        have hh := hrec j y u hy hu
        match j, hy with
        | 0, hy =>
          cases hy
          cases hh with
          | own b gen lo len sz r o c els hL hm ho hc hlc hle => exact .own _ _ _ _ _ _ _ _ _ hL hm ho hc hlc hle
          | ownN b gen sz els hL hm => exact .ownN _ _ _ _ hL hm
          | ownO b gen gen' sz lo len els a n c hL hg => exact .ownO _ _ _ _ _ _ _ _ _ _ hL hg
          | ownX b gen lo len a n c hL => exact .ownX _ _ _ _ _ _ _ hL
        | 1, hy => cases hy; exact hh.scalar hsc
        | j + 2, hy => simp at hy
    have new : ∀ r, owned g1 [Blk.row gen sz els] r → w.heap.size ≤ r := fun r ho => Nat.le_of_not_lt fun hl => no _ r (hp.own r ho hl)
    have hG2 : Good g2 w' [Blk.row gen sz els] := by
      refine ⟨hg1.inj, fun r ho hI => ?_, fun r hI => Nat.lt_of_lt_of_le (hg.lt r hI) hp.size, fun b kk hkb => ?_, hg.gl.mono (fun q hq => hq) cells⟩
      · have := new r ho; have := hg.lt r hI; omega
      · have hb := hg1.blk b kk hkb
        cases b with
        | succ b => simp at hkb
        | zero =>
          cases hkb
          obtain ⟨h0, h1, ⟨h2, h3⟩ | ⟨r, cur, T, h2, h3, h4, h5, h6, h7⟩⟩ := hb
          · exact ⟨h0, h1, .inl ⟨h2, h3⟩⟩
          · refine ⟨h0, h1, .inr ⟨r, cur, T, h2, h3, h4, h5, h6, fun i j y v hy hv => (h7 i j y v hy hv).scalar ?_⟩⟩
            cases e : els[i]? with
            | none => rw [e] at hy; cases hy
            | some l => rw [e] at hy; exact V.scalarL_get (hels l (List.mem_of_getElem? e)) hy
    have hp2 : Prog 0 { I := g.I, m := fun _ => none, cap := fun _ => 0 } w [] g2 w' [Blk.row gen sz els] :=
      ⟨hp.env, hp.size, fun r o h _ => heap r o h, fun r ho hl => absurd (hp.own r ho hl) (no _ r), fun r h => .inl h, fun r h => h,
        fun x v hx h => RV.mono (g := { I := g.I, m := fun _ => none, cap := fun _ => 0 }) (g' := g2) (L := []) (k := 0) (fun r h => h) cells (fun b hb => absurd hb (Nat.not_lt_zero _)) hx h, fun b r hb => absurd hb (Nat.not_lt_zero _), fun _ => Nat.zero_le _⟩
    obtain ⟨h1, h2⟩ := frame_ok hg hG2 hp2
    exact ⟨v, _, _, _, he, hkX, hr2.sh, h1, h2⟩
end
end Go.Tidy
namespace Go.Proofs.YtddolfgmkpfmcaaDoor
open Go.Tidy
set_option maxRecDepth 100000
set_option maxHeartbeats 0
set_option linter.unusedSimpArgs false
set_option linter.unusedVariables false
variable {L : List Blk} {k : V → List Blk → Prop}
theorem rdI_scalar (l : List Int) : ∀ e ∈ rdI l, V.scalarL e = true := fun e he => by
  obtain ⟨n, _, rfl⟩ := List.mem_map.1 he; rfl
/-- A call of Direct that succeeds; its argument may be lent. -/
theorem DirectOk_c (l : List Sp) (x : En) (hl : LSs l) (c1 : orderF l = 0) (c2 : envE x = 0) :
    CallP C 24 [.d (sps l), enV x] [] fun X L' => L' = [.row (dSs x [] l).length 1 (rdI (dSs x [] l))] ∧ X = .tup [.own 0 (dSs x [] l).length 0 (dSs x [] l).length, I 0] := by
  have ho : ∀ {L : List Blk} {k : V → List Blk → Prop}, k (I (orderF l)) L → CallP C 15 [.d (sps l)] L k := fun h => order_c l hl h
  have hdc := direct1_s x _ l (Nat.le_refl _) hl.len (order_dsp hl c1)
  have hok : ByOk [] := ⟨List.nodup_nil, fun b hb => by cases hb⟩
  refine callP_of C_ok Tryd.func24 rfl rfl (n := _) rfl (Nat.le_of_ble_eq_true rfl) (rs := _) rfl ?_
  repeat' (conv => whnf
           first | refine Br.yes (decide_eq_true c1) ?_ | refine Br.yes (decide_eq_true c2) ?_ | refine Br.tt ?_ | refine Br.ff ?_ | refine Br.dec (fun h => ?_) (fun h => ?_) | refine Br.not ?_ | refine Br.intro (fun h => ?_) (fun h => ?_) | refine GetE.intro _ rfl ?_ | refine Need.intro rfl ?_ | refine DrawP.go mixed rfl ?_ | refine ho ?_ | refine env_c x ?_ | refine CallP.nilCell 1 0 1 [.nil] rfl rfl (by decide) (hdc.sub (b := []) (E := []) hok ?_))
  conv => whnf
  exact FinP.part [3] _ (Part.one rfl (rdI_rnB _ _ _) (rdI_bel _ _) rfl) (fun b hb => absurd hb (Nat.not_lt_zero b)) rfl rfl ⟨rfl, rfl⟩
theorem DirectNo_c (l : List Sp) (x : En) (hl : LSs l) (c : ¬ (orderF l = 0 ∧ envE x = 0)) (h : k (.tup [.d (.sl []), I (directE l x)]) L) : CallP C 24 [.d (sps l), enV x] L k := by
  have e : ins (directB l x) = .sl [] := by unfold directB; rw [if_neg c]; rfl
  exact Direct_c l x hl (fun h => order_dsp hl h) (by rw [e]; exact h)
end Go.Proofs.YtddolfgmkpfmcaaDoor
