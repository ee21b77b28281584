/-
  The base layer: what the executor says of a piece of code holds of it.
-/
import Derived.Test.YtnkfifkgbkgcjaaTidyI
namespace Go.Tidy

section
variable {C : Ctx} {g : Gh} {w : World} {L : List Blk} {r : Option Nat}

theorem putObj_ext {w : World} {q : Nat} {o : Obj} : ∀ (p : Nat) (o' : Obj), w.heap[p]? = some o' → some q ≠ some p → (w.putObj q o).heap[p]? = some o' := fun p o' h hne => by
  rw [World.putObj_heap_other (fun e => hne (by rw [e]))]; exact h

/-- A block that is spoken of no more. -/
theorem kill_step (hg : Good g w L) {b q : Nat} {k0 : Blk} (hL : L[b]? = some k0) (h0 : k0 ≠ .dead) (h1 : k0 ≠ .defr) (hm : g.m b = some q) (o : Obj) : Step g w L b .dead g (w.putObj q o) := by
  have hbl := lt_of_get hL
  refine ⟨hg, ⟨_, hL, h0⟩, by rw [hL]; exact fun e => h1 (by cases e; rfl), ⟨rfl, rfl, rfl⟩, by simp, rfl, fun _ _ => rfl, fun _ _ => rfl, fun p o' hp hne => putObj_ext p o' hp (by rw [← hm]; exact hne), fun r hr => .inl hr, ?_⟩
  have hd : (L.set b .dead)[b]? = some .dead := List.getElem?_set_self hbl
  exact ⟨fun _ _ => .inl hd, fun _ _ _ _ => .inl hd, fun _ _ => .inl hd, fun _ _ => .inl hd, fun _ => hd⟩

theorem RB.loop_of (hg : Good g w L) {b : Nat} {l : LoopR} (hL : L[b]? = some (.loop l)) : ∃ q rec, g.m b = some q ∧ w.heap[q]? = some (.loop rec) ∧ rec.state = l.st ∧ rec.pending = l.pend := by
  obtain ⟨q, rec, h1, h2, h3, h4, _⟩ := hg.blk b _ hL
  exact ⟨q, rec, h1, h2, h3, h4⟩

/-- The loop's record in the machine's memory, laid. -/
theorem loopRec_ok {g' : Gh} {w' : World} {L' : List Blk} {fr : List (Nat × V)} {n : Nat} {a : Act} {fn : FuncId} {ps : Array Tmp} {assign body : Code} {b q df dq : Nat} (hn : a.tmps.size = n)
    (hfr : ∀ i, RV g' w' L' (look fr i) (a.tmps.getD i undef)) (hm : g'.m b = some q) (hd : g'.m df = some dq) (hdL : L'[df]? = some .defr)
    (hh : w'.heap[q]? = some (.loop { state := .ready, pending := none, fn, tmps := a.tmps, params := ps, assign, body, defers := dq })) :
    RB g' w' L' b (.loop ⟨.ready, none, fr, n, ps.toList, assign, body, df⟩) :=
  ⟨q, _, hm, hh, rfl, rfl, by simp, rfl, rfl, hn, hfr, hd, hdL⟩

theorem pend_wp {e : Exit} {c : Code} (hc : pendExit c = some e) {n : Nat} {P : Program} {R : Exit → Act → World → Prop} {a : Act} {w : World} (h : R e a w) : c.wpIn (Fx r) n P R a w := by
  unfold pendExit at hc
  split at hc
  · cases hc; exact wpIn_ret h
  · cases hc; exact wpIn_exit h
  · cases hc

theorem vRange_ok (_hC : C.OK) {k : Nat} {f : Operand} {ps : Array Tmp} {assign body : Code} {σ : TS} {Q : Exit → TS → Prop} {a : Act} (h : vRange C f ps assign body σ Q) (hs : St k r g σ a w) :
    (Code.rangeFunc f ps assign body).wpIn (Fx r) 0 C.P (Post k r Q g w σ.L) a w := by
  refine wpIn_rangeFunc fun fn _ => ?_
  unfold vRange at h
  cases hro : σ.ro with
  | none =>
    simp only [hro] at h
    have hr := hs.ro' hro
    subst hr
    -- the block for deferred calls
    have hE1 : Ext w (w.alloc (.deferred (some []))) := Ext.alloc w _
    have hg1 := add_good (k' := .defr) hs.good hE1 (some w.heap.size) (fun q h => by cases h; exact Nat.le_refl _) 0 ⟨w.heap.size, by simp [Gh.add], heap_alloc_new w _⟩
    have hp1 := add_prog hs.good hE1 .defr (some w.heap.size) (fun q h => by cases h; exact Nat.le_refl _) 0
    have hfr1 := frame_mono hs.fr hp1
    generalize hg1e : g.add σ.L.length (some w.heap.size) 0 = g1 at hg1 hp1 hfr1
    generalize hw1e : w.alloc (.deferred (some [])) = w1 at hE1 hg1 hp1 hfr1
    have hm1 : g1.m σ.L.length = some w.heap.size := by rw [← hg1e]; simp [Gh.add]
    have hsz1 : w1.heap.size = w.heap.size + 1 := by rw [← hw1e]; simp
    have hlen1 : (σ.L ++ [Blk.defr]).length = σ.L.length + 1 := by simp
    -- the record
    have hE2 : Ext w1 (w1.alloc (.loop { state := .ready, pending := none, fn, tmps := a.tmps, params := ps, assign, body, defers := w.heap.size })) := Ext.alloc w1 _
    have hp2 := add_prog hg1 hE2 (.loop ⟨.ready, none, σ.fr, σ.n, ps.toList, assign, body, σ.L.length⟩) (some w1.heap.size) (fun q h => by cases h; exact Nat.le_refl _) 0
    have hfr2 := frame_mono hfr1 hp2
    have hg2 := add_good (k' := .loop ⟨.ready, none, σ.fr, σ.n, ps.toList, assign, body, σ.L.length⟩) hg1 hE2 (some w1.heap.size) (fun q h => by cases h; exact Nat.le_refl _) 0
      (loopRec_ok (fn := fn) (q := w1.heap.size) (dq := w.heap.size) hs.n hfr2 (by simp [Gh.add]) (by simp only [Gh.add]; rw [if_neg (by rw [hlen1]; omega)]; exact hm1)
        (by rw [List.getElem?_append_left (by rw [hlen1]; omega)]; simp) (heap_alloc_new w1 _))
    have hm2 : (g1.add (σ.L ++ [Blk.defr]).length (some w1.heap.size) 0).m (σ.L.length + 1) = some w1.heap.size := by simp [Gh.add]
    have hmd2 : (g1.add (σ.L ++ [Blk.defr]).length (some w1.heap.size) 0).m σ.L.length = some w.heap.size := by simp only [Gh.add]; rw [if_neg (by rw [hlen1]; omega)]; exact hm1
    rw [show σ.L ++ [Blk.defr] ++ [Blk.loop ⟨.ready, none, σ.fr, σ.n, ps.toList, assign, body, σ.L.length⟩] = σ.L ++ [.defr, .loop ⟨.ready, none, σ.fr, σ.n, ps.toList, assign, body, σ.L.length⟩] by simp] at hg2 hp2 hfr2
    generalize g1.add (σ.L ++ [Blk.defr]).length (some w1.heap.size) 0 = g2 at hg2 hp2 hfr2 hm2 hmd2
    have hw2e : (w1.alloc (.loop { state := .ready, pending := none, fn, tmps := a.tmps, params := ps, assign, body, defers := w.heap.size })).heap[w1.heap.size]? = some (.loop { state := .ready, pending := none, fn, tmps := a.tmps, params := ps, assign, body, defers := w.heap.size }) := heap_alloc_new w1 _
    have henter : (Instr.enterLoop fn a.tmps ps assign body none).run C.P w = .ok (w1.heap.size, [{ target := .collected w.heap.size, args := #[] }]) (w1.alloc (.loop { state := .ready, pending := none, fn, tmps := a.tmps, params := ps, assign, body, defers := w.heap.size })) := by
      rw [hsz1, ← hw1e]; exact run_enterLoop_outer _ _ _ _ _
    generalize hw2 : w1.alloc (.loop { state := .ready, pending := none, fn, tmps := a.tmps, params := ps, assign, body, defers := w.heap.size }) = w2 at hg2 hp2 hfr2 hw2e henter
    have hpp : Prog σ.L.length g w σ.L g2 w2 (σ.L ++ [.defr, .loop ⟨.ready, none, σ.fr, σ.n, ps.toList, assign, body, σ.L.length⟩]) := hp1.trans (hp2.le (by rw [hlen1]; omega) (Nat.le_refl _))
    have hL2 : (σ.L ++ [Blk.defr, .loop ⟨.ready, none, σ.fr, σ.n, ps.toList, assign, body, σ.L.length⟩])[σ.L.length + 1]? = some (.loop ⟨.ready, none, σ.fr, σ.n, ps.toList, assign, body, σ.L.length⟩) := by
      rw [List.getElem?_append_right (by omega)]; simp
    have hLd2 : (σ.L ++ [Blk.defr, .loop ⟨.ready, none, σ.fr, σ.n, ps.toList, assign, body, σ.L.length⟩])[σ.L.length]? = some .defr := by
      rw [List.getElem?_append_right (by omega)]; simp
    obtain ⟨gf, us, hu, hcf, hcall⟩ := vCallF_ok (ev_ok hfr2 f) (args := [.yld (σ.L.length + 1)]) (vs := #[.func (.yield w1.heap.size) #[] #[]])
      ⟨rfl, fun j x v hx hv => by
        cases j with
        | zero => simp at hx hv; subst hx hv; exact .yld _ _ _ hL2 hm2
        | succ j => simp at hx⟩ hg2 h
    refine ⟨w1.heap.size, [{ target := .collected w.heap.size, args := #[] }], w2, { target := .fn (.func gf) us, args := #[.func (.yield w1.heap.size) #[] #[]] }, w2, gf, #[.func (.yield w1.heap.size) #[] #[]] ++ us, w2, henter, ?_, fun _ _ => trivial, ?_, fun h => by simp [Fence.wide] at h, ?_⟩
    · simp only [resolve, hu, Deferred.ofValue, Sem.run_pure]
      simp [Act.eval]
    · simp only [invoke]; exact hcf
    · refine CallsIn.mono (callsIn_wide (n := 0 - 1).2 hcall : CallsIn Fence.wide (0 - 1) C.P gf _ w2 _) ?_
      rintro e w3 ⟨v, X, L3, g3, rfl, hK, hX, hg3, hp3⟩
      have hp3' := hpp.trans (hp3.le (by simp) (Nat.le_refl _))
      split at hK
      · rename_i l hl hd
        obtain ⟨q, rec, h1, h2, h3, h4⟩ := RB.loop_of hg3 hl
        -- the real record is where it was
        have hyl := hp3.mono (.yld (σ.L.length + 1)) _ (by simp [V.bel]) (RV.yld (g := g2) (w := w2) _ _ _ hL2 hm2)
        have hq : q = w1.heap.size := by
          generalize hvv : Value.func (.yield w1.heap.size) #[] #[] = vv at hyl
          cases hyl with
          | yld _ r' _ hL' hm' => rw [h1] at hm'; cases hm'; cases hvv; rfl
          | yldX _ r' hL' => rw [hl] at hL'; cases hL'
        subst hq
        obtain ⟨hdL, hdm⟩ := hp3.defr σ.L.length w.heap.size (by simp) hLd2 hmd2
        have S := kill_step hg3 hl (by simp) (by simp) h1 (.loop { rec with state := .exhausted })
        have hst3 : ∀ (hb : rec.state ≠ .busy) , St k none g3 { σ with L := L3.set (σ.L.length + 1) .dead, df := σ.L.length :: σ.df } { a with defers := [{ target := .collected w.heap.size, args := #[] }] ++ a.defers } (w3.putObj w1.heap.size (.loop { rec with state := .exhausted })) := by
          intro _
          have hpk := hp3'.trans (S.prog.le (by have := hp3'.len (Nat.le_refl _); omega) (Nat.le_refl _))
          refine ⟨hs.n, fun i => hpk.mono _ _ (hs.fr i).bel (hs.fr i), S.good' trivial, ?_, by simp [hs.df], ?_, fun lb hlb => (by rw [hro] at hlb; cases hlb), fun _ => rfl⟩
          · have := hp3'.len (Nat.le_refl _); have := hs.k; simp; omega
          · intro i b d hb hdi
            cases i with
            | zero =>
              simp at hb hdi
              subst hb hdi
              refine ⟨_, hdm, rfl, ?_⟩
              rw [List.getElem?_set_ne (by omega)]; exact hdL
            | succ i =>
              simp at hb hdi
              obtain ⟨q, d1, d2, d3⟩ := hs.dfs i b d hb hdi
              obtain ⟨d4, d5⟩ := hpk.defr b q (lt_of_get d3) d3 d1
              exact ⟨q, d5, d2, d4⟩
        have hpk : Prog k g w σ.L g3 (w3.putObj w1.heap.size (.loop { rec with state := .exhausted })) (L3.set (σ.L.length + 1) .dead) :=
          (hp3'.trans (S.prog.le (by have := hp3'.len (Nat.le_refl _); omega) (Nat.le_refl _))).le hs.k (Nat.le_refl _)
        have hbu : l.st ≠ .busy := by intro e; rw [e] at hK; simp at hK
        have hb' : rec.state ≠ .busy := by rw [h3]; exact hbu
        cases hpd : l.pend with
        | none =>
          have hK' : Q .normal { σ with L := L3.set (σ.L.length + 1) .dead, df := σ.L.length :: σ.df } := by
            rw [hro]
            cases hst : l.st <;> simp only [hst, hpd] at hK <;> first | exact hK | exact absurd hst hbu
          exact ⟨none, _, by rw [run_endLoop h2 hb', h4, hpd], _, g3, hK', hst3 hb', hpk⟩
        | some c =>
          have hK' : ∃ ex, pendExit c = some ex ∧ Q ex { σ with L := L3.set (σ.L.length + 1) .dead, df := σ.L.length :: σ.df } := by
            rw [hro]
            cases hex : pendExit c with
            | none => cases hst : l.st <;> simp only [hst, hpd, hex] at hK
            | some ex => cases hst : l.st <;> simp only [hst, hpd, hex] at hK <;> first | exact ⟨ex, rfl, hK⟩ | exact absurd hst hbu
          obtain ⟨ex, hex, hK'⟩ := hK'
          exact ⟨some c, _, by rw [run_endLoop h2 hb', h4, hpd], pend_wp hex ⟨_, g3, hK', hst3 hb', hpk⟩⟩
      · exact hK.elim
  | some lb =>
    simp only [hro] at h
    split at h
    · rename_i r0 hlb
      obtain ⟨l0, rfl, hyl0⟩ := hs.ro lb hro
      obtain ⟨q0, rec0, n1, n2, _, _, _, _, _, _, _, n10, n11⟩ := hs.good.blk lb _ hlb
      have hq0 : q0 = l0 := by
        generalize hvv : Value.func (.yield l0) #[] #[] = vv at hyl0
        cases hyl0 with
        | yld _ r' _ hL' hm' => rw [n1] at hm'; cases hm'; cases hvv; rfl
        | yldX _ r' hL' => rw [hlb] at hL'; cases hL'
      subst hq0
      have hE2 : Ext w (w.alloc (.loop { state := .ready, pending := none, fn, tmps := a.tmps, params := ps, assign, body, defers := rec0.defers })) := Ext.alloc w _
      have hp2 := add_prog hs.good hE2 (.loop ⟨.ready, none, σ.fr, σ.n, ps.toList, assign, body, r0.df⟩) (some w.heap.size) (fun q h => by cases h; exact Nat.le_refl _) 0
      have hfr2 := frame_mono hs.fr hp2
      obtain ⟨hdf1, hdf2⟩ := hp2.defr r0.df rec0.defers (lt_of_get n11) n11 n10
      have hg2 := add_good (k' := .loop ⟨.ready, none, σ.fr, σ.n, ps.toList, assign, body, r0.df⟩) hs.good hE2 (some w.heap.size) (fun q h => by cases h; exact Nat.le_refl _) 0
        (loopRec_ok (fn := fn) (q := w.heap.size) (dq := rec0.defers) hs.n hfr2 (by simp [Gh.add]) hdf2 hdf1 (heap_alloc_new w _))
      have hm2 : (g.add σ.L.length (some w.heap.size) 0).m σ.L.length = some w.heap.size := by simp [Gh.add]
      generalize g.add σ.L.length (some w.heap.size) 0 = g2 at hg2 hp2 hfr2 hm2 hdf2
      have henter : (Instr.enterLoop fn a.tmps ps assign body (some q0)).run C.P w = .ok (w.heap.size, []) (w.alloc (.loop { state := .ready, pending := none, fn, tmps := a.tmps, params := ps, assign, body, defers := rec0.defers })) := run_enterLoop_inner n2 _ _ _ _ _
      generalize hw2 : w.alloc (.loop { state := .ready, pending := none, fn, tmps := a.tmps, params := ps, assign, body, defers := rec0.defers }) = w2 at hg2 hp2 hfr2 henter
      have hL2 : (σ.L ++ [Blk.loop ⟨.ready, none, σ.fr, σ.n, ps.toList, assign, body, r0.df⟩])[σ.L.length]? = some (.loop ⟨.ready, none, σ.fr, σ.n, ps.toList, assign, body, r0.df⟩) := by simp
      obtain ⟨gf, us, hu, hcf, hcall⟩ := vCallF_ok (ev_ok hfr2 f) (args := [.yld σ.L.length]) (vs := #[.func (.yield w.heap.size) #[] #[]])
        ⟨rfl, fun j x v hx hv => by
          cases j with
          | zero => simp at hx hv; subst hx hv; exact .yld _ _ _ hL2 hm2
          | succ j => simp at hx⟩ hg2 h
      refine ⟨w.heap.size, [], w2, { target := .fn (.func gf) us, args := #[.func (.yield w.heap.size) #[] #[]] }, w2, gf, #[.func (.yield w.heap.size) #[] #[]] ++ us, w2, henter, ?_, fun _ _ => trivial, ?_, fun h => by simp [Fence.wide] at h, ?_⟩
      · simp only [resolve, hu, Deferred.ofValue, Sem.run_pure]
        simp [Act.eval]
      · simp only [invoke]; exact hcf
      · refine CallsIn.mono (callsIn_wide (n := 0 - 1).2 hcall : CallsIn Fence.wide (0 - 1) C.P gf _ w2 _) ?_
        rintro e w3 ⟨v, X, L3, g3, rfl, hK, hX, hg3, hp3⟩
        have hp3' := hp2.trans (hp3.le (by simp) (Nat.le_refl _))
        split at hK
        · rename_i l hl
          obtain ⟨q, rec, h1, h2, h3, h4⟩ := RB.loop_of hg3 hl
          have hyl := hp3.mono (.yld σ.L.length) _ (by simp [V.bel]) (RV.yld (g := g2) (w := w2) _ _ _ hL2 hm2)
          have hq : q = w.heap.size := by
            generalize hvv : Value.func (.yield w.heap.size) #[] #[] = vv at hyl
            cases hyl with
            | yld _ r' _ hL' hm' => rw [h1] at hm'; cases hm'; cases hvv; rfl
            | yldX _ r' hL' => rw [hl] at hL'; cases hL'
          subst hq
          have S := kill_step hg3 hl (by simp) (by simp) h1 (.loop { rec with state := .exhausted })
          have hpk0 := hp3'.trans (S.prog.le (by have := hp3'.len (Nat.le_refl _); omega) (Nat.le_refl _))
          have hst3 : St k (some q0) g3 { σ with L := L3.set σ.L.length .dead } { a with defers := [] ++ a.defers } (w3.putObj w.heap.size (.loop { rec with state := .exhausted })) := by
            refine ⟨hs.n, fun i => hpk0.mono _ _ (hs.fr i).bel (hs.fr i), S.good' trivial, ?_, hs.df, ?_, ?_, hs.ro'⟩
            · have := hp3'.len (Nat.le_refl _); have := hs.k; simp; omega
            · intro i b d hb hdi
              obtain ⟨q, d1, d2, d3⟩ := hs.dfs i b d hb hdi
              obtain ⟨d4, d5⟩ := hpk0.defr b q (lt_of_get d3) d3 d1
              exact ⟨q, d5, d2, d4⟩
            · intro lb' hlb'
              obtain ⟨l, y1, y2⟩ := hs.ro lb' hlb'
              exact ⟨l, y1, hpk0.mono _ _ y2.bel y2⟩
          have hpk : Prog k g w σ.L g3 (w3.putObj w.heap.size (.loop { rec with state := .exhausted })) (L3.set σ.L.length .dead) := hpk0.le hs.k (Nat.le_refl _)
          have hbu : l.st ≠ .busy := by intro e; rw [e] at hK; simp at hK
          have hb' : rec.state ≠ .busy := by rw [h3]; exact hbu
          cases hpd : l.pend with
          | none =>
            have hK' : Q .normal { σ with L := L3.set σ.L.length .dead } := by
              rw [hro]
              cases hst : l.st <;> simp only [hst, hpd] at hK <;> first | exact hK | exact absurd hst hbu
            exact ⟨none, _, by rw [run_endLoop h2 hb', h4, hpd], _, g3, hK', hst3, hpk⟩
          | some c =>
            have hK' : ∃ ex, pendExit c = some ex ∧ Q ex { σ with L := L3.set σ.L.length .dead } := by
              rw [hro]
              cases hex : pendExit c with
              | none => cases hst : l.st <;> simp only [hst, hpd, hex] at hK
              | some ex => cases hst : l.st <;> simp only [hst, hpd, hex] at hK <;> first | exact ⟨ex, rfl, hK⟩ | exact absurd hst hbu
            obtain ⟨ex, hex, hK'⟩ := hK'
            exact ⟨some c, _, by rw [run_endLoop h2 hb', h4, hpd], pend_wp hex ⟨_, g3, hK', hst3, hpk⟩⟩
        · exact hK.elim
    · exact h.elim

theorem cutIf_ok {k : Nat} {b : Bool} {f : (Exit → TS → Prop) → Prop} {Q : Exit → TS → Prop} {c : Code} {g : Gh} {w : World} {L : List Blk} {a : Act} (core : ∀ Q, f Q → c.wpIn (Fx r) 0 C.P (Post k r Q g w L) a w) (h : cutIf b k f Q) :
    c.wpIn (Fx r) 0 C.P (Post k r Q g w L) a w := by
  unfold cutIf at h
  split at h
  · exact core Q h
  · unfold CutP at h
    obtain ⟨ι, s, h1, h2⟩ := h
    refine wpIn_mono (core _ h1) ?_
    rintro e a' w' ⟨σ', g', hq, hs, hp⟩
    cases e with
    | normal =>
      obtain ⟨i, hw⟩ := hq
      obtain ⟨g2, hs2, hp2⟩ := hw r g' a' w' hs
      exact ⟨s i, g2, h2 i, hs2, hp.trans hp2⟩
    | exit id => exact ⟨σ', g', hq, hs, hp⟩
    | goto l => exact ⟨σ', g', hq, hs, hp⟩
    | ret => exact ⟨σ', g', hq, hs, hp⟩
    | panic ch => exact ⟨σ', g', hq, hs, hp⟩
    | outgrown => exact ⟨σ', g', hq, hs, hp⟩

theorem vc_ok (hC : C.OK) {cut : Code → Bool} {k : Nat} : ∀ (c : Code) (σ : TS) (Q : Exit → TS → Prop) (g : Gh) (a : Act) (w : World), vc C cut k c σ Q → St k r g σ a w → c.wpIn (Fx r) 0 C.P (Post k r Q g w σ.L) a w := by
  intro c
  induction c with
  | skip => exact fun σ Q g a w h hs => Go.wpIn_skip ⟨σ, g, h, hs, Prog.refl _ _ _ _⟩
  | label l => exact fun σ Q g a w h hs => wpIn_label ⟨σ, g, h, hs, Prog.refl _ _ _ _⟩
  | region id ops draw =>
    intro σ Q g a w h hs
    cases draw with
    | false =>
      simp only [vc] at h
      refine cutIf_ok (fun Q h => ?_) h
      refine wpIn_region (vcOps_ok hC (List.range ops.size) σ.fr σ.L g a w _ (by rw [range_ops]; exact h) hs.at ?_)
      intro fr' L' g' a' w' hK hat hd hp
      exact ⟨_, g', hK, hs.of_at hat hd hp, hp.le hs.k (Nat.le_refl _)⟩
    | true =>
      simp only [vc] at h
      refine cutIf_ok (fun Q h => ?_) h
      unfold DrawP at h
      refine wpIn_region_draw fun t => ?_
      have hE : Ext w { w with drawn := w.drawn + 1 } := ⟨⟨rfl, rfl, rfl⟩, Nat.le_refl _, fun _ _ h => h⟩
      have hcell : ∀ a : Addr, World.cell? { w with drawn := w.drawn + 1 } a = w.cell? a := fun a => rfl
      have hmono : ∀ (x : V) (v : Value), RV g w σ.L x v → RV g { w with drawn := w.drawn + 1 } σ.L x v := fun x v hx => RV.mono (g := g) (g' := g) (w := w) (w' := { w with drawn := w.drawn + 1 }) (L := σ.L) (L' := σ.L) (k := σ.L.length) (fun _ h => h) (fun a v _ h => h) (fun b _ => Keep.refl g σ.L b) hx.bel hx
      have hg2 : Good g { w with drawn := w.drawn + 1 } σ.L := ⟨hs.good.inj, hs.good.dis, hs.good.lt, fun b k hb => RB.mono' hmono rfl rfl (fun _ _ _ h => h) (fun l _ => ⟨rfl, fun h => h⟩) (hs.good.blk b k hb)⟩
      have hp0 : Prog σ.L.length g w σ.L g { w with drawn := w.drawn + 1 } σ.L := ⟨⟨rfl, rfl, rfl⟩, Nat.le_refl _, fun _ _ h _ => h, fun _ h _ => h, fun _ h => .inl h, fun _ h => h, fun x v _ h => hmono x v h, fun _ _ _ h h' => ⟨h, h'⟩, fun h => h⟩
      refine vOpsC_ok hC _ σ.fr σ.L g a _ _ (h t) ⟨hs.n, fun i => hmono _ _ (hs.fr i), hg2⟩ ?_
      intro fr' L' g' a' w' hK hat hd hp
      have hp' := hp0.trans hp
      exact ⟨_, g', hK, hs.of_at hat hd hp', hp'.le hs.k (Nat.le_refl _)⟩
  | seq x y ihx ihy =>
    intro σ Q g a w h hs
    simp only [vc] at h
    refine cutIf_ok (fun Q h => ?_) h
    refine wpIn_seq (wpIn_mono (ihx σ _ g a w h hs) ?_)
    rintro e a1 w1 ⟨σ1, g1, hq, hs1, hp1⟩
    cases e with
    | normal => exact wpIn_mono (ihy σ1 Q g1 a1 w1 hq hs1) fun e a' w' hpost => Post.later hp1 hpost
    | exit id => exact ⟨σ1, g1, hq, hs1, hp1⟩
    | goto l => exact ⟨σ1, g1, hq, hs1, hp1⟩
    | ret => exact ⟨σ1, g1, hq, hs1, hp1⟩
    | panic ch => exact ⟨σ1, g1, hq, hs1, hp1⟩
    | outgrown => exact ⟨σ1, g1, hq, hs1, hp1⟩
  | cond c x y ihx ihy =>
    intro σ Q g a w h hs
    simp only [vc] at h
    refine cutIf_ok (fun Q h => ?_) h
    have hcv := evB_ok hs.fr c
    have fin : ∀ t : Bool, a.eval c = .bool t → (match t with | true => vc C cut k x σ Q | false => vc C cut k y σ Q) → (Code.cond c x y).wpIn (Fx r) 0 C.P (Post k r Q g w σ.L) a w := by
      intro t hb h
      refine wpIn_cond hb ?_
      cases t with
      | true => exact ihx σ Q g a w h hs
      | false => exact ihy σ Q g a w h hs
    split at h
    · rename_i hc
      rw [hc] at hcv
      exact fin true (by generalize a.eval c = v at hcv; cases hcv; rfl) h
    · rename_i hc
      rw [hc] at hcv
      exact fin false (by generalize a.eval c = v at hcv; cases hcv; rfl) h
    · rename_i t hc
      rw [hc] at hcv
      exact fin t hcv.bool_of h.out
    · exact h.elim
  | block id c ih =>
    intro σ Q g a w h hs
    simp only [vc] at h
    refine cutIf_ok (fun Q h => ?_) h
    refine wpIn_block (wpIn_mono (ih σ _ g a w h hs) ?_)
    rintro e a1 w1 ⟨σ1, g1, hq, hs1, hp1⟩
    cases e with
    | normal => exact ⟨σ1, g1, hq, hs1, hp1⟩
    | exit id' =>
      simp only [Exit.inBlock]
      cases hb : Nat.beq id' id with
      | true =>
        simp only [hb] at hq
        rw [if_pos (Nat.eq_of_beq_eq_true hb)]
        exact ⟨σ1, g1, hq, hs1, hp1⟩
      | false =>
        simp only [hb] at hq
        rw [if_neg (fun e => by rw [e] at hb; simp at hb)]
        exact ⟨σ1, g1, hq, hs1, hp1⟩
    | goto l => exact ⟨σ1, g1, hq, hs1, hp1⟩
    | ret => exact ⟨σ1, g1, hq, hs1, hp1⟩
    | panic ch => exact ⟨σ1, g1, hq, hs1, hp1⟩
    | outgrown => exact ⟨σ1, g1, hq, hs1, hp1⟩
  | loop c ih =>
    intro σ Q g a w h hs
    simp only [vc] at h
    unfold LoopP at h
    obtain ⟨ι, s, lt, i0, wf, hw0, hround⟩ := h
    obtain ⟨g0, hs0, hp0⟩ := hw0 r g a w hs
    refine wpIn_loopG (fun i a1 w1 => ∃ g1, St k r g1 (s i) a1 w1 ∧ Prog k g w σ.L g1 w1 (s i).L) lt wf (i0 := i0) ⟨g0, hs0, hp0⟩ ?_
    rintro i a1 w1 ⟨g1, hs1, hp1⟩
    refine wpIn_mono (ih (s i) _ g1 a1 w1 (hround i) hs1) ?_
    rintro e a2 w2 ⟨σ2, g2, hq, hs2, hp2⟩
    cases e with
    | normal =>
      obtain ⟨j, hlt, hw⟩ := hq
      obtain ⟨g3, hs3, hp3⟩ := hw r g2 a2 w2 hs2
      exact ⟨j, hlt, g3, hs3, hp1.trans (hp2.trans hp3)⟩
    | exit id => exact ⟨σ2, g2, hq, hs2, hp1.trans hp2⟩
    | goto l => exact ⟨σ2, g2, hq, hs2, hp1.trans hp2⟩
    | ret => exact ⟨σ2, g2, hq, hs2, hp1.trans hp2⟩
    | panic ch => exact ⟨σ2, g2, hq, hs2, hp1.trans hp2⟩
    | outgrown => exact ⟨σ2, g2, hq, hs2, hp1.trans hp2⟩
  | rangeFunc f ps assign body _ _ =>
    intro σ Q g a w h hs
    simp only [vc] at h
    exact vRange_ok hC h hs
  | exit id => exact fun σ Q g a w h hs => wpIn_exit ⟨σ, g, h, hs, Prog.refl _ _ _ _⟩
  | scope c _ => intro σ Q g a w h hs; simp [vc] at h
  | goto l => intro σ Q g a w h hs; simp [vc] at h
  | ret => exact fun σ Q g a w h hs => wpIn_ret ⟨σ, g, h, hs, Prog.refl _ _ _ _⟩
  | refuse s => intro σ Q g a w h hs; simp [vc] at h

end
end Go.Tidy
