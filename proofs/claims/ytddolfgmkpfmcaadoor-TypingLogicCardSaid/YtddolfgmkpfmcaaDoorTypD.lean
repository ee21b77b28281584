/-
  typing: the count of forms.
-/
import Derived.Test.YtddolfgmkpfmcaaDoorTypC
namespace Go.Proofs.YtddolfgmkpfmcaaDoor
open Go.Tidy
set_option maxRecDepth 100000
set_option maxHeartbeats 0
set_option linter.unusedSimpArgs false
set_option linter.unusedVariables false
variable {L : List Blk} {k : V → List Blk → Prop}
theorem wLoop_drop {w : List Fm → Nat → Int × Int → W} {l : List Fm} {d : Nat} {i : Nat} (h : i < l.length) (a : Int × Int) : wLoop w (l.drop i) d a = if (wStep w l[i] d a).1 = true then wLoop w (l.drop (i + 1)) d (wStep w l[i] d a).2 else wStep w l[i] d a := by
  rw [List.drop_eq_getElem_cons h, wLoop]
theorem lenO (d : D) : ∀ e ∈ [[d]], e.length = 1 := fun e he => by rw [List.mem_singleton.1 he]; rfl
theorem within_c : ∀ n l d a, Enough n l d → LFs l → Bd n a → WCall n l d a
  | 0, l, d, a, he, _, _ => absurd he.pos (by omega)
  | n + 1, l, d, a, he, hl, hb => by
    have ih := within_c n
    unfold WCall
    have hle := he.le
    have hlen := hl.len
    by_cases hc : l ≠ [] ∧ 16 < d
    · have e : wF (n + 1) l d a = (false, a) := by unfold wF; rw [if_pos hc]
      rw [e]
      have hp : (0 : Int) < ((l.map fun f => [f.d]).length : Int) := by rw [List.length_map]; have := List.length_pos_iff.2 hc.1; omega
      have hd : (16 : Int) < (d : Int) := by omega
      refine callP_of C_ok Tryd.func54 rfl rfl (n := _) rfl (Nat.le_of_ble_eq_true rfl) (rs := _) rfl ?_
      repeat' (conv => whnf
               first | refine Br.yes (decide_eq_true hp) ?_ | refine Br.yes (decide_eq_true hd) ?_ | refine Br.tt ?_ | refine Br.ff ?_ | refine Br.dec (fun h => ?_) (fun h => ?_) | refine Br.not ?_ | refine Br.intro (fun h => ?_) (fun h => ?_) | refine GetE.intro _ rfl ?_ | refine Need.intro rfl ?_ | refine DrawP.go mixed rfl ?_)
      conv => whnf
      exact FinP.same ⟨rfl, rfl⟩
    · have e : wF (n + 1) l d a = wLoop (wF n) l d a := by rw [wF, if_neg hc]
      rw [e]
      refine callP_of C_ok Tryd.func54 rfl rfl (n := _) rfl (Nat.le_of_ble_eq_true rfl) (rs := _) rfl ?_
      have hq := wF_q n
      by_cases hl0 : l = []
      · subst hl0
        repeat' (conv => whnf
                 first | refine Br.tt ?_ | refine Br.ff ?_ | refine Br.dec (fun h => ?_) (fun h => ?_) | refine Br.not ?_ | refine Br.intro (fun h => ?_) (fun h => ?_) | refine GetE.intro _ rfl ?_ | refine Need.intro rfl ?_ | refine DrawP.go mixed rfl ?_)
        conv => whnf
        refine LoopP.inv (fun _ : Unit => True) (fun _ => ⟨[(20, I 0), (21, I 0)], Tryd.f54.ntmps, [.cells [I a.1, I a.2]], [], none⟩) (fun _ => 0) () trivial ?_ ?_
        · exact Weak.by ⟨rfl, rfl, trivial⟩
        rintro - -
        repeat' (conv => whnf
                 first | refine Br.no (decide_eq_false (show ¬ (0 : Int) < 0 by omega)) ?_ | refine Br.tt ?_ | refine Br.ff ?_ | refine Br.dec (fun h => ?_) (fun h => ?_) | refine Br.not ?_ | refine Br.intro (fun h => ?_) (fun h => ?_) | refine GetE.intro _ rfl ?_ | refine Need.intro rfl ?_ | refine DrawP.go mixed rfl ?_)
        conv => whnf
        exact FinP.same ⟨rfl, rfl⟩
      · have hd : ¬ (16 : Int) < (d : Int) := by
          have : ¬ 16 < d := fun h => hc ⟨hl0, h⟩
          omega
        have hd' : d ≤ 16 := by omega
        have hp : (0 : Int) < ((l.map fun f => [f.d]).length : Int) := by rw [List.length_map]; have := List.length_pos_iff.2 hl0; omega
        repeat' (conv => whnf
                 first | refine Br.yes (decide_eq_true hp) ?_ | refine Br.no (decide_eq_false hd) ?_ | refine Br.tt ?_ | refine Br.ff ?_ | refine Br.dec (fun h => ?_) (fun h => ?_) | refine Br.not ?_ | refine Br.intro (fun h => ?_) (fun h => ?_) | refine GetE.intro _ rfl ?_ | refine Need.intro rfl ?_ | refine DrawP.go mixed rfl ?_)
        conv => whnf
        refine LoopP.inv (α := Nat × Int × Int) (fun s => s.1 ≤ l.length ∧ Bd (n + 1) s.2 ∧ wLoop (wF n) (l.drop s.1) d s.2 = wLoop (wF n) l d a) (fun s => ⟨[(0, .ptr 0 0), (2, I d), (19, .d (fms l)), (20, I l.length), (21, I s.1)], Tryd.f54.ntmps, [.cells [I s.2.1, I s.2.2]], [], none⟩) (fun s => l.length - s.1) (0, a) ⟨Nat.zero_le _, hb, rfl⟩ ?_ ?_
        · exact Weak.by ⟨rfl, rfl, rfl, congrArg I (by simp), rfl, trivial⟩
        rintro ⟨i, b⟩ ⟨hi, hbb, heq⟩
        simp only at hi hbb heq ⊢
        by_cases hi' : i < l.length
        · have hlt : (i : Int) < (l.length : Int) := by omega
          have hw : IntKind.i64.wrap ((i : Int) + 1) = ((i + 1 : Nat) : Int) := by rw [wrap_in (by omega)]; omega
          have hwd : IntKind.i64.wrap ((d : Int) + 1) = ((d + 1 : Nat) : Int) := by rw [wrap_in (by omega)]; omega
          have hin : l[i] ∈ l := List.getElem_mem hi'
          have hE := he.parts hd' hin
          have hL := (hl.all _ hin).parts
          have hF := hl.all _ hin
          have hw1 : IntKind.i64.wrap (b.1 + 1) = b.1 + 1 := wrap_in (by have := hbb.1; have := hbb.2.2.1; omega)
          have hw2 : IntKind.i64.wrap (b.2 + 1) = b.2 + 1 := wrap_in (by have := hbb.2.1; have := hbb.2.2.2; omega)
          rw [wLoop_drop hi'] at heq
          obtain ⟨f, hf⟩ : ∃ f, f = l[i]'hi' := ⟨_, rfl⟩
          rw [← hf] at hE hL hF heq hin
          cases f with
          | c x =>
            have r1 : (l.map fun f => [f.d])[i]? = some [.iface 75 true [DI x.kind, DI x.var, DI x.n, cos x.parts]] := by rw [List.getElem?_map, List.getElem?_eq_getElem hi', ← hf]; show some [(Fm.c x).d] = _; rw [Fm.c_d]
            have hx : LCo x := hF
            have hpar : ∀ {L : List Blk} {k : V → List Blk → Prop}, k (.d (fms (Fm.c x).parts)) L → CallP C 67 [.agg [I x.kind, I x.var, I x.n, .d (cos x.parts)]] L k := fun h => by
              have := cparts_c x hx.len h
              rw [Co.cells_eq] at this; exact this
            have hst : wStep (wF n) (.c x) d b = wTail (wF n) (.c x) d (b.1, b.2 + 1) := rfl
            by_cases ho : over (b.1, b.2 + 1) = true
            · have ht : wTail (wF n) (.c x) d (b.1, b.2 + 1) = (false, (b.1, b.2 + 1)) := by unfold wTail; rw [if_pos ho]
              rw [hst, ht, if_neg (show ¬ (false = true) by decide)] at heq
              rw [← heq]
              by_cases o1 : (64 : Int) < b.1
              · repeat' (conv => whnf
                         first | refine Br.yes (decide_eq_true hlt) ?_ | refine Br.yes (decide_eq_true o1) ?_ | refine Br.tt ?_ | refine Br.ff ?_ | refine Br.dec (fun h => ?_) (fun h => ?_) | refine Br.not ?_ | refine Br.intro (fun h => ?_) (fun h => ?_) | refine GetE.intro _ rfl ?_ | refine Need.intro rfl ?_ | refine DrawP.go mixed rfl ?_ | refine Idx.intro i _ rfl r1 ?_)
                conv => whnf
                exact FinP.drop (n := 1) rfl (Nat.le_refl 1) rfl rfl ⟨Eq.trans (b := [Blk.cells [I b.1, I (IntKind.i64.wrap (b.2 + 1))]]) rfl (by rw [hw2]), rfl⟩
              · have o2 : (256 : Int) < b.2 + 1 := by
                  simp only [over, Bool.or_eq_true, decide_eq_true_eq] at ho; omega
                have o2' : (256 : Int) < IntKind.i64.wrap (b.2 + 1) := by rw [hw2]; exact o2
                repeat' (conv => whnf
                         first | refine Br.yes (decide_eq_true hlt) ?_ | refine Br.no (decide_eq_false o1) ?_ | refine Br.yes (decide_eq_true o2') ?_ | refine Br.tt ?_ | refine Br.ff ?_ | refine Br.dec (fun h => ?_) (fun h => ?_) | refine Br.not ?_ | refine Br.intro (fun h => ?_) (fun h => ?_) | refine GetE.intro _ rfl ?_ | refine Need.intro rfl ?_ | refine DrawP.go mixed rfl ?_ | refine Idx.intro i _ rfl r1 ?_)
                conv => whnf
                exact FinP.drop (n := 1) rfl (Nat.le_refl 1) rfl rfl ⟨Eq.trans (b := [Blk.cells [I b.1, I (IntKind.i64.wrap (b.2 + 1))]]) rfl (by rw [hw2]), rfl⟩
            · have hno := over_no (a := (b.1, b.2 + 1)) hbb.1 (by have := hbb.2.1; simp only; omega) ho
              have ht : wTail (wF n) (.c x) d (b.1, b.2 + 1) = wF n (Fm.c x).parts (d + 1) (b.1, b.2 + 1) := by unfold wTail; rw [if_neg ho]
              rw [hst, ht] at heq
              have o1 : ¬ (64 : Int) < b.1 := by have := hno.2.1; simp only at this; omega
              have o2 : ¬ (256 : Int) < b.2 + 1 := by have := hno.2.2.2; simp only at this; omega
              have o2' : ¬ (256 : Int) < IntKind.i64.wrap (b.2 + 1) := by rw [hw2]; exact o2
              have ihc := ih (Fm.c x).parts (d + 1) (b.1, b.2 + 1) hE hL ⟨hno.1, hno.2.2.1, by have := hno.2.1; simp only at this ⊢; omega, by have := hno.2.2.2; simp only at this ⊢; omega⟩
              have hqq := hq (Fm.c x).parts (d + 1) (b.1, b.2 + 1) hno.1 hno.2.2.1
              unfold WCall at ihc
              generalize hr : wF n (Fm.c x).parts (d + 1) (b.1, b.2 + 1) = r at *
              have ihc' : CallP C 54 [.ptr 0 0, .d (fms (Fm.c x).parts), I (IntKind.i64.wrap ((d : Int) + 1))] [.cells [I b.1, I (IntKind.i64.wrap (b.2 + 1))]] fun X L' => L' = [.cells [I r.2.1, I r.2.2]] ∧ X = B r.1 := by
                rw [hw2, hwd]; exact ihc
              by_cases hr1 : r.1 = true
              · rw [if_pos hr1] at heq
                have hbs : Bs r.2 := by
                  rcases hqq hr1 with ⟨_, e⟩ | e
                  · rw [e]; exact hno
                  · exact e
                repeat' (conv => whnf
                         first | refine Br.yes (decide_eq_true hlt) ?_ | refine Br.no (decide_eq_false o1) ?_ | refine Br.no (decide_eq_false o2') ?_ | refine Br.yes hr1 ?_ | refine Br.tt ?_ | refine Br.ff ?_ | refine Br.dec (fun h => ?_) (fun h => ?_) | refine Br.not ?_ | refine Br.intro (fun h => ?_) (fun h => ?_) | refine GetE.intro _ rfl ?_ | refine Need.intro rfl ?_ | refine DrawP.go mixed rfl ?_ | refine Idx.intro i _ rfl r1 ?_ | refine MethP.intro _ meth_c ?_ | refine hpar ?_ | refine CallP.at1 (b := 0) ihc' rfl rfl rfl rfl ?_ rfl rfl rfl)
                conv => whnf
                exact ⟨(i + 1, r.2), ⟨hi', ⟨hbs.1, hbs.2.2.1, by have := hbs.2.1; simp only; omega, by have := hbs.2.2.2; simp only; omega⟩, heq⟩, by simp only; omega, Weak.to 1 rfl (Nat.le_refl 1) (Nat.le_of_ble_eq_true rfl) ⟨rfl, rfl, rfl, rfl, congrArg I hw, trivial⟩⟩
              · rw [if_neg hr1] at heq
                have hr2 : r.1 = false := by simpa using hr1
                rw [← heq]
                repeat' (conv => whnf
                         first | refine Br.yes (decide_eq_true hlt) ?_ | refine Br.no (decide_eq_false o1) ?_ | refine Br.no (decide_eq_false o2') ?_ | refine Br.no hr2 ?_ | refine Br.tt ?_ | refine Br.ff ?_ | refine Br.dec (fun h => ?_) (fun h => ?_) | refine Br.not ?_ | refine Br.intro (fun h => ?_) (fun h => ?_) | refine GetE.intro _ rfl ?_ | refine Need.intro rfl ?_ | refine DrawP.go mixed rfl ?_ | refine Idx.intro i _ rfl r1 ?_ | refine MethP.intro _ meth_c ?_ | refine hpar ?_ | refine CallP.at1 (b := 0) ihc' rfl rfl rfl rfl ?_ rfl rfl rfl)
                conv => whnf
                exact FinP.drop (n := 1) rfl (Nat.le_refl 1) rfl rfl ⟨rfl, Eq.trans (b := B false) rfl (by rw [hr2])⟩
          | s x =>
            have r1 : (l.map fun f => [f.d])[i]? = some [.iface 94 true [DI x.kind, DI x.by_, DI x.cond.kind, DI x.cond.var, DI x.cond.n, cos x.cond.parts, sps x.thn, sps x.els]] := by rw [List.getElem?_map, List.getElem?_eq_getElem hi', ← hf]; show some [(Fm.s x).d] = _; rw [Fm.s_d]
            have hx : LSp x := hF
            have hpar : ∀ {L : List Blk} {k : V → List Blk → Prop}, k (.d (fms (Fm.s x).parts)) L → CallP C 68 [.agg [I x.kind, I x.by_, I x.cond.kind, I x.cond.var, I x.cond.n, .d (cos x.cond.parts), .d (sps x.thn), .d (sps x.els)]] L k := fun h => by
              have := sparts_c x hx.len1 hx.len2 h
              rw [Sp.cells_eq] at this; exact this
            have hzr : ∀ {L : List Blk} {k : V → List Blk → Prop}, k (B (isZ x.cond)) L → CallP C 63 [.agg [I x.cond.kind, I x.cond.var, I x.cond.n, .d (cos x.cond.parts)]] L k := fun h => by
              have := isZero_c x.cond h
              rw [Co.cells_eq] at this; exact this
            have hEc := he.cond hd' hin
            have hLc : LFs [.c x.cond] := ⟨(show 1 ≤ 8796093022208 by decide), fun g hg => by rw [List.mem_singleton.1 hg]; exact hx.cond⟩
            have q0 : 0 ≤ b.1 + 1 := by have := hbb.1; omega
            have q1 : 0 ≤ b.2 := hbb.2.1
            have ih0 := ih [.c x.cond] 0 (b.1 + 1, b.2) hEc hLc ⟨q0, q1, by have := hbb.2.2.1; simp only; omega, by have := hbb.2.2.2; simp only; omega⟩
            have hq0 := hq [.c x.cond] 0 (b.1 + 1, b.2) q0 q1
            have hds : fms [.c x.cond] = .sl [[.iface 75 true [DI x.cond.kind, DI x.cond.var, DI x.cond.n, cos x.cond.parts]]] := by show D.sl [[(Fm.c x.cond).d]] = _; rw [Fm.c_d]
            unfold WCall at ih0
            generalize hr0 : wF n [.c x.cond] 0 (b.1 + 1, b.2) = r0 at *
            have ih0' : CallP C 54 [.ptr 0 0, .d (.sl [[.iface 75 true [DI x.cond.kind, DI x.cond.var, DI x.cond.n, cos x.cond.parts]]]), I 0] [.cells [I (IntKind.i64.wrap (b.1 + 1)), I b.2]] fun X L' => L' = [.cells [I r0.2.1, I r0.2.2]] ∧ X = B r0.1 := by
              rw [hw1, ← hds]; exact ih0
            by_cases hz : isZ x.cond = true
            · have hst : wStep (wF n) (.s x) d b = wTail (wF n) (.s x) d (b.1 + 1, b.2) := by unfold wStep; simp only [if_pos hz]
              rw [hst] at heq
              by_cases ho : over (b.1 + 1, b.2) = true
              · have ht : wTail (wF n) (.s x) d (b.1 + 1, b.2) = (false, (b.1 + 1, b.2)) := by unfold wTail; rw [if_pos ho]
                rw [ht, if_neg (show ¬ (false = true) by decide)] at heq
                rw [← heq]
                by_cases o1 : (64 : Int) < b.1 + 1
                · have o1' : (64 : Int) < IntKind.i64.wrap (b.1 + 1) := by rw [hw1]; exact o1
                  repeat' (conv => whnf
                           first | refine Br.yes (decide_eq_true hlt) ?_ | refine Br.yes hz ?_ | refine Br.yes (decide_eq_true o1') ?_ | refine Br.tt ?_ | refine Br.ff ?_ | refine Br.dec (fun h => ?_) (fun h => ?_) | refine Br.not ?_ | refine Br.intro (fun h => ?_) (fun h => ?_) | refine GetE.intro _ rfl ?_ | refine Need.intro rfl ?_ | refine DrawP.go mixed rfl ?_ | refine Idx.intro i _ rfl r1 ?_ | refine hzr ?_)
                  conv => whnf
                  exact FinP.drop (n := 1) rfl (Nat.le_refl 1) rfl rfl ⟨Eq.trans (b := [Blk.cells [I (IntKind.i64.wrap (b.1 + 1)), I (b.2)]]) rfl (by rw [hw1]), rfl⟩
                · have o1' : ¬ (64 : Int) < IntKind.i64.wrap (b.1 + 1) := by rw [hw1]; exact o1
                  have o2 : (256 : Int) < b.2 := by
                    simp only [over, Bool.or_eq_true, decide_eq_true_eq] at ho; omega
                  repeat' (conv => whnf
                           first | refine Br.yes (decide_eq_true hlt) ?_ | refine Br.yes hz ?_ | refine Br.no (decide_eq_false o1') ?_ | refine Br.yes (decide_eq_true o2) ?_ | refine Br.tt ?_ | refine Br.ff ?_ | refine Br.dec (fun h => ?_) (fun h => ?_) | refine Br.not ?_ | refine Br.intro (fun h => ?_) (fun h => ?_) | refine GetE.intro _ rfl ?_ | refine Need.intro rfl ?_ | refine DrawP.go mixed rfl ?_ | refine Idx.intro i _ rfl r1 ?_ | refine hzr ?_)
                  conv => whnf
                  exact FinP.drop (n := 1) rfl (Nat.le_refl 1) rfl rfl ⟨Eq.trans (b := [Blk.cells [I (IntKind.i64.wrap (b.1 + 1)), I (b.2)]]) rfl (by rw [hw1]), rfl⟩
              · have hno := over_no (a := (b.1 + 1, b.2)) q0 q1 ho
                have ht : wTail (wF n) (.s x) d (b.1 + 1, b.2) = wF n (Fm.s x).parts (d + 1) (b.1 + 1, b.2) := by unfold wTail; rw [if_neg ho]
                rw [ht] at heq
                have o1 : ¬ (64 : Int) < b.1 + 1 := by have := hno.2.1; simp only at this; omega
                have o2 : ¬ (256 : Int) < b.2 := by have := hno.2.2.2; simp only at this; omega
                have o1' : ¬ (64 : Int) < IntKind.i64.wrap (b.1 + 1) := by rw [hw1]; exact o1
                have ihc := ih (Fm.s x).parts (d + 1) (b.1 + 1, b.2) hE hL ⟨hno.1, hno.2.2.1, by have := hno.2.1; simp only at this ⊢; omega, by have := hno.2.2.2; simp only at this ⊢; omega⟩
                have hqq := hq (Fm.s x).parts (d + 1) (b.1 + 1, b.2) hno.1 hno.2.2.1
                unfold WCall at ihc
                generalize hr : wF n (Fm.s x).parts (d + 1) (b.1 + 1, b.2) = r at *
                have ihc' : CallP C 54 [.ptr 0 0, .d (fms (Fm.s x).parts), I (IntKind.i64.wrap ((d : Int) + 1))] [.cells [I (IntKind.i64.wrap (b.1 + 1)), I (b.2)]] fun X L' => L' = [.cells [I r.2.1, I r.2.2]] ∧ X = B r.1 := by
                  rw [hw1, hwd]; exact ihc
                by_cases hr1 : r.1 = true
                · rw [if_pos hr1] at heq
                  have hbs : Bs r.2 := by
                    rcases hqq hr1 with ⟨_, e⟩ | e
                    · rw [e]; exact hno
                    · exact e
                  repeat' (conv => whnf
                           first | refine Br.yes (decide_eq_true hlt) ?_ | refine Br.yes hz ?_ | refine Br.no (decide_eq_false o1') ?_ | refine Br.no (decide_eq_false o2) ?_ | refine Br.yes hr1 ?_ | refine Br.tt ?_ | refine Br.ff ?_ | refine Br.dec (fun h => ?_) (fun h => ?_) | refine Br.not ?_ | refine Br.intro (fun h => ?_) (fun h => ?_) | refine GetE.intro _ rfl ?_ | refine Need.intro rfl ?_ | refine DrawP.go mixed rfl ?_ | refine Idx.intro i _ rfl r1 ?_ | refine hzr ?_ | refine MethP.intro _ meth_s ?_ | refine hpar ?_ | refine CallP.at1 (b := 0) ihc' rfl rfl rfl rfl ?_ rfl rfl rfl)
                  conv => whnf
                  exact ⟨(i + 1, r.2), ⟨hi', ⟨hbs.1, hbs.2.2.1, by have := hbs.2.1; simp only; omega, by have := hbs.2.2.2; simp only; omega⟩, heq⟩, by simp only; omega, Weak.to 1 rfl (Nat.le_refl 1) (Nat.le_of_ble_eq_true rfl) ⟨rfl, rfl, rfl, rfl, congrArg I hw, trivial⟩⟩
                · rw [if_neg hr1] at heq
                  have hr2 : r.1 = false := by simpa using hr1
                  rw [← heq]
                  repeat' (conv => whnf
                           first | refine Br.yes (decide_eq_true hlt) ?_ | refine Br.yes hz ?_ | refine Br.no (decide_eq_false o1') ?_ | refine Br.no (decide_eq_false o2) ?_ | refine Br.no hr2 ?_ | refine Br.tt ?_ | refine Br.ff ?_ | refine Br.dec (fun h => ?_) (fun h => ?_) | refine Br.not ?_ | refine Br.intro (fun h => ?_) (fun h => ?_) | refine GetE.intro _ rfl ?_ | refine Need.intro rfl ?_ | refine DrawP.go mixed rfl ?_ | refine Idx.intro i _ rfl r1 ?_ | refine hzr ?_ | refine MethP.intro _ meth_s ?_ | refine hpar ?_ | refine CallP.at1 (b := 0) ihc' rfl rfl rfl rfl ?_ rfl rfl rfl)
                  conv => whnf
                  exact FinP.drop (n := 1) rfl (Nat.le_refl 1) rfl rfl ⟨rfl, Eq.trans (b := B false) rfl (by rw [hr2])⟩
            · have hz' : isZ x.cond = false := by simpa using hz
              by_cases hr01 : r0.1 = true
              · have hst : wStep (wF n) (.s x) d b = wTail (wF n) (.s x) d (r0.2.1, r0.2.2) := by unfold wStep; simp only [if_neg hz, hr0, if_pos hr01]
                rw [hst] at heq
                have hb0 : Bs r0.2 := by
                  rcases hq0 hr01 with ⟨e, _⟩ | e
                  · cases e
                  · exact e
                by_cases ho : over (r0.2.1, r0.2.2) = true
                · have ht : wTail (wF n) (.s x) d (r0.2.1, r0.2.2) = (false, (r0.2.1, r0.2.2)) := by unfold wTail; rw [if_pos ho]
                  rw [ht, if_neg (show ¬ (false = true) by decide)] at heq
                  rw [← heq]
                  by_cases o1 : (64 : Int) < r0.2.1
                  · have o1' : (64 : Int) < r0.2.1 := by exact o1
                    repeat' (conv => whnf
                             first | refine Br.yes (decide_eq_true hlt) ?_ | refine Br.no hz' ?_ | refine Br.yes hr01 ?_ | refine Br.yes (decide_eq_true o1') ?_ | refine Br.tt ?_ | refine Br.ff ?_ | refine Br.dec (fun h => ?_) (fun h => ?_) | refine Br.not ?_ | refine Br.intro (fun h => ?_) (fun h => ?_) | refine GetE.intro _ rfl ?_ | refine Need.intro rfl ?_ | refine DrawP.go mixed rfl ?_ | refine Idx.intro i _ rfl r1 ?_ | refine hzr ?_ | refine CallP.freeze [3] rfl rfl (.keep (.cv (.d (.rowL (ds := [[.iface 75 true [DI x.cond.kind, DI x.cond.var, DI x.cond.n, cos x.cond.parts]]]) (List.mem_singleton.2 rfl) rfl (.cons (.cons (.d _) .nil) .nil) rfl (lenO _))) (.keep .nil))) (CallP.at1 (b := 0) ih0' rfl rfl rfl rfl ?_ rfl rfl rfl))
                    conv => whnf
                    exact FinP.drop (n := 1) rfl (Nat.le_refl 1) rfl rfl ⟨Eq.trans (b := [Blk.cells [I (r0.2.1), I (r0.2.2)]]) rfl (by rfl), rfl⟩
                  · have o1' : ¬ (64 : Int) < r0.2.1 := by exact o1
                    have o2 : (256 : Int) < r0.2.2 := by
                      simp only [over, Bool.or_eq_true, decide_eq_true_eq] at ho; omega
                    repeat' (conv => whnf
                             first | refine Br.yes (decide_eq_true hlt) ?_ | refine Br.no hz' ?_ | refine Br.yes hr01 ?_ | refine Br.no (decide_eq_false o1') ?_ | refine Br.yes (decide_eq_true o2) ?_ | refine Br.tt ?_ | refine Br.ff ?_ | refine Br.dec (fun h => ?_) (fun h => ?_) | refine Br.not ?_ | refine Br.intro (fun h => ?_) (fun h => ?_) | refine GetE.intro _ rfl ?_ | refine Need.intro rfl ?_ | refine DrawP.go mixed rfl ?_ | refine Idx.intro i _ rfl r1 ?_ | refine hzr ?_ | refine CallP.freeze [3] rfl rfl (.keep (.cv (.d (.rowL (ds := [[.iface 75 true [DI x.cond.kind, DI x.cond.var, DI x.cond.n, cos x.cond.parts]]]) (List.mem_singleton.2 rfl) rfl (.cons (.cons (.d _) .nil) .nil) rfl (lenO _))) (.keep .nil))) (CallP.at1 (b := 0) ih0' rfl rfl rfl rfl ?_ rfl rfl rfl))
                    conv => whnf
                    exact FinP.drop (n := 1) rfl (Nat.le_refl 1) rfl rfl ⟨Eq.trans (b := [Blk.cells [I (r0.2.1), I (r0.2.2)]]) rfl (by rfl), rfl⟩
                · have hno := over_no (a := (r0.2.1, r0.2.2)) hb0.1 hb0.2.2.1 ho
                  have ht : wTail (wF n) (.s x) d (r0.2.1, r0.2.2) = wF n (Fm.s x).parts (d + 1) (r0.2.1, r0.2.2) := by unfold wTail; rw [if_neg ho]
                  rw [ht] at heq
                  have o1 : ¬ (64 : Int) < r0.2.1 := by have := hno.2.1; simp only at this; omega
                  have o2 : ¬ (256 : Int) < r0.2.2 := by have := hno.2.2.2; simp only at this; omega
                  have o1' : ¬ (64 : Int) < r0.2.1 := by exact o1
                  have ihc := ih (Fm.s x).parts (d + 1) (r0.2.1, r0.2.2) hE hL ⟨hno.1, hno.2.2.1, by have := hno.2.1; simp only at this ⊢; omega, by have := hno.2.2.2; simp only at this ⊢; omega⟩
                  have hqq := hq (Fm.s x).parts (d + 1) (r0.2.1, r0.2.2) hno.1 hno.2.2.1
                  unfold WCall at ihc
                  generalize hr : wF n (Fm.s x).parts (d + 1) (r0.2.1, r0.2.2) = r at *
                  have ihc' : CallP C 54 [.ptr 0 0, .d (fms (Fm.s x).parts), I (IntKind.i64.wrap ((d : Int) + 1))] [.cells [I (r0.2.1), I (r0.2.2)]] fun X L' => L' = [.cells [I r.2.1, I r.2.2]] ∧ X = B r.1 := by
                    rw [hwd]; exact ihc
                  by_cases hr1 : r.1 = true
                  · rw [if_pos hr1] at heq
                    have hbs : Bs r.2 := by
                      rcases hqq hr1 with ⟨_, e⟩ | e
                      · rw [e]; exact hno
                      · exact e
                    repeat' (conv => whnf
                             first | refine Br.yes (decide_eq_true hlt) ?_ | refine Br.no hz' ?_ | refine Br.yes hr01 ?_ | refine Br.no (decide_eq_false o1') ?_ | refine Br.no (decide_eq_false o2) ?_ | refine Br.yes hr1 ?_ | refine Br.tt ?_ | refine Br.ff ?_ | refine Br.dec (fun h => ?_) (fun h => ?_) | refine Br.not ?_ | refine Br.intro (fun h => ?_) (fun h => ?_) | refine GetE.intro _ rfl ?_ | refine Need.intro rfl ?_ | refine DrawP.go mixed rfl ?_ | refine Idx.intro i _ rfl r1 ?_ | refine hzr ?_ | refine CallP.freeze [3] rfl rfl (.keep (.cv (.d (.rowL (ds := [[.iface 75 true [DI x.cond.kind, DI x.cond.var, DI x.cond.n, cos x.cond.parts]]]) (List.mem_singleton.2 rfl) rfl (.cons (.cons (.d _) .nil) .nil) rfl (lenO _))) (.keep .nil))) (CallP.at1 (b := 0) ih0' rfl rfl rfl rfl ?_ rfl rfl rfl) | refine MethP.intro _ meth_s ?_ | refine hpar ?_ | refine CallP.at1 (b := 0) ihc' rfl rfl rfl rfl ?_ rfl rfl rfl)
                    conv => whnf
                    exact ⟨(i + 1, r.2), ⟨hi', ⟨hbs.1, hbs.2.2.1, by have := hbs.2.1; simp only; omega, by have := hbs.2.2.2; simp only; omega⟩, heq⟩, by simp only; omega, Weak.to 1 rfl (Nat.le_refl 1) (Nat.le_of_ble_eq_true rfl) ⟨rfl, rfl, rfl, rfl, congrArg I hw, trivial⟩⟩
                  · rw [if_neg hr1] at heq
                    have hr2 : r.1 = false := by simpa using hr1
                    rw [← heq]
                    repeat' (conv => whnf
                             first | refine Br.yes (decide_eq_true hlt) ?_ | refine Br.no hz' ?_ | refine Br.yes hr01 ?_ | refine Br.no (decide_eq_false o1') ?_ | refine Br.no (decide_eq_false o2) ?_ | refine Br.no hr2 ?_ | refine Br.tt ?_ | refine Br.ff ?_ | refine Br.dec (fun h => ?_) (fun h => ?_) | refine Br.not ?_ | refine Br.intro (fun h => ?_) (fun h => ?_) | refine GetE.intro _ rfl ?_ | refine Need.intro rfl ?_ | refine DrawP.go mixed rfl ?_ | refine Idx.intro i _ rfl r1 ?_ | refine hzr ?_ | refine CallP.freeze [3] rfl rfl (.keep (.cv (.d (.rowL (ds := [[.iface 75 true [DI x.cond.kind, DI x.cond.var, DI x.cond.n, cos x.cond.parts]]]) (List.mem_singleton.2 rfl) rfl (.cons (.cons (.d _) .nil) .nil) rfl (lenO _))) (.keep .nil))) (CallP.at1 (b := 0) ih0' rfl rfl rfl rfl ?_ rfl rfl rfl) | refine MethP.intro _ meth_s ?_ | refine hpar ?_ | refine CallP.at1 (b := 0) ihc' rfl rfl rfl rfl ?_ rfl rfl rfl)
                    conv => whnf
                    exact FinP.drop (n := 1) rfl (Nat.le_refl 1) rfl rfl ⟨rfl, Eq.trans (b := B false) rfl (by rw [hr2])⟩
              · have hr02 : r0.1 = false := by simpa using hr01
                have hst : wStep (wF n) (.s x) d b = r0 := by unfold wStep; simp only [if_neg hz, hr0, if_neg hr01]
                rw [hst, if_neg hr01] at heq
                rw [← heq]
                repeat' (conv => whnf
                         first | refine Br.yes (decide_eq_true hlt) ?_ | refine Br.no hz' ?_ | refine Br.no hr02 ?_ | refine Br.tt ?_ | refine Br.ff ?_ | refine Br.dec (fun h => ?_) (fun h => ?_) | refine Br.not ?_ | refine Br.intro (fun h => ?_) (fun h => ?_) | refine GetE.intro _ rfl ?_ | refine Need.intro rfl ?_ | refine DrawP.go mixed rfl ?_ | refine Idx.intro i _ rfl r1 ?_ | refine hzr ?_ | refine CallP.freeze [3] rfl rfl (.keep (.cv (.d (.rowL (ds := [[.iface 75 true [DI x.cond.kind, DI x.cond.var, DI x.cond.n, cos x.cond.parts]]]) (List.mem_singleton.2 rfl) rfl (.cons (.cons (.d _) .nil) .nil) rfl (lenO _))) (.keep .nil))) (CallP.at1 (b := 0) ih0' rfl rfl rfl rfl ?_ rfl rfl rfl))
                conv => whnf
                exact FinP.drop (n := 1) rfl (Nat.le_refl 1) rfl rfl ⟨rfl, Eq.trans (b := B false) rfl (by rw [hr02])⟩
        · have hlt : ¬ (i : Int) < (l.length : Int) := by omega
          have hde : l.drop i = [] := List.drop_of_length_le (by omega)
          rw [hde] at heq
          repeat' (conv => whnf
                   first | refine Br.no (decide_eq_false hlt) ?_ | refine Br.tt ?_ | refine Br.ff ?_ | refine Br.dec (fun h => ?_) (fun h => ?_) | refine Br.not ?_ | refine Br.intro (fun h => ?_) (fun h => ?_) | refine GetE.intro _ rfl ?_ | refine Need.intro rfl ?_ | refine DrawP.go mixed rfl ?_)
          conv => whnf
          rw [← heq]
          exact FinP.same ⟨rfl, rfl⟩
end Go.Proofs.YtddolfgmkpfmcaaDoor
