/-
  typing: what forms consist of.
-/
import Derived.Test.YtddolfgmkpfmcaaDoorTypA
namespace Go.Proofs.YtddolfgmkpfmcaaDoor
open Go.Tidy
set_option maxRecDepth 100000
set_option maxHeartbeats 0
set_option linter.unusedSimpArgs false
set_option linter.unusedVariables false
variable {L : List Blk} {k : V → List Blk → Prop}
theorem Fm.c_d (c : Co) : (Fm.c c).d = .iface 75 true [DI c.kind, DI c.var, DI c.n, cos c.parts] := by
  show D.iface 75 true c.cells = _
  rw [Co.cells_eq]
theorem Fm.s_d (s : Sp) : (Fm.s s).d = .iface 94 true [DI s.kind, DI s.by_, DI s.cond.kind, DI s.cond.var, DI s.cond.n, cos s.cond.parts, sps s.thn, sps s.els] := by
  show D.iface 94 true s.cells = _
  rw [Sp.cells_eq]
theorem rdF_next (x : List Fm) (d : D) (f : Fm) (hd : f.d = d) : [Blk.row (x.length + 1) 1 ((rdF x).take x.length ++ [[.d d]])] = [Blk.row (x ++ [f]).length 1 (rdF (x ++ [f]))] := by
  rw [List.take_of_length_le (by unfold rdF; rw [List.length_map]; exact Nat.le_refl _), List.length_append, ← hd]
  unfold rdF
  rw [List.map_append]; rfl
theorem conds_o (l : List Co) (hl : l.length ≤ 4398046511104) : CallP C 69 [.d (cos l)] [] fun X L => L = [.row l.length 1 (rdF (l.map .c))] ∧ X = .own 0 l.length 0 l.length := by
  refine callP_of C_ok Tryd.func69 rfl rfl (n := _) rfl (Nat.le_of_ble_eq_true rfl) (rs := _) rfl ?_
  conv => whnf
  refine LoopP.inv (fun i => i ≤ l.length) (fun i => ⟨[(2, .own 0 ((l.take i).map Fm.c).length 0 ((l.take i).map Fm.c).length), (5, .d (cos l)), (6, I l.length), (7, I i)], Tryd.f69.ntmps, [.row ((l.take i).map Fm.c).length 1 (rdF ((l.take i).map Fm.c))], [], none⟩) (fun i => l.length - i) 0 (Nat.zero_le _) ?_ ?_
  · exact (Weak.nilOwn 2 1 rfl (by decide)).trans (Weak.by ⟨rfl, rfl, congrArg I (by simp), rfl, trivial⟩)
  intro i hi
  obtain ⟨x, hx⟩ : ∃ x, x = (l.take i).map Fm.c := ⟨_, rfl⟩
  have hxl : x.length = i := by rw [hx, List.length_map, List.length_take]; omega
  rw [← hx]
  by_cases hi' : i < l.length
  · have hlt : (i : Int) < (l.length : Int) := by omega
    have hw : IntKind.i64.wrap ((i : Int) + 1) = ((i + 1 : Nat) : Int) := by rw [wrap_in (by omega)]; omega
    have r1 : (l.map Co.cells)[i]? = some [DI l[i].kind, DI l[i].var, DI l[i].n, cos l[i].parts] := by rw [List.getElem?_map, List.getElem?_eq_getElem hi', ← Co.cells_eq]; rfl
    have hnx : (l.take (i + 1)).map Fm.c = x ++ [.c l[i]] := by rw [hx, take_next hi', List.map_append]; rfl
    have hcn := rdF_next x (.iface 75 true [DI l[i].kind, DI l[i].var, DI l[i].n, cos l[i].parts]) (.c l[i]) (Fm.c_d _)
    rw [← hnx] at hcn
    have hln : ((l.take (i + 1)).map Fm.c).length = x.length + 1 := by rw [hnx, List.length_append]; rfl
    repeat' (conv => whnf
             first | refine Br.yes (decide_eq_true hlt) ?_ | refine Idx.intro i _ rfl r1 ?_ | simp only [Nat.beq_refl, Bool.and_self] | refine Need.intro (show x.length + 1 ≤ 8796093022208 by omega) ?_ | refine Br.tt ?_ | refine Br.ff ?_ | refine Br.dec (fun h => ?_) (fun h => ?_) | refine Br.not ?_ | refine Br.intro (fun h => ?_) (fun h => ?_) | refine GetE.intro _ rfl ?_ | refine Need.intro rfl ?_ | refine DrawP.go mixed rfl ?_)
    conv => whnf
    exact ⟨i + 1, hi', by omega, Weak.to 1 (Eq.trans rfl hcn) (Nat.zero_le _) (Nat.le_of_ble_eq_true rfl) ⟨(by rw [hln]; rfl), rfl, rfl, congrArg I hw, trivial⟩ (hB := by show (belR 1 (rdF _) && true) = true; rw [rdF_bel]; rfl)⟩
  · have hlt : ¬ (i : Int) < (l.length : Int) := by omega
    have hxx : x = l.map Fm.c := by rw [hx, List.take_of_length_le (by omega)]
    have hxl2 : x.length = l.length := by omega
    repeat' (conv => whnf
             first | refine Br.no (decide_eq_false hlt) ?_ | refine Br.tt ?_ | refine Br.ff ?_ | refine Br.dec (fun h => ?_) (fun h => ?_) | refine Br.not ?_ | refine Br.intro (fun h => ?_) (fun h => ?_) | refine GetE.intro _ rfl ?_ | refine Need.intro rfl ?_ | refine DrawP.go mixed rfl ?_)
    conv => whnf
    exact FinP.same ⟨Eq.trans (b := [.row x.length 1 (rdF x)]) rfl (by rw [hxl2, hxx]), Eq.trans (b := V.own 0 x.length 0 x.length) rfl (by rw [hxl2])⟩
theorem steps_o (l : List Sp) (hl : l.length ≤ 4398046511104) : CallP C 42 [.d (sps l)] [] fun X L => L = [.row l.length 1 (rdF (l.map .s))] ∧ X = .own 0 l.length 0 l.length := by
  refine callP_of C_ok Tryd.func42 rfl rfl (n := _) rfl (Nat.le_of_ble_eq_true rfl) (rs := _) rfl ?_
  conv => whnf
  refine LoopP.inv (fun i => i ≤ l.length) (fun i => ⟨[(2, .own 0 ((l.take i).map Fm.s).length 0 ((l.take i).map Fm.s).length), (5, .d (sps l)), (6, I l.length), (7, I i)], Tryd.f42.ntmps, [.row ((l.take i).map Fm.s).length 1 (rdF ((l.take i).map Fm.s))], [], none⟩) (fun i => l.length - i) 0 (Nat.zero_le _) ?_ ?_
  · exact (Weak.nilOwn 2 1 rfl (by decide)).trans (Weak.by ⟨rfl, rfl, congrArg I (by simp), rfl, trivial⟩)
  intro i hi
  obtain ⟨x, hx⟩ : ∃ x, x = (l.take i).map Fm.s := ⟨_, rfl⟩
  have hxl : x.length = i := by rw [hx, List.length_map, List.length_take]; omega
  rw [← hx]
  by_cases hi' : i < l.length
  · have hlt : (i : Int) < (l.length : Int) := by omega
    have hw : IntKind.i64.wrap ((i : Int) + 1) = ((i + 1 : Nat) : Int) := by rw [wrap_in (by omega)]; omega
    have r1 : (l.map Sp.cells)[i]? = some [DI l[i].kind, DI l[i].by_, DI l[i].cond.kind, DI l[i].cond.var, DI l[i].cond.n, cos l[i].cond.parts, sps l[i].thn, sps l[i].els] := by rw [List.getElem?_map, List.getElem?_eq_getElem hi', ← Sp.cells_eq]; rfl
    have hnx : (l.take (i + 1)).map Fm.s = x ++ [.s l[i]] := by rw [hx, take_next hi', List.map_append]; rfl
    have hcn := rdF_next x (.iface 94 true [DI l[i].kind, DI l[i].by_, DI l[i].cond.kind, DI l[i].cond.var, DI l[i].cond.n, cos l[i].cond.parts, sps l[i].thn, sps l[i].els]) (.s l[i]) (Fm.s_d _)
    rw [← hnx] at hcn
    have hln : ((l.take (i + 1)).map Fm.s).length = x.length + 1 := by rw [hnx, List.length_append]; rfl
    repeat' (conv => whnf
             first | refine Br.yes (decide_eq_true hlt) ?_ | refine Idx.intro i _ rfl r1 ?_ | simp only [Nat.beq_refl, Bool.and_self] | refine Need.intro (show x.length + 1 ≤ 8796093022208 by omega) ?_ | refine Br.tt ?_ | refine Br.ff ?_ | refine Br.dec (fun h => ?_) (fun h => ?_) | refine Br.not ?_ | refine Br.intro (fun h => ?_) (fun h => ?_) | refine GetE.intro _ rfl ?_ | refine Need.intro rfl ?_ | refine DrawP.go mixed rfl ?_)
    conv => whnf
    exact ⟨i + 1, hi', by omega, Weak.to 1 (Eq.trans rfl hcn) (Nat.zero_le _) (Nat.le_of_ble_eq_true rfl) ⟨(by rw [hln]; rfl), rfl, rfl, congrArg I hw, trivial⟩ (hB := by show (belR 1 (rdF _) && true) = true; rw [rdF_bel]; rfl)⟩
  · have hlt : ¬ (i : Int) < (l.length : Int) := by omega
    have hxx : x = l.map Fm.s := by rw [hx, List.take_of_length_le (by omega)]
    have hxl2 : x.length = l.length := by omega
    repeat' (conv => whnf
             first | refine Br.no (decide_eq_false hlt) ?_ | refine Br.tt ?_ | refine Br.ff ?_ | refine Br.dec (fun h => ?_) (fun h => ?_) | refine Br.not ?_ | refine Br.intro (fun h => ?_) (fun h => ?_) | refine GetE.intro _ rfl ?_ | refine Need.intro rfl ?_ | refine DrawP.go mixed rfl ?_)
    conv => whnf
    exact FinP.same ⟨Eq.trans (b := [.row x.length 1 (rdF x)]) rfl (by rw [hxl2, hxx]), Eq.trans (b := V.own 0 x.length 0 x.length) rfl (by rw [hxl2])⟩
/-- An own row of forms, read as data. -/
theorem rowF_data {n : Nat} {x : List Fm} (hn : n = x.length) (h : k (.d (fms x)) []) : FinP 0 (.own 0 n 0 n) [.row n 1 (rdF x)] k := by
  subst hn
  exact FinP.data (L' := []) (.d (.rowL (ds := x.map fun f : Fm => [f.d]) (Nat.zero_le _) rfl (rdF_rows' x) (by simp) (rdF_e x))) rfl rfl h
theorem conds_c (l : List Co) (hl : l.length ≤ 4398046511104) (h : k (.d (fms (l.map .c))) L) : CallP C 69 [.d (cos l)] L k := by
  refine CallP.pure (callP_fin (conds_o l hl) fun X L' h => ?_) rfl (fun _ => rfl) h
  obtain ⟨rfl, rfl⟩ := h
  exact ⟨Nat.zero_le _, rowF_data (by simp) ⟨rfl, rfl⟩⟩
theorem steps_c (l : List Sp) (hl : l.length ≤ 4398046511104) (h : k (.d (fms (l.map .s))) L) : CallP C 42 [.d (sps l)] L k := by
  refine CallP.pure (callP_fin (steps_o l hl) fun X L' h => ?_) rfl (fun _ => rfl) h
  obtain ⟨rfl, rfl⟩ := h
  exact ⟨Nat.zero_le _, rowF_data (by simp) ⟨rfl, rfl⟩⟩
theorem steps_f (l : List Sp) (hl : l.length ≤ 4398046511104) (h : k (.own L.length l.length 0 l.length) (L ++ [.row l.length 1 (rdF (l.map .s))])) : CallP C 42 [.d (sps l)] L k := by
  refine CallP.frame (steps_o l hl) rfl ?_
  rintro X L' ⟨rfl, rfl⟩
  show k (.own (0 + L.length) l.length 0 l.length) (L ++ [(Blk.row l.length 1 (rdF (l.map .s))).sh L.length])
  rw [rdF_shB, Nat.zero_add]; exact h
theorem cparts_c (c : Co) (hl : c.parts.length ≤ 4398046511104) (h : k (.d (fms (Fm.c c).parts)) L) : CallP C 67 [.agg (c.cells.map .d)] L k := by
  rw [Co.cells_eq]
  refine CallP.pure ?_ rfl (fun _ => rfl) h
  clear h
  refine callP_of C_ok Tryd.func67 rfl rfl (n := _) rfl (Nat.le_of_ble_eq_true rfl) (rs := _) rfl ?_
  conv => whnf
  refine conds_c c.parts hl ?_
  repeat' (conv => whnf
           first | refine Br.tt ?_ | refine Br.ff ?_ | refine Br.dec (fun h => ?_) (fun h => ?_) | refine Br.not ?_ | refine Br.intro (fun h => ?_) (fun h => ?_) | refine GetE.intro _ rfl ?_ | refine Need.intro rfl ?_ | refine DrawP.go mixed rfl ?_)
  conv => whnf
  exact FinP.drop (n := 0) rfl (Nat.le_refl 0) rfl rfl ⟨rfl, rfl⟩
theorem sp_len (s : Sp) (h1 : s.thn.length ≤ 4398046511104) (h2 : s.els.length ≤ 4398046511104) : s.thn.length + (((s.els.map Fm.s).map fun f => [f.d]).map fun x => x.map V.d).length ≤ 8796093022208 := by
  simp only [List.length_map]; omega
theorem sp_rows (s : Sp) : (rdF (s.thn.map .s)).take s.thn.length ++ (((s.els.map Fm.s).map fun f => [f.d]).map fun x => x.map V.d) = rdF (Fm.s s).parts := by
  rw [List.take_of_length_le (by unfold rdF; simp)]
  unfold rdF
  show _ = ((s.thn ++ s.els).map Fm.s).map fun f => [V.d f.d]
  rw [List.map_append, List.map_append, List.map_map]
  congr 1
  rw [List.map_map]; rfl
theorem sparts_c (s : Sp) (h1 : s.thn.length ≤ 4398046511104) (h2 : s.els.length ≤ 4398046511104) (h : k (.d (fms (Fm.s s).parts)) L) : CallP C 68 [.agg (s.cells.map .d)] L k := by
  rw [Sp.cells_eq]
  refine CallP.pure ?_ rfl (fun _ => rfl) h
  clear h
  refine callP_of C_ok Tryd.func68 rfl rfl (n := _) rfl (Nat.le_of_ble_eq_true rfl) (rs := _) rfl ?_
  conv => whnf
  refine DrawP.por mixed [2, 3, 6, 7] [[(0, 0), (1, 0), (4, 0), (5, 0), (2, 2), (3, 2), (6, 2), (7, 2), (8, 0), (9, 0)], [(0, 0), (1, 0), (4, 0), (5, 0), (2, 2), (6, 2), (3, 2), (7, 2), (8, 0), (9, 0)], [(0, 0), (1, 0), (4, 0), (5, 0), (6, 2), (2, 2), (3, 2), (7, 2), (8, 0), (9, 0)]] (by kernel_rfl) ?_
  conv => whnf
  refine And.intro ?_ ?_
  rotate_left 1
  conv => whnf
  refine And.intro ?_ ?_
  all_goals
    repeat' (conv => whnf
             first | refine QCallW.intro (.d (sps s.thn)) _ ⟨rfl, rfl⟩ ?_ | refine QCallW.intro (.d (sps s.els)) _ ⟨rfl, rfl⟩ ?_ | refine QCallW.intro _ _ (steps_f s.thn h1 ⟨rfl, rfl⟩) ?_ | refine QCallW.intro _ _ (steps_c s.els h2 ⟨rfl, rfl⟩) ?_ | refine Need.intro (rdF_e _) ?_ | refine Need.intro (sp_len s h1 h2) ?_ | simp only [Nat.beq_refl, Bool.and_self] | refine Br.tt ?_ | refine Br.ff ?_ | refine Br.dec (fun h => ?_) (fun h => ?_) | refine Br.not ?_ | refine Br.intro (fun h => ?_) (fun h => ?_) | refine GetE.intro _ rfl ?_ | refine Need.intro rfl ?_ | refine DrawP.go mixed rfl ?_)
  all_goals conv => whnf
  all_goals refine FinP.data (L' := []) (.d (.rowL (gen := s.thn.length + 1) (sz := 1) (els := (rdF (s.thn.map .s)).take s.thn.length ++ (((s.els.map Fm.s).map fun f => [f.d]).map fun x => x.map V.d)) (ds := (Fm.s s).parts.map fun f : Fm => [f.d]) (Nat.zero_le _) rfl ?_ ?_ (rdF_e _))) rfl rfl ⟨rfl, rfl⟩
  all_goals first
    | (rw [sp_rows, List.drop_zero, List.take_of_length_le (by unfold rdF Fm.parts; simp)]; exact rdF_rows _)
    | (unfold Fm.parts; simp)
end Go.Proofs.YtddolfgmkpfmcaaDoor
