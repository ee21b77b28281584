/-
  The statement TypingOnce.
-/
import Derived.Test.YtddolfgmkpfmcaaDoorTypZA
namespace Go.Proofs.YtddolfgmkpfmcaaDoor.typingOnce
open Go.Tidy Go.ChangeShapes Go.WideShapes Go.ChangeAt Go.RowKit
set_option maxRecDepth 100000
set_option maxHeartbeats 0
set_option linter.unusedSimpArgs false
set_option linter.unusedVariables false
theorem sps_e (l : List Sp) : ∀ e ∈ l.map Sp.cells, e.length = 8 := fun e he => by
  obtain ⟨s, _, rfl⟩ := List.mem_map.1 he
  rw [Sp.cells_eq]; rfl
theorem cvll_data {S : Nat → Prop} {L : List Blk} : ∀ ys : List (List D), CvLL S L (ys.map fun x => x.map V.d) ys
  | [] => .nil
  | y :: ys => .cons (CvL.data y) (cvll_data ys)
theorem ap8 {S : Nat → Prop} {L : List Blk} (l m : List Sp) : CvLL S L (((((([] : List (List V)).take 0) ++ ((l.map Sp.cells).map fun x => x.map V.d)).take (0 + ((l.map Sp.cells).map fun x => x.map V.d).length) ++ ((m.map Sp.cells).map fun x => x.map V.d)).drop 0).take (0 + ((l.map Sp.cells).map fun x => x.map V.d).length + ((m.map Sp.cells).map fun x => x.map V.d).length)) ((l ++ m).map Sp.cells) := by
  have e : ((l ++ m).map Sp.cells) = l.map Sp.cells ++ m.map Sp.cells := List.map_append
  rw [e]
  generalize l.map Sp.cells = p
  generalize m.map Sp.cells = q
  simp only [List.take_nil, List.nil_append, Nat.zero_add, List.take_length, List.drop_zero]
  rw [List.take_of_length_le (by simp), ← List.map_append]
  exact cvll_data _
theorem ap8n (l m : List Sp) : 0 + ((l.map Sp.cells).map fun x => x.map V.d).length + ((m.map Sp.cells).map fun x => x.map V.d).length = ((l ++ m).map Sp.cells).length := by simp
theorem ap8l (l : List Sp) : ((l.map Sp.cells).map fun x => x.map V.d).length = l.length := by simp
theorem direct_zero {l : List Sp} {y : En} (h : directE l y = 0) : orderF l = 0 := by
  by_cases ho : orderF l = 0
  · exact ho
  · rw [(direct_no ho).2] at h; exact h
theorem law (l m : List Sp) (n : Int) (hl : LSs l) (hm : LSs m) : CallP C 6 [.d (sps l), .d (sps m), I n] [] fun X L => L = [] ∧ X = .d (.bool true) := by
  have f1 : ∀ {L : List Blk} {k : V → List Blk → Prop}, k (B (fewB l)) L → CallP C 11 [.d (sps l)] L k := fun h => few_c _ hl h
  have f1m : ∀ {L : List Blk} {k : V → List Blk → Prop}, k (B (fewB m)) L → CallP C 11 [.d (sps m)] L k := fun h => few_c _ hm h
  obtain ⟨y, hy⟩ : ∃ y, y = En.at (envN n) := ⟨_, rfl⟩
  have hy0 : envE y = 0 := by rw [hy]; exact envAt_ok n
  have f3 : ∀ {L : List Blk} {k : V → List Blk → Prop}, k (enV y) L → CallP C 23 [I n] L k := fun h => env14_c n (by rw [← hy]; exact h)
  refine callP_of C_ok Tryd.func6 rfl rfl (n := _) rfl (Nat.le_of_ble_eq_true rfl) (rs := _) rfl ?_
  cases h1 : fewB l with
  | false =>
    rw [h1] at f1
    repeat' (conv => whnf
             first | refine Br.tt ?_ | refine Br.ff ?_ | refine Br.dec (fun h => ?_) (fun h => ?_) | refine Br.not ?_ | refine Br.intro (fun h => ?_) (fun h => ?_) | refine GetE.intro _ rfl ?_ | refine Need.intro rfl ?_ | refine DrawP.go mixed rfl ?_ | refine sane_c ?_ | refine f1 ?_)
    conv => whnf
    exact FinP.drop (n := 0) rfl (Nat.le_refl 0) rfl rfl ⟨rfl, rfl⟩
  | true =>
  rw [h1] at f1
  cases h2 : fewB m with
  | false =>
    rw [h2] at f1m
    repeat' (conv => whnf
             first | refine Br.tt ?_ | refine Br.ff ?_ | refine Br.dec (fun h => ?_) (fun h => ?_) | refine Br.not ?_ | refine Br.intro (fun h => ?_) (fun h => ?_) | refine GetE.intro _ rfl ?_ | refine Need.intro rfl ?_ | refine DrawP.go mixed rfl ?_ | refine sane_c ?_ | refine f1 ?_ | refine f1m ?_)
    conv => whnf
    exact FinP.drop (n := 0) rfl (Nat.le_refl 0) rfl rfl ⟨rfl, rfl⟩
  | true =>
  rw [h2] at f1m
  have nl := few_len h1
  have nm := few_len h2
  have hlm : LSs (l ++ m) := lss_app hl hm (by omega)
  obtain ⟨a, ha⟩ : ∃ a, a = directB l y := ⟨_, rfl⟩
  obtain ⟨e, he⟩ : ∃ a, a = directE l y := ⟨_, rfl⟩
  obtain ⟨b, hb⟩ : ∃ a, a = directB m y := ⟨_, rfl⟩
  obtain ⟨f, hf⟩ : ∃ a, a = directE m y := ⟨_, rfl⟩
  obtain ⟨c, hc⟩ : ∃ a, a = directB (l ++ m) y := ⟨_, rfl⟩
  obtain ⟨g, hg⟩ : ∃ a, a = directE (l ++ m) y := ⟨_, rfl⟩
  have d1 : ∀ {L : List Blk} {k : V → List Blk → Prop}, k (.tup [.d (ins a), I e]) L → CallP C 24 [.d (sps l), enV y] L k := fun h => Direct_c l y hl (order_dsp hl) (by rw [← ha, ← he]; exact h)
  have d2 : ∀ {L : List Blk} {k : V → List Blk → Prop}, k (.tup [.d (ins b), I f]) L → CallP C 24 [.d (sps m), enV y] L k := fun h => Direct_c m y hm (order_dsp hm) (by rw [← hb, ← hf]; exact h)
  have d3 : ∀ {L : List Blk} {k : V → List Blk → Prop}, k (.tup [.d (ins c), I g]) L → CallP C 24 [.d (sps (l ++ m)), enV y] L k := fun h => Direct_c (l ++ m) y hlm (order_dsp hlm) (by rw [← hc, ← hg]; exact h)
  repeat' (conv => whnf
           first | refine Br.tt ?_ | refine Br.ff ?_ | refine Br.dec (fun h => ?_) (fun h => ?_) | refine Br.not ?_ | refine Br.intro (fun h => ?_) (fun h => ?_) | refine GetE.intro _ rfl ?_ | refine Need.intro rfl ?_ | refine DrawP.go mixed rfl ?_ | refine sane_c ?_ | refine f1 ?_ | refine f1m ?_ | refine f3 ?_ | refine d1 ?_ | refine d2 ?_)
  conv => whnf
  refine DrawP.por mixed [6] [[(1, 0), (3, 0), (5, 4), (0, 0), (2, 0), (4, 0), (6, 2), (7, 0), (8, 0), (9, 0), (10, 0), (11, 0)]] (by kernel_rfl) ?_
  have n1 : 0 + ((l.map Sp.cells).map fun x => x.map V.d).length ≤ 40 := by rw [ap8l]; omega
  have n2 : 0 + ((l.map Sp.cells).map fun x => x.map V.d).length + ((m.map Sp.cells).map fun x => x.map V.d).length ≤ 40 := by rw [ap8l, ap8l]; omega
  by_cases e0 : e = 0
  rotate_left
  · repeat' (conv => whnf
             first | refine Br.no (decide_eq_false e0) ?_ | refine Br.tt ?_ | refine Br.ff ?_ | refine Br.dec (fun h => ?_) (fun h => ?_) | refine Br.not ?_ | refine Br.intro (fun h => ?_) (fun h => ?_) | refine GetE.intro _ rfl ?_ | refine Need.intro rfl ?_ | refine DrawP.go mixed rfl ?_ | refine Need.intro (sps_e l) ?_ | refine Need.intro (sps_e m) ?_ | refine Need.intro (Nat.le_trans n1 (Nat.le_of_ble_eq_true rfl)) ?_ | refine Need.intro (Nat.le_trans n2 (Nat.le_of_ble_eq_true rfl)) ?_ | refine QCallW.intro _ _ (CallP.freeze [1] rfl rfl (.cv (y := .d (sps (l ++ m))) (.d (.rowL (ds := (l ++ m).map Sp.cells) (List.mem_singleton.2 rfl) rfl (ap8 l m) (ap8n l m) (sps_e _))) (.keep .nil)) (d3 ⟨rfl, rfl⟩)) ?_)
    conv => whnf
    exact FinP.drop (n := 0) rfl (Nat.zero_le _) rfl rfl ⟨rfl, rfl⟩
  by_cases f0 : f = 0
  rotate_left
  · repeat' (conv => whnf
             first | refine Br.yes (decide_eq_true e0) ?_ | refine Br.no (decide_eq_false f0) ?_ | refine Br.tt ?_ | refine Br.ff ?_ | refine Br.dec (fun h => ?_) (fun h => ?_) | refine Br.not ?_ | refine Br.intro (fun h => ?_) (fun h => ?_) | refine GetE.intro _ rfl ?_ | refine Need.intro rfl ?_ | refine DrawP.go mixed rfl ?_ | refine Need.intro (sps_e l) ?_ | refine Need.intro (sps_e m) ?_ | refine Need.intro (Nat.le_trans n1 (Nat.le_of_ble_eq_true rfl)) ?_ | refine Need.intro (Nat.le_trans n2 (Nat.le_of_ble_eq_true rfl)) ?_ | refine QCallW.intro _ _ (CallP.freeze [1] rfl rfl (.cv (y := .d (sps (l ++ m))) (.d (.rowL (ds := (l ++ m).map Sp.cells) (List.mem_singleton.2 rfl) rfl (ap8 l m) (ap8n l m) (sps_e _))) (.keep .nil)) (d3 ⟨rfl, rfl⟩)) ?_)
    conv => whnf
    exact FinP.drop (n := 0) rfl (Nat.zero_le _) rfl rfl ⟨rfl, rfl⟩
  have ol : orderF l = 0 := direct_zero (he.symm.trans e0)
  have om : orderF m = 0 := direct_zero (hf.symm.trans f0)
  by_cases g0 : g = 0
  rotate_left
  · have g2 : g = 2 := by
      have h3 : orderF (l ++ m) ≠ 0 := fun h => g0 (hg.trans (direct_ok h hy0).2)
      rw [hg, (direct_no h3).2]; exact order_app ol om h3
    repeat' (conv => whnf
             first | refine Br.yes (decide_eq_true e0) ?_ | refine Br.yes (decide_eq_true f0) ?_ | refine Br.no (decide_eq_false g0) ?_ | refine Br.tt ?_ | refine Br.ff ?_ | refine Br.dec (fun h => ?_) (fun h => ?_) | refine Br.not ?_ | refine Br.intro (fun h => ?_) (fun h => ?_) | refine GetE.intro _ rfl ?_ | refine Need.intro rfl ?_ | refine DrawP.go mixed rfl ?_ | refine Need.intro (sps_e l) ?_ | refine Need.intro (sps_e m) ?_ | refine Need.intro (Nat.le_trans n1 (Nat.le_of_ble_eq_true rfl)) ?_ | refine Need.intro (Nat.le_trans n2 (Nat.le_of_ble_eq_true rfl)) ?_ | refine QCallW.intro _ _ (CallP.freeze [1] rfl rfl (.cv (y := .d (sps (l ++ m))) (.d (.rowL (ds := (l ++ m).map Sp.cells) (List.mem_singleton.2 rfl) rfl (ap8 l m) (ap8n l m) (sps_e _))) (.keep .nil)) (d3 ⟨rfl, rfl⟩)) ?_)
    conv => whnf
    exact FinP.drop (n := 0) rfl (Nat.zero_le _) rfl rfl ⟨rfl, Eq.trans (b := B (decide (g = 2))) rfl (congrArg B (decide_eq_true g2))⟩
  have olm : orderF (l ++ m) = 0 := direct_zero (hg.symm.trans g0)
  have a1 : a = dSs y [] l := ha.trans (direct_ok ol hy0).1
  have b1 : b = dSs y [] m := hb.trans (direct_ok om hy0).1
  have c1 : c = a ++ b.filter fun k => !(a.any fun v => decide (k = v)) := by
    rw [a1, b1, ← dSs_app]; exact hc.trans (direct_ok olm hy0).1
  have ka : ByOk a := by rw [a1]; exact dSs_ok hl ol y
  have kb : ByOk b := by rw [b1]; exact dSs_ok hm om y
  have kc : ByOk c := by rw [hc, (direct_ok olm hy0).1]; exact dSs_ok hlm olm y
  have la := ka.len
  have lb := kb.len
  have lc := kc.len
  have n3 : 0 + ((a.map fun v => [DI v]).map fun x => x.map V.d).length ≤ 4294967296 := by rw [ap_len]; omega
  have hIn : ∀ (k : Int) (t : Bool), (a.any fun v => decide (k = v)) = t → ∀ {L : List Blk} {κ : V → List Blk → Prop}, κ (B t) L → CallP C 25 [.d (ins a), I k] L κ := fun k t ht _ _ h => in_c a (by omega) k (by rw [any_swap, ht]; exact h)
  clear d1 d2 ha he hb hf hc hg
  repeat' (conv => whnf
           first | refine Br.yes (decide_eq_true e0) ?_ | refine Br.yes (decide_eq_true f0) ?_ | refine Br.yes (decide_eq_true g0) ?_ | refine Br.tt ?_ | refine Br.ff ?_ | refine Br.dec (fun h => ?_) (fun h => ?_) | refine Br.not ?_ | refine Br.intro (fun h => ?_) (fun h => ?_) | refine GetE.intro _ rfl ?_ | refine Need.intro rfl ?_ | refine DrawP.go mixed rfl ?_ | refine Need.intro (sps_e l) ?_ | refine Need.intro (sps_e m) ?_ | refine Need.intro (Nat.le_trans n1 (Nat.le_of_ble_eq_true rfl)) ?_ | refine Need.intro (Nat.le_trans n2 (Nat.le_of_ble_eq_true rfl)) ?_ | refine QCallW.intro _ _ (CallP.freeze [1] rfl rfl (.cv (y := .d (sps (l ++ m))) (.d (.rowL (ds := (l ++ m).map Sp.cells) (List.mem_singleton.2 rfl) rfl (ap8 l m) (ap8n l m) (sps_e _))) (.keep .nil)) (d3 ⟨rfl, rfl⟩)) ?_ | refine Need.intro (rdI_e a) ?_ | refine Need.intro n3 ?_)
  conv => whnf
  refine LoopP.inv (α := Nat × Nat × List Int) (fun s => s.1 ≤ b.length ∧ s.2.2 = a ++ (b.take s.1).filter fun k => !(a.any fun v => decide (k = v))) (fun s => ⟨[(8, .d (ins a)), (12, .d (ins c)), (14, .own 2 s.2.1 0 s.2.2.length), (76, .d (ins b)), (77, I b.length), (78, I s.1)], Tryd.f6.ntmps, [.cells (y.cells.map .d), .dead, .row s.2.1 1 (rdI s.2.2)], [], none⟩) (fun s => b.length - s.1) (0, 1, a) ⟨Nat.zero_le _, by simp⟩ ?_ ?_
  · have e1 : (([] : List (List V)).take 0) ++ ((a.map fun v => [DI v]).map fun x => x.map V.d) = rdI a := by unfold rdI; rw [List.take_nil, List.nil_append, List.map_map]; rfl
    have e2 : 0 + ((a.map fun v => [DI v]).map fun x => x.map V.d).length = a.length := by simp
    exact Weak.to 3 (Eq.trans (b := [Blk.cells (y.cells.map .d), .dead, .row 1 1 ((([] : List (List V)).take 0) ++ ((a.map fun v => [DI v]).map fun x => x.map V.d))]) rfl (by rw [e1])) (Nat.zero_le _) (Nat.le_of_ble_eq_true rfl) ⟨rfl, rfl, Eq.trans (b := V.own 2 1 0 (0 + ((a.map fun v => [DI v]).map fun x => x.map V.d).length)) rfl (by rw [e2]; rfl), rfl, congrArg I (by simp), rfl, trivial⟩ (hB := by show (true && (true && (belR 3 (rdI a) && true))) = true; rw [rdI_bel]; rfl)
  rintro ⟨i, q, w⟩ ⟨hi, hw⟩
  simp only at hi hw ⊢
  have hwl : w.length ≤ 24 := by
    rw [hw, List.length_append]
    have := List.length_filter_le (fun k => !(a.any fun v => decide (k = v))) (b.take i)
    rw [List.length_take] at this
    omega
  by_cases hi' : i < b.length
  · have hlt : (i : Int) < (b.length : Int) := by omega
    have hwi : IntKind.i64.wrap ((i : Int) + 1) = ((i + 1 : Nat) : Int) := by rw [wrap_in (by omega)]; omega
    have r1 : (b.map fun n => [DI n])[i]? = some [DI b[i]] := by rw [List.getElem?_map, List.getElem?_eq_getElem hi']; rfl
    have hnx := take_next hi'
    obtain ⟨k, hk⟩ : ∃ k, k = b[i] := ⟨_, rfl⟩
    rw [← hk] at r1 hnx
    cases hin : a.any fun v => decide (k = v) with
    | true =>
      have g1 := fun {L : List Blk} {κ : V → List Blk → Prop} => hIn k true hin (L := L) (κ := κ)
      repeat' (conv => whnf
               first | refine Br.yes (decide_eq_true hlt) ?_ | refine Br.tt ?_ | refine Br.ff ?_ | refine Br.dec (fun h => ?_) (fun h => ?_) | refine Br.not ?_ | refine Br.intro (fun h => ?_) (fun h => ?_) | refine GetE.intro _ rfl ?_ | refine Need.intro rfl ?_ | refine DrawP.go mixed rfl ?_ | refine Idx.intro i _ rfl r1 ?_ | refine g1 ?_)
      conv => whnf
      exact ⟨(i + 1, q, w), ⟨hi', by simp only; rw [hw, hnx, List.filter_append]; simp [hin]⟩, by simp only; omega, Weak.to 3 rfl (Nat.zero_le _) (Nat.le_of_ble_eq_true rfl) ⟨rfl, rfl, rfl, rfl, rfl, congrArg I hwi, trivial⟩ (hB := by show (true && (true && (belR 3 (rdI w) && true))) = true; rw [rdI_bel]; rfl)⟩
    | false =>
      have g1 := fun {L : List Blk} {κ : V → List Blk → Prop} => hIn k false hin (L := L) (κ := κ)
      repeat' (conv => whnf
               first | refine Br.yes (decide_eq_true hlt) ?_ | refine Br.tt ?_ | refine Br.ff ?_ | refine Br.dec (fun h => ?_) (fun h => ?_) | refine Br.not ?_ | refine Br.intro (fun h => ?_) (fun h => ?_) | refine GetE.intro _ rfl ?_ | refine Need.intro rfl ?_ | refine DrawP.go mixed rfl ?_ | refine Idx.intro i _ rfl r1 ?_ | refine g1 ?_)
      conv => whnf
      refine bifP (show (Nat.beq q q && true) = true by rw [Nat.beq_refl]; rfl) ?_
      repeat' (conv => whnf
               first | refine Br.tt ?_ | refine Br.ff ?_ | refine Br.dec (fun h => ?_) (fun h => ?_) | refine Br.not ?_ | refine Br.intro (fun h => ?_) (fun h => ?_) | refine GetE.intro _ rfl ?_ | refine Need.intro rfl ?_ | refine DrawP.go mixed rfl ?_ | refine Need.intro (show w.length + 1 ≤ 4294967296 by omega) ?_)
      conv => whnf
      have e3 : [Blk.cells (y.cells.map .d), .dead, .row (q + 1) 1 ((rdI w).take w.length ++ [[I k]])] = [Blk.cells (y.cells.map .d), .dead, .row (q + 1) 1 (rdI (w ++ [k]))] := by
        rw [List.take_of_length_le (by simp [rdI])]
        unfold rdI; rw [List.map_append]; rfl
      have e4 : (w ++ [k]).length = w.length + 1 := by simp
      exact ⟨(i + 1, q + 1, w ++ [k]), ⟨hi', by simp only; rw [hw, hnx, List.filter_append, List.append_assoc]; simp [hin]⟩, by simp only; omega, Weak.to 3 (Eq.trans (b := [Blk.cells (y.cells.map .d), .dead, .row (q + 1) 1 ((rdI w).take w.length ++ [[I k]])]) rfl e3) (Nat.zero_le _) (Nat.le_of_ble_eq_true rfl) ⟨rfl, rfl, by rw [e4]; rfl, rfl, rfl, congrArg I hwi, trivial⟩ (hB := by show (true && (true && (belR 3 (rdI (w ++ [k])) && true))) = true; rw [rdI_bel]; rfl)⟩
  have hlt : ¬ (i : Int) < (b.length : Int) := by omega
  have hwc : w = c := by rw [hw, c1, List.take_of_length_le (by omega)]
  have hcl : (c.map fun n => [DI n]).length = c.length := by simp
  repeat' (conv => whnf
           first | refine Br.no (decide_eq_false hlt) ?_ | refine Br.tt ?_ | refine Br.ff ?_ | refine Br.dec (fun h => ?_) (fun h => ?_) | refine Br.not ?_ | refine Br.intro (fun h => ?_) (fun h => ?_) | refine GetE.intro _ rfl ?_ | refine Need.intro rfl ?_ | refine DrawP.go mixed rfl ?_)
  conv => whnf
  refine LoopP.inv (fun i : Nat => i ≤ c.length) (fun i => ⟨[(12, .d (ins c)), (14, .d (ins c)), (91, .d (ins c)), (92, I c.length), (93, I i)], Tryd.f6.ntmps, [], [], none⟩) (fun i => c.length - i) 0 (Nat.zero_le _) ?_ ?_
  · refine Weak.thaw 0 (Nat.le_refl 0) (Nat.zero_le _) rfl ⟨.inl ⟨rfl, rfl⟩, .inr ?_, .inl ⟨rfl, rfl⟩, .inl ⟨congrArg I (by simp), rfl⟩, .inl ⟨rfl, rfl⟩, trivial⟩ (fun b x y hx hy => by have hy : ([] : List Blk)[b]? = some y := hy; simp at hy)
    subst hwc
    exact .d (.rowL (ds := w.map fun v => [DI v]) (Nat.zero_le _) rfl (rdI_rows' w) (by simp) (rdI_e w))
  intro i hi
  by_cases hi' : i < c.length
  · have hlt : (i : Int) < (c.length : Int) := by omega
    have hwi : IntKind.i64.wrap ((i : Int) + 1) = ((i + 1 : Nat) : Int) := by rw [wrap_in (by omega)]; omega
    have r1 : (c.map fun n => [DI n])[i]? = some [DI c[i]] := by rw [List.getElem?_map, List.getElem?_eq_getElem hi']; rfl
    have hkr := kc.rg _ (List.getElem_mem hi')
    have hnot : ((c.take i).any fun v => decide (v = c[i])) = false := by
      rw [Bool.eq_false_iff]
      intro h
      obtain ⟨v, hv, hve⟩ := List.any_eq_true.1 h
      have hve := of_decide_eq_true hve
      obtain ⟨j, hj, hje⟩ := List.getElem_of_mem hv
      rw [List.length_take] at hj
      rw [List.getElem_take] at hje
      exact (List.pairwise_iff_getElem.1 kc.nd j i (by omega) hi' (by omega)) (hje.trans hve)
    obtain ⟨k, hk⟩ : ∃ k, k = c[i] := ⟨_, rfl⟩
    rw [← hk] at r1 hkr hnot
    have e5 : ((c.map fun n => [DI n]).drop 0).take (i - 0) = (c.take i).map fun n => [DI n] := by rw [List.drop_zero, Nat.sub_zero, List.map_take]
    have g1 : ∀ {L : List Blk} {κ : V → List Blk → Prop}, κ (B false) L → CallP C 25 [.d (.sl (((c.map fun n => [DI n]).drop 0).take (i - 0))), I k] L κ := fun h => by
      rw [e5]; exact in_c (c.take i) (by rw [List.length_take]; omega) k (by rw [hnot]; exact h)
    have k1 : ¬ k < 1 := by omega
    have k2 : ¬ 12 < k := by omega
    repeat' (conv => whnf
             first | refine Br.yes (decide_eq_true hlt) ?_ | refine Br.no (decide_eq_false k1) ?_ | refine Br.no (decide_eq_false k2) ?_ | refine Br.tt ?_ | refine Br.ff ?_ | refine Br.dec (fun h => ?_) (fun h => ?_) | refine Br.not ?_ | refine Br.intro (fun h => ?_) (fun h => ?_) | refine GetE.intro _ rfl ?_ | refine Need.intro rfl ?_ | refine DrawP.go mixed rfl ?_ | refine Idx.intro i _ rfl r1 ?_ | refine Need.intro (rdI_e c) ?_ | refine SliceP.intro 0 i rfl rfl (Nat.zero_le _) (by rw [hcl]; exact hi) ?_ | refine g1 ?_)
    conv => whnf
    exact ⟨i + 1, hi', by omega, Weak.to 0 rfl (Nat.le_refl 0) (Nat.zero_le _) ⟨rfl, rfl, rfl, rfl, congrArg I hwi, trivial⟩⟩
  have hlt : ¬ (i : Int) < (c.length : Int) := by omega
  have gs : ∀ {L : List Blk} {κ : V → List Blk → Prop}, κ (B true) L → CallP C 26 [.d (ins c), .d (ins c)] L κ := fun h => same_c c c (by omega) (by omega) (by rw [decide_eq_true rfl]; exact h)
  repeat' (conv => whnf
           first | refine Br.no (decide_eq_false hlt) ?_ | refine Br.tt ?_ | refine Br.ff ?_ | refine Br.dec (fun h => ?_) (fun h => ?_) | refine Br.not ?_ | refine Br.intro (fun h => ?_) (fun h => ?_) | refine GetE.intro _ rfl ?_ | refine Need.intro rfl ?_ | refine DrawP.go mixed rfl ?_ | refine gs ?_)
  conv => whnf
  exact FinP.drop (n := 0) rfl (Nat.zero_le _) rfl rfl ⟨rfl, rfl⟩
theorem call_closed : ∀ xss, TyA C.P Tryd.f6.params.toList xss → (∀ xs ∈ xss, ∀ y ∈ xs, Dsm reachBytes y) → CallP C 6 (argVs C.P Tryd.f6.params.toList xss) [] fun X L => L = [] ∧ X = .d (.bool true) := by
  intro xss h hsm
  match xss, h, hsm with
  | [x1, x2, x3], ⟨h1, h2, h3, _⟩, hsm =>
    obtain ⟨x1, rfl, b1⟩ := stepsT h1 (hsm _ (by simp))
    obtain ⟨x2, rfl, b2⟩ := stepsT h2 (hsm _ (by simp))
    obtain ⟨x3, rfl, b3⟩ := intT h3 (hsm _ (by simp))
    exact law x1 x2 x3 b1 b2
theorem contract (H : Type) (enc : TypeId × Value → H) (W : World) (base : Nat) (args : Array Value) (ds gs : List (DataW H)) (before : List MemPlace)
    (hval : ∀ (j : Nat) t v, Tryd.f6.params[j]? = some t → args[j]? = some v → Value.okWide Tryd.prog W .any base t v)
    (hW : DataW.Whole enc Tryd.prog Tryd.f6.params.toList Rows.typingOnceSpec.vars false W args.toList ds gs before)
    (hz : (DataW.weightsEach Tryd.prog (Tryd.f6.params.toList ++ Rows.typingOnceSpec.plain.varTypes Tryd.prog) (ds ++ gs)).all (· ≤ reachBytes) = true) (hL : laidMetH Tryd.prog Rows.typingOnceRow.laid W) :
    Calls Tryd.prog 6 args W fun e W' => ∃ v, e = .returned v ∧ Rows.typingOnceSpec.post enc Tryd.prog Tryd.f6 false true false false W args v W' := by
  refine law_ofB (C := C) (l := plainTys) kids full plainOk bytesOk plainLt (fun t ht => ?_) rfl rfl Tryd.underlying4 (fun ds hd => ?_) call_closed hval hW hz (glob_ok hL)
  · have : Tryd.f6.params.toList.all (fun t => plainTys.contains t) = true := by kernel_rfl
    simpa using List.all_eq_true.1 this t ht
  · match ds, hd with
    | [d1, d2, d3], _ => rfl
theorem laid_met (os : Os) : laidMet Tryd.prog Rows.typingOnceRow.laid ((laidWorld os).forCall (fun _ _ => 0) ⟨#[], #[.slice none 0 0, .slice none 0 0, .int .i64 0], []⟩).memory :=
  laidMet_of_run' 8 (by kernel_rfl) (by kernel_rfl)
theorem reads (os : Os) {H : Type} (enc : TypeId × Value → H) : ∃ places, DataW.whole enc Tryd.prog ((laidWorld os).forCall (fun _ _ => 0) ⟨#[], #[.slice none 0 0, .slice none 0 0, .int .i64 0], []⟩).memory Tryd.f6.params.toList Rows.typingOnceSpec.vars false #[.slice none 0 0, .slice none 0 0, .int .i64 0].toList 8 = some ([.nil, .nil, .lit (.int .i64 0)], [], places) :=
  ⟨[], by kernel_rfl⟩
set_option maxRecDepth 100000 in
theorem lifted (os : Os) (started : os.Started) (H : Type) (enc : TypeId × Value → H) (F : Stop.Interp) :
    ReturnsInHanded {} Tryd.checked os 6 .any ((OpenSpec.ofChange Rows.typingOnceSpec).preRow enc Tryd.prog Tryd.f6 Rows.typingOnceRow.domain false Rows.typingOnceRow.laid) (((OpenSpec.ofChange Rows.typingOnceSpec).at F).post enc Tryd.prog Tryd.f6 false true false false) := by
  obtain ⟨places, hx⟩ := reads os enc
  refine returnsInHanded_of_row (C := Tryd.checked) (s := OpenSpec.ofChange Rows.typingOnceSpec) own started (by kernel_rfl) Tryd.func6
    (witness_row_at (enc := enc) (C := Tryd.checked) false (laidWorld os) #[.slice none 0 0, .slice none 0 0, .int .i64 0] rfl (by kernel_rfl) (by kernel_rfl) (by kernel_rfl)
      (OpenSpec.preRow_of_cond 8 hx (by kernel_rfl) (fun k hk => by cases hk) (by kernel_rfl) (laid_met os))) ?_
  intro W base args ds gs before hval hW _ _ hz hL _ _
  exact contract H enc W base args ds gs before hval hW hz hL
theorem said : Rows.TypingOnceSaid :=
  OpenClaim.holds_of_cond 6 Tryd.f6 rfl rfl rfl rfl rfl rfl rfl ⟨rfl, rfl, rfl, rfl, rfl⟩ rfl rfl rfl rfl rfl (by kernel_rfl) Tryd.func6 (by kernel_rfl)
    (of_decide_eq_true (by kernel_rfl)) (by unfold Func.isWrapper; first | (rw [if_pos (by decide +kernel)]; kernel_rfl) | (rw [if_neg (by decide +kernel)]; exact ⟨rfl, rfl⟩))
    (fun os started H enc _ F => by rw [OpenClaim.pre_eq_preRow]; exact lifted os started H enc F)
theorem plain (f : FuncId) (fn : Func) (hf : Tryd.pinned.checked.prog.funcNamed "assize/assizelaw14.TypingOnce" = some f) (hfn : Tryd.pinned.checked.prog.funcs[f]? = some fn) :
    true = Tryd.pinned.checked.prog.looks [] ∧ ∀ (j : Nat) t, fn.params[j]? = some t → Tryd.pinned.checked.prog.wantsStandIn t = false := by
  obtain rfl : f = 6 := Option.some.inj ((show Tryd.prog.funcNamed "assize/assizelaw14.TypingOnce" = some 6 by kernel_rfl).symm.trans hf) |>.symm
  obtain rfl : fn = Tryd.f6 := (Option.some.inj (Tryd.func6.symm.trans hfn)).symm
  refine ⟨by kernel_rfl, fun j t ht => ?_⟩
  have hall : Tryd.f6.params.toList.all (fun t => !Tryd.prog.wantsStandIn t) = true := by kernel_rfl
  have := List.all_eq_true.1 hall t (by simpa using Array.mem_of_getElem? ht)
  show Tryd.prog.wantsStandIn t = false
  simpa using this
theorem proved : Rows.TypingOnceCardSaid :=
  Claim7.holds_tied_plain_at .later [] _ _ _ _ said (fun _ h => by cases h) (by kernel_rfl) (fun _ h => by cases h) typingOnce_row_tie rfl ⟨rfl, rfl⟩ (by kernel_rfl) rfl plain (by kernel_rfl)
end Go.Proofs.YtddolfgmkpfmcaaDoor.typingOnce
