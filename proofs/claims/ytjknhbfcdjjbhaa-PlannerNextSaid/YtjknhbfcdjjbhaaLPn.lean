/-
  The statement PlannerNext: each choice leads to a partial list; a full list has no choices.
-/
import Derived.Test.YtjknhbfcdjjbhaaDemT
import Derived.Test.YtjknhbfcdjjbhaaPlaM
namespace Go.Proofs.Ytjknhbfcdjjbhaa.nextLaw
open Go.Tidy Go.ChangeShapes Go.WideShapes Go.ChangeAt Go.RowKit
set_option maxRecDepth 100000
set_option maxHeartbeats 0
set_option linter.unusedSimpArgs false
set_option linter.unusedVariables false
variable {L : List Blk} {k : V → List Blk → Prop}
theorem nfull_c (l : Lst) (p : Pl) (hs : Small l p) (h0 : checkP p = 0) (hP : PartP l p) (h : k (.tup [B (fullB l p.clubs p.double), I 0]) L) : CallP C 22 [lisV l, .d (ints p.clubs), B p.double] L k := ffull_c l p.clubs p.double hs.hl hs.hr hs.hc (by
  rw [part_fixE h0 hP]; exact h)
theorem ncheck_c (l : Lst) (p : Pl) (hs : Small l p) (h0 : checkP p = 0) (hP : PartP l p) (h : k (I 0) L) : CallP C 23 [lisV l, .d (ints p.clubs)] L k := fcheck_c l p.clubs hs.hl hs.hr hs.hc (by
  rw [part_fixE h0 hP]; exact h)
theorem law (l : List (List Mt)) (p : Pl) (hl : l.length ≤ 140737488355328 ∧ ∀ r ∈ l, r.length ≤ 140737488355328) (hp : PlB p) : CallP C 8 [lisV l, plV p] [] fun X L => L = [] ∧ X = .d (.bool true) := by
  refine callP_cut (fun c => match c with | .region 20 _ _ => true | .region 23 _ _ => true | .region 24 _ _ => true | _ => false) C_ok Try.func8 rfl rfl (n := _) rfl (Nat.le_of_ble_eq_true rfl) (rs := _) rfl ?_
  conv => whnf
  by_cases hb : FewP p
  · by_cases hc : FewL l
    · have hs : Small l p := few_small hb hc
      by_cases he : dmE l p = 0
      · obtain ⟨h0, hP⟩ := dmE_zero he
        obtain ⟨m, hm⟩ : ∃ m, chE l p = m := ⟨_, rfl⟩
        have hmc : m = chs l p := by rw [← hm]; unfold chE; rw [if_pos he]
        have hml : m.length ≤ 4294967296 := by rw [hmc]; exact chs_len l p (fewlen h0)
        have hfz : fixE l p.clubs = 0 ∧ FullX l.flatten p.clubs p.double → ((m.map Mt.cells).length : Int) = 0 := fun hf => by
          have hm0 : m = [] := by rw [hmc]; exact full_chs h0 hP (by unfold fullB; exact if_pos hf)
          rw [hm0]; rfl
        have hll := hc.2
        have hr1 : List.take 0 ([] : List (List V)) ++ List.map (fun x => List.map V.d x) (List.map (fun r => [mts r]) l) = rdR l := by simp [rdR]
        have hr2 : 0 + (List.map (fun x => List.map V.d x) (List.map (fun r => [mts r]) l)).length = l.length := by simp
        have hwl : (0 : Int) < (l.length : Int) → IntKind.i64.wrap ((l.length : Int) - 1) = ((l.length - 1 : Nat) : Int) := fun h => by rw [wrap_in (by omega)]; omega
        have hnl : (0 : Int) < (l.length : Int) → l.length - 1 < l.length := fun h => by omega
        have hgl : ∀ h : (0 : Int) < (l.length : Int), (rdR l)[0 + (l.length - 1)]? = some [.d (mts (l[l.length - 1]'(hnl h)))] := fun h => by
          rw [Nat.zero_add, rdR, List.getElem?_map, List.getElem?_eq_getElem (hnl h)]; rfl
        have hrl : ∀ h : (0 : Int) < (l.length : Int), (l[l.length - 1]'(hnl h)).length ≤ 500 := fun h => Nat.le_trans (part_row hP (List.getElem_mem _)) (halfN_le (fewlen h0))
        have hlm : ((m.map Mt.cells).length : Int) = (m.length : Int) := by rw [List.length_map]
        have hnd : m.Nodup := by rw [hmc]; exact chs_nodup h0 hP
        have hpe : ∀ x ∈ m, PartP (extL l p x) p := fun x hx => ch_mem h0 hP (by rw [← hmc]; exact hx)
        have hfl := fewlen h0
        have hs0 : Small [] p := few_nil hb
        have hhf : IntKind.i64.wrap (((p.clubs.map fun n => [DI n]).length : Int).tdiv 2) = (halfN p : Int) := by
          rw [List.length_map, show ((p.clubs.length : Nat) : Int).tdiv 2 = ((p.clubs.length / 2 : Nat) : Int) from (Int.ofNat_tdiv _ 2).symm]
          refine wrap_in ?_
          omega
        have hcont : ∀ h : (0 : Int) < (l.length : Int), ((List.map Mt.cells (l[l.length - 1]'(hnl h))).length : Int) < IntKind.i64.wrap (((p.clubs.map fun n => [DI n]).length : Int).tdiv 2) → ∀ x, extL l p x = l.dropLast ++ [l[l.length - 1]'(hnl h) ++ [x]] := fun h h2 x => by
          rw [hhf, List.length_map] at h2
          have hla := last_of (l := l) (by omega)
          have ho : openR l p = (l[l.length - 1]'(hnl h), false, true) := by unfold openR; rw [hla]; exact if_pos (by omega)
          unfold extL; rw [ho]; rfl
        have hfre : ∀ h : (0 : Int) < (l.length : Int), ¬ ((List.map Mt.cells (l[l.length - 1]'(hnl h))).length : Int) < IntKind.i64.wrap (((p.clubs.map fun n => [DI n]).length : Int).tdiv 2) → ∀ x, extL l p x = l ++ [[x]] := fun h h2 x => by
          rw [hhf, List.length_map] at h2
          have hla := last_of (l := l) (by omega)
          have ho : openR l p = ([], true, decide (l.length < roundsN p)) := by unfold openR; rw [hla]; exact if_neg (by omega)
          unfold extL; rw [ho]; rfl
        have hfr0 : ¬ (0 : Int) < (l.length : Int) → ∀ x, extL l p x = l ++ [[x]] := fun h x => by
          have : l = [] := List.eq_nil_of_length_eq_zero (by omega)
          subst this; rfl
        have hset : ∀ h : (0 : Int) < (l.length : Int), ∀ y : V, (((rdR l).set (0 + (l.length - 1)) [y]).drop 0).take l.length = rdR l.dropLast ++ [[y]] := fun h y => by
          have hne : l ≠ [] := fun e => by rw [e] at h; simp at h
          have hdl := List.dropLast_concat_getLast hne
          generalize l.dropLast = d at hdl ⊢
          generalize l.getLast hne = r at hdl
          subst hdl
          simp [rdR]
          exact List.take_of_length_le (by simp)
        repeat' (conv => whnf
                 first | refine psane_c ?_ | refine rfewP_c p (Nat.le_trans hp.hD (by decide)) ?_ | refine Br.yes (decide_eq_true hb) ?_ | refine rfewL_c l hl.1 hl.2 ?_ | refine Br.yes (decide_eq_true hc) ?_ | refine choices_e hs hm he ?_ | refine nfull_c l p hs h0 hP ?_ | refine Br.tt ?_ | refine Br.ff ?_ | refine Br.dec (fun h => ?_) (fun h => ?_) | refine Br.not ?_ | refine Br.intro (fun h => ?_) (fun h => ?_) | refine GetE.intro _ rfl ?_ | refine Need.intro rfl ?_ | refine DrawP.go mixed rfl ?_)
        all_goals conv => whnf
        all_goals first
        | (exfalso; exact absurd (hfz ‹_›) ‹_›)
        | skip
        · have hz : ((m.map Mt.cells).length : Int) = 0 := ‹_›
          refine LoopP.inv (fun i => i ≤ m.length) (fun i => ⟨[(2, .ptr 0 0), (3, .ptr 1 0), (4, B false), (5, .d (mts m)), (57, .d (mts m)), (58, I m.length), (59, I i)], Try.f8.ntmps, [.cells [.d (lisD l)], .cells (p.cells.map .d)], [], none⟩) (fun i => m.length - i) 0 (Nat.zero_le _) (Weak.by ⟨rfl, rfl, rfl, rfl, rfl, congrArg I hlm, rfl, trivial⟩) ?_
          intro i hi
          have hlt : ¬ (i : Int) < (m.length : Int) := by omega
          repeat' (conv => whnf
                   first | refine Br.no (decide_eq_false hlt) ?_ | refine Br.tt ?_ | refine Br.ff ?_ | refine Br.dec (fun h => ?_) (fun h => ?_) | refine Br.not ?_ | refine Br.intro (fun h => ?_) (fun h => ?_) | refine GetE.intro _ rfl ?_ | refine Need.intro rfl ?_ | refine DrawP.go mixed rfl ?_)
          conv => whnf
          exact FinP.drop (n := 0) rfl (Nat.le_refl 0) rfl rfl ⟨rfl, rfl⟩
        · refine LoopP.inv (fun i => i ≤ m.length) (fun i => ⟨[(2, .ptr 0 0), (3, .ptr 1 0), (4, B false), (5, .d (mts m)), (57, .d (mts m)), (58, I m.length), (59, I i)], Try.f8.ntmps, [.cells [.d (lisD l)], .cells (p.cells.map .d)], [], none⟩) (fun i => m.length - i) 0 (Nat.zero_le _) (Weak.by ⟨rfl, rfl, rfl, rfl, rfl, congrArg I hlm, rfl, trivial⟩) ?_
          intro i hi
          by_cases hi' : i < m.length
          · have hlt : (i : Int) < (m.length : Int) := by omega
            have hw : IntKind.i64.wrap ((i : Int) + 1) = ((i + 1 : Nat) : Int) := by rw [wrap_in (by omega)]; omega
            have h66 : List.take (i - 0) (List.drop 0 (m.map Mt.cells)) = (m.take i).map Mt.cells := by rw [List.drop_zero, Nat.sub_zero, List.map_take]
            have h67 : ((List.take (i - 0) (List.drop 0 (m.map Mt.cells))).length : Int) = (i : Int) := by rw [h66, List.length_map, List.length_take, Nat.min_eq_left (by omega)]
            have r1 : (m.map Mt.cells)[i]? = some (m[i]).cells := by rw [List.getElem?_map, List.getElem?_eq_getElem hi']; rfl
            have hXP := hpe m[i] (List.getElem_mem hi')
            have hXs := (part_small hs0 hfl hP m[i]).2
            obtain ⟨X, hX⟩ : ∃ X, extL l p m[i] = X := ⟨_, rfl⟩
            rw [hX] at hXP hXs
            have hXd := dmE_of h0 hXP
            repeat' (conv => whnf
                     first | refine Br.yes (decide_eq_true hlt) ?_ | refine Idx.intro i _ rfl r1 ?_ | refine Need.intro (mtsE m) ?_ | refine SliceP.intro 0 i rfl rfl (Nat.zero_le _) (by rw [List.length_map]; omega) ?_ | refine Br.tt ?_ | refine Br.ff ?_ | refine Br.dec (fun h => ?_) (fun h => ?_) | refine Br.not ?_ | refine Br.intro (fun h => ?_) (fun h => ?_) | refine GetE.intro _ rfl ?_ | refine Need.intro rfl ?_ | refine DrawP.go mixed rfl ?_)
            conv => whnf
            refine LoopP.inv (fun j => j ≤ i) (fun j => ⟨[(2, .ptr 0 0), (3, .ptr 1 0), (4, B false), (5, .d (mts m)), (10, .ptr 2 0), (57, .d (mts m)), (58, I m.length), (59, I i), (66, .d (mts (m.take i))), (67, I i), (68, I j)], Try.f8.ntmps, [.cells [.d (lisD l)], .cells (p.cells.map .d), .cells (m[i].cells.map .d)], [], none⟩) (fun j => i - j) 0 (Nat.zero_le _) ?_ ?_
            · exact Weak.by ⟨rfl, rfl, rfl, rfl, rfl, rfl, rfl, rfl, congrArg (fun x => V.d (D.sl x)) h66, congrArg I h67, rfl, trivial⟩
            · intro j hj
              by_cases hj' : j < i
              · have hlj : (j : Int) < (i : Int) := by omega
                have hwj : IntKind.i64.wrap ((j : Int) + 1) = ((j + 1 : Nat) : Int) := by rw [wrap_in (by omega)]; omega
                have hne : (decide (m[i].home = m[j].home) && (decide (m[i].away = m[j].away) && true)) = false := by
                  have h := List.pairwise_iff_getElem.1 hnd j i (by omega) hi' hj'
                  rw [← Bool.not_eq_true, Bool.and_true, Bool.and_eq_true, decide_eq_true_eq, decide_eq_true_eq]
                  intro e
                  refine h ?_
                  cases hx : m[i]; cases hy : m[j]
                  rw [hx, hy] at e
                  simp only at e
                  rw [e.1, e.2]
                have r2 : ((m.take i).map Mt.cells)[j]? = some (m[j]).cells := by rw [List.getElem?_map, List.getElem?_take_of_lt hj', List.getElem?_eq_getElem (by omega)]; rfl
                repeat' (conv => whnf
                         first | refine Br.yes (decide_eq_true hlj) ?_ | refine Idx.intro j _ rfl r2 ?_ | refine Br.no hne ?_ | refine Br.tt ?_ | refine Br.ff ?_ | refine Br.dec (fun h => ?_) (fun h => ?_) | refine Br.not ?_ | refine Br.intro (fun h => ?_) (fun h => ?_) | refine GetE.intro _ rfl ?_ | refine Need.intro rfl ?_ | refine DrawP.go mixed rfl ?_)
                conv => whnf
                exact ⟨j + 1, hj', by omega, Weak.to 3 rfl (Nat.zero_le _) (Nat.le_of_ble_eq_true rfl) ⟨rfl, rfl, rfl, rfl, rfl, rfl, rfl, rfl, rfl, rfl, congrArg I hwj, trivial⟩⟩
              · have hlj : ¬ (j : Int) < (i : Int) := by omega
                repeat' (conv => whnf
                         first | refine Br.no (decide_eq_false hlj) ?_ | refine Br.tt ?_ | refine Br.ff ?_ | refine Br.dec (fun h => ?_) (fun h => ?_) | refine Br.not ?_ | refine Br.intro (fun h => ?_) (fun h => ?_) | refine GetE.intro _ rfl ?_ | refine Need.intro rfl ?_ | refine DrawP.go mixed rfl ?_)
                conv => whnf
                refine CutP.intro (ι := Unit) (fun _ => ⟨[(2, .ptr 0 0), (3, .ptr 1 0), (4, B false), (5, .d (mts m)), (10, .ptr 2 0), (13, .own 3 1 0 l.length), (57, .d (mts m)), (58, I m.length), (59, I i)], Try.f8.ntmps, [.cells [.d (lisD l)], .cells (p.cells.map .d), .cells (m[i].cells.map .d), .row 1 1 (rdR l)], [], none⟩) ?_ (fun _ => ?_)
                · repeat' (conv => whnf
                           first | refine Need.intro (lisE l) ?_ | refine Need.intro (Nat.le_trans (m := 4294967296) (by first | omega | (simp; omega)) (apLim_ge _)) ?_ | refine Br.tt ?_ | refine Br.ff ?_ | refine Br.dec (fun h => ?_) (fun h => ?_) | refine Br.not ?_ | refine Br.intro (fun h => ?_) (fun h => ?_) | refine GetE.intro _ rfl ?_ | refine Need.intro rfl ?_ | refine DrawP.go mixed rfl ?_)
                  conv => whnf
                  refine ⟨(), Weak.to 4 ?_ (Nat.zero_le _) (Nat.le_of_ble_eq_true rfl) ⟨rfl, rfl, rfl, rfl, rfl, congrArg (fun n : Nat => V.own 3 1 0 n) hr2, rfl, rfl, rfl, trivial⟩ (hB := ?_)⟩
                  · exact congrArg (fun r => [Blk.cells [.d (lisD l)], .cells (p.cells.map .d), .cells (m[i].cells.map .d), .row 1 1 r]) hr1
                  · show (true && (true && (true && (belR 4 (rdR l) && true)))) = true
                    rw [rdR_bel]; rfl
                · conv => whnf
                  refine DrawP.por mixed [] [[(0, 0), (1, 0), (2, 0), (3, 0), (4, 0), (5, 0), (6, 0), (7, 0), (8, 0), (9, 0), (10, 0), (11, 0), (12, 0), (13, 0), (14, 0)]] (by kernel_rfl) ?_
                  all_goals
                    repeat' (conv => whnf
                             first | refine Br.tt ?_ | refine Br.ff ?_ | refine Br.dec (fun h => ?_) (fun h => ?_) | refine Br.not ?_ | refine Br.intro (fun h => ?_) (fun h => ?_) | refine GetE.intro _ rfl ?_ | refine Need.intro rfl ?_ | refine DrawP.go mixed rfl ?_ | refine Need.intro (show (2 : Int) ≠ 0 by decide) ?_ | refine IdxN.intro (l.length - 1) (hwl ‹_›) (hnl ‹_›) ?_ | refine GetE.intro _ (hgl ‹_›) ?_)
                  all_goals conv => whnf
                  all_goals refine CutP.intro (ι := Unit) (fun _ => ⟨[(2, .ptr 0 0), (3, .ptr 1 0), (4, B false), (5, .d (mts m)), (13, .d (lisD X)), (57, .d (mts m)), (58, I m.length), (59, I i)], Try.f8.ntmps, [.cells [.d (lisD l)], .cells (p.cells.map .d)], [], none⟩) ?_ (fun _ => ?_)
                  · refine DrawP.por mixed [] [[(0, 0), (1, 0), (2, 0), (4, 0), (5, 0), (6, 0), (7, 3), (8, 3), (10, 4), (3, 0), (9, 0), (11, 0), (12, 0), (13, 0), (14, 0)], [(0, 0), (1, 0), (2, 0), (4, 0), (5, 0), (6, 0), (7, 3), (8, 3), (10, 4), (3, 0), (11, 0), (9, 0), (12, 0), (13, 0), (14, 0)], [(0, 0), (1, 0), (2, 0), (4, 0), (5, 0), (6, 0), (7, 3), (8, 3), (10, 4), (11, 0), (3, 0), (9, 0), (12, 0), (13, 0), (14, 0)]] (by kernel_rfl) ?_
                    conv => whnf
                    refine And.intro ?_ ?_
                    rotate_left 1
                    conv => whnf
                    refine And.intro ?_ ?_
                    all_goals
                      repeat' (conv => whnf
                               first | refine Br.tt ?_ | refine Br.ff ?_ | refine Br.dec (fun h => ?_) (fun h => ?_) | refine Br.not ?_ | refine Br.intro (fun h => ?_) (fun h => ?_) | refine GetE.intro _ rfl ?_ | refine Need.intro rfl ?_ | refine DrawP.go mixed rfl ?_ | refine Need.intro (mtsE _) ?_ | refine IdxN.intro (l.length - 1) (hwl ‹_›) (hnl ‹_›) ?_ | refine GetE.intro _ (hgl ‹_›) ?_ | refine Need.intro (Nat.le_trans (m := 4294967296) (by have := hrl ‹_›; first | omega | (simp; omega)) (apLim_ge _)) ?_)
                    all_goals conv => whnf
                    all_goals
                      have hq : l.length - 1 < l.length := hnl ‹_›
                      have hXe : X = l.dropLast ++ [(l[l.length - 1]'hq) ++ [m[i]]] := hX.symm.trans (hcont ‹_› ‹_› _)
                      have hst := hset ‹_›
                      clear hX
                      subst hXe
                      refine ⟨(), Weak.thaw 2 (Nat.zero_le _) (Nat.le_of_ble_eq_true rfl) rfl ⟨.inl ⟨rfl, rfl⟩, .inl ⟨rfl, rfl⟩, .inl ⟨rfl, rfl⟩, .inl ⟨rfl, rfl⟩, .inr ?_, .inl ⟨rfl, rfl⟩, .inl ⟨rfl, rfl⟩, .inl ⟨rfl, rfl⟩, trivial⟩ (fun b x y hx hy => ?_)⟩
                      · refine .d (.rowL (ds := (l.dropLast ++ [(l[l.length - 1]'hq) ++ [m[i]]]).map fun r => [mts r]) (Nat.le_of_ble_eq_true rfl) rfl ?_ ?_ (lisE _))
                        · refine CvLL.cong (hst _) (rows_snoc (.rowL (ds := ((l[l.length - 1]'hq) ++ [m[i]]).map Mt.cells) (Nat.le_of_ble_eq_true rfl) rfl ?_ ?_ (mtsE _)) l.dropLast)
                          · refine CvLL.cong (app_eq (Y := mR (l[l.length - 1]'hq)) (Z := [m[i].cells.map .d]) _ ((take_app0 _ _ (by simp)).trans (by simp [mR])) (by simp [mR])) ?_
                            rw [← mR_snoc]; exact mR_rows _
                          · simp
                        · simp; omega
                      · match b, hx, hy with
                        | 0, hx, hy => cases hx; cases hy; exact .inl ⟨rfl, rfl⟩
                        | 1, hx, hy => cases hx; cases hy; exact .inl ⟨rfl, rfl⟩
                        | b + 2, hx, hy => simp at hy
                  · conv => whnf
                    repeat' (conv => whnf
                             first | refine choices_e hXs rfl hXd ?_ | refine ncheck_c X p hXs h0 hXP ?_ | refine Br.tt ?_ | refine Br.ff ?_ | refine Br.dec (fun h => ?_) (fun h => ?_) | refine Br.not ?_ | refine Br.intro (fun h => ?_) (fun h => ?_) | refine GetE.intro _ rfl ?_ | refine Need.intro rfl ?_ | refine DrawP.go mixed rfl ?_)
                    conv => whnf
                    exact ⟨i + 1, hi', by omega, Weak.by ⟨rfl, rfl, rfl, rfl, rfl, rfl, congrArg I hw, trivial⟩⟩
                  · repeat' (conv => whnf
                             first | refine Need.intro (Nat.le_trans (m := 4294967296) (by first | omega | (simp; omega)) (apLim_ge _)) ?_ | refine Br.tt ?_ | refine Br.ff ?_ | refine Br.dec (fun h => ?_) (fun h => ?_) | refine Br.not ?_ | refine Br.intro (fun h => ?_) (fun h => ?_) | refine GetE.intro _ rfl ?_ | refine Need.intro rfl ?_ | refine DrawP.go mixed rfl ?_)
                    conv => whnf
                    have hXe : X = l ++ [[m[i]]] := hX.symm.trans (hfre ‹_› ‹_› _)
                    clear hX
                    subst hXe
                    refine ⟨(), Weak.thaw 2 (Nat.zero_le _) (Nat.le_of_ble_eq_true rfl) rfl ⟨.inl ⟨rfl, rfl⟩, .inl ⟨rfl, rfl⟩, .inl ⟨rfl, rfl⟩, .inl ⟨rfl, rfl⟩, .inr ?_, .inl ⟨rfl, rfl⟩, .inl ⟨rfl, rfl⟩, .inl ⟨rfl, rfl⟩, trivial⟩ (fun b x y hx hy => ?_)⟩
                    · refine .d (.rowL (ds := (l ++ [[m[i]]]).map fun r => [mts r]) (Nat.le_of_ble_eq_true rfl) rfl ?_ ?_ (lisE _))
                      · refine CvLL.cong (app_eq (Y := rdR l) (Z := [[_]]) _ (List.take_of_length_le (by simp [rdR])) (by simp [rdR])) (rows_snoc (.rowL (ds := [m[i]].map Mt.cells) (Nat.le_of_ble_eq_true rfl) rfl ?_ ?_ (mtsE _)) l)
                        · exact mR_rows [m[i]]
                        · rfl
                      · simp
                    · match b, hx, hy with
                      | 0, hx, hy => cases hx; cases hy; exact .inl ⟨rfl, rfl⟩
                      | 1, hx, hy => cases hx; cases hy; exact .inl ⟨rfl, rfl⟩
                      | b + 2, hx, hy => simp at hy
                  · conv => whnf
                    repeat' (conv => whnf
                             first | refine choices_e hXs rfl hXd ?_ | refine ncheck_c X p hXs h0 hXP ?_ | refine Br.tt ?_ | refine Br.ff ?_ | refine Br.dec (fun h => ?_) (fun h => ?_) | refine Br.not ?_ | refine Br.intro (fun h => ?_) (fun h => ?_) | refine GetE.intro _ rfl ?_ | refine Need.intro rfl ?_ | refine DrawP.go mixed rfl ?_)
                    conv => whnf
                    exact ⟨i + 1, hi', by omega, Weak.by ⟨rfl, rfl, rfl, rfl, rfl, rfl, congrArg I hw, trivial⟩⟩
                  · repeat' (conv => whnf
                             first | refine Need.intro (Nat.le_trans (m := 4294967296) (by first | omega | (simp; omega)) (apLim_ge _)) ?_ | refine Br.tt ?_ | refine Br.ff ?_ | refine Br.dec (fun h => ?_) (fun h => ?_) | refine Br.not ?_ | refine Br.intro (fun h => ?_) (fun h => ?_) | refine GetE.intro _ rfl ?_ | refine Need.intro rfl ?_ | refine DrawP.go mixed rfl ?_)
                    conv => whnf
                    have hXe : X = l ++ [[m[i]]] := hX.symm.trans (hfr0 ‹_› _)
                    clear hX
                    subst hXe
                    refine ⟨(), Weak.thaw 2 (Nat.zero_le _) (Nat.le_of_ble_eq_true rfl) rfl ⟨.inl ⟨rfl, rfl⟩, .inl ⟨rfl, rfl⟩, .inl ⟨rfl, rfl⟩, .inl ⟨rfl, rfl⟩, .inr ?_, .inl ⟨rfl, rfl⟩, .inl ⟨rfl, rfl⟩, .inl ⟨rfl, rfl⟩, trivial⟩ (fun b x y hx hy => ?_)⟩
                    · refine .d (.rowL (ds := (l ++ [[m[i]]]).map fun r => [mts r]) (Nat.le_of_ble_eq_true rfl) rfl ?_ ?_ (lisE _))
                      · refine CvLL.cong (app_eq (Y := rdR l) (Z := [[_]]) _ (List.take_of_length_le (by simp [rdR])) (by simp [rdR])) (rows_snoc (.rowL (ds := [m[i]].map Mt.cells) (Nat.le_of_ble_eq_true rfl) rfl ?_ ?_ (mtsE _)) l)
                        · exact mR_rows [m[i]]
                        · rfl
                      · simp
                    · match b, hx, hy with
                      | 0, hx, hy => cases hx; cases hy; exact .inl ⟨rfl, rfl⟩
                      | 1, hx, hy => cases hx; cases hy; exact .inl ⟨rfl, rfl⟩
                      | b + 2, hx, hy => simp at hy
                  · conv => whnf
                    repeat' (conv => whnf
                             first | refine choices_e hXs rfl hXd ?_ | refine ncheck_c X p hXs h0 hXP ?_ | refine Br.tt ?_ | refine Br.ff ?_ | refine Br.dec (fun h => ?_) (fun h => ?_) | refine Br.not ?_ | refine Br.intro (fun h => ?_) (fun h => ?_) | refine GetE.intro _ rfl ?_ | refine Need.intro rfl ?_ | refine DrawP.go mixed rfl ?_)
                    conv => whnf
                    exact ⟨i + 1, hi', by omega, Weak.by ⟨rfl, rfl, rfl, rfl, rfl, rfl, congrArg I hw, trivial⟩⟩
          · have hlt : ¬ (i : Int) < (m.length : Int) := by omega
            repeat' (conv => whnf
                     first | refine Br.no (decide_eq_false hlt) ?_ | refine Br.tt ?_ | refine Br.ff ?_ | refine Br.dec (fun h => ?_) (fun h => ?_) | refine Br.not ?_ | refine Br.intro (fun h => ?_) (fun h => ?_) | refine GetE.intro _ rfl ?_ | refine Need.intro rfl ?_ | refine DrawP.go mixed rfl ?_)
            conv => whnf
            exact FinP.drop (n := 0) rfl (Nat.le_refl 0) rfl rfl ⟨rfl, rfl⟩
      · have hm0 : chE l p = [] := by unfold chE; rw [if_neg he]
        repeat' (conv => whnf
                 first | refine psane_c ?_ | refine rfewP_c p (Nat.le_trans hp.hD (by decide)) ?_ | refine Br.yes (decide_eq_true hb) ?_ | refine rfewL_c l hl.1 hl.2 ?_ | refine Br.yes (decide_eq_true hc) ?_ | refine choices_e hs hm0 rfl ?_ | refine Br.no (decide_eq_false he) ?_ | refine Br.tt ?_ | refine Br.ff ?_ | refine Br.dec (fun h => ?_) (fun h => ?_) | refine Br.not ?_ | refine Br.intro (fun h => ?_) (fun h => ?_) | refine GetE.intro _ rfl ?_ | refine Need.intro rfl ?_ | refine DrawP.go mixed rfl ?_)
        conv => whnf
        exact FinP.drop (n := 0) rfl (Nat.le_refl 0) rfl rfl ⟨rfl, rfl⟩
    · repeat' (conv => whnf
               first | refine psane_c ?_ | refine rfewP_c p (Nat.le_trans hp.hD (by decide)) ?_ | refine Br.yes (decide_eq_true hb) ?_ | refine rfewL_c l hl.1 hl.2 ?_ | refine Br.no (decide_eq_false hc) ?_ | refine Br.tt ?_ | refine Br.ff ?_ | refine Br.dec (fun h => ?_) (fun h => ?_) | refine Br.not ?_ | refine Br.intro (fun h => ?_) (fun h => ?_) | refine GetE.intro _ rfl ?_ | refine Need.intro rfl ?_ | refine DrawP.go mixed rfl ?_)
      conv => whnf
      exact FinP.drop (n := 0) rfl (Nat.le_refl 0) rfl rfl ⟨rfl, rfl⟩
  · repeat' (conv => whnf
             first | refine psane_c ?_ | refine rfewP_c p (Nat.le_trans hp.hD (by decide)) ?_ | refine Br.no (decide_eq_false hb) ?_ | refine Br.tt ?_ | refine Br.ff ?_ | refine Br.dec (fun h => ?_) (fun h => ?_) | refine Br.not ?_ | refine Br.intro (fun h => ?_) (fun h => ?_) | refine GetE.intro _ rfl ?_ | refine Need.intro rfl ?_ | refine DrawP.go mixed rfl ?_)
    conv => whnf
    exact FinP.drop (n := 0) rfl (Nat.le_refl 0) rfl rfl ⟨rfl, rfl⟩
theorem call_closed : ∀ xss, TyA C.P Try.f8.params.toList xss → (∀ xs ∈ xss, ∀ y ∈ xs, Dsm reachBytes y) → CallP C 8 (argVs C.P Try.f8.params.toList xss) [] fun X L => L = [] ∧ X = .d (.bool true) := by
  intro xss h hsm
  match xss, h, hsm with
  | [x1, x2], ⟨h1, h2, _⟩, hsm =>
    obtain ⟨x1, rfl, b1⟩ := lisT h1 (hsm _ (by simp))
    obtain ⟨x2, rfl, b2⟩ := plT h2 (hsm _ (by simp))
    exact law x1 x2 b1 b2
set_option maxRecDepth 100000 in
theorem lifted (os : Os) (started : os.Started) (H : Type) (enc : TypeId × Value → H) :
    ReturnsInHanded {} Try.checked os 8 .any (Rows.plannerNextSpec.pre6 enc Try.prog Try.f8 Rows.plannerNextRow.domain false) (Rows.plannerNextSpec.post enc Try.prog Try.f8 false true false false) := by
  refine returnsInHanded_of_change_sized (C := Try.checked) own started (by kernel_rfl) Try.func8
    (ChangeSpec.witness6 (enc := enc) (C := Try.checked) false ⟨#[], #[.agg #[.slice none 0 0], .agg #[.slice none 0 0, .bool false, .slice none 0 0]], []⟩ 8 (by kernel_rfl) (by kernel_rfl) (by kernel_rfl) (by kernel_rfl)) ?_
  intro W base args ds gs before hval hW _ hz _
  refine law_ofB (C := C) (l := plainTys) kids full plainOk bytesOk plainLt (fun t ht => ?_) rfl rfl Try.underlying4 (fun ds hd => ?_) call_closed hval hW hz
  · have : Try.f8.params.toList.all (fun t => plainTys.contains t) = true := by kernel_rfl
    simpa using List.all_eq_true.1 this t ht
  · match ds, hd with
    | [d1, d2], _ => rfl
theorem proved : Rows.PlannerNextSaid :=
  OpenClaim.holds_of_wide 8 Try.f8 rfl rfl rfl rfl rfl rfl rfl ⟨rfl, rfl, rfl, rfl, rfl⟩ rfl rfl rfl rfl rfl (by kernel_rfl) Try.func8 (by kernel_rfl)
    (of_decide_eq_true (by kernel_rfl)) (by unfold Func.isWrapper; first | (rw [if_pos (by decide +kernel)]; kernel_rfl) | (rw [if_neg (by decide +kernel)]; exact ⟨rfl, rfl⟩))
    (fun os started H enc _ => lifted os started H enc)
end Go.Proofs.Ytjknhbfcdjjbhaa.nextLaw
