/-
  The statement PlannerTurned: the order and the repetition of the demands change nothing.
-/
import Derived.Test.YtjknhbfcdjjbhaaDemT
import Derived.Test.YtjknhbfcdjjbhaaPlaM
namespace Go.Proofs.Ytjknhbfcdjjbhaa.turnedLaw
open Go.Tidy Go.ChangeShapes Go.WideShapes Go.ChangeAt Go.RowKit
set_option maxRecDepth 100000
set_option maxHeartbeats 0
set_option linter.unusedSimpArgs false
set_option linter.unusedVariables false
theorem check_e {L : List Blk} {k : V → List Blk → Prop} {p : Pl} (hs : Small [] p) (h : k (I (checkP p)) L) : CallP C 21 [plV p] L k := check_c p hs.hc hs.hd (Nat.le_trans hs.hD (by decide)) h
theorem dmE6 (l : List Dm) : ∀ e ∈ l.map Dm.cells, e.length = 6 := fun e he => by obtain ⟨d, _, rfl⟩ := List.mem_map.1 he; rfl
theorem and1023 (x : Int) : ∃ t : Nat, t ≤ 1023 ∧ andI .i64 x 1023 = (t : Int) := by
  unfold andI
  refine ⟨(BitVec.ofInt IntKind.i64.bits x &&& BitVec.ofInt IntKind.i64.bits 1023).toNat, ?_, ?_⟩
  · rw [BitVec.toNat_and]
    exact Nat.le_trans Nat.and_le_right (by decide)
  · refine wrap_in ?_
    have : (BitVec.ofInt IntKind.i64.bits x &&& BitVec.ofInt IntKind.i64.bits 1023).toNat ≤ 1023 := by
      rw [BitVec.toNat_and]
      exact Nat.le_trans Nat.and_le_right (by decide)
    omega
def turnP (p : Pl) (j : Nat) (hj : j < p.demands.length) : Pl := ⟨p.clubs, p.double, p.demands.drop j ++ p.demands.take j ++ [p.demands[j]]⟩
theorem turn_mem {p : Pl} {j : Nat} (hj : j < p.demands.length) (d : Dm) : d ∈ (turnP p j hj).demands ↔ d ∈ p.demands := by
  unfold turnP
  simp only [List.mem_append, List.mem_singleton]
  constructor
  · rintro ((h | h) | rfl)
    · exact List.mem_of_mem_drop h
    · exact List.mem_of_mem_take h
    · exact List.getElem_mem hj
  · intro h
    rw [← List.take_append_drop j p.demands, List.mem_append] at h
    exact .inl h.symm
theorem rows3 {α : Type} (A B C : List α) (n : Nat) (hn : n = 0 + A.length + B.length + C.length) : (((List.take (0 + A.length + B.length) (List.take (0 + A.length) (List.take 0 ([] : List α) ++ A) ++ B) ++ C).drop 0).take n) = A ++ B ++ C := by
  have h1 : List.take (0 + A.length) (List.take 0 ([] : List α) ++ A) = A := by simp
  have h2 : List.take (0 + A.length + B.length) (A ++ B) = A ++ B := List.take_of_length_le (by simp)
  rw [h1, h2, List.drop_zero]
  exact List.take_of_length_le (by simp; omega)
theorem turn_rows (D : List Dm) (j : Nat) (hj : j < D.length) (C : List (List V)) (hC : C = [D[j].cells.map .d]) :
    List.map (fun x => List.map V.d x) (List.take ((D.map Dm.cells).length - j) (List.drop j (D.map Dm.cells))) ++ List.map (fun x => List.map V.d x) (List.take (j - 0) (List.drop 0 (D.map Dm.cells))) ++ C = (D.drop j ++ D.take j ++ [D[j]]).map fun d => d.cells.map .d := by
  subst hC
  rw [List.take_of_length_le (l := List.drop j (D.map Dm.cells)) (by simp), List.drop_zero, Nat.sub_zero, ← List.map_drop, ← List.map_take, List.map_map, List.map_map, List.map_append, List.map_append]
  rfl
theorem dm_rows {S : Nat → Prop} {L : List Blk} : ∀ xs : List Dm, CvLL S L (xs.map fun d => d.cells.map .d) (xs.map Dm.cells)
  | [] => .nil
  | d :: xs => .cons (.cons (.d _) (.cons (.d _) (.cons (.d _) (.cons (.d _) (.cons (.d _) (.cons (.d _) .nil)))))) (dm_rows xs)
theorem same_run {p x : Pl} (h0 : checkP p = 0) (hx : checkP x = 0) (h : trP p = trP x) : planF p 800 = planF x 800 ∧ countN p 800 = countN x 800 ∧ countE p 800 = countE x 800 := by
  unfold planF countN countE
  rw [argE_of h0 (by decide) (by decide), argE_of hx (by decide) (by decide), run_tr, run_tr, run_tr, run_tr, h]
  exact ⟨rfl, rfl, rfl⟩
theorem law (p : Pl) (turn : Int) (hp : PlB p) : CallP C 6 [plV p, I turn] [] fun X L => L = [] ∧ X = .d (.bool true) := by
  refine callP_cut (fun c => match c with | .region 7 _ _ => true | _ => false) C_ok Try.func6 rfl rfl (n := _) rfl (Nat.le_of_ble_eq_true rfl) (rs := _) rfl ?_
  conv => whnf
  by_cases hb : FewP p
  · have hs : Small [] p := few_nil hb
    have hD := hb.2.2
    by_cases hz : p.demands.length = 0
    · have hz' : ((p.demands.map Dm.cells).length : Int) = 0 := by rw [List.length_map]; omega
      repeat' (conv => whnf
               first | refine psane_c ?_ | refine rfewP_c p (Nat.le_trans hp.hD (by decide)) ?_ | refine Br.yes (decide_eq_true hb) ?_ | refine Br.yes (decide_eq_true hz') ?_ | refine Br.tt ?_ | refine Br.ff ?_ | refine Br.dec (fun h => ?_) (fun h => ?_) | refine Br.not ?_ | refine Br.intro (fun h => ?_) (fun h => ?_) | refine GetE.intro _ rfl ?_ | refine Need.intro rfl ?_ | refine DrawP.go mixed rfl ?_)
      conv => whnf
      exact FinP.drop (n := 0) rfl (Nat.le_refl 0) rfl rfl ⟨rfl, rfl⟩
    · have hz' : ¬ ((p.demands.map Dm.cells).length : Int) = 0 := by rw [List.length_map]; omega
      by_cases h0 : checkP p = 0
      · obtain ⟨t, ht, hta⟩ := and1023 turn
        obtain ⟨j, hj, hjt⟩ : ∃ j : Nat, j < p.demands.length ∧ (andI .i64 turn 1023).tmod ((p.demands.map Dm.cells).length : Int) = (j : Int) := ⟨t % p.demands.length, Nat.mod_lt _ (by omega), by rw [hta, List.length_map, Int.ofNat_tmod]⟩
        have r1 : (p.demands.map Dm.cells)[j]? = some (p.demands[j]).cells := by rw [List.getElem?_map, List.getElem?_eq_getElem hj]; rfl
        repeat' (conv => whnf
                 first | refine psane_c ?_ | refine rfewP_c p (Nat.le_trans hp.hD (by decide)) ?_ | refine Br.yes (decide_eq_true hb) ?_ | refine Br.no (decide_eq_false hz') ?_ | refine check_e hs ?_ | refine Br.yes (decide_eq_true h0) ?_ | refine Need.intro hz' ?_ | refine Br.tt ?_ | refine Br.ff ?_ | refine Br.dec (fun h => ?_) (fun h => ?_) | refine Br.not ?_ | refine Br.intro (fun h => ?_) (fun h => ?_) | refine GetE.intro _ rfl ?_ | refine Need.intro rfl ?_ | refine DrawP.go mixed rfl ?_)
        conv => whnf
        refine CutP.intro (ι := Unit) (fun _ => ⟨[(2, .ptr 0 0), (4, B false), (6, .ptr 1 0)], Try.f6.ntmps, [.cells (p.cells.map .d), .cells ((turnP p j hj).cells.map .d)], [], none⟩) ?_ (fun _ => ?_)
        · refine DrawP.por mixed [] [[(1, 0), (2, 3), (3, 0), (4, 1), (6, 0), (7, 4), (8, 0), (9, 1), (11, 0), (12, 4), (13, 0), (14, 1), (15, 4), (0, 0), (5, 0), (10, 0), (16, 0), (17, 0), (18, 0), (19, 0)], [(1, 0), (2, 3), (3, 0), (4, 1), (6, 0), (7, 4), (8, 0), (9, 1), (11, 0), (12, 4), (13, 0), (14, 1), (15, 4), (0, 0), (5, 0), (16, 0), (10, 0), (17, 0), (18, 0), (19, 0)], [(1, 0), (2, 3), (3, 0), (4, 1), (6, 0), (7, 4), (8, 0), (9, 1), (11, 0), (12, 4), (13, 0), (14, 1), (15, 4), (0, 0), (16, 0), (5, 0), (10, 0), (17, 0), (18, 0), (19, 0)], [(1, 0), (2, 3), (3, 0), (4, 1), (6, 0), (7, 4), (8, 0), (9, 1), (11, 0), (12, 4), (13, 0), (14, 1), (15, 4), (16, 0), (0, 0), (5, 0), (10, 0), (17, 0), (18, 0), (19, 0)]] (by kernel_rfl) ?_
          conv => whnf
          refine And.intro ?_ ?_
          rotate_left 1
          conv => whnf
          refine And.intro ?_ ?_
          rotate_left 1
          conv => whnf
          refine And.intro ?_ ?_
          all_goals
            repeat' (conv => whnf
                     first | refine Br.tt ?_ | refine Br.ff ?_ | refine Br.dec (fun h => ?_) (fun h => ?_) | refine Br.not ?_ | refine Br.intro (fun h => ?_) (fun h => ?_) | refine GetE.intro _ rfl ?_ | refine Need.intro rfl ?_ | refine DrawP.go mixed rfl ?_ | refine Need.intro (dmE6 p.demands) ?_ | refine Need.intro (fun e he => dmE6 p.demands e (List.mem_of_mem_drop (List.mem_of_mem_take he))) ?_ | refine SliceP.intro j (p.demands.map Dm.cells).length hjt rfl (by rw [List.length_map]; omega) (Nat.le_refl _) ?_ | refine SliceP.intro 0 j rfl hjt (Nat.zero_le _) (by rw [List.length_map]; omega) ?_ | refine Idx.intro j _ hjt r1 ?_ | refine Need.intro (Nat.le_trans (m := 4294967296) (by simp only [List.length_map, List.length_take, List.length_drop, List.length_append, List.length_nil, List.length_cons]; omega) (apLim_ge _)) ?_)
          all_goals conv => whnf
          all_goals
            refine ⟨(), Weak.thaw 2 (Nat.zero_le _) (Nat.le_of_ble_eq_true rfl) rfl ⟨.inl ⟨rfl, rfl⟩, .inl ⟨rfl, rfl⟩, .inl ⟨rfl, rfl⟩, trivial⟩ ?_⟩
            intro b x y hx hy
            match b, hx, hy with
            | 0, hx, hy => cases hx; cases hy; exact .inl ⟨rfl, rfl⟩
            | 1, hx, hy =>
              cases hx; cases hy
              refine .inr (.inr ⟨_, _, rfl, rfl, rfl, fun i u v hu hv => ?_⟩)
              match i, hu, hv with
              | 0, hu, hv => cases hu; cases hv; exact .inl ⟨rfl, rfl⟩
              | 1, hu, hv => cases hu; cases hv; exact .inl ⟨rfl, rfl⟩
              | 2, hu, hv =>
                cases hu; cases hv
                refine .inr (.d (.rowL (ds := (turnP p j hj).demands.map Dm.cells) (Nat.le_of_ble_eq_true rfl) rfl ?_ ?_ (dmE6 _)))
                · exact CvLL.cong ((rows3 _ _ _ _ rfl).trans (turn_rows p.demands j hj _ rfl)) (dm_rows (turnP p j hj).demands)
                · simp only [turnP, List.length_map, List.length_append, List.length_drop, List.length_take, List.length_cons, List.length_nil, List.length_singleton]; omega
              | i + 3, hu, hv => simp [turnP, Pl.cells] at hv
            | b + 2, hx, hy => simp at hy
        · have hx : checkP (turnP p j hj) = 0 := check_of h0 (by simp [turnP]; omega) fun d hd => checkP_valid h0 d ((turn_mem hj d).1 hd)
          have hsx : Small [] (turnP p j hj) := ⟨hs.hl, hs.hr, hs.hc, fun d hd => hs.hd d ((turn_mem hj d).1 hd), by simp [turnP]; omega⟩
          obtain ⟨e1, e2, e3⟩ := same_run h0 hx (tr_same h0 hx (turn_mem hj))
          have f1 : (planF p 800).l = (planF (turnP p j hj) 800).l := by rw [e1]
          have f2 : (planF p 800).sp = (planF (turnP p j hj) 800).sp := by rw [e1]
          have f3 : (planF p 800).e = (planF (turnP p j hj) 800).e := by rw [e1]
          have hsm := planF_small 800 hs
          repeat' (conv => whnf
                   first | refine plan_c p 800 hs ?_ | refine plan_c (turnP p j hj) 800 hsx ?_ | refine count_c p 800 hs ?_ | refine count_c (turnP p j hj) 800 hsx ?_ | refine rsameL_c _ _ (Nat.le_trans hsm.hl (by decide)) hsm.hr ?_ | refine Br.yes (decide_eq_true f1) ?_ | refine Br.yes (decide_eq_true (congrArg Int.ofNat f2)) ?_ | refine Br.yes (decide_eq_true f3) ?_ | refine Br.yes (decide_eq_true e2) ?_ | refine Br.tt ?_ | refine Br.ff ?_ | refine Br.dec (fun h => ?_) (fun h => ?_) | refine Br.not ?_ | refine Br.intro (fun h => ?_) (fun h => ?_) | refine GetE.intro _ rfl ?_ | refine Need.intro rfl ?_ | refine DrawP.go mixed rfl ?_)
          conv => whnf
          exact FinP.drop (n := 0) rfl (Nat.le_refl 0) rfl rfl ⟨rfl, congrArg B (decide_eq_true e3)⟩
      · repeat' (conv => whnf
                 first | refine psane_c ?_ | refine rfewP_c p (Nat.le_trans hp.hD (by decide)) ?_ | refine Br.yes (decide_eq_true hb) ?_ | refine Br.no (decide_eq_false hz') ?_ | refine check_e hs ?_ | refine Br.no (decide_eq_false h0) ?_ | refine Br.tt ?_ | refine Br.ff ?_ | refine Br.dec (fun h => ?_) (fun h => ?_) | refine Br.not ?_ | refine Br.intro (fun h => ?_) (fun h => ?_) | refine GetE.intro _ rfl ?_ | refine Need.intro rfl ?_ | refine DrawP.go mixed rfl ?_)
        conv => whnf
        exact FinP.drop (n := 0) rfl (Nat.le_refl 0) rfl rfl ⟨rfl, rfl⟩
  · repeat' (conv => whnf
             first | refine psane_c ?_ | refine rfewP_c p (Nat.le_trans hp.hD (by decide)) ?_ | refine Br.no (decide_eq_false hb) ?_ | refine Br.tt ?_ | refine Br.ff ?_ | refine Br.dec (fun h => ?_) (fun h => ?_) | refine Br.not ?_ | refine Br.intro (fun h => ?_) (fun h => ?_) | refine GetE.intro _ rfl ?_ | refine Need.intro rfl ?_ | refine DrawP.go mixed rfl ?_)
    conv => whnf
    exact FinP.drop (n := 0) rfl (Nat.le_refl 0) rfl rfl ⟨rfl, rfl⟩
theorem call_closed : ∀ xss, TyA C.P Try.f6.params.toList xss → (∀ xs ∈ xss, ∀ y ∈ xs, Dsm reachBytes y) → CallP C 6 (argVs C.P Try.f6.params.toList xss) [] fun X L => L = [] ∧ X = .d (.bool true) := by
  intro xss h hsm
  match xss, h, hsm with
  | [x1, x2], ⟨h1, h2, _⟩, hsm =>
    obtain ⟨x1, rfl, b1⟩ := plT h1 (hsm _ (by simp))
    obtain ⟨x2, rfl, b2⟩ := intT h2 (hsm _ (by simp))
    exact law x1 x2 b1
set_option maxRecDepth 100000 in
theorem lifted (os : Os) (started : os.Started) (H : Type) (enc : TypeId × Value → H) :
    ReturnsInHanded {} Try.checked os 6 .any (Rows.plannerTurnedSpec.pre6 enc Try.prog Try.f6 Rows.plannerTurnedRow.domain false) (Rows.plannerTurnedSpec.post enc Try.prog Try.f6 false true false false) := by
  refine returnsInHanded_of_change_sized (C := Try.checked) own started (by kernel_rfl) Try.func6
    (ChangeSpec.witness6 (enc := enc) (C := Try.checked) false ⟨#[], #[.agg #[.slice none 0 0, .bool false, .slice none 0 0], .int .i64 0], []⟩ 8 (by kernel_rfl) (by kernel_rfl) (by kernel_rfl) (by kernel_rfl)) ?_
  intro W base args ds gs before hval hW _ hz _
  refine law_ofB (C := C) (l := plainTys) kids full plainOk bytesOk plainLt (fun t ht => ?_) rfl rfl Try.underlying4 (fun ds hd => ?_) call_closed hval hW hz
  · have : Try.f6.params.toList.all (fun t => plainTys.contains t) = true := by kernel_rfl
    simpa using List.all_eq_true.1 this t ht
  · match ds, hd with
    | [d1, d2], _ => rfl
theorem proved : Rows.PlannerTurnedSaid :=
  OpenClaim.holds_of_wide 6 Try.f6 rfl rfl rfl rfl rfl rfl rfl ⟨rfl, rfl, rfl, rfl, rfl⟩ rfl rfl rfl rfl rfl (by kernel_rfl) Try.func6 (by kernel_rfl)
    (of_decide_eq_true (by kernel_rfl)) (by unfold Func.isWrapper; first | (rw [if_pos (by decide +kernel)]; kernel_rfl) | (rw [if_neg (by decide +kernel)]; exact ⟨rfl, rfl⟩))
    (fun os started H enc _ => lifted os started H enc)
end Go.Proofs.Ytjknhbfcdjjbhaa.turnedLaw
