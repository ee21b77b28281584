/-
  The statement PlannerSplits: the lists in which a club is at home, away, or free in a round are together all lists.
-/
import Derived.Test.YtjknhbfcdjjbhaaDemT
import Derived.Test.YtjknhbfcdjjbhaaPlaM
namespace Go.Proofs.Ytjknhbfcdjjbhaa.splitsLaw
open Go.Tidy Go.ChangeShapes Go.WideShapes Go.ChangeAt Go.RowKit
set_option maxRecDepth 100000
set_option maxHeartbeats 0
set_option linter.unusedSimpArgs false
set_option linter.unusedVariables false
theorem check_e {L : List Blk} {k : V → List Blk → Prop} {p : Pl} (hs : Small [] p) (h : k (I (checkP p)) L) : CallP C 21 [plV p] L k := check_c p hs.hc hs.hd (Nat.le_trans hs.hD (by decide)) h
theorem dmE6 (l : List Dm) : ∀ e ∈ l.map Dm.cells, e.length = 6 := fun e he => by obtain ⟨d, _, rfl⟩ := List.mem_map.1 he; rfl
theorem and1023 (x : Int) : ∃ t : Nat, t ≤ 1023 ∧ andI .i64 x 1023 = (t : Int) := by
  unfold andI
  refine ⟨(BitVec.ofInt IntKind.i64.bits x &&& BitVec.ofInt IntKind.i64.bits 1023).toNat, ?_, ?_⟩
  · rw [BitVec.toNat_and]
    exact Nat.le_trans Nat.and_le_right (by decide)
  · refine wrap_in ?_
    have : (BitVec.ofInt IntKind.i64.bits x &&& BitVec.ofInt IntKind.i64.bits 1023).toNat ≤ 1023 := by
      rw [BitVec.toNat_and]
      exact Nat.le_trans Nat.and_le_right (by decide)
    omega
theorem fulls_ticks (p : Pl) : (fulls (trP p)).length ≤ ticks (trP p) := by
  have h := (run_all (bud := ticks (trP p)) (trP p) 0 [] (Nat.zero_le _)).1 (by omega)
  unfold trP at h
  rw [← exam_trace] at h
  have := exam_keep _ _ p _ true _ [] 0 [] (Nat.zero_le _) (fun hf => by rw [full_nil] at hf; cases hf) (Nat.le_refl _) _ _ h
  unfold trP
  simpa using this.2.1
def xK (p : Pl) (c r k : Int) : Pl := ⟨p.clubs, p.double, p.demands ++ [dmK k c r]⟩
def sumK (p : Pl) (c r : Int) : Nat → Int
  | 0 => 0
  | i + 1 => sumK p c r i + countN (xK p c r (i + 1)) 800
theorem count_le (p : Pl) (h0 : checkP p = 0) : 0 ≤ countN p 800 ∧ countN p 800 ≤ 800 := by
  obtain ⟨a, b⟩ := count_tr (most := 800) h0 (by decide) (by decide)
  have := fulls_ticks p
  by_cases h : (ticks (trP p) : Int) ≤ 800
  · rw [(a h).1]; omega
  · rw [(b (by omega)).1]; omega
abbrev xV (p : Pl) (c r k : Int) : V := .agg [.d (ints p.clubs), B p.double, .d (.sl (p.demands.map Dm.cells ++ [(dmK k c r).cells]))]
theorem xV_eq (p : Pl) (c r k : Int) : plV (xK p c r k) = xV p c r k := by
  show V.agg [.d (ints p.clubs), B p.double, .d (.sl ((p.demands ++ [dmK k c r]).map Dm.cells))] = _
  rw [List.map_append]; rfl
theorem check_x {L : List Blk} {k : V → List Blk → Prop} {p : Pl} {c r kk : Int} (hs : Small [] (xK p c r kk)) (h : k (I (checkP (xK p c r kk))) L) : CallP C 21 [xV p c r kk] L k := by
  rw [← xV_eq]; exact check_e hs h
theorem count_x {L : List Blk} {k : V → List Blk → Prop} {p : Pl} {c r kk n e : Int} (hs : Small [] (xK p c r kk)) (hn : countN (xK p c r kk) 800 = n) (he : countE (xK p c r kk) 800 = e) (h : k (.tup [I n, I e]) L) : CallP C 18 [xV p c r kk, I 800] L k := by
  rw [← xV_eq]; exact count_e hs hn he h
theorem CvLL.snoc {S : Nat → Prop} {L : List Blk} {x : List V} {y : List D} (h : CvL S L x y) : ∀ {xs : List (List V)} {ys : List (List D)}, CvLL S L xs ys → CvLL S L (xs ++ [x]) (ys ++ [y])
  | _, _, .nil => .cons h .nil
  | _, _, .cons a b => .cons a (CvLL.snoc h b)
theorem rows2 {α : Type} (A C : List α) (n : Nat) (hn : n = 0 + A.length + C.length) : ((List.take (0 + A.length) (List.take 0 ([] : List α) ++ A) ++ C).drop 0).take n = A ++ C := by
  subst hn
  have h1 : List.take (0 + A.length) (List.take 0 ([] : List α) ++ A) = A := by simp
  rw [h1, List.drop_zero]
  exact List.take_of_length_le (by simp)
theorem dm_rows {S : Nat → Prop} {L : List Blk} : ∀ xs : List Dm, CvLL S L (xs.map fun d => d.cells.map .d) (xs.map Dm.cells)
  | [] => .nil
  | d :: xs => .cons (.cons (.d _) (.cons (.d _) (.cons (.d _) (.cons (.d _) (.cons (.d _) (.cons (.d _) .nil)))))) (dm_rows xs)
theorem xk_rows {S : Nat → Prop} {L : List Blk} (D : List Dm) (c r k : Int) : CvLL S L ((D.map Dm.cells).map (fun x => x.map .d) ++ [[I k, I c, I 0, I r, I 0, .nil]]) (D.map Dm.cells ++ [(dmK k c r).cells]) := by
  rw [List.map_map]
  exact CvLL.snoc (.cons (.d _) (.cons (.d _) (.cons (.d _) (.cons (.d _) (.cons (.d _) (.cons .nil .nil)))))) (dm_rows D)
theorem xk_len (D : List Dm) (c r k : Int) : ∀ e ∈ D.map Dm.cells ++ [(dmK k c r).cells], e.length = 6 := fun e he => by
  rcases List.mem_append.1 he with he | he
  · exact dmE6 D e he
  · rw [List.mem_singleton.1 he]; rfl
theorem count_cases {p : Pl} (h0 : checkP p = 0) : (countE p 800 = 0 ∧ countN p 800 = (fulls (trP p)).length) ∨ countE p 800 = 3 := by
  obtain ⟨a, b⟩ := count_tr (most := 800) h0 (by decide) (by decide)
  by_cases h : (ticks (trP p) : Int) ≤ 800
  · exact .inl ⟨(a h).2, (a h).1⟩
  · exact .inr (b (by omega)).2
theorem split_end {p : Pl} {c r : Int} (hs : Small [] p) (h0 : checkP p = 0) (hx : ∀ k : Nat, k < 3 → checkP (xK p c r (k + 1)) = 0 ∧ countE (xK p c r (k + 1)) 800 = 0) (he : countE p 800 = 0) : countN p 800 = sumK p c r 3 := by
  have hone : ∀ k : Nat, k < 3 → countN (xK p c r (k + 1)) 800 = (fulls (trP (xK p c r (k + 1)))).length := fun k hk => by
    obtain ⟨h1, h2⟩ := hx k hk
    rcases count_cases h1 with h | h
    · exact h.2
    · rw [h] at h2; cases h2
  have hp : countN p 800 = (fulls (trP p)).length := by
    rcases count_cases h0 with h | h
    · exact h.2
    · rw [h] at he; cases he
  have h1 := hone 0 (by decide)
  have h2 := hone 1 (by decide)
  have h3 := hone 2 (by decide)
  have c1 := (hx 0 (by decide)).1
  have c2 := (hx 1 (by decide)).1
  have c3 := (hx 2 (by decide)).1
  have e1 : ((0 : Nat) : Int) + 1 = 1 := rfl
  have e2 : ((1 : Nat) : Int) + 1 = 2 := rfl
  have e3 : ((2 : Nat) : Int) + 1 = 3 := rfl
  rw [e1] at h1 c1; rw [e2] at h2 c2; rw [e3] at h3 c3
  have ht := tr_splits (c := c) (r := r) hs h0 fun k hk => by
    rcases hk with rfl | rfl | rfl
    · exact c1
    · exact c2
    · exact c3
  show _ = 0 + countN (xK p c r (((0 : Nat) : Int) + 1)) 800 + countN (xK p c r (((1 : Nat) : Int) + 1)) 800 + countN (xK p c r (((2 : Nat) : Int) + 1)) 800
  rw [e1, e2, e3, h1, h2, h3, hp, ← ht]
  show ((((fulls (trP (xK p c r 1))).length + (fulls (trP (xK p c r 2))).length + (fulls (trP (xK p c r 3))).length : Nat)) : Int) = _
  omega
theorem sum_le {p : Pl} {c r : Int} : ∀ i : Nat, (∀ k : Nat, k < i → checkP (xK p c r (k + 1)) = 0 ∧ countE (xK p c r (k + 1)) 800 = 0) → 0 ≤ sumK p c r i ∧ sumK p c r i ≤ 800 * i
  | 0, _ => ⟨Int.le_refl _, Int.le_refl _⟩
  | i + 1, h => by
    have h1 := sum_le i fun k hk => h k (by omega)
    have h2 := count_le _ (h i (Nat.lt_succ_self i)).1
    have : sumK p c r (i + 1) = sumK p c r i + countN (xK p c r (i + 1)) 800 := rfl
    omega
theorem law (p : Pl) (club round : Int) (hp : PlB p) : CallP C 7 [plV p, I club, I round] [] fun X L => L = [] ∧ X = .d (.bool true) := by
  refine callP_of C_ok Try.func7 rfl rfl (n := _) rfl (Nat.le_of_ble_eq_true rfl) (rs := _) rfl ?_
  by_cases hb : FewP p
  · have hs : Small [] p := few_nil hb
    have hD := hb.2.2
    have hC := hb.2.1
    by_cases h4 : (4 : Int) < ((p.clubs.map fun n => [DI n]).length : Int)
    · repeat' (conv => whnf
               first | refine psane_c ?_ | refine rfewP_c p (Nat.le_trans hp.hD (by decide)) ?_ | refine Br.yes (decide_eq_true hb) ?_ | refine Br.yes (decide_eq_true h4) ?_ | refine Br.tt ?_ | refine Br.ff ?_ | refine Br.dec (fun h => ?_) (fun h => ?_) | refine Br.not ?_ | refine Br.intro (fun h => ?_) (fun h => ?_) | refine GetE.intro _ rfl ?_ | refine Need.intro rfl ?_ | refine DrawP.go mixed rfl ?_)
      conv => whnf
      exact FinP.drop (n := 0) rfl (Nat.le_refl 0) rfl rfl ⟨rfl, rfl⟩
    by_cases hz : ((p.clubs.map fun n => [DI n]).length : Int) = 0
    · repeat' (conv => whnf
               first | refine psane_c ?_ | refine rfewP_c p (Nat.le_trans hp.hD (by decide)) ?_ | refine Br.yes (decide_eq_true hb) ?_ | refine Br.no (decide_eq_false h4) ?_ | refine Br.yes (decide_eq_true hz) ?_ | refine Br.tt ?_ | refine Br.ff ?_ | refine Br.dec (fun h => ?_) (fun h => ?_) | refine Br.not ?_ | refine Br.intro (fun h => ?_) (fun h => ?_) | refine GetE.intro _ rfl ?_ | refine Need.intro rfl ?_ | refine DrawP.go mixed rfl ?_)
      conv => whnf
      exact FinP.drop (n := 0) rfl (Nat.le_refl 0) rfl rfl ⟨rfl, rfl⟩
    by_cases h0 : checkP p = 0
    · obtain ⟨n, e, hn, he⟩ : ∃ n e : Int, countN p 800 = n ∧ countE p 800 = e := ⟨_, _, rfl, rfl⟩
      obtain ⟨t, ht, hta⟩ := and1023 club
      have hcl : 0 < p.clubs.length := by rw [List.length_map] at hz; omega
      obtain ⟨j, hj, hjt⟩ : ∃ j : Nat, j < p.clubs.length ∧ (andI .i64 club 1023).tmod ((p.clubs.map fun n => [DI n]).length : Int) = (j : Int) := ⟨t % p.clubs.length, Nat.mod_lt _ hcl, by rw [hta, List.length_map, Int.ofNat_tmod]⟩
      have r1 : (p.clubs.map fun n => [DI n])[j]? = some [DI p.clubs[j]] := by rw [List.getElem?_map, List.getElem?_eq_getElem hj]; rfl
      obtain ⟨c, hc⟩ : ∃ c, p.clubs[j] = c := ⟨_, rfl⟩
      rw [hc] at r1
      have hsx : ∀ k, Small [] (xK p c round k) := fun k => ⟨hs.hl, hs.hr, hs.hc, fun d hd => by
        rcases List.mem_append.1 hd with hd | hd
        · exact hs.hd d hd
        · rw [List.mem_singleton.1 hd]; exact Nat.zero_le _, by simp [xK]; omega⟩
      repeat' (conv => whnf
               first | refine psane_c ?_ | refine rfewP_c p (Nat.le_trans hp.hD (by decide)) ?_ | refine Br.yes (decide_eq_true hb) ?_ | refine Br.no (decide_eq_false h4) ?_ | refine Br.no (decide_eq_false hz) ?_ | refine check_e hs ?_ | refine Br.yes (decide_eq_true h0) ?_ | refine count_e hs hn he ?_ | refine Br.tt ?_ | refine Br.ff ?_ | refine Br.dec (fun h => ?_) (fun h => ?_) | refine Br.not ?_ | refine Br.intro (fun h => ?_) (fun h => ?_) | refine GetE.intro _ rfl ?_ | refine Need.intro rfl ?_ | refine DrawP.go mixed rfl ?_)
      conv => whnf
      refine LoopP.inv (fun i => i ≤ 3 ∧ ∀ k : Nat, k < i → checkP (xK p c round (k + 1)) = 0 ∧ countE (xK p c round (k + 1)) 800 = 0) (fun i => ⟨[(1, I club), (2, I round), (3, .ptr 0 0), (6, B false), (7, I n), (8, I e), (9, I (sumK p c round i)), (42, .own 1 0 0 3), (43, I 3), (44, I i)], Try.f7.ntmps, [.cells (p.cells.map .d), .row 0 1 [[I 1], [I 2], [I 3]]], [], none⟩) (fun i => 3 - i) 0 ⟨Nat.zero_le _, fun k hk => absurd hk (Nat.not_lt_zero k)⟩ ?_ ?_
      · exact Weak.by ⟨rfl, rfl, rfl, rfl, rfl, rfl, rfl, rfl, rfl, rfl, trivial⟩
      rintro i ⟨hi, hx⟩
      by_cases hi3 : i < 3
      · have hlt : (i : Int) < 3 := by omega
        have hw : IntKind.i64.wrap ((i : Int) + 1) = ((i + 1 : Nat) : Int) := by rw [wrap_in (by omega)]; omega
        have hg : ([[I 1], [I 2], [I 3]] : List (List V))[0 + i]? = some [I ((i : Int) + 1)] := by
          have : i = 0 ∨ i = 1 ∨ i = 2 := by omega
          rcases this with rfl | rfl | rfl <;> rfl
        obtain ⟨m, f, hN, hE⟩ : ∃ m f : Int, countN (xK p c round ((i : Int) + 1)) 800 = m ∧ countE (xK p c round ((i : Int) + 1)) 800 = f := ⟨_, _, rfl, rfl⟩
        repeat' (conv => whnf
                 first | refine Br.yes (decide_eq_true hlt) ?_ | refine IdxN.intro i rfl hi3 ?_ | refine GetE.intro _ hg ?_ | simp only [Nat.beq_refl, Bool.and_self] | refine Br.tt ?_ | refine Br.ff ?_ | refine Br.dec (fun h => ?_) (fun h => ?_) | refine Br.not ?_ | refine Br.intro (fun h => ?_) (fun h => ?_) | refine GetE.intro _ rfl ?_ | refine Need.intro rfl ?_ | refine DrawP.go mixed rfl ?_)
        conv => whnf
        refine DrawP.por mixed [] [[(1, 0), (2, 3), (4, 0), (5, 0), (6, 4), (7, 0), (8, 0), (9, 0), (10, 4), (11, 1), (12, 0), (13, 1), (14, 4), (15, 0), (16, 0), (0, 0), (3, 0), (17, 0), (18, 0), (19, 0), (20, 0)], [(1, 0), (2, 3), (4, 0), (5, 0), (6, 4), (7, 0), (8, 0), (9, 0), (10, 4), (11, 1), (12, 0), (13, 1), (14, 4), (15, 0), (16, 0), (0, 0), (17, 0), (3, 0), (18, 0), (19, 0), (20, 0)], [(1, 0), (2, 3), (4, 0), (5, 0), (6, 4), (7, 0), (8, 0), (9, 0), (10, 4), (11, 1), (12, 0), (13, 1), (14, 4), (15, 0), (16, 0), (17, 0), (0, 0), (3, 0), (18, 0), (19, 0), (20, 0)]] (by kernel_rfl) ?_
        conv => whnf
        refine And.intro ?_ ?_
        rotate_left 1
        conv => whnf
        refine And.intro ?_ ?_
        all_goals
          repeat' (conv => whnf
                   first | refine Need.intro (dmE6 p.demands) ?_ | refine Need.intro hz ?_ | refine Idx.intro j _ hjt r1 ?_ | refine Need.intro (Nat.le_trans (m := 4294967296) (by simp only [List.length_map, List.length_take, List.length_drop, List.length_append, List.length_nil, List.length_cons]; omega) (apLim_ge _)) ?_ | refine CallP.lent (check_x (hsx _) ⟨rfl, rfl⟩) (.cv (y := xV p c round ((i : Int) + 1)) (.aggL (.cons (.d _) (.cons (.d _) (.cons (.rowL (ds := p.demands.map Dm.cells ++ [(dmK ((i : Int) + 1) c round).cells]) trivial rfl (CvLL.cong (rows2 _ _ _ rfl) (xk_rows p.demands c round _)) (by simp) (xk_len _ _ _ _)) .nil)))) .nil) rfl rfl ?_ | refine CallP.lent (count_x (hsx _) hN hE ⟨rfl, rfl⟩) (.cv (y := xV p c round ((i : Int) + 1)) (.aggL (.cons (.d _) (.cons (.d _) (.cons (.rowL (ds := p.demands.map Dm.cells ++ [(dmK ((i : Int) + 1) c round).cells]) trivial rfl (CvLL.cong (rows2 _ _ _ rfl) (xk_rows p.demands c round _)) (by simp) (xk_len _ _ _ _)) .nil)))) (.keep .nil)) rfl rfl ?_ | refine Br.tt ?_ | refine Br.ff ?_ | refine Br.dec (fun h => ?_) (fun h => ?_) | refine Br.not ?_ | refine Br.intro (fun h => ?_) (fun h => ?_) | refine GetE.intro _ rfl ?_ | refine Need.intro rfl ?_ | refine DrawP.go mixed rfl ?_)
        all_goals conv => whnf
        all_goals first
        | exact FinP.drop (n := 0) rfl (Nat.le_refl 0) rfl rfl ⟨rfl, rfl⟩
        | (exfalso
           have h5 := count_cases ‹checkP (xK p c round ((i : Int) + 1)) = 0›
           rw [hE] at h5; omega)
        | (have h5 : checkP (xK p c round ((i : Int) + 1)) = 0 := ‹_›
           have h6 : f = 0 := ‹_›
           have hbd := sum_le i hx
           have hm := count_le _ h5
           rw [hN] at hm
           have hsum : IntKind.i64.wrap (sumK p c round i + m) = sumK p c round (i + 1) := by
             rw [wrap_in (by omega)]; show _ = sumK p c round i + countN _ 800; rw [hN]
           exact ⟨i + 1, ⟨hi3, fun k hk => by
             rcases Nat.lt_succ_iff_lt_or_eq.1 hk with hk | rfl
             · exact hx k hk
             · exact ⟨h5, hE.trans h6⟩⟩, by omega, Weak.to 2 rfl (Nat.zero_le _) (Nat.le_of_ble_eq_true rfl) ⟨rfl, rfl, rfl, rfl, rfl, rfl, congrArg I hsum, rfl, rfl, congrArg I hw, trivial⟩⟩)
      · have hlt : ¬ (i : Int) < 3 := by omega
        have hi' : i = 3 := by omega
        have hend : e = 0 → n = sumK p c round i := fun h => by
          rw [← hn, hi']; rw [hi'] at hx; exact split_end hs h0 hx (he.trans h)
        have hec := count_cases h0
        rw [he] at hec
        repeat' (conv => whnf
                 first | refine Br.no (decide_eq_false hlt) ?_ | refine Br.tt ?_ | refine Br.ff ?_ | refine Br.dec (fun h => ?_) (fun h => ?_) | refine Br.not ?_ | refine Br.intro (fun h => ?_) (fun h => ?_) | refine GetE.intro _ rfl ?_ | refine Need.intro rfl ?_ | refine DrawP.go mixed rfl ?_)
        all_goals conv => whnf
        all_goals first
        | exact FinP.drop (n := 0) rfl (Nat.le_refl 0) rfl rfl ⟨rfl, rfl⟩
        | exact FinP.drop (n := 0) rfl (Nat.le_refl 0) rfl rfl ⟨rfl, congrArg B (decide_eq_true (hend ‹_›))⟩
        | (exfalso; omega)
    · repeat' (conv => whnf
               first | refine psane_c ?_ | refine rfewP_c p (Nat.le_trans hp.hD (by decide)) ?_ | refine Br.yes (decide_eq_true hb) ?_ | refine Br.no (decide_eq_false h4) ?_ | refine Br.no (decide_eq_false hz) ?_ | refine check_e hs ?_ | refine Br.no (decide_eq_false h0) ?_ | refine Br.tt ?_ | refine Br.ff ?_ | refine Br.dec (fun h => ?_) (fun h => ?_) | refine Br.not ?_ | refine Br.intro (fun h => ?_) (fun h => ?_) | refine GetE.intro _ rfl ?_ | refine Need.intro rfl ?_ | refine DrawP.go mixed rfl ?_)
      conv => whnf
      exact FinP.drop (n := 0) rfl (Nat.le_refl 0) rfl rfl ⟨rfl, rfl⟩
  · repeat' (conv => whnf
             first | refine psane_c ?_ | refine rfewP_c p (Nat.le_trans hp.hD (by decide)) ?_ | refine Br.no (decide_eq_false hb) ?_ | refine Br.tt ?_ | refine Br.ff ?_ | refine Br.dec (fun h => ?_) (fun h => ?_) | refine Br.not ?_ | refine Br.intro (fun h => ?_) (fun h => ?_) | refine GetE.intro _ rfl ?_ | refine Need.intro rfl ?_ | refine DrawP.go mixed rfl ?_)
    conv => whnf
    exact FinP.drop (n := 0) rfl (Nat.le_refl 0) rfl rfl ⟨rfl, rfl⟩
theorem call_closed : ∀ xss, TyA C.P Try.f7.params.toList xss → (∀ xs ∈ xss, ∀ y ∈ xs, Dsm reachBytes y) → CallP C 7 (argVs C.P Try.f7.params.toList xss) [] fun X L => L = [] ∧ X = .d (.bool true) := by
  intro xss h hsm
  match xss, h, hsm with
  | [x1, x2, x3], ⟨h1, h2, h3, _⟩, hsm =>
    obtain ⟨x1, rfl, b1⟩ := plT h1 (hsm _ (by simp))
    obtain ⟨x2, rfl, b2⟩ := intT h2 (hsm _ (by simp))
    obtain ⟨x3, rfl, b3⟩ := intT h3 (hsm _ (by simp))
    exact law x1 x2 x3 b1
set_option maxRecDepth 100000 in
theorem lifted (os : Os) (started : os.Started) (H : Type) (enc : TypeId × Value → H) :
    ReturnsInHanded {} Try.checked os 7 .any (Rows.plannerSplitsSpec.pre6 enc Try.prog Try.f7 Rows.plannerSplitsRow.domain false) (Rows.plannerSplitsSpec.post enc Try.prog Try.f7 false true false false) := by
  refine returnsInHanded_of_change_sized (C := Try.checked) own started (by kernel_rfl) Try.func7
    (ChangeSpec.witness6 (enc := enc) (C := Try.checked) false ⟨#[], #[.agg #[.slice none 0 0, .bool false, .slice none 0 0], .int .i64 0, .int .i64 0], []⟩ 8 (by kernel_rfl) (by kernel_rfl) (by kernel_rfl) (by kernel_rfl)) ?_
  intro W base args ds gs before hval hW _ hz _
  refine law_ofB (C := C) (l := plainTys) kids full plainOk bytesOk plainLt (fun t ht => ?_) rfl rfl Try.underlying4 (fun ds hd => ?_) call_closed hval hW hz
  · have : Try.f7.params.toList.all (fun t => plainTys.contains t) = true := by kernel_rfl
    simpa using List.all_eq_true.1 this t ht
  · match ds, hd with
    | [d1, d2, d3], _ => rfl
theorem proved : Rows.PlannerSplitsSaid :=
  OpenClaim.holds_of_wide 7 Try.f7 rfl rfl rfl rfl rfl rfl rfl ⟨rfl, rfl, rfl, rfl, rfl⟩ rfl rfl rfl rfl rfl (by kernel_rfl) Try.func7 (by kernel_rfl)
    (of_decide_eq_true (by kernel_rfl)) (by unfold Func.isWrapper; first | (rw [if_pos (by decide +kernel)]; kernel_rfl) | (rw [if_neg (by decide +kernel)]; exact ⟨rfl, rfl⟩))
    (fun os started H enc _ => lifted os started H enc)
end Go.Proofs.Ytjknhbfcdjjbhaa.splitsLaw
