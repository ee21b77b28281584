/-
  demands.partial.
-/
import Derived.Test.YtjknhbfcdjjbhaaDemJ
namespace Go.Proofs.Ytjknhbfcdjjbhaa
open Go.Tidy
set_option maxRecDepth 100000
set_option maxHeartbeats 0
set_option linter.unusedSimpArgs false
set_option linter.unusedVariables false
variable {L : List Blk} {k : V → List Blk → Prop}
theorem half_e (p : Pl) (h : p.clubs.length ≤ 1000) : IntKind.i64.wrap (((p.clubs.map fun c => [DI c]).length : Int).tdiv 2) = (halfN p : Int) := by
  rw [List.length_map]
  have e : ((p.clubs.length : Nat) : Int).tdiv 2 = ((p.clubs.length / 2 : Nat) : Int) := (Int.ofNat_tdiv _ _).symm
  rw [e, wrap_in (by omega)]; rfl
def hf (p : Pl) : V := .d (.rptr [DI (halfN p)])
def pX (l : List (List Mt)) (p : Pl) : V := .tup [.d (rndsD (if PartP l p then l.map (pRnd p) else [])), B (decide (PartP l p))]
def Out (l : List (List Mt)) (p : Pl) (i : Nat) : Prop := i ≤ l.length ∧ ∀ (j : Nat) (hj : j < l.length), j < i → RoundP l p j hj
def pL (l : List (List Mt)) (p : Pl) (i : Nat) : List Blk := [.cells [.d (lisD l)], .cells (p.cells.map .d), .map (esM (l.take i).flatten), .row i 2 ((l.take i).map fun r => (pE p r).map .d)]
def Inn (p : Pl) (met r : List Mt) (k : Nat) : Prop := k ≤ r.length ∧ ∀ (j : Nat) (hj : j < r.length), j < k → OkI p met r j hj
def qL (l : List (List Mt)) (p : Pl) (i : Nat) (r : List Mt) (k : Nat) : List Blk :=
  [.cells [.d (lisD l)], .cells (p.cells.map .d), .map (esM ((l.take i).flatten ++ r.take k)), .row i 2 ((l.take i).map fun r => (pE p r).map .d), .cells [.d (mts r)], .map (esI (busyL (r.take k)))]
theorem esI_bel (n : Nat) : ∀ ks : List Int, belM n (esI ks) = true
  | [] => rfl
  | _ :: ks => by simp only [esI, List.map_cons, belM, V.bel, Bool.true_and]; exact esI_bel n ks
theorem esM_bel (n : Nat) : ∀ ks : List Mt, belM n (esM ks) = true
  | [] => rfl
  | m :: ks => by
    simp only [esM, List.map_cons, belM, V.bel, V.belL_d, Bool.true_and]; exact esM_bel n ks
theorem pE_bel (n : Nat) (p : Pl) : ∀ l : List (List Mt), belR n (l.map fun r => (pE p r).map .d) = true
  | [] => rfl
  | r :: l => by simp only [List.map_cons, belR, V.belL_d, Bool.true_and]; exact pE_bel n p l
theorem pL_bel (n : Nat) (l : List (List Mt)) (p : Pl) (i : Nat) : belB n (pL l p i) = true := by
  show (true && (V.belL n (p.cells.map .d) && (belM n (esM (l.take i).flatten) && (belR n ((l.take i).map fun r => (pE p r).map .d) && true)))) = true
  rw [V.belL_d, esM_bel, pE_bel]; rfl
theorem qL_bel (n : Nat) (l : List (List Mt)) (p : Pl) (i : Nat) (r : List Mt) (j : Nat) : belB n (qL l p i r j) = true := by
  show (true && (V.belL n (p.cells.map .d) && (belM n (esM ((l.take i).flatten ++ r.take j)) && (belR n ((l.take i).map fun r => (pE p r).map .d) && (true && (belM n (esI (busyL (r.take j))) && true)))))) = true
  rw [V.belL_d, esM_bel, esI_bel, pE_bel]; rfl
theorem qL_next (l : List (List Mt)) (p : Pl) (i : Nat) (r : List Mt) (k : Nat) (hk : k < r.length) : [Blk.cells [.d (lisD l)], .cells (p.cells.map .d), .map (esM ((l.take i).flatten ++ r.take k) ++ [(mtV r[k], B true)]), .row i 2 ((l.take i).map fun r => (pE p r).map .d), .cells [.d (mts r)],
    .map (esI (busyL (r.take k)) ++ [(I r[k].home, B true)] ++ [(I r[k].away, B true)])] = qL l p i r (k + 1) := by
  have e1 : ∀ (A : List Mt) (x : Mt), esM (A ++ [x]) = esM A ++ [(mtV x, B true)] := fun A x => by unfold esM; rw [List.map_append]; rfl
  have e2 : ∀ (A : List Mt) (x : Mt), busyL (A ++ [x]) = busyL A ++ [x.home] ++ [x.away] := fun A x => by unfold busyL; rw [List.flatMap_append, List.append_assoc]; rfl
  have e3 : ∀ (A : List Int) (x : Int), esI (A ++ [x]) = esI A ++ [(I x, B true)] := fun A x => by unfold esI; rw [List.map_append]; rfl
  unfold qL
  rw [take_next hk, ← List.append_assoc, e1, e2, e3, e3]
def eV (p : Pl) (r : List Mt) : List V := [.d (mts r), .fn 92 [.ptr 4 0, hf p, .ptr 6 0]]
def rL (l : List (List Mt)) (p : Pl) (i : Nat) (r : List Mt) : List Blk := [.cells [.d (lisD l)], .cells (p.cells.map .d), .map (esM (l.take (i + 1)).flatten), .row (i + 1) 2 ((l.take i).map (fun r => (pE p r).map .d) ++ [eV p r]), .cells [.d (mts r)], .map (esI (busyL r)), .cells [I (lastM r)]]
theorem eR_bel (p : Pl) (r : List Mt) : ∀ l : List (List Mt), belR 7 (l.map (fun r => (pE p r).map .d) ++ [eV p r]) = true
  | [] => rfl
  | _ :: l => by simp only [List.map_cons, List.cons_append, belR, V.belL_d, Bool.true_and]; exact eR_bel p r l
theorem rL_bel (l : List (List Mt)) (p : Pl) (i : Nat) (r : List Mt) : belB 7 (rL l p i r) = true := by
  show (true && (V.belL 7 (p.cells.map .d) && (belM 7 (esM (l.take (i + 1)).flatten) && (belR 7 ((l.take i).map (fun r => (pE p r).map .d) ++ [eV p r]) && (true && (belM 7 (esI (busyL r)) && (true && true))))))) = true
  rw [V.belL_d, esM_bel, esI_bel, eR_bel]; rfl
noncomputable def oS (l : List (List Mt)) (p : Pl) (i : Nat) : TS := ⟨[(2, .ptr 0 0), (3, .ptr 1 0), (4, .own 3 i 0 i), (6, hf p), (7, .map 2), (30, .d (lisD l)), (31, I l.length), (32, I i)], Try.f43.ntmps, pL l p i, [], none⟩
def cF (l : List (List Mt)) (p : Pl) (i j : Nat) : List (Nat × V) := [(2, .ptr 0 0), (3, .ptr 1 0), (4, .own 3 (i + 1) 0 (i + 1)), (6, hf p), (7, .map 2), (30, .d (lisD l)), (31, I l.length), (32, I j)]
theorem cS_thaw (l : List (List Mt)) (p : Pl) (i : Nat) (hi : i < l.length) : Weak 0 ⟨cF l p i (i + 1), Try.f43.ntmps, rL l p i l[i], [], none⟩ (oS l p (i + 1)) := by
  refine Weak.thaw 4 (Nat.zero_le _) (Nat.le_of_ble_eq_true rfl) rfl ?_ ?_
  · exact ⟨.inl ⟨rfl, rfl⟩, .inl ⟨rfl, rfl⟩, .inl ⟨rfl, rfl⟩, .inl ⟨rfl, rfl⟩, .inl ⟨rfl, rfl⟩, .inl ⟨rfl, rfl⟩, .inl ⟨rfl, rfl⟩, .inl ⟨rfl, rfl⟩, trivial⟩
  · intro b x y hx hy
    match b, hx, hy with
    | 0, hx, hy => cases hx; cases hy; exact .inl ⟨rfl, rfl⟩
    | 1, hx, hy => cases hx; cases hy; exact .inl ⟨rfl, by show V.belL 4 (p.cells.map .d) = true; rw [V.belL_d]⟩
    | 2, hx, hy => cases hx; cases hy; exact .inl ⟨rfl, esM_bel 4 _⟩
    | 3, hx, hy =>
      cases hx; cases hy
      refine .inr (.inl ⟨i + 1, 2, _, _, rfl, rfl, by simp; omega, fun e he => ?_, fun a b e e' u v h1 h2 h3 h4 => ?_⟩)
      · obtain ⟨x, _, rfl⟩ := List.mem_map.1 he; rfl
      · by_cases ha : a < i
        · rw [List.getElem?_append_left (by simp; omega), List.getElem?_map, List.getElem?_take, if_pos ha] at h1
          rw [List.getElem?_map, List.getElem?_take, if_pos (by omega)] at h2
          rw [h1] at h2
          cases h2
          rw [h3] at h4
          cases h4
          refine .inl ⟨rfl, ?_⟩
          rw [List.getElem?_eq_getElem (by omega)] at h1
          cases h1
          exact V.belL_get (V.belL_d 4 _) h3
        · have hai : a = i := by
            have := lt_of_get h2
            simp at this; omega
          subst hai
          rw [List.getElem?_append_right (by simp; omega)] at h1
          have e0 : a - (List.map (fun r => List.map V.d (pE p r)) (List.take a l)).length = 0 := by simp; omega
          rw [e0] at h1
          simp only [List.getElem?_cons_zero, Option.some.injEq] at h1
          rw [List.getElem?_map, List.getElem?_take, if_pos (by omega), List.getElem?_eq_getElem hi] at h2
          simp only [Option.map_some, Option.some.injEq] at h2
          subst h1 h2
          match b, h3, h4 with
          | 0, h3, h4 => cases h3; cases h4; exact .inl ⟨rfl, rfl⟩
          | 1, h3, h4 =>
            cases h3; cases h4
            exact .inr (.d (.fnL (.cons (.ptrL (Nat.le_refl 4) rfl (.cons (.d _) .nil)) (.cons (.d _) (.cons (.ptrL (by decide) rfl (.cons (.d _) .nil)) .nil)))))
          | b + 2, h3, h4 => simp [eV] at h3
    | b + 4, hx, hy => simp [oS, pL] at hy
theorem left_drop {odd : Nat} {last : Int} {busy cs : List Int} {c n : Nat} (hc : c < cs.length) : leftGo odd last busy (cs.drop c) n = if last ≤ cs[c] then true else if cs[c] ∈ busy then leftGo odd last busy (cs.drop (c + 1)) n else if odd < n + 1 then false else leftGo odd last busy (cs.drop (c + 1)) (n + 1) := by
  rw [List.drop_eq_getElem_cons hc, leftGo]
def Lft (p : Pl) (r : List Mt) (s : Nat × Nat) : Prop := s.1 ≤ p.clubs.length ∧ s.2 ≤ s.1 ∧ leftGo (p.clubs.length % 2) (lastM r) (busyL r) p.clubs 0 = leftGo (p.clubs.length % 2) (lastM r) (busyL r) (p.clubs.drop s.1) s.2
theorem pE_rows {S : Nat → Prop} {L : List Blk} (p : Pl) : ∀ {l : List (List Mt)}, (∀ r ∈ l, r.length ≤ 4611686018427387904) → CvLL S L ((((l.take l.length).map fun r => (pE p r).map .d).drop 0).take l.length) ((l.map (pRnd p)).map Rnd.cells) := by
  intro l hr
  rw [List.take_length, List.drop_zero, List.take_of_length_le (by simp)]
  induction l with
  | nil => exact .nil
  | cons r l ih =>
    simp only [List.map_cons]
    rw [pRnd_cells (hr r (by simp))]
    exact .cons (.cons (.d _) (.cons (.d _) .nil)) (ih fun r hr' => hr r (by simp [hr']))
theorem pE_len (p : Pl) (l : List (List Mt)) : ∀ e ∈ (l.map (pRnd p)).map Rnd.cells, e.length = 2 := by
  intro e he
  obtain ⟨r, hr', rfl⟩ := List.mem_map.1 he
  rfl
theorem MapF.noI2 (ks : List Int) (h a : Int) {q : Option (Nat × V) → Prop} (hne : h ≠ a) (hn : a ∉ ks) (hq : q none) : MapF (.int .i64) (esI ks ++ [(I h, B true)]) (I a) q := by
  have : esI ks ++ [(I h, B true)] = esI (ks ++ [h]) := by simp [esI]
  rw [this]
  exact MapF.memI _ a (fun hm => absurd hm (by simp [hn]; exact fun e => hne e.symm)) (fun _ => hq)
theorem partial_c (l : List (List Mt)) (p : Pl) (hp : fieldOk p.clubs 2 = true) (hl : l.length ≤ 1073741824) (hr : ∀ r ∈ l, r.length ≤ 4611686018427387904) (h : k (pX l p) L) : CallP C 43 [lisV l, plV p] L k := by
  refine CallP.pure ?_ rfl (fun _ => rfl) h
  clear h
  refine callP_of C_ok Try.func43 rfl rfl (n := _) rfl (Nat.le_of_ble_eq_true rfl) (rs := _) rfl ?_
  have hlen : 1 ≤ p.clubs.length ∧ p.clubs.length ≤ 1000 := by
    simp only [fieldOk, Bool.and_eq_true, decide_eq_true_eq] at hp; omega
  have hno : ¬ PartP l p → pX l p = .tup [.d (.sl []), B false] := fun h => by unfold pX; rw [if_neg h, decide_eq_false h]; rfl
  repeat' (conv => whnf
           first | refine Br.tt ?_ | refine Br.ff ?_ | refine Br.dec (fun h => ?_) (fun h => ?_) | refine Br.not ?_ | refine Br.intro (fun h => ?_) (fun h => ?_) | refine GetE.intro _ rfl ?_ | refine Need.intro rfl ?_ | refine DrawP.go mixed rfl ?_ | refine Need.intro (show (2 : Int) ≠ 0 by decide) ?_ | refine QCall.intro _ (rounds_c p hlen ⟨rfl, rfl⟩) ?_)
  all_goals conv => whnf
  · have hn : ¬ PartP l p := fun hp => by
      have := hp.1; simp only [List.length_map] at h; omega
    rw [hno hn]
    exact FinP.data (L' := []) (.pair (.d .nil) (.d (.d _))) rfl rfl ⟨rfl, rfl⟩
  · have hle : l.length ≤ roundsN p := by simp only [List.length_map] at h; omega
    refine LoopP.inv (Out l p) (fun s => ⟨[(2, .ptr 0 0), (3, .ptr 1 0), (4, .own 3 s 0 s), (6, hf p), (7, .map 2), (30, .d (lisD l)), (31, I l.length), (32, I s)], Try.f43.ntmps, pL l p s, [], none⟩) (fun s => l.length - s) 0 ⟨Nat.zero_le _, fun j _ h => absurd h (Nat.not_lt_zero j)⟩ ?_ ?_
    · refine Weak.trans (σ' := ⟨[(2, .ptr 0 0), (3, .ptr 1 0), (4, .own 3 0 0 0), (6, .ptr 4 0), (7, .map 2), (30, .d (lisD l)), (31, I l.length), (32, I 0)], Try.f43.ntmps, pL l p 0 ++ [.cells [I (halfN p)]], [], none⟩) ?_ ?_
      · refine Weak.trans (Weak.nilOwn 4 2 rfl (by decide)) (Weak.re [0, 1, 3, 4, 2] ?_ ?_ (by decide) rfl)
        · exact ⟨rfl, rfl, rfl, rfl, rfl, rfl, congrArg I (by simp), rfl, trivial⟩
        · rw [← half_e p hlen.2]; rfl
      · refine Weak.thaw 4 (Nat.zero_le _) (Nat.le_of_ble_eq_true rfl) rfl ?_ ?_
        · exact ⟨.inl ⟨rfl, rfl⟩, .inl ⟨rfl, rfl⟩, .inl ⟨rfl, rfl⟩, .inr (.d (.ptrL (Nat.le_refl 4) rfl (.cons (.d _) .nil))), .inl ⟨rfl, rfl⟩, .inl ⟨rfl, rfl⟩, .inl ⟨rfl, rfl⟩, .inl ⟨rfl, rfl⟩, trivial⟩
        · intro b x y hx hy
          match b, hx, hy with
          | 0, hx, hy => cases hx; cases hy; exact .inl ⟨rfl, rfl⟩
          | 1, hx, hy => cases hx; cases hy; exact .inl ⟨rfl, rfl⟩
          | 2, hx, hy => cases hx; cases hy; exact .inl ⟨rfl, rfl⟩
          | 3, hx, hy => cases hx; cases hy; exact .inl ⟨rfl, rfl⟩
          | b + 4, hx, hy => simp [pL] at hy
    rintro i ⟨hi, hok⟩
    conv => whnf
    refine Br.dec (fun hb => ?_) (fun hb => ?_)
    · have hi' : i < l.length := by simpa using hb
      obtain ⟨r, hr1⟩ : ∃ r, r = l[i] := ⟨_, rfl⟩
      have hrl : r.length ≤ 4611686018427387904 := hr r (hr1 ▸ List.getElem_mem hi')
      have hw : IntKind.i64.wrap ((i : Int) + 1) = ((i + 1 : Nat) : Int) := by rw [wrap_in (by omega)]; omega
      have hfail : ¬ RoundP l p i hi' → pX l p = .tup [.d (.sl []), B false] := fun h => hno fun hp => h (hp.2 i hi')
      have r1 : (l.map fun r => [mts r])[i]? = some [mts r] := by rw [List.getElem?_map, List.getElem?_eq_getElem hi', ← hr1]; rfl
      repeat' (conv => whnf
               first | refine Idx.intro i _ rfl r1 ?_ | refine Br.tt ?_ | refine Br.ff ?_ | refine Br.dec (fun h => ?_) (fun h => ?_) | refine Br.not ?_ | refine Br.intro (fun h => ?_) (fun h => ?_) | refine GetE.intro _ rfl ?_ | refine Need.intro rfl ?_ | refine DrawP.go mixed rfl ?_)
      all_goals conv => whnf
      · rw [hfail fun h0 => h0.1 (by rw [← hr1]; simp only [List.length_map] at h; omega)]
        exact FinP.data (L' := []) (.pair (.d .nil) (.d (.d _))) rfl rfl ⟨rfl, rfl⟩
      · rw [hfail fun h0 => by have := h0.2.1; rw [← hr1] at this; simp only [List.length_map] at h; omega]
        exact FinP.data (L' := []) (.pair (.d .nil) (.d (.d _))) rfl rfl ⟨rfl, rfl⟩
      · rename_i h1
        rw [hfail fun h0 => by
          have := h0.2.2.1 (by simp only [hw, List.length_map] at h1; omega)
          rw [← hr1] at this; simp only [List.length_map] at h; omega]
        exact FinP.data (L' := []) (.pair (.d .nil) (.d (.d _))) rfl rfl ⟨rfl, rfl⟩
      all_goals
        have hsz : r.length ≠ 0 ∧ r.length ≤ halfN p ∧ (i + 1 < l.length → halfN p ≤ r.length) := by
          simp only [hw, List.length_map] at *
          omega
        refine LoopP.inv (Inn p (l.take i).flatten r) (fun s => ⟨[(2, .ptr 0 0), (3, .ptr 1 0), (4, .own 3 i 0 i), (6, hf p), (7, .map 2), (30, .d (lisD l)), (31, I l.length), (32, I i), (9, .ptr 4 0), (10, .map 5), (61, .d (mts r)), (62, I r.length), (63, I s)], Try.f43.ntmps, qL l p i r s, [], none⟩)
          (fun s => r.length - s) 0 ⟨Nat.zero_le _, fun j _ h => absurd h (Nat.not_lt_zero j)⟩ ?_ ?_
        · refine Weak.by ⟨rfl, rfl, rfl, rfl, rfl, rfl, rfl, rfl, rfl, rfl, rfl, congrArg I (by simp), rfl, trivial⟩ (hL := Eq.trans (b := pL l p i ++ [.cells [.d (mts r)], .map (esI (busyL (r.take 0)))]) rfl ?_)
          simp only [pL, qL, List.take_zero, List.append_nil, List.cons_append, List.nil_append]
        rintro kk ⟨hk, hkok⟩
        conv => whnf
        refine Br.dec (fun hb2 => ?_) (fun hb2 => ?_)
        · --<<
          have hk' : kk < r.length := by simpa using hb2
          have hw2 : IntKind.i64.wrap ((kk : Int) + 1) = ((kk + 1 : Nat) : Int) := by rw [wrap_in (by omega)]; omega
          obtain ⟨m, hm⟩ : ∃ m, m = r[kk] := ⟨_, rfl⟩
          have r2 : (r.map Mt.cells)[kk]? = some m.cells := by rw [List.getElem?_map, List.getElem?_eq_getElem hk', hm]; rfl
          have hO : RoundP l p i hi' → m.home ≠ m.away ∧ m.home ∈ p.clubs ∧ m.away ∈ p.clubs ∧ m.home ∉ busyL (r.take kk) ∧ m.away ∉ busyL (r.take kk) ∧ m ∉ (l.take i).flatten ++ r.take kk ∧ (p.double = false → (⟨m.away, m.home⟩ : Mt) ∉ (l.take i).flatten ++ r.take kk) ∧ (0 < kk → firstM (r[kk - 1]'(by omega)) < firstM m) := by
            subst hm hr1; exact fun h0 => h0.2.2.2.1 kk hk'
          have hO' : m.home ≠ m.away ∧ m.home ∈ p.clubs ∧ m.away ∈ p.clubs ∧ m.home ∉ busyL (r.take kk) ∧ m.away ∉ busyL (r.take kk) ∧ m ∉ (l.take i).flatten ++ r.take kk ∧ (p.double = false → (⟨m.away, m.home⟩ : Mt) ∉ (l.take i).flatten ++ r.take kk) ∧ (0 < kk → firstM (r[kk - 1]'(by omega)) < firstM m) → OkI p (l.take i).flatten r kk hk' := by
            subst hm; exact id
          have hbel : belB 6 (qL l p i r (kk + 1)) = true := qL_bel 6 l p i r (kk + 1)
          have hL := qL_next l p i r kk hk'
          rw [← hm] at hL
          have hnx : OkI p (l.take i).flatten r kk hk' → Inn p (l.take i).flatten r (kk + 1) := fun ho => ⟨hk', fun j hj hji => by
            by_cases e : j = kk
            · subst e; exact ho
            · exact hkok j hj (by omega)⟩
          repeat' (conv => whnf
                   first | refine Idx.intro kk _ rfl r2 ?_ | refine Idx.map (kk - 1) (by rw [wrap_in] <;> omega) (by omega) ?_ | refine contains_c p.clubs _ (by omega) ?_ | refine first_c _ ?_ | refine QCall.intro _ (first_c _ ⟨rfl, rfl⟩) ?_ | refine MapF.memI (busyL (r.take kk)) m.home (fun h => absurd h (by assumption)) (fun _ => ?_) | refine MapF.noI2 (busyL (r.take kk)) m.home m.away (by assumption) (by assumption) ?_ | refine MapF.memM ((l.take i).flatten ++ r.take kk) m (fun h => absurd h (by assumption)) (fun _ => ?_) | refine MapF.memI (busyL (r.take kk)) m.home (fun h j => ?_) (fun h => ?_) | refine MapF.memI (busyL (r.take kk)) m.away (fun h j => ?_) (fun h => ?_) | refine MapF.memM ((l.take i).flatten ++ r.take kk) m (fun h j => ?_) (fun h => ?_) | refine MapF.memM ((l.take i).flatten ++ r.take kk) ⟨m.away, m.home⟩ (fun h j => ?_) (fun h => ?_) | refine Br.tt ?_ | refine Br.ff ?_ | refine Br.dec (fun h => ?_) (fun h => ?_) | refine Br.not ?_ | refine Br.intro (fun h => ?_) (fun h => ?_) | refine GetE.intro _ rfl ?_ | refine Need.intro rfl ?_ | refine DrawP.go mixed rfl ?_)
          all_goals conv => whnf
          all_goals first
            | exact absurd ‹m.home = m.away› ‹¬ m.home = m.away›
            | (exfalso; exact Bool.noConfusion ((‹p.clubs.contains m.home = false›).symm.trans ‹p.clubs.contains m.home = true›))
            | (exfalso; exact Bool.noConfusion ((‹p.clubs.contains m.away = false›).symm.trans ‹p.clubs.contains m.away = true›))
            | exact FinP.data (L' := []) (.pair (.d .nil) (.d (.d _))) rfl rfl ⟨rfl, (hfail fun h0 => (hO h0).1 ‹m.home = m.away›).symm⟩
            | exact FinP.data (L' := []) (.pair (.d .nil) (.d (.d _))) rfl rfl ⟨rfl, (hfail fun h0 => Bool.noConfusion ((‹p.clubs.contains m.home = false›).symm.trans (List.contains_iff_mem.2 (hO h0).2.1))).symm⟩
            | exact FinP.data (L' := []) (.pair (.d .nil) (.d (.d _))) rfl rfl ⟨rfl, (hfail fun h0 => Bool.noConfusion ((‹p.clubs.contains m.away = false›).symm.trans (List.contains_iff_mem.2 (hO h0).2.2.1))).symm⟩
            | exact FinP.data (L' := []) (.pair (.d .nil) (.d (.d _))) rfl rfl ⟨rfl, (hfail fun h0 => (hO h0).2.2.2.1 ‹m.home ∈ busyL (r.take kk)›).symm⟩
            | exact FinP.data (L' := []) (.pair (.d .nil) (.d (.d _))) rfl rfl ⟨rfl, (hfail fun h0 => (hO h0).2.2.2.2.1 ‹m.away ∈ busyL (r.take kk)›).symm⟩
            | exact FinP.data (L' := []) (.pair (.d .nil) (.d (.d _))) rfl rfl ⟨rfl, (hfail fun h0 => (hO h0).2.2.2.2.2.1 ‹m ∈ (l.take i).flatten ++ r.take kk›).symm⟩
            | exact FinP.data (L' := []) (.pair (.d .nil) (.d (.d _))) rfl rfl ⟨rfl, (hfail fun h0 => (hO h0).2.2.2.2.2.2.1 ‹p.double = false› ‹(⟨m.away, m.home⟩ : Mt) ∈ (l.take i).flatten ++ r.take kk›).symm⟩
            | exact FinP.data (L' := []) (.pair (.d .nil) (.d (.d _))) rfl rfl ⟨rfl, (hfail fun h0 => by have := (hO h0).2.2.2.2.2.2.2 (by omega); unfold firstM at this; omega).symm⟩
            | skip
          all_goals
            refine DrawP.por mixed [] [[(0, 0), (1, 0), (2, 0), (3, 0), (4, 0), (5, 3), (6, 0), (7, 3), (8, 0), (9, 0), (10, 0)]] (by kernel_rfl) ?_
            repeat' (conv => whnf
                     first | refine MapF.memI (busyL (r.take kk)) m.home (fun h => absurd h (by assumption)) (fun _ => ?_) | refine MapF.noI2 (busyL (r.take kk)) m.home m.away (by assumption) (by assumption) ?_ | refine MapF.memM ((l.take i).flatten ++ r.take kk) m (fun h => absurd h (by assumption)) (fun _ => ?_) | refine Br.tt ?_ | refine Br.ff ?_ | refine Br.dec (fun h => ?_) (fun h => ?_) | refine Br.not ?_ | refine Br.intro (fun h => ?_) (fun h => ?_) | refine GetE.intro _ rfl ?_ | refine Need.intro rfl ?_ | refine DrawP.go mixed rfl ?_)
          all_goals conv => whnf
          all_goals exact ⟨kk + 1, hnx (hO' ⟨‹¬ m.home = m.away›, List.contains_iff_mem.1 ‹p.clubs.contains m.home = true›, List.contains_iff_mem.1 ‹p.clubs.contains m.away = true›, ‹m.home ∉ busyL (r.take kk)›, ‹m.away ∉ busyL (r.take kk)›, ‹m ∉ (l.take i).flatten ++ r.take kk›,
              fun hd => (by first | exact absurd (hd.symm.trans ‹p.double = true›) (by decide) | assumption), fun h0 => (by unfold firstM; omega)⟩), by omega,
            Weak.to 6 (Eq.trans (b := [Blk.cells [.d (lisD l)], .cells (p.cells.map .d), .map (esM ((l.take i).flatten ++ r.take kk) ++ [(mtV m, B true)]), .row i 2 ((l.take i).map fun r => (pE p r).map .d), .cells [.d (mts r)], .map (esI (busyL (r.take kk)) ++ [(I m.home, B true)] ++ [(I m.away, B true)])]) rfl hL) (Nat.zero_le _) (Nat.le_of_ble_eq_true rfl)
            ⟨rfl, rfl, rfl, rfl, rfl, rfl, rfl, rfl, rfl, rfl, rfl, rfl, congrArg I hw2, trivial⟩ (hB := hbel)⟩
          -->>
        · have hke : kk = r.length := by simp at hb2; omega
          subst hke
          have hlast : r[r.length - 1]'(by omega) = r.getLast (by intro e; rw [e] at hsz; exact hsz.1 rfl) := by rw [List.getLast_eq_getElem]
          have hlm : lastM r = firstM (r[r.length - 1]'(by omega)) := by unfold lastM; rw [List.getLast?_eq_getElem?, List.getElem?_eq_getElem (by omega)]
          have hfe : firstM (r[r.length - 1]'(by omega)) = if (r[r.length - 1]'(by omega)).away < (r[r.length - 1]'(by omega)).home then (r[r.length - 1]'(by omega)).away else (r[r.length - 1]'(by omega)).home := rfl
          repeat' (conv => whnf
                   first | refine Br.tt ?_ | refine Br.ff ?_ | refine Br.dec (fun h => ?_) (fun h => ?_) | refine Br.not ?_ | refine Br.intro (fun h => ?_) (fun h => ?_) | refine GetE.intro _ rfl ?_ | refine Need.intro rfl ?_ | refine DrawP.go mixed rfl ?_ | refine Idx.map (r.length - 1) (by rw [List.length_map, wrap_in] <;> omega) (by omega) ?_ | refine first_c _ ?_ | simp only [Nat.beq_refl, Bool.and_self] | refine Need.intro (by first | omega | (simp; omega) | (refine Nat.le_trans (m := 4294967296) ?_ (apLim_ge _); first | omega | (simp; omega))) ?_)
          all_goals conv => whnf
          all_goals
            have hdone : leftGo (p.clubs.length % 2) (lastM r) (busyL r) p.clubs 0 = true → Out l p (i + 1) := fun hg => ⟨hi', fun j hj hji => by
              by_cases e : j = i
              · subst e; subst hr1; exact ⟨hsz.1, hsz.2.1, hsz.2.2, fun a ha => hkok a ha ha, hg⟩
              · exact hok j hj (by omega)⟩
            have hth : Weak 0 ⟨cF l p i (i + 1), Try.f43.ntmps, rL l p i r, [], none⟩ (oS l p (i + 1)) := hr1 ▸ cS_thaw l p i hi'
            refine LoopP.inv (Lft p r) (fun s => ⟨cF l p i i ++ [(10, .map 5), (14, .ptr 6 0), (15, I s.2), (146, .d (ints p.clubs)), (147, I p.clubs.length), (148, I s.1)], Try.f43.ntmps, rL l p i r, [], none⟩) (fun s => p.clubs.length - s.1) (0, 0) ⟨Nat.zero_le _, Nat.zero_le _, rfl⟩ ?_ ?_
            · refine Weak.to 7 (Eq.trans (b := [Blk.cells [.d (lisD l)], .cells (p.cells.map .d), .map (esM ((l.take i).flatten ++ r.take r.length)), .row (i + 1) 2 (((l.take i).map fun r => (pE p r).map .d).take i ++ [eV p r]), .cells [.d (mts r)], .map (esI (busyL (r.take r.length))), .cells [I (lastM r)]]) ?_ ?_) (Nat.zero_le _) (Nat.le_of_ble_eq_true rfl)
                ⟨rfl, rfl, rfl, rfl, rfl, rfl, rfl, rfl, rfl, rfl, rfl, rfl, congrArg I (by simp), rfl, trivial⟩ (hB := rL_bel l p i r)
              · rw [hlm, hfe]; rfl
              · unfold rL
                rw [take_next hi', ← hr1, List.take_of_length_le (Nat.le_refl r.length), List.take_of_length_le (l := (l.take i).map _) (by simp; omega)]
                simp
            rintro ⟨c, n⟩ ⟨hc, hn, heq⟩
            simp only at hc hn heq
            conv => whnf
            refine Br.dec (fun hb3 => ?_) (fun hb3 => ?_)
            · have hc' : c < p.clubs.length := by simpa using hb3
              rw [left_drop hc'] at heq
              have hw3 : IntKind.i64.wrap ((c : Int) + 1) = ((c + 1 : Nat) : Int) := by rw [wrap_in (by omega)]; omega
              have hw4 : IntKind.i64.wrap ((n : Int) + 1) = ((n + 1 : Nat) : Int) := by rw [wrap_in (by omega)]; omega
              have hmod : ((p.clubs.map fun n => [DI n]).length : Int).tmod 2 = ((p.clubs.length % 2 : Nat) : Int) := by rw [List.length_map]; rfl
              repeat' (conv => whnf
                       first | refine Br.tt ?_ | refine Br.ff ?_ | refine Br.dec (fun h => ?_) (fun h => ?_) | refine Br.not ?_ | refine Br.intro (fun h => ?_) (fun h => ?_) | refine GetE.intro _ rfl ?_ | refine Need.intro rfl ?_ | refine DrawP.go mixed rfl ?_ | refine Idx.map c rfl hc' ?_ | refine MapF.memI (busyL r) _ (fun h j => ?_) (fun h => ?_) | refine Need.intro (show (2 : Int) ≠ 0 by decide) ?_)
              all_goals conv => whnf
              · rw [if_pos h] at heq
                exact ⟨i + 1, hdone heq, by omega, Weak.trans (σ' := ⟨cF l p i (i + 1), Try.f43.ntmps, rL l p i r, [], none⟩) (Weak.to 7 rfl (Nat.zero_le _) (Nat.le_of_ble_eq_true rfl) ⟨rfl, rfl, rfl, rfl, rfl, rfl, rfl, congrArg I hw, trivial⟩ (hB := rL_bel l p i r)) hth⟩
              · rename_i h1
                rw [if_neg h1, if_pos h] at heq
                exact ⟨(c + 1, n), ⟨hc', Nat.le_succ_of_le hn, heq⟩, by simp only []; omega, Weak.to 7 rfl (Nat.zero_le _) (Nat.le_of_ble_eq_true rfl) ⟨rfl, rfl, rfl, rfl, rfl, rfl, rfl, rfl, rfl, rfl, rfl, rfl, rfl, congrArg I hw3, trivial⟩ (hB := rL_bel l p i r)⟩
              · rename_i h2 h1
                simp only [hmod, hw4] at h
                rw [if_neg h2, if_neg h1, if_pos (by omega)] at heq
                exact FinP.data (L' := []) (.pair (.d .nil) (.d (.d _))) rfl rfl ⟨rfl, (hfail fun h0 => by
                  have := h0.2.2.2.2; rw [← hr1, heq] at this; cases this).symm⟩
              · rename_i h2 h1
                simp only [hmod, hw4] at h
                rw [if_neg h2, if_neg h1, if_neg (by omega)] at heq
                exact ⟨(c + 1, n + 1), ⟨hc', Nat.succ_le_succ hn, heq⟩, by simp only []; omega, Weak.to 7 rfl (Nat.zero_le _) (Nat.le_of_ble_eq_true rfl) ⟨rfl, rfl, rfl, rfl, rfl, rfl, rfl, rfl, rfl, rfl, congrArg I hw4, rfl, rfl, congrArg I hw3, trivial⟩ (hB := rL_bel l p i r)⟩
            · rw [List.drop_of_length_le (by simp only [] at hb3; omega), leftGo] at heq
              repeat' (conv => whnf
                       first | refine Br.tt ?_ | refine Br.ff ?_ | refine Br.dec (fun h => ?_) (fun h => ?_) | refine Br.not ?_ | refine Br.intro (fun h => ?_) (fun h => ?_) | refine GetE.intro _ rfl ?_ | refine Need.intro rfl ?_ | refine DrawP.go mixed rfl ?_)
              conv => whnf
              exact ⟨i + 1, hdone heq, by omega, Weak.trans (σ' := ⟨cF l p i (i + 1), Try.f43.ntmps, rL l p i r, [], none⟩) (Weak.to 7 rfl (Nat.zero_le _) (Nat.le_of_ble_eq_true rfl) ⟨rfl, rfl, rfl, rfl, rfl, rfl, rfl, congrArg I hw, trivial⟩ (hB := rL_bel l p i r)) hth⟩
    · have hie : i = l.length := by omega
      subst hie
      have hP : PartP l p := ⟨hle, fun j hj => hok j hj hj⟩
      have hX : pX l p = .tup [.d (rndsD (l.map (pRnd p))), B true] := by unfold pX; rw [if_pos hP, decide_eq_true hP]
      repeat' (conv => whnf
               first | refine Br.tt ?_ | refine Br.ff ?_ | refine Br.dec (fun h => ?_) (fun h => ?_) | refine Br.not ?_ | refine Br.intro (fun h => ?_) (fun h => ?_) | refine GetE.intro _ rfl ?_ | refine Need.intro rfl ?_ | refine DrawP.go mixed rfl ?_)
      conv => whnf
      exact FinP.data (L' := []) (.pair (.d (.rowL (Nat.zero_le _) rfl (pE_rows p hr) (by simp) (pE_len p l))) (.d (.d _))) rfl rfl ⟨rfl, hX.symm⟩
end Go.Proofs.Ytjknhbfcdjjbhaa
