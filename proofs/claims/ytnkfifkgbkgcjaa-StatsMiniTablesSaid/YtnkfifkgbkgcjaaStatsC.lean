/-
  stats: Rows.
-/
import Derived.Test.YtnkfifkgbkgcjaaStatsB
namespace Go.Proofs.Ytnkfifkgbkgcjaa
open Go.Tidy
set_option maxRecDepth 100000
set_option maxHeartbeats 0
set_option linter.unusedSimpArgs false
set_option linter.unusedVariables false
variable {L : List Blk} {k : V → List Blk → Prop}
def homeS (r : Res) : Side := ⟨r.game.home, r.hg, r.ag, r.hc, false, r.both⟩
def awayS (r : Res) : Side := ⟨r.game.away, r.ag, r.hg, r.ac, true, r.both⟩
theorem getN {A : List Blk} {N : Nat} (h : A.length = N) (x : Blk) : (A ++ [x])[N]? = some x := by subst h; exact List.getElem?_concat_length
theorem setN {A : List Blk} {N : Nat} (h : A.length = N) (x y : Blk) : (A ++ [x]).set N y = A ++ [y] := by subst h; simp
/-- What a round of the loop over the sides may come to. -/
def Rounds (N : Nat) (k : V → List Blk → Prop) (P : Prop) (M : List Blk) (X : List D) (v : V) (M' : List Blk) : Prop :=
  (v = .d (.bool true) ∧ M' = M ++ [.cells (X.map .d)] ∧ P) ∨ (v = .d (.bool false) ∧ ∃ Z, M' = Z ++ [.cells (X.map .d)] ∧ Z.length = N ∧ belB N Z = true ∧ k (.tup []) Z)
theorem sides1_c (l : List Res) (hl : l.length ≤ 4611686018427387904) (b N : Nat) (P PH : Nat → Prop) (S H : Nat → List Blk) (hS : ∀ i, (S i).length = N) (hH : ∀ i, (H i).length = N) (hbS : ∀ i, belB N (S i) = true) (hb : b < N)
    (hy1 : ∀ (i : Nat) (hi : i < l.length) (X : List D), P i → YieldP C b [sideV (homeS l[i])] (S i ++ [.cells (X.map .d)]) (Rounds N k (PH i) (H i) X))
    (hy2 : ∀ (i : Nat) (hi : i < l.length) (X : List D), PH i → YieldP C b [sideV (awayS l[i])] (H i ++ [.cells (X.map .d)]) (Rounds N k (P (i + 1)) (S (i + 1)) X)) (h0 : P l.length → k (.tup []) (S l.length)) (hP : P 0) :
    CallP C 41 [.yld b, .d (.rptr [ress l])] (S 0) k := by
  have gS : ∀ i x, (S i ++ [x])[N]? = some x := fun i x => getN (hS i) x
  have gH : ∀ i x, (H i ++ [x])[N]? = some x := fun i x => getN (hH i) x
  have sS : ∀ i x y, (S i ++ [x]).set N y = S i ++ [y] := fun i x y => setN (hS i) x y
  refine callP_of C_ok Try.func41 rfl rfl (n := _) rfl (Nat.le_of_ble_eq_true rfl) (rs := _) rfl ?_
  conv => whnf
  refine LoopP.intro (ι := { i : Nat // i ≤ l.length ∧ P i }) (fun i => ⟨[(0, .yld b), (5, .d (ress l)), (6, I l.length), (7, I i.1)], 44, S i.1, [], none⟩) (fun i => l.length - i.1) ⟨0, Nat.zero_le _, hP⟩ ?_ ?_
  · exact Weak.by ⟨rfl, rfl, congrArg I (by simp), rfl, trivial⟩
  rintro ⟨i, hi, hPi⟩
  conv => whnf
  refine Br.dec (fun h => ?_) (fun h => ?_)
  · have hi' : i < l.length := by simpa using h
    conv => whnf
    refine Idx.map i rfl hi' ?_
    repeat' (conv => whnf
             first | refine Br.tt ?_ | refine Br.ff ?_ | refine Br.dec (fun h => ?_) (fun h => ?_) | refine Br.not ?_ | refine Br.intro (fun h => ?_) (fun h => ?_) | refine GetE.intro _ rfl ?_ | refine Need.intro rfl ?_ | refine DrawP.go mixed rfl ?_ | simp only [gS, hS, sS])
    refine YieldP.mono (hy1 i hi' l[i].cells hPi) ?_
    rintro v M' (⟨rfl, rfl, hPH⟩ | ⟨rfl, Z, rfl, hz1, hz2, hz3⟩)
    · repeat' (conv => whnf
               first | refine Br.tt ?_ | refine Br.ff ?_ | refine Br.dec (fun h => ?_) (fun h => ?_) | refine Br.not ?_ | refine Br.intro (fun h => ?_) (fun h => ?_) | refine GetE.intro _ rfl ?_ | refine Need.intro rfl ?_ | refine DrawP.go mixed rfl ?_ | simp only [gH])
      refine YieldP.mono (hy2 i hi' l[i].cells hPH) ?_
      rintro v M' (⟨rfl, rfl, hPn⟩ | ⟨rfl, Z, rfl, hz1, hz2, hz3⟩)
      · repeat' (conv => whnf
                 first | refine Br.tt ?_ | refine Br.ff ?_ | refine Br.dec (fun h => ?_) (fun h => ?_) | refine Br.not ?_ | refine Br.intro (fun h => ?_) (fun h => ?_) | refine GetE.intro _ rfl ?_ | refine Need.intro rfl ?_ | refine DrawP.go mixed rfl ?_)
        conv => whnf
        refine ⟨⟨i + 1, hi', hPn⟩, by simp only []; omega, Weak.to N ?_ (Nat.le_refl _) (by simp [hS]) ⟨rfl, rfl, rfl, congrArg I (by rw [wrap_id] <;> (try simp only []) <;> omega), trivial⟩ (hf := ?_) (hB := hbS _)⟩
        · exact List.take_left' (hS _)
        · simp [belF, V.bel, hb]
      · repeat' (conv => whnf
                 first | refine Br.tt ?_ | refine Br.ff ?_ | refine Br.dec (fun h => ?_) (fun h => ?_) | refine Br.not ?_ | refine Br.intro (fun h => ?_) (fun h => ?_) | refine GetE.intro _ rfl ?_ | refine Need.intro rfl ?_ | refine DrawP.go mixed rfl ?_)
        conv => whnf
        refine FinP.drop (n := N) (List.take_left' hz1) (Nat.le_refl _) rfl hz2 hz3
    · repeat' (conv => whnf
               first | refine Br.tt ?_ | refine Br.ff ?_ | refine Br.dec (fun h => ?_) (fun h => ?_) | refine Br.not ?_ | refine Br.intro (fun h => ?_) (fun h => ?_) | refine GetE.intro _ rfl ?_ | refine Need.intro rfl ?_ | refine DrawP.go mixed rfl ?_)
      conv => whnf
      refine FinP.drop (n := N) (List.take_left' hz1) (Nat.le_refl _) rfl hz2 hz3
  · have hie : i = l.length := by simp at h; omega
    subst hie
    repeat' (conv => whnf
             first | refine Br.tt ?_ | refine Br.ff ?_ | refine Br.dec (fun h => ?_) (fun h => ?_) | refine Br.not ?_ | refine Br.intro (fun h => ?_) (fun h => ?_) | refine GetE.intro _ rfl ?_ | refine Need.intro rfl ?_ | refine DrawP.go mixed rfl ?_)
    conv => whnf
    exact FinP.same (h0 hPi)
def rowC (c : Int) : Row := ⟨c, 0, 0, 0, 0, 0, 0, 0, 0, 0, 0⟩
/-- A side, counted where its club stands. -/
def tallyS (w : Worth) (f : Int → Row) (s : Side) (c : Int) : Row := if c = s.club then countF (f c) s w else f c
def tally (w : Worth) : List Res → (Int → Row) → Int → Row
  | [], f => f
  | r :: l, f => tally w l (tallyS w (tallyS w f (homeS r)) (awayS r))
def known (clubs : List Int) (r : Res) : Bool := clubs.contains r.game.home && clubs.contains r.game.away
def rowsF (l : List Res) (clubs : List Int) (w : Worth) : List Row × Int :=
  if checkF l clubs w = 0 then if l.all (known clubs) then (clubs.map (tally w l rowC), 0) else ([], 190) else ([], checkF l clubs w)
def rowsD (R : List Row) : D := .sl (R.map Row.cells)
def rowBs (R : List Row) : List Blk := R.map fun r => .cells (r.cells.map .d)
def esOf (clubs : List Int) : List (V × V) := clubs.zipIdx.map fun p => (I p.1, .ptr (5 + p.2) 0)
def preM (w : Worth) (es : List (V × V)) : List Blk := [.cells [.nil], .cells [I 0], .cells (w.cells.map .d), .map es, .cells [.map 3]]
theorem take_next {α : Type} {l : List α} {i : Nat} (h : i < l.length) : l.take (i + 1) = l.take i ++ [l[i]] := by
  rw [List.take_add_one, List.getElem?_eq_getElem h]; rfl
theorem esOf_next (clubs : List Int) (c : Int) : esOf (clubs ++ [c]) = esOf clubs ++ [(I c, .ptr (5 + clubs.length) 0)] := by
  simp [esOf, List.zipIdx_append]
theorem esOf_keys (clubs : List Int) : (esOf clubs).map (·.1) = clubs.map fun m => .d (.int .i64 m) := by
  simp only [esOf, List.map_map]
  rw [← List.zipIdx_map_fst 0 clubs, List.map_map]
  simp
theorem incr_lt : ∀ {l : List Int}, incr l = true → l.Pairwise (· < ·)
  | [], _ => .nil
  | [c], _ => by simp
  | c :: d :: r, h => by
    simp only [incr, Bool.and_eq_true, decide_eq_true_eq] at h
    have ih := incr_lt h.2
    refine List.pairwise_cons.2 ⟨fun x hx => ?_, ih⟩
    rcases List.mem_cons.1 hx with rfl | hx
    · exact h.1.2
    · exact Int.lt_trans h.1.2 ((List.pairwise_cons.1 ih).1 x hx)
theorem incr_nodup {l : List Int} (h : incr l = true) : l.Nodup := (incr_lt h).imp (fun h e => by omega)
theorem nodup_take {l : List Int} (h : l.Nodup) {i : Nat} (hi : i < l.length) : l[i] ∉ l.take i := by
  intro hm
  obtain ⟨j, hj, e⟩ := List.mem_iff_getElem.1 hm
  rw [List.getElem_take] at e
  rw [List.length_take] at hj
  have := (List.getElem_inj h).1 e
  omega
theorem mem_next (w : Worth) (cl : List Int) (c : Int) : ((preM w (esOf cl) ++ rowBs (cl.map rowC)) ++ [Blk.cells ((rowC c).cells.map .d)]).set 3 (.map (esOf cl ++ [(I c, V.ptr (preM w (esOf cl) ++ rowBs (cl.map rowC)).length 0)])) =
    preM w (esOf (cl ++ [c])) ++ rowBs ((cl ++ [c]).map rowC) := by
  rw [esOf_next]
  simp [preM, rowBs]
  omega
/-- The memory of Rows while it counts. -/
@[irreducible] def Mem (w : Worth) (clubs : List Int) (x : V) (dfr : Blk) (f : Int → Row) (e : Int) (blk : Blk) : List Blk :=
  [.cells [x], .cells [I e], .cells (w.cells.map .d), .map (esOf clubs), .cells [.map 3]] ++ (clubs.map fun c => Blk.cells ((f c).cells.map .d)) ++ [dfr, blk]
section
variable {x : V} {dfr : Blk} (w : Worth) (clubs : List Int) (f : Int → Row) (e : Int) (blk : Blk) (own : List Blk)
theorem mem_len : (Mem w clubs x dfr f e blk).length = clubs.length + 7 := by unfold Mem; simp
theorem mem_2 : (Mem w clubs x dfr f e blk ++ own)[2]? = some (.cells (w.cells.map .d)) := by unfold Mem; rfl
theorem mem_3 : (Mem w clubs x dfr f e blk ++ own)[3]? = some (.map (esOf clubs)) := by unfold Mem; rfl
theorem mem_4 : (Mem w clubs x dfr f e blk ++ own)[4]? = some (.cells [.map 3]) := by unfold Mem; rfl
theorem mem_0 : (Mem w clubs x dfr f e blk ++ own)[0]? = some (.cells [x]) := by unfold Mem; rfl
theorem mem_1 : (Mem w clubs x dfr f e blk ++ own)[1]? = some (.cells [I e]) := by unfold Mem; rfl
theorem mem_D : (Mem w clubs x dfr f e blk ++ own)[clubs.length + 5]? = some dfr := by
  unfold Mem
  rw [List.getElem?_append_left (by simp <;> omega), List.getElem?_append_right (by simp <;> omega)]
  simp
theorem mem_B : (Mem w clubs x dfr f e blk ++ own)[clubs.length + 6]? = some blk := by
  unfold Mem
  rw [List.getElem?_append_left (by simp <;> omega), List.getElem?_append_right (by simp <;> omega)]
  simp
theorem mem_R {j : Nat} (hj : j < clubs.length) : (Mem w clubs x dfr f e blk ++ own)[5 + j]? = some (.cells ((f clubs[j]).cells.map .d)) := by
  unfold Mem
  rw [List.getElem?_append_left (by simp <;> omega), List.getElem?_append_left (by simp <;> omega), List.getElem?_append_right (by simp), List.getElem?_map]
  simp [List.getElem?_eq_getElem hj]
theorem mem_setB (b2 : Blk) : (Mem w clubs x dfr f e blk ++ own).set (clubs.length + 6) b2 = Mem w clubs x dfr f e b2 ++ own := by
  unfold Mem
  rw [List.set_append_left _ _ (by simp <;> omega), List.set_append_right _ _ (by simp <;> omega)]
  congr 1
  congr 1
  simp
theorem mem_own0 (u : Blk) : (Mem w clubs x dfr f e blk ++ u :: own)[clubs.length + 7]? = some u := by
  rw [List.getElem?_append_right (by rw [mem_len]; exact Nat.le_refl _), mem_len, Nat.sub_self]; rfl
theorem mem_own1 (u v : Blk) : (Mem w clubs x dfr f e blk ++ u :: v :: own)[clubs.length + 8]? = some v := by
  rw [List.getElem?_append_right (by rw [mem_len]; omega), mem_len, show clubs.length + 8 - (clubs.length + 7) = 1 by omega]; rfl
theorem mem_sown1 (u v z : Blk) : (Mem w clubs x dfr f e blk ++ u :: v :: own).set (clubs.length + 8) z = Mem w clubs x dfr f e blk ++ u :: z :: own := by
  rw [List.set_append_right _ _ (by rw [mem_len]; omega), mem_len, show clubs.length + 8 - (clubs.length + 7) = 1 by omega]; rfl
theorem mem_set1 (e2 : Int) : (Mem w clubs x dfr f e blk ++ own).set 1 (.cells [I e2]) = Mem w clubs x dfr f e2 blk ++ own := by unfold Mem; rfl
theorem mem_set0 (y : V) : (Mem w clubs x dfr f e blk ++ own).set 0 (.cells [y]) = Mem w clubs y dfr f e blk ++ own := by unfold Mem; rfl
theorem mem_setR {clubs : List Int} (hnd : clubs.Nodup) {j : Nat} (hj : j < clubs.length) (r : Row) : (Mem w clubs x dfr f e blk ++ own).set (5 + j) (.cells (r.cells.map .d)) = Mem w clubs x dfr (fun c => if c = clubs[j] then r else f c) e blk ++ own := by
  unfold Mem
  rw [List.set_append_left _ _ (by simp <;> omega), List.set_append_left _ _ (by simp <;> omega), List.set_append_right _ _ (by simp)]
  congr 3
  apply List.ext_getElem?
  intro i
  simp only [List.length_cons, List.length_nil, Nat.zero_add, Nat.reduceAdd, Nat.add_sub_cancel_left, List.getElem?_map]
  rw [List.getElem?_set]
  simp only [List.length_map, List.getElem?_map]
  by_cases h : j = i
  · subst h
    simp [hj, List.getElem?_eq_getElem hj]
  · rw [if_neg h]
    cases e : clubs[i]? with
    | none => rfl
    | some c =>
      have hi := lt_of_get e
      rw [List.getElem?_eq_getElem hi] at e
      cases e
      have : clubs[i] ≠ clubs[j] := fun he => h ((List.getElem_inj hnd).1 he).symm
      simp [this]
theorem mem_congr {f f' : Int → Row} (h : ∀ c ∈ clubs, f c = f' c) : Mem w clubs x dfr f e blk = Mem w clubs x dfr f' e blk := by
  unfold Mem
  rw [List.map_congr_left (f := fun c => Blk.cells ((f c).cells.map .d)) (g := fun c => Blk.cells ((f' c).cells.map .d)) fun c hc => by rw [h c hc]]
theorem mem_start {clubs : List Int} {i : Nat} (h : clubs.take i = clubs) : (preM w (esOf (clubs.take i)) ++ rowBs ((clubs.take i).map rowC)) ++ [.defr, blk] = Mem w clubs .nil .defr rowC 0 blk := by
  unfold Mem
  rw [h]
  simp [preM, rowBs]
theorem mem_slen {clubs : List Int} {i : Nat} (h : clubs.take i = clubs) : (preM w (esOf (clubs.take i)) ++ rowBs ((clubs.take i).map rowC)).length = clubs.length + 5 := by
  rw [h]; simp [preM, rowBs]
theorem belB_append {n : Nat} : ∀ {A B : List Blk}, belB n A = true → belB n B = true → belB n (A ++ B) = true
  | [], B, _, h => h
  | a :: A, B, h, h' => by
    simp only [belB, Bool.and_eq_true, List.cons_append] at h ⊢
    exact ⟨h.1, belB_append h.2 h'⟩
theorem belB_of {n : Nat} : ∀ {A : List Blk}, (∀ x ∈ A, x.bel n = true) → belB n A = true
  | [], _ => rfl
  | a :: A, h => by
    simp only [belB, Bool.and_eq_true]
    exact ⟨h a (by simp), belB_of fun x hx => h x (by simp [hx])⟩
theorem belM_of {n : Nat} : ∀ {A : List (V × V)}, (∀ x ∈ A, x.1.bel n = true ∧ x.2.bel n = true) → belM n A = true
  | [], _ => rfl
  | a :: A, h => by
    simp only [belM, Bool.and_eq_true]
    exact ⟨h a (by simp), belM_of fun x hx => h x (by simp [hx])⟩
theorem mem_bel {n : Nat} (hn : clubs.length + 7 ≤ n) (hb : blk.bel n = true) (hx : x.bel n = true := by rfl) (hd : dfr.bel n = true := by rfl) : belB n (Mem w clubs x dfr f e blk) = true := by
  unfold Mem
  refine belB_append (belB_append ?_ ?_) ?_
  · simp only [belB, Blk.bel, V.belL, hx, V.bel, V.belL_d, Bool.and_true, Bool.true_and, Bool.and_eq_true, decide_eq_true_eq]
    refine ⟨belM_of ?_, by omega⟩
    intro y hy
    obtain ⟨p, hp, rfl⟩ := List.mem_map.1 hy
    have := List.snd_lt_of_mem_zipIdx hp
    simp [V.bel]; omega
  · refine belB_of fun y hy => ?_
    obtain ⟨c, _, rfl⟩ := List.mem_map.1 hy
    exact V.belL_d _ _
  · simp only [belB, hb, hd]; rfl
end
theorem esOf_get {clubs : List Int} {j : Nat} (hj : j < clubs.length) : (esOf clubs)[j]? = some (I clubs[j], .ptr (5 + j) 0) := by
  simp [esOf, List.getElem?_eq_getElem hj]
theorem MapF.clubs {clubs : List Int} (hnd : clubs.Nodup) {j : Nat} (hj : j < clubs.length) {q : Option (Nat × V) → Prop} (h : q (some (j, .ptr (5 + j) 0))) : MapF (.int .i64) (esOf clubs) (I clubs[j]) q :=
  MapF.ints clubs (esOf_keys clubs) (.inl ⟨j, .ptr (5 + j) 0, List.getElem?_eq_getElem hj, fun i hi e => by
    have hl := lt_of_get e
    rw [List.getElem?_eq_getElem hl] at e
    have := (List.getElem_inj hnd).1 (Option.some.inj e)
    omega, esOf_get hj, h⟩)
def doneB : Blk → Blk
  | .loop r => .loop { r with st := .done, pend := some .ret }
  | b => b
theorem tally_snoc (w : Worth) : ∀ (l : List Res) (r : Res) (f : Int → Row), tally w (l ++ [r]) f = tallyS w (tallyS w (tally w l f) (homeS r)) (awayS r)
  | [], _, _ => rfl
  | x :: l, r, f => tally_snoc w l r _
theorem mem_take {x : V} {dfr : Blk} (w : Worth) (clubs : List Int) (f : Int → Row) (e : Int) (blk u v : Blk) : (Mem w clubs x dfr f e blk ++ [u, v]).take (clubs.length + 8) = Mem w clubs x dfr f e blk ++ [u] := by
  rw [List.take_append, mem_len, show clubs.length + 8 - (clubs.length + 7) = 1 by omega, List.take_of_length_le (by rw [mem_len]; omega)]; rfl
theorem mem_bel1 (w : Worth) (clubs : List Int) (f : Int → Row) (e : Int) (blk : Blk) (X : List D) (h : blk.bel (clubs.length + 8) = true) : belB (clubs.length + 8) (Mem w clubs .nil .defr f e blk ++ [.cells (X.map .d)]) = true :=
  belB_append (mem_bel w clubs f e blk (by omega) h) (by simp only [belB, Blk.bel, V.belL_d, Bool.and_self])
section
variable {x : V} {dfr : Blk} (w : Worth) (clubs : List Int) (f : Int → Row) (e : Int) (blk : Blk)
theorem mem_B' : (Mem w clubs x dfr f e blk)[clubs.length + 6]? = some blk := by simpa using mem_B (x := x) (dfr := dfr) w clubs f e blk []
theorem mem_D' : (Mem w clubs x dfr f e blk)[clubs.length + 5]? = some dfr := by simpa using mem_D (x := x) (dfr := dfr) w clubs f e blk []
theorem mem_0' : (Mem w clubs x dfr f e blk)[0]? = some (.cells [x]) := by simpa using mem_0 (x := x) (dfr := dfr) w clubs f e blk []
theorem mem_1' : (Mem w clubs x dfr f e blk)[1]? = some (.cells [I e]) := by simpa using mem_1 (x := x) (dfr := dfr) w clubs f e blk []
theorem mem_3' : (Mem w clubs x dfr f e blk)[3]? = some (.map (esOf clubs)) := by simpa using mem_3 (x := x) (dfr := dfr) w clubs f e blk []
theorem mem_4' : (Mem w clubs x dfr f e blk)[4]? = some (.cells [.map 3]) := by simpa using mem_4 (x := x) (dfr := dfr) w clubs f e blk []
theorem mem_setB' (b2 : Blk) : (Mem w clubs x dfr f e blk).set (clubs.length + 6) b2 = Mem w clubs x dfr f e b2 := by simpa using mem_setB (x := x) (dfr := dfr) w clubs f e blk [] b2
theorem mem_setD (own : List Blk) (d2 : Blk) : (Mem w clubs x dfr f e blk ++ own).set (clubs.length + 5) d2 = Mem w clubs x d2 f e blk ++ own := by
  unfold Mem
  rw [List.set_append_left _ _ (by simp <;> omega), List.set_append_right _ _ (by simp <;> omega)]
  congr 1
  congr 1
  simp
theorem mem_setD' (d2 : Blk) : (Mem w clubs x dfr f e blk).set (clubs.length + 5) d2 = Mem w clubs x d2 f e blk := by simpa using mem_setD (x := x) (dfr := dfr) w clubs f e blk [] d2
theorem mem_noLoop1 (g sz : Nat) (els : List (List V)) : noLoop (Mem w clubs x .defr f e .dead ++ [.row g sz els]) = true := by
  unfold Mem noLoop
  simp
theorem mem_sown0 (own : List Blk) (u z : Blk) : (Mem w clubs x dfr f e blk ++ u :: own).set (clubs.length + 7) z = Mem w clubs x dfr f e blk ++ z :: own := by
  rw [List.set_append_right _ _ (by rw [mem_len]; exact Nat.le_refl _), mem_len, Nat.sub_self]; rfl
theorem mem_noLoop : noLoop (Mem w clubs x .defr f e .dead) = true := by
  unfold Mem noLoop
  simp
end
theorem rows_next {clubs : List Int} (F : Int → Row) {j : Nat} (hj : j < clubs.length) : List.take j (List.map (fun c => List.map V.d (F c).cells) (List.take j clubs)) ++ [(F clubs[j]).cells.map V.d] = (clubs.take (j + 1)).map fun c => (F c).cells.map V.d := by
  rw [List.take_of_length_le (by simp; omega), take_next hj, List.map_append]; rfl
theorem belR_of {n : Nat} : ∀ {A : List (List V)}, (∀ x ∈ A, V.belL n x = true) → belR n A = true
  | [], _ => rfl
  | a :: A, h => by
    simp only [belR, Bool.and_eq_true]
    exact ⟨h a (by simp), belR_of fun x hx => h x (by simp [hx])⟩
theorem mem_belR (w : Worth) (clubs cl : List Int) (F : Int → Row) (g i m : Nat) : belB (clubs.length + 8) (Mem w clubs (.own (clubs.length + 7) g 0 i) .defr F 0 .dead ++ [.row m 11 (cl.map fun c => (F c).cells.map V.d)]) = true := by
  refine belB_append (mem_bel w clubs F 0 .dead (by omega) rfl (by simp [V.bel]) rfl) ?_
  simp only [belB, Blk.bel, Bool.and_true]
  refine belR_of fun x hx => ?_
  obtain ⟨c, _, rfl⟩ := List.mem_map.1 hx
  exact V.belL_d _ _
theorem CallP.conv {f : FuncId} {args args' : List V} {L' : List Blk} (ha : args = args') (hL : L = L') (h : CallP C f args' L' k) : CallP C f args L k := by subst ha hL; exact h
theorem check_b (l : List Res) (clubs : List Int) (w : Worth) (hl : l.length ≤ 4611686018427387904) (hc : clubs.length ≤ 4611686018427387904) (h1 : checkF l clubs w = 0 → k (I 0) L) (h2 : checkF l clubs w ≠ 0 → k (I (checkF l clubs w)) L) :
    CallP C 25 [.d (ress l), .d (ints clubs), worthV w] L k := by
  refine check_c l clubs w hl hc ?_
  by_cases h : checkF l clubs w = 0
  · rw [h]; exact h1 h
  · exact h2 h
theorem rows_c (l : List Res) (clubs : List Int) (w : Worth) (hl : l.length ≤ 4611686018427387904) (hc : clubs.length ≤ 4611686018427387904) (h : k (.tup [.d (rowsD (rowsF l clubs w).1), I (rowsF l clubs w).2]) L) :
    CallP C 13 [.d (ress l), .d (ints clubs), I w.win, I w.draw, I w.loss] L k := by
  refine CallP.pure ?_ rfl (fun _ => rfl) h
  clear h
  refine callP_of C_ok Try.func13 rfl rfl (n := _) rfl (Nat.le_of_ble_eq_true rfl) (rs := _) rfl ?_
  conv => whnf
  refine check_b l clubs w hl hc (fun h0 => ?_) (fun h0 => ?_)
  · have hf : fieldOk clubs 1 = true := by
      cases e : fieldOk clubs 1 with
      | true => rfl
      | false => rw [checkF, e] at h0; simp at h0
    have hinc : incr clubs = true := by
      simp only [fieldOk, Bool.and_eq_true] at hf; exact hf.1.1
    have hnd := incr_nodup hinc
    have hlen : clubs.length ≤ 24 := by
      simp only [fieldOk, Bool.and_eq_true, decide_eq_true_eq] at hf; exact hf.2
    conv => whnf
    refine Br.ff ?_
    conv => whnf
    refine LoopP.intro (ι := { i : Nat // i ≤ clubs.length })
      (fun i => ⟨[(0, .d (ress l)), (1, .d (ints clubs)), (10, .ptr 0 0), (11, .ptr 1 0), (12, .ptr 2 0), (13, .ptr 4 0), (33, .d (ints clubs)), (34, I clubs.length), (35, I i.1)], 77,
        preM w (esOf (clubs.take i.1)) ++ rowBs ((clubs.take i.1).map rowC), [], none⟩) (fun i => clubs.length - i.1) ⟨0, Nat.zero_le _⟩ ?_ ?_
    · exact Weak.by ⟨rfl, rfl, rfl, rfl, rfl, rfl, rfl, congrArg I (by simp), rfl, trivial⟩
    rintro ⟨i, hi⟩
    conv => whnf
    refine Br.dec (fun h => ?_) (fun h => ?_)
    · have hi' : i < clubs.length := by simpa using h
      have hlt : (clubs.take i).length = i := by rw [List.length_take]; omega
      conv => whnf
      refine Idx.map i rfl hi' ?_
      repeat' (conv => whnf
               first | refine Br.tt ?_ | refine Br.ff ?_ | refine Br.dec (fun h => ?_) (fun h => ?_) | refine Br.not ?_ | refine Br.intro (fun h => ?_) (fun h => ?_) | refine GetE.intro _ rfl ?_ | refine Need.intro rfl ?_ | refine DrawP.go mixed rfl ?_ | refine MapF.no (clubs.take i) (esOf_keys _) (nodup_take hnd hi') ?_)
      refine ⟨⟨i + 1, hi'⟩, by simp only []; omega, Weak.by ⟨rfl, rfl, rfl, rfl, rfl, rfl, rfl, rfl, congrArg I (by rw [wrap_id] <;> (try simp only []) <;> omega), trivial⟩ ?_⟩
      exact (mem_next w (clubs.take i) clubs[i]).trans (congrArg (fun x => preM w (esOf x) ++ rowBs (x.map rowC)) (take_next hi').symm)
    · have hie : clubs.take i = clubs := List.take_of_length_le (by simp at h; omega)
      repeat' (conv => whnf
               first | refine Br.tt ?_ | refine Br.ff ?_ | refine Br.dec (fun h => ?_) (fun h => ?_) | refine Br.not ?_ | refine Br.intro (fun h => ?_) (fun h => ?_) | refine GetE.intro _ rfl ?_ | refine Need.intro rfl ?_ | refine DrawP.go mixed rfl ?_ | refine sides_c l ?_)
      conv => whnf
      refine CallP.conv (congrArg (fun n => [V.yld (n + 1), .d (.rptr [ress l])]) (mem_slen w hie)) (mem_start w _ hie) ?_
      generalize hblk : Blk.loop _ = blk
      have step : ∀ (f : Int → Row) (s : Side) (X : List D), YieldP C (clubs.length + 6) [sideV s] (Mem w clubs .nil .defr f 0 blk ++ [.cells (X.map .d)]) (fun v M' =>
          (s.club ∈ clubs ∧ v = .d (.bool true) ∧ M' = Mem w clubs .nil .defr (tallyS w f s) 0 blk ++ [.cells (X.map .d)]) ∨ (s.club ∉ clubs ∧ v = .d (.bool false) ∧ M' = Mem w clubs .nil .defr f 190 (doneB blk) ++ [.cells (X.map .d)])) := by
        intro f s X
        subst hblk
        refine YieldP.round C_ok (fun _ => false) ?_
        repeat' (conv => whnf
                 first | refine Br.tt ?_ | refine Br.ff ?_ | refine Br.dec (fun h => ?_) (fun h => ?_) | refine Br.not ?_ | refine Br.intro (fun h => ?_) (fun h => ?_) | refine GetE.intro _ rfl ?_ | refine Need.intro rfl ?_ | refine DrawP.go mixed rfl ?_ | simp only [List.append_assoc, List.cons_append, List.nil_append, List.length_append, List.length_cons, List.length_nil, Nat.zero_add, Nat.add_assoc, Nat.reduceAdd, setB_eq, mem_len, mem_B, mem_2, mem_3, mem_4, mem_own1, mem_sown1, mem_setB])
        by_cases hm : s.club ∈ clubs
        · obtain ⟨j, hj, hcj⟩ := List.mem_iff_getElem.1 hm
          have hcj' : I s.club = I clubs[j] := by rw [hcj]
          refine Eq.mpr (congrArg (fun x => MapF (.int .i64) (esOf clubs) x _) hcj') (MapF.clubs hnd hj ?_)
          repeat' (conv => whnf
                   first | refine Br.tt ?_ | refine Br.ff ?_ | refine Br.dec (fun h => ?_) (fun h => ?_) | refine Br.not ?_ | refine Br.intro (fun h => ?_) (fun h => ?_) | refine GetE.intro _ rfl ?_ | refine Need.intro rfl ?_ | refine DrawP.go mixed rfl ?_ | simp only [List.append_assoc, List.cons_append, List.nil_append, List.length_append, List.length_cons, List.length_nil, Nat.zero_add, Nat.add_assoc, Nat.reduceAdd, setB_eq, mem_len, mem_B, mem_2, mem_3, mem_4, mem_own1, mem_sown1, mem_setB])
          refine count_c (f clubs[j]) s w (mem_R w clubs f 0 _ _ hj) ?_
          repeat' (conv => whnf
                   first | refine Br.tt ?_ | refine Br.ff ?_ | refine Br.dec (fun h => ?_) (fun h => ?_) | refine Br.not ?_ | refine Br.intro (fun h => ?_) (fun h => ?_) | refine GetE.intro _ rfl ?_ | refine Need.intro rfl ?_ | refine DrawP.go mixed rfl ?_ | simp only [List.append_assoc, List.cons_append, List.nil_append, List.length_append, List.length_cons, List.length_nil, Nat.zero_add, Nat.add_assoc, Nat.reduceAdd, setB_eq, mem_len, mem_B, mem_2, mem_3, mem_4, mem_own1, mem_sown1, mem_setB, mem_setR w _ _ _ _ hnd hj])
          conv => whnf
          refine FinP.drop (n := clubs.length + 8) (mem_take w clubs _ _ _ _ _) (Nat.le_refl _) rfl (mem_bel1 w clubs _ _ _ _ ?_) (.inl ⟨hm, rfl, ?_⟩)
          · simp [Blk.bel, belF, V.bel, preM, rowBs]; omega
          · refine congrArg (fun f => Mem w clubs .nil .defr f 0 _ ++ [_]) (funext fun c => ?_)
            unfold tallyS
            rw [hcj]
            by_cases e : c = s.club
            · rw [if_pos e, if_pos e, e]
            · rw [if_neg e, if_neg e]
        · refine MapF.no clubs (esOf_keys clubs) hm ?_
          repeat' (conv => whnf
                   first | refine Br.tt ?_ | refine Br.ff ?_ | refine Br.dec (fun h => ?_) (fun h => ?_) | refine Br.not ?_ | refine Br.intro (fun h => ?_) (fun h => ?_) | refine GetE.intro _ rfl ?_ | refine Need.intro rfl ?_ | refine DrawP.go mixed rfl ?_ | simp only [List.append_assoc, List.cons_append, List.nil_append, List.length_append, List.length_cons, List.length_nil, Nat.zero_add, Nat.add_assoc, Nat.reduceAdd, setB_eq, mem_len, mem_B, mem_2, mem_3, mem_4, mem_own1, mem_sown1, mem_setB, mem_0, mem_1, mem_set0, mem_set1, setCells, cellsOf])
          conv => whnf
          refine FinP.drop (n := clubs.length + 8) (mem_take w clubs _ _ _ _ _) (Nat.le_refl _) rfl (mem_bel1 w clubs _ _ _ _ ?_) (.inr ⟨hm, rfl, rfl⟩)
          simp [Blk.bel, belF, V.bel, preM, rowBs]; omega
      have hbl : blk.bel (clubs.length + 7) = true := by
        rw [← hblk]
        simp [Blk.bel, belF, V.bel, preM, rowBs]; omega
      have hbd : (doneB blk).bel (clubs.length + 7) = true := by
        rw [← hblk]
        simp [doneB, Blk.bel, belF, V.bel, preM, rowBs]; omega
      refine sides1_c l hl (clubs.length + 6) (clubs.length + 7) (fun i => ∀ (j : Nat) (hj : j < l.length), j < i → known clubs l[j] = true) (fun i => (∀ (j : Nat) (hj : j < l.length), j < i → known clubs l[j] = true) ∧ ∃ hi : i < l.length, l[i].game.home ∈ clubs)
        (fun i => Mem w clubs .nil .defr (tally w (l.take i) rowC) 0 blk) (fun i => Mem w clubs .nil .defr (match l[i]? with | some r => tallyS w (tally w (l.take i) rowC) (homeS r) | none => rowC) 0 blk) (fun _ => mem_len _ _ _ _ _) (fun _ => mem_len _ _ _ _ _) (fun _ => mem_bel _ _ _ _ _ (Nat.le_refl _) hbl) (by omega) ?_ ?_ ?_ ?_
      · intro i hi X hPi
        refine YieldP.mono (step _ (homeS l[i]) X) ?_
        rintro v M' (⟨hm, rfl, rfl⟩ | ⟨hm, rfl, rfl⟩)
        · exact .inl ⟨rfl, by rw [List.getElem?_eq_getElem hi], hPi, hi, hm⟩
        · refine .inr ⟨rfl, _, rfl, mem_len _ _ _ _ _, mem_bel _ _ _ _ _ (Nat.le_refl _) hbd, ?_⟩
          subst hblk
          repeat' (conv => whnf
                   first | refine Br.tt ?_ | refine Br.ff ?_ | refine Br.dec (fun h => ?_) (fun h => ?_) | refine Br.not ?_ | refine Br.intro (fun h => ?_) (fun h => ?_) | refine GetE.intro _ rfl ?_ | refine Need.intro rfl ?_ | refine DrawP.go mixed rfl ?_ | simp only [List.length_cons, List.length_nil, Nat.zero_add, Nat.add_assoc, Nat.reduceAdd, mem_slen w hie, mem_len, mem_B', mem_D', mem_0', mem_1', mem_3', mem_4', mem_setB', mem_setD', mem_noLoop, doneB, Bool.true_and, killAll, List.foldl_cons, List.foldl_nil])
          conv => whnf
          have hno : rowsF l clubs w = ([], 190) := by
            have : l.all (known clubs) = false := all_no hi (by simp only [known, Bool.and_eq_false_iff, List.contains_eq_mem, decide_eq_false_iff_not]; exact .inl hm)
            rw [rowsF, if_pos h0, this]; rfl
          rw [hno]
          exact FinP.data (.pair (.d .nil) (.d (.d _))) rfl rfl ⟨rfl, rfl⟩
      · intro i hi X ⟨hPi, _, hm1⟩
        rw [List.getElem?_eq_getElem hi]
        refine YieldP.mono (step _ (awayS l[i]) X) ?_
        rintro v M' (⟨hm, rfl, rfl⟩ | ⟨hm, rfl, rfl⟩)
        · refine .inl ⟨rfl, by rw [take_next hi, tally_snoc], fun j hj hji => ?_⟩
          by_cases e : j = i
          · subst e
            simp only [known, Bool.and_eq_true, List.contains_iff_mem]
            exact ⟨hm1, hm⟩
          · exact hPi j hj (by omega)
        · refine .inr ⟨rfl, _, rfl, mem_len _ _ _ _ _, mem_bel _ _ _ _ _ (Nat.le_refl _) hbd, ?_⟩
          subst hblk
          repeat' (conv => whnf
                   first | refine Br.tt ?_ | refine Br.ff ?_ | refine Br.dec (fun h => ?_) (fun h => ?_) | refine Br.not ?_ | refine Br.intro (fun h => ?_) (fun h => ?_) | refine GetE.intro _ rfl ?_ | refine Need.intro rfl ?_ | refine DrawP.go mixed rfl ?_ | simp only [List.length_cons, List.length_nil, Nat.zero_add, Nat.add_assoc, Nat.reduceAdd, mem_slen w hie, mem_len, mem_B', mem_D', mem_0', mem_1', mem_3', mem_4', mem_setB', mem_setD', mem_noLoop, doneB, Bool.true_and, killAll, List.foldl_cons, List.foldl_nil])
          conv => whnf
          have hno : rowsF l clubs w = ([], 190) := by
            have : l.all (known clubs) = false := all_no hi (by simp only [known, Bool.and_eq_false_iff, List.contains_eq_mem, decide_eq_false_iff_not]; exact .inr hm)
            rw [rowsF, if_pos h0, this]; rfl
          rw [hno]
          exact FinP.data (.pair (.d .nil) (.d (.d _))) rfl rfl ⟨rfl, rfl⟩
      · intro hP
        rw [List.take_length]
        subst hblk
        repeat' (conv => whnf
                 first | refine Br.tt ?_ | refine Br.ff ?_ | refine Br.dec (fun h => ?_) (fun h => ?_) | refine Br.not ?_ | refine Br.intro (fun h => ?_) (fun h => ?_) | refine GetE.intro _ rfl ?_ | refine Need.intro rfl ?_ | refine DrawP.go mixed rfl ?_ | simp only [List.length_cons, List.length_nil, Nat.zero_add, Nat.add_assoc, Nat.reduceAdd, mem_slen w hie, mem_len, mem_B', mem_D', mem_0', mem_1', mem_3', mem_4', mem_setB', mem_setD', mem_noLoop, doneB, Bool.true_and, killAll, List.foldl_cons, List.foldl_nil])
        have hyes : rowsF l clubs w = (clubs.map (tally w l rowC), 0) := by
          have : l.all (known clubs) = true := List.all_eq_true.2 fun x hx => by
            obtain ⟨j, hj, rfl⟩ := List.getElem_of_mem hx
            exact hP j hj hj
          rw [rowsF, if_pos h0, this]; rfl
        rw [hyes]
        generalize tally w l rowC = F
        conv => whnf
        refine LoopP.intro (ι := { j : Nat // j ≤ clubs.length })
          (fun j => ⟨[(1, .d (ints clubs)), (10, .ptr 0 0), (11, .ptr 1 0), (13, .ptr 4 0), (61, .d (ints clubs)), (62, I clubs.length), (63, I j.1)], 77,
            Mem w clubs (.own (clubs.length + 7) j.1 0 j.1) .defr F 0 .dead ++ [.row j.1 11 ((clubs.take j.1).map fun c => (F c).cells.map .d)], [clubs.length + 5], none⟩) (fun j => clubs.length - j.1) ⟨0, Nat.zero_le _⟩ ?_ ?_
        · exact Weak.nilCellTo 0 0 11 [.nil] (mem_0' _ _ _ _ _) rfl (by decide) (by simp only [mem_len, List.set, mem_set0, List.take_zero, List.map_nil]) ⟨rfl, rfl, rfl, rfl, rfl, congrArg I (by simp), rfl, trivial⟩
        rintro ⟨j, hj⟩
        conv => whnf
        refine Br.dec (fun hb => ?_) (fun hb => ?_)
        · have hj' : j < clubs.length := by simpa using hb
          conv => whnf
          refine Idx.map j rfl hj' ?_
          repeat' (conv => whnf
                   first | refine Br.tt ?_ | refine Br.ff ?_ | refine Br.dec (fun h => ?_) (fun h => ?_) | refine Br.not ?_ | refine Br.intro (fun h => ?_) (fun h => ?_) | refine GetE.intro _ rfl ?_ | refine Need.intro rfl ?_ | refine DrawP.go mixed rfl ?_ | simp only [List.append_assoc, List.cons_append, List.nil_append, List.length_append, List.length_cons, List.length_nil, Nat.zero_add, Nat.add_assoc, Nat.reduceAdd, mem_len, mem_0, mem_1, mem_3, mem_4, mem_own0, mem_own1, mem_sown0, mem_set0, mem_set1, setCells, cellsOf, mem_R w clubs _ _ _ _ hj', List.drop_zero, Nat.beq_refl, Bool.and_self] | refine MapF.clubs hnd hj' ?_ | refine DrawP.all mixed rfl ?_ | refine And.intro ?_ ?_ | exact trivial | refine Need.intro (by simp only [List.take, List.length_cons, List.length_nil]; omega) ?_)
          all_goals (try conv => whnf)
          all_goals
            refine ⟨⟨j + 1, hj'⟩, by simp only []; omega, Weak.to (clubs.length + 8) ((mem_take w clubs _ _ _ _ _).trans (congrArg (fun e => Mem w clubs (.own (clubs.length + 7) (j + 1) 0 (j + 1)) .defr F 0 .dead ++ [.row (j + 1) 11 e]) (rows_next F hj'))) (Nat.zero_le _) (by simp [mem_len])
              ⟨rfl, rfl, rfl, rfl, rfl, rfl, congrArg I (by rw [wrap_id] <;> (try simp only []) <;> omega), trivial⟩ (hf := by simp [belF, V.bel]) (hB := mem_belR w clubs _ F _ _ _) (hdf := by simp)⟩
        · have hie : clubs.take j = clubs := List.take_of_length_le (by simp at hb; omega)
          have hje : j = clubs.length := by simp at hb; omega
          repeat' (conv => whnf
                   first | refine Br.tt ?_ | refine Br.ff ?_ | refine Br.dec (fun h => ?_) (fun h => ?_) | refine Br.not ?_ | refine Br.intro (fun h => ?_) (fun h => ?_) | refine GetE.intro _ rfl ?_ | refine Need.intro rfl ?_ | refine DrawP.go mixed rfl ?_ | simp only [List.append_assoc, List.cons_append, List.nil_append, mem_len, mem_0, mem_1, mem_set0, mem_set1, setCells, cellsOf, mem_noLoop1, mem_setD, killAll, List.foldl_cons, List.foldl_nil, Bool.true_and])
          conv => whnf
          refine FinP.data (.pair (.d (.row (sz := 11) (clubs.map fun c => (F c).cells) (Nat.zero_le _) (mem_own0 w clubs F 0 .dead [] _) ?_ ?_ ?_)) (.d (.d _))) rfl rfl ⟨rfl, ?_⟩
          · rw [hie, List.drop_zero, List.take_of_length_le (by simp; omega), List.map_map]; rfl
          · rw [List.length_map]; exact hje
          · intro x hx
            obtain ⟨c, _, rfl⟩ := List.mem_map.1 hx
            rfl
          · rw [rowsD, List.map_map]; rfl
      · exact fun j hj h => absurd h (Nat.not_lt_zero j)
  · rw [show rowsF l clubs w = ([], checkF l clubs w) from if_neg h0]
    conv => whnf
    refine Br.yes (by simp [h0]) ?_
    conv => whnf
    refine DrawP.all mixed (by kernel_rfl) ?_
    repeat' (conv => whnf
             first | refine Br.tt ?_ | refine Br.ff ?_ | refine Br.dec (fun h => ?_) (fun h => ?_) | refine Br.not ?_ | refine Br.intro (fun h => ?_) (fun h => ?_) | refine GetE.intro _ rfl ?_ | refine Need.intro rfl ?_ | refine DrawP.go mixed rfl ?_ | refine And.intro ?_ ?_ | exact trivial)
    all_goals (conv => whnf)
    all_goals exact FinP.data (.pair (.d .nil) (.d (.d _))) rfl rfl ⟨rfl, rfl⟩
end Go.Proofs.Ytnkfifkgbkgcjaa
