/-
  demands: the states of a club, one round after the other.
-/
import Derived.Test.YtjknhbfcdjjbhaaDemG
namespace Go.Proofs.Ytjknhbfcdjjbhaa
open Go.Tidy
set_option maxRecDepth 100000
set_option maxHeartbeats 0
set_option linter.unusedSimpArgs false
set_option linter.unusedVariables false
variable {L : List Blk} {k : V → List Blk → Prop}
theorem getN {A : List Blk} {N : Nat} (h : A.length = N) (x : Blk) : (A ++ [x])[N]? = some x := by subst h; exact List.getElem?_concat_length
theorem setN {A : List Blk} {N : Nat} (h : A.length = N) (x y : Blk) : (A ++ [x]).set N y = A ++ [y] := by subst h; simp
def Rounds (N : Nat) (k : V → List Blk → Prop) (P : Prop) (M : List Blk) (X : List D) (v : V) (M' : List Blk) : Prop :=
  (v = .d (.bool true) ∧ M' = M ++ [.cells (X.map .d)] ∧ P) ∨ (v = .d (.bool false) ∧ ∃ Z, M' = Z ++ [.cells (X.map .d)] ∧ Z.length = N ∧ belB N Z = true ∧ k (.tup []) Z)
theorem states_c (R : List Rnd) (c : Int) (h : k (.d (.fn 118 [.rptr [rndsD R], .rptr [DI c]])) L) : CallP C 111 [.d (rndsD R), I c] L k := by
  refine CallP.pure ?_ rfl (fun _ => rfl) h
  clear h
  refine callP_of C_ok Try.func111 rfl rfl (n := _) rfl (Nat.le_of_ble_eq_true rfl) (rs := _) rfl ?_
  repeat' (conv => whnf
           first | refine Br.tt ?_ | refine Br.ff ?_ | refine Br.dec (fun h => ?_) (fun h => ?_) | refine Br.not ?_ | refine Br.intro (fun h => ?_) (fun h => ?_) | refine GetE.intro _ rfl ?_ | refine Need.intro rfl ?_ | refine DrawP.go mixed rfl ?_)
  conv => whnf
  exact FinP.data (L' := []) (.d (.fnL (.cons (.ptrL (Nat.zero_le _) rfl (.cons (.d _) .nil)) (.cons (.ptrL (Nat.zero_le _) rfl (.cons (.d _) .nil)) .nil)))) rfl rfl ⟨rfl, rfl⟩
theorem states1_c (R : List Rnd) (c : Int) (hl : R.length ≤ 4611686018427387904) (b N : Nat) (P : Nat → Prop) (S : Nat → List Blk) (hS : ∀ i, (S i).length = N) (hbS : ∀ i, belB N (S i) = true) (hb : b < N)
    (hy : ∀ (i : Nat) (hi : i < R.length) (X : List D), P i → stR R[i] c ≠ 2 → YieldP C b [I i, I (stR R[i] c)] (S i ++ [.cells (X.map .d)]) (Rounds N k (P (i + 1)) (S (i + 1)) X))
    (h0 : ∀ (i : Nat), i ≤ R.length → P i → (∀ h : i < R.length, stR R[i] c = 2) → k (.tup []) (S i)) (hP : P 0) :
    CallP C 118 [.yld b, .d (.rptr [rndsD R]), .d (.rptr [DI c])] (S 0) k := by
  have gS : ∀ i x, (S i ++ [x])[N]? = some x := fun i x => getN (hS i) x
  have sS : ∀ i x y, (S i ++ [x]).set N y = S i ++ [y] := fun i x y => setN (hS i) x y
  refine callP_of C_ok Try.func118 rfl rfl (n := _) rfl (Nat.le_of_ble_eq_true rfl) (rs := _) rfl ?_
  conv => whnf
  refine LoopP.intro (ι := { i : Nat // i ≤ R.length ∧ P i }) (fun i => ⟨[(0, .yld b), (2, .d (.rptr [DI c])), (7, .d (rndsD R)), (8, I R.length), (9, I i.1)], Try.f118.ntmps, S i.1, [], none⟩) (fun i => R.length - i.1) ⟨0, Nat.zero_le _, hP⟩ ?_ ?_
  · exact Weak.by ⟨rfl, rfl, rfl, congrArg I (by simp), rfl, trivial⟩
  rintro ⟨i, hi, hPi⟩
  conv => whnf
  refine Br.dec (fun h => ?_) (fun h => ?_)
  · have hi' : i < R.length := by simpa using h
    repeat' (conv => whnf
             first | refine Br.tt ?_ | refine Br.ff ?_ | refine Br.dec (fun h => ?_) (fun h => ?_) | refine Br.not ?_ | refine Br.intro (fun h => ?_) (fun h => ?_) | refine GetE.intro _ rfl ?_ | refine Need.intro rfl ?_ | refine DrawP.go mixed rfl ?_ | refine Idx.map i rfl hi' ?_ | simp only [gS, hS, sS] | refine state_c R[i] c ?_ | refine QCall.intro _ (state_c R[i] c ⟨rfl, rfl⟩) ?_)
    all_goals conv => whnf
    · exact FinP.drop (n := N) (List.take_left' (hS _)) (Nat.le_refl _) rfl (hbS _) (h0 i hi hPi fun _ => h)
    · refine YieldP.mono (hy i hi' R[i].cells hPi h) ?_
      rintro v M' (⟨rfl, rfl, hPn⟩ | ⟨rfl, Z, rfl, hz1, hz2, hz3⟩)
      · repeat' (conv => whnf
                 first | refine Br.tt ?_ | refine Br.ff ?_ | refine Br.dec (fun h => ?_) (fun h => ?_) | refine Br.not ?_ | refine Br.intro (fun h => ?_) (fun h => ?_) | refine GetE.intro _ rfl ?_ | refine Need.intro rfl ?_ | refine DrawP.go mixed rfl ?_ | simp only [gS, hS, sS])
        conv => whnf
        refine ⟨⟨i + 1, hi', hPn⟩, by simp only []; omega, Weak.to N ?_ (Nat.le_refl _) (by simp [hS]) ⟨rfl, rfl, rfl, rfl, congrArg I (by rw [wrap_id] <;> (try simp only []) <;> omega), trivial⟩ (hf := ?_) (hB := hbS _)⟩
        · exact List.take_left' (hS _)
        · simp [belF, V.bel, hb]
      · repeat' (conv => whnf
                 first | refine Br.tt ?_ | refine Br.ff ?_ | refine Br.dec (fun h => ?_) (fun h => ?_) | refine Br.not ?_ | refine Br.intro (fun h => ?_) (fun h => ?_) | refine GetE.intro _ rfl ?_ | refine Need.intro rfl ?_ | refine DrawP.go mixed rfl ?_ | simp only [gS, hS, sS])
        conv => whnf
        exact FinP.drop (n := N) (List.take_left' hz1) (Nat.le_refl _) rfl hz2 hz3
  · have hie : ¬ i < R.length := by simpa using h
    repeat' (conv => whnf
             first | refine Br.tt ?_ | refine Br.ff ?_ | refine Br.dec (fun h => ?_) (fun h => ?_) | refine Br.not ?_ | refine Br.intro (fun h => ?_) (fun h => ?_) | refine GetE.intro _ rfl ?_ | refine Need.intro rfl ?_ | refine DrawP.go mixed rfl ?_)
    conv => whnf
    exact FinP.same (h0 i hi hPi fun h => absurd h hie)
def kst (R : List Rnd) (c : Int) : List Int := (R.map fun r => stR r c).takeWhile fun s => decide (s ≠ 2)
def brkStep (a : Int × Int) (s : Int) : Int × Int := if s = 0 then a else (s, if s = a.1 then a.2 + 1 else a.2)
def brkF (l : List Int) : Int × Int := l.foldl brkStep (0, 0)
theorem brkF_snoc (l : List Int) (s : Int) : brkF (l ++ [s]) = brkStep (brkF l) s := by unfold brkF; rw [List.foldl_append]; rfl
theorem brkF_bound (l : List Int) : 0 ≤ (brkF l).2 ∧ (brkF l).2 ≤ l.length := by
  unfold brkF
  suffices h : ∀ (l : List Int) (a : Int × Int), a.2 ≤ (l.foldl brkStep a).2 ∧ (l.foldl brkStep a).2 ≤ a.2 + l.length by simpa using h l (0, 0)
  intro l
  induction l with
  | nil => intro a; simp
  | cons s l ih =>
    intro a
    have := ih (brkStep a s)
    have h2 : a.2 ≤ (brkStep a s).2 ∧ (brkStep a s).2 ≤ a.2 + 1 := by
      unfold brkStep; split
      · omega
      · simp only; split <;> omega
    simp only [List.foldl_cons, List.length_cons]
    omega
theorem kst_take {R : List Rnd} {c : Int} : ∀ {i : Nat}, i ≤ R.length → (∀ (j : Nat) (hj : j < R.length), j < i → stR R[j] c ≠ 2) → (∀ h : i < R.length, stR R[i] c = 2) → kst R c = (R.take i).map fun r => stR r c := by
  induction R with
  | nil => intro i hi _ _; simp [kst]
  | cons r R ih =>
    intro i hi hP hend
    unfold kst
    cases i with
    | zero =>
      have h0 := hend (by simp)
      simp only [List.getElem_cons_zero] at h0
      simp [h0]
    | succ i =>
      have h0 := hP 0 (by simp) (by omega)
      simp only [List.getElem_cons_zero] at h0
      rw [List.map_cons, List.takeWhile_cons_of_pos (by simpa using h0), List.take_succ_cons, List.map_cons]
      exact congrArg (stR r c :: ·) (ih (i := i) (by simpa using hi) (fun j hj hji => hP (j + 1) (by simpa using hj) (by omega)) (fun h => hend (by simpa using h)))
def brkM (d : Dm) (a : Int × Int) (blk : Blk) : List Blk := [.cells (d.cells.map .d), .cells [I a.1], .cells [I a.2], .defr, blk]
theorem brkM_bel {n : Nat} {d : Dm} {a : Int × Int} {blk : Blk} (hb : blk.bel n = true) : belB n (brkM d a blk) = true := by
  show (V.belL n (d.cells.map .d) && (V.belL n [I a.1] && (V.belL n [I a.2] && (true && (blk.bel n && true))))) = true
  rw [hb, V.belL_d]; rfl
theorem brkM_bel1 {n : Nat} {d : Dm} {a : Int × Int} {blk : Blk} {X : List D} (hb : blk.bel n = true) : belB n (brkM d a blk ++ [.cells (X.map .d)]) = true := by
  show (V.belL n (d.cells.map .d) && (V.belL n [I a.1] && (V.belL n [I a.2] && (true && (blk.bel n && (V.belL n (X.map .d) && true)))))) = true
  rw [hb, V.belL_d, V.belL_d]; rfl
theorem CallP.conv {f : FuncId} {args args' : List V} {L' : List Blk} (ha : args = args') (hL : L = L') (h : CallP C f args' L' k) : CallP C f args L k := by subst ha hL; exact h
theorem broken_c (R : List Rnd) (d : Dm) (hl : R.length ≤ 4611686018427387904) (h : k (B (decide (d.n < (brkF (kst R d.club)).2))) L) : CallP C 87 [.d (rndsD R), dmV d] L k := by
  refine CallP.pure ?_ rfl (fun _ => rfl) h
  clear h
  refine callP_of C_ok Try.func87 rfl rfl (n := _) rfl (Nat.le_of_ble_eq_true rfl) (rs := _) rfl ?_
  repeat' (conv => whnf
           first | refine Br.tt ?_ | refine Br.ff ?_ | refine Br.dec (fun h => ?_) (fun h => ?_) | refine Br.not ?_ | refine Br.intro (fun h => ?_) (fun h => ?_) | refine GetE.intro _ rfl ?_ | refine Need.intro rfl ?_ | refine DrawP.go mixed rfl ?_ | refine states_c R d.club ?_)
  conv => whnf
  refine CallP.conv (args' := [.yld 4, .d (.rptr [rndsD R]), .d (.rptr [DI d.club])]) (L' := brkM d (0, 0) (.loop _)) rfl rfl ?_
  generalize hblk : Blk.loop _ = blk
  have hb5 : blk.bel 5 = true := by rw [← hblk]; rfl
  have hb6 : blk.bel 6 = true := by rw [← hblk]; rfl
  have hB : ∀ (a : Int × Int) (X : List D), belB 6 (brkM d a blk ++ [.cells (X.map .d)]) = true := fun a X => brkM_bel1 hb6
  have hB5 : ∀ (a : Int × Int), belB 5 (brkM d a blk) = true := fun a => brkM_bel hb5
  have step : ∀ (a : Int × Int) (i s : Int) (X : List D), 0 ≤ a.2 ∧ a.2 ≤ 4611686018427387904 → YieldP C 4 [I i, I s] (brkM d a blk ++ [.cells (X.map .d)]) (fun v M' => v = .d (.bool true) ∧ M' = brkM d (brkStep a s) blk ++ [.cells (X.map .d)]) := by
    rintro ⟨last, n⟩ i s X hn
    subst hblk
    refine YieldP.round C_ok (fun _ => false) ?_
    repeat' (conv => whnf
             first | refine Br.tt ?_ | refine Br.ff ?_ | refine Br.dec (fun h => ?_) (fun h => ?_) | refine Br.not ?_ | refine Br.intro (fun h => ?_) (fun h => ?_) | refine GetE.intro _ rfl ?_ | refine Need.intro rfl ?_ | refine DrawP.go mixed rfl ?_)
    all_goals conv => whnf
    · refine FinP.drop (n := 6) (L' := brkM d (last, n) _ ++ [.cells (X.map .d)]) rfl (Nat.le_refl 6) rfl (hB (last, n) X) ⟨rfl, ?_⟩
      rw [brkStep, if_pos h]
    · rename_i h1
      refine FinP.drop (n := 6) (L' := brkM d (s, IntKind.i64.wrap (n + 1)) _ ++ [.cells (X.map .d)]) rfl (Nat.le_refl 6) rfl (hB _ X) ⟨rfl, ?_⟩
      rw [brkStep, if_neg h1, if_pos h, wrap_in (by simp only at hn; omega)]
    · rename_i h1
      refine FinP.drop (n := 6) (L' := brkM d (s, n) _ ++ [.cells (X.map .d)]) rfl (Nat.le_refl 6) rfl (hB _ X) ⟨rfl, ?_⟩
      rw [brkStep, if_neg h1, if_neg h]
  refine states1_c R d.club hl 4 5 (fun i => ∀ (j : Nat) (hj : j < R.length), j < i → stR R[j] d.club ≠ 2) (fun i => brkM d (brkF ((R.take i).map fun r => stR r d.club)) blk) (fun _ => rfl) (fun i => hB5 _) (by decide) ?_ ?_ (fun j _ h => absurd h (Nat.not_lt_zero j))
  · intro i hi X hP hne
    have hbd := brkF_bound ((R.take i).map fun r => stR r d.club)
    rw [List.length_map, List.length_take] at hbd
    refine YieldP.mono (step (brkF ((R.take i).map fun r => stR r d.club)) i _ X ⟨hbd.1, by omega⟩) ?_
    rintro v M' ⟨rfl, rfl⟩
    refine .inl ⟨rfl, ?_, fun j hj hji => ?_⟩
    · have e : brkF ((R.take (i + 1)).map fun r => stR r d.club) = brkStep (brkF ((R.take i).map fun r => stR r d.club)) (stR R[i] d.club) := by rw [take_next hi, List.map_append, ← brkF_snoc]; rfl
      exact congrArg (fun a => brkM d a blk ++ [Blk.cells (X.map V.d)]) e.symm
    · by_cases e : j = i
      · subst e; exact hne
      · exact hP j hj (by omega)
  · intro i hi hP hend
    rw [← kst_take hi hP hend]
    subst hblk
    repeat' (conv => whnf
             first | refine Br.tt ?_ | refine Br.ff ?_ | refine Br.dec (fun h => ?_) (fun h => ?_) | refine Br.not ?_ | refine Br.intro (fun h => ?_) (fun h => ?_) | refine GetE.intro _ rfl ?_ | refine Need.intro rfl ?_ | refine DrawP.go mixed rfl ?_)
    conv => whnf
    exact FinP.drop (n := 0) rfl (Nat.le_refl 0) rfl rfl ⟨rfl, rfl⟩
def doneB : Blk → Blk
  | .loop r => .loop { r with st := .done, pend := some .ret }
  | b => b
def tiltGo (n : Int) : List Int → Int → Bool
  | [], _ => false
  | s :: l, sum => if n < sum + s ∨ n < -(sum + s) then true else tiltGo n l (sum + s)
def tiM (d : Dm) (r : Bool) (sum : Int) (blk : Blk) : List Blk := [.cells (d.cells.map .d), .cells [B r], .cells [I sum], .defr, blk]
theorem tiM_bel {n : Nat} {d : Dm} {r : Bool} {a : Int} {blk : Blk} (hb : blk.bel n = true) : belB n (tiM d r a blk) = true := by
  show (V.belL n (d.cells.map .d) && (V.belL n [B r] && (V.belL n [I a] && (true && (blk.bel n && true))))) = true
  rw [hb, V.belL_d]; rfl
theorem tiM_bel1 {n : Nat} {d : Dm} {r : Bool} {a : Int} {blk : Blk} {X : List D} (hb : blk.bel n = true) : belB n (tiM d r a blk ++ [.cells (X.map .d)]) = true := by
  show (V.belL n (d.cells.map .d) && (V.belL n [B r] && (V.belL n [I a] && (true && (blk.bel n && (V.belL n (X.map .d) && true)))))) = true
  rw [hb, V.belL_d, V.belL_d]; rfl
theorem stateF_range (kn : Int → Bool) (c : Int) : ∀ l : List Mt, -1 ≤ stateF l kn c ∧ stateF l kn c ≤ 2
  | [] => by rw [stateF]; split <;> omega
  | m :: l => by
    rw [stateF]
    split
    · omega
    · split
      · omega
      · exact stateF_range kn c l
theorem stR_range (r : Rnd) (c : Int) : -1 ≤ stR r c ∧ stR r c ≤ 2 := stateF_range _ _ _
def sumAt (R : List Rnd) (c : Int) (i : Nat) : Int := ((R.take i).map fun r => stR r c).sum
theorem sumAt_next {R : List Rnd} {c : Int} {i : Nat} (h : i < R.length) : sumAt R c (i + 1) = sumAt R c i + stR R[i] c := by
  unfold sumAt; rw [take_next h, List.map_append, List.sum_append]; simp
theorem sumAt_bound (R : List Rnd) (c : Int) : ∀ i : Nat, -2 * (R.length : Int) ≤ sumAt R c i ∧ sumAt R c i ≤ 2 * R.length := by
  have key : ∀ l : List Rnd, -2 * (l.length : Int) ≤ (l.map fun r => stR r c).sum ∧ (l.map fun r => stR r c).sum ≤ 2 * l.length := by
    intro l
    induction l with
    | nil => simp
    | cons r l ih =>
      have := stR_range r c
      simp only [List.map_cons, List.sum_cons, List.length_cons]
      omega
  intro i
  have h := key (R.take i)
  have : (R.take i).length ≤ R.length := by rw [List.length_take]; omega
  unfold sumAt
  omega
theorem kst_drop {R : List Rnd} {c : Int} : ∀ {i : Nat} (hi : i < R.length), (∀ (j : Nat) (hj : j < R.length), j ≤ i → stR R[j] c ≠ 2) → (kst R c).drop i = stR R[i] c :: (kst R c).drop (i + 1) := by
  induction R with
  | nil => intro i hi; simp at hi
  | cons r R ih =>
    intro i hi hP
    have h0 := hP 0 (by simp) (by omega)
    simp only [List.getElem_cons_zero] at h0
    have hk : kst (r :: R) c = stR r c :: kst R c := by
      unfold kst; rw [List.map_cons, List.takeWhile_cons_of_pos (by simpa using h0)]
    rw [hk]
    cases i with
    | zero => rfl
    | succ i =>
      simp only [List.drop_succ_cons]
      exact ih (i := i) (by simpa using hi) fun j hj hji => hP (j + 1) (by simpa using hj) (by omega)
theorem tilted_c (R : List Rnd) (d : Dm) (hl : R.length ≤ 1073741824) (h : k (B (tiltGo d.n (kst R d.club) 0)) L) : CallP C 88 [.d (rndsD R), dmV d] L k := by
  refine CallP.pure ?_ rfl (fun _ => rfl) h
  clear h
  refine callP_of C_ok Try.func88 rfl rfl (n := _) rfl (Nat.le_of_ble_eq_true rfl) (rs := _) rfl ?_
  repeat' (conv => whnf
           first | refine Br.tt ?_ | refine Br.ff ?_ | refine Br.dec (fun h => ?_) (fun h => ?_) | refine Br.not ?_ | refine Br.intro (fun h => ?_) (fun h => ?_) | refine GetE.intro _ rfl ?_ | refine Need.intro rfl ?_ | refine DrawP.go mixed rfl ?_ | refine states_c R d.club ?_)
  conv => whnf
  refine CallP.conv (args' := [.yld 4, .d (.rptr [rndsD R]), .d (.rptr [DI d.club])]) (L' := tiM d false 0 (.loop _)) rfl rfl ?_
  generalize hblk : Blk.loop _ = blk
  have hb5 : blk.bel 5 = true := by rw [← hblk]; rfl
  have hb6 : blk.bel 6 = true := by rw [← hblk]; rfl
  have step : ∀ (a i s : Int) (X : List D), (-4611686018427387904 ≤ a ∧ a ≤ 4611686018427387904) → (-2 ≤ s ∧ s ≤ 2) → YieldP C 4 [I i, I s] (tiM d false a blk ++ [.cells (X.map .d)]) (fun v M' =>
      (¬ (d.n < a + s ∨ d.n < -(a + s)) ∧ v = .d (.bool true) ∧ M' = tiM d false (a + s) blk ++ [.cells (X.map .d)]) ∨ ((d.n < a + s ∨ d.n < -(a + s)) ∧ v = .d (.bool false) ∧ M' = tiM d true (a + s) (doneB blk) ++ [.cells (X.map .d)])) := by
    intro a i s X ha hs
    subst hblk
    have e1 : IntKind.i64.wrap (a + s) = a + s := wrap_in (by omega)
    have e2 : IntKind.i64.wrap (-(a + s)) = -(a + s) := wrap_in (by omega)
    have e3 : IntKind.i64.wrap (0 - (a + s)) = -(a + s) := by rw [wrap_in (by omega)]; omega
    refine YieldP.round C_ok (fun _ => false) ?_
    repeat' (conv => whnf
             first | refine Br.tt ?_ | refine Br.ff ?_ | refine Br.dec (fun h => ?_) (fun h => ?_) | refine Br.not ?_ | refine Br.intro (fun h => ?_) (fun h => ?_) | refine GetE.intro _ rfl ?_ | refine Need.intro rfl ?_ | refine DrawP.go mixed rfl ?_)
    all_goals conv => whnf
    · rw [e1] at h
      exact FinP.drop (n := 6) (L' := tiM d true (IntKind.i64.wrap (a + s)) _ ++ [.cells (X.map .d)]) rfl (Nat.le_refl 6) rfl (tiM_bel1 rfl) (.inr ⟨.inl h, rfl, by rw [e1]; rfl⟩)
    · rw [e1, e3] at h
      exact FinP.drop (n := 6) (L' := tiM d true (IntKind.i64.wrap (a + s)) _ ++ [.cells (X.map .d)]) rfl (Nat.le_refl 6) rfl (tiM_bel1 rfl) (.inr ⟨.inr h, rfl, by rw [e1]; rfl⟩)
    · rename_i h1
      rw [e1, e3] at h
      rw [e1] at h1
      exact FinP.drop (n := 6) (L' := tiM d false (IntKind.i64.wrap (a + s)) _ ++ [.cells (X.map .d)]) rfl (Nat.le_refl 6) rfl (tiM_bel1 hb6) (.inl ⟨fun hh => hh.elim h1 h, rfl, by rw [e1]⟩)
  refine states1_c R d.club (by omega) 4 5 (fun i => (∀ (j : Nat) (hj : j < R.length), j < i → stR R[j] d.club ≠ 2) ∧ tiltGo d.n (kst R d.club) 0 = tiltGo d.n ((kst R d.club).drop i) (sumAt R d.club i)) (fun i => tiM d false (sumAt R d.club i) blk) (fun _ => rfl) (fun i => tiM_bel hb5) (by decide) ?_ ?_ ⟨fun j _ h => absurd h (Nat.not_lt_zero j), rfl⟩
  · intro i hi X hP hne
    obtain ⟨hP, heq⟩ := hP
    have hbd := sumAt_bound R d.club i
    have hst := stR_range R[i] d.club
    have hdrop := kst_drop hi (fun j hj hji => by
      by_cases e : j = i
      · subst e; exact hne
      · exact hP j hj (by omega) : ∀ (j : Nat) (hj : j < R.length), j ≤ i → stR R[j] d.club ≠ 2)
    rw [hdrop, tiltGo, ← sumAt_next hi] at heq
    refine YieldP.mono (step (sumAt R d.club i) i _ X (by omega) (by omega)) ?_
    rintro v M' (⟨hno, rfl, rfl⟩ | ⟨hyes, rfl, rfl⟩)
    · refine .inl ⟨rfl, by rw [sumAt_next hi], fun j hj hji => ?_, ?_⟩
      · by_cases e : j = i
        · subst e; exact hne
        · exact hP j hj (by omega)
      · rw [← sumAt_next hi] at hno
        rw [heq, if_neg hno]
    · rw [← sumAt_next hi] at hyes
      rw [if_pos hyes] at heq
      refine .inr ⟨rfl, _, rfl, rfl, tiM_bel (by subst hblk; rfl), ?_⟩
      rw [heq]
      subst hblk
      repeat' (conv => whnf
               first | refine Br.tt ?_ | refine Br.ff ?_ | refine Br.dec (fun h => ?_) (fun h => ?_) | refine Br.not ?_ | refine Br.intro (fun h => ?_) (fun h => ?_) | refine GetE.intro _ rfl ?_ | refine Need.intro rfl ?_ | refine DrawP.go mixed rfl ?_)
      conv => whnf
      exact FinP.drop (n := 0) rfl (Nat.le_refl 0) rfl rfl ⟨rfl, rfl⟩
  · intro i hi hP hend
    obtain ⟨hP, heq⟩ := hP
    have hk := kst_take hi hP hend
    rw [List.drop_of_length_le (by rw [hk, List.length_map, List.length_take]; omega), tiltGo] at heq
    rw [heq]
    subst hblk
    repeat' (conv => whnf
             first | refine Br.tt ?_ | refine Br.ff ?_ | refine Br.dec (fun h => ?_) (fun h => ?_) | refine Br.not ?_ | refine Br.intro (fun h => ?_) (fun h => ?_) | refine GetE.intro _ rfl ?_ | refine Need.intro rfl ?_ | refine DrawP.go mixed rfl ?_)
    conv => whnf
    exact FinP.drop (n := 0) rfl (Nat.le_refl 0) rfl rfl ⟨rfl, rfl⟩
end Go.Proofs.Ytjknhbfcdjjbhaa
