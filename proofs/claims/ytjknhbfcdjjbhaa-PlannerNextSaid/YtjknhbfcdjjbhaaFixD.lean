/-
  fixtures: valid, matches and Check.
-/
import Derived.Test.YtjknhbfcdjjbhaaDemZ
namespace Go.Proofs.Ytjknhbfcdjjbhaa
open Go.Tidy
set_option maxRecDepth 100000
set_option maxHeartbeats 0
set_option linter.unusedSimpArgs false
set_option linter.unusedVariables false
variable {L : List Blk} {k : V → List Blk → Prop}
theorem fvalid_c (l : List Int) (hl : l.length ≤ 4611686018427387904) (h : k (B (fieldOk l 2)) L) : CallP C 89 [.d (ints l)] L k := by
  refine CallP.pure ?_ rfl (fun _ => rfl) h
  clear h
  refine callP_of C_ok Try.func89 rfl rfl (n := _) rfl (Nat.le_of_ble_eq_true rfl) (rs := _) rfl ?_
  by_cases hsz : 2 ≤ l.length ∧ l.length ≤ 24
  · have e1 : ¬ ((l.map fun c => [DI c]).length : Int) < 2 := by rw [List.length_map]; omega
    have e2 : ¬ (24 : Int) < ((l.map fun c => [DI c]).length : Int) := by rw [List.length_map]; omega
    repeat' (conv => whnf
             first | refine Br.no (decide_eq_false e1) ?_ | refine Br.no (decide_eq_false e2) ?_ | refine Br.tt ?_ | refine Br.ff ?_ | refine Br.dec (fun h => ?_) (fun h => ?_) | refine Br.not ?_ | refine Br.intro (fun h => ?_) (fun h => ?_) | refine GetE.intro _ rfl ?_ | refine Need.intro rfl ?_ | refine DrawP.go mixed rfl ?_)
    conv => whnf
    refine LoopP.intro (ι := FarOk l) (fun s => ⟨[(0, .d (ints l)), (13, .d (ints l)), (14, I l.length), (15, I s.i)], Try.f89.ntmps, [], [], none⟩) (fun s => l.length - s.i) (FarOk.zero l) ?_ ?_
    · exact Weak.forget ⟨rfl, rfl, congrArg I (by simp), rfl, trivial⟩
    intro s
    conv => whnf
    refine Br.dec (fun h => ?_) (fun h => ?_)
    · have hi : s.i < l.length := by simpa using h
      conv => whnf
      refine Idx.map s.i rfl hi ?_
      repeat' (conv => whnf
               first | refine Br.tt ?_ | refine Br.ff ?_ | refine Br.dec (fun h => ?_) (fun h => ?_) | refine Br.not ?_ | refine Br.intro (fun h => ?_) (fun h => ?_) | refine GetE.intro _ rfl ?_ | refine Need.intro rfl ?_ | refine DrawP.go mixed rfl ?_ | refine Idx.map (s.i - 1) (by rw [wrap_id] <;> omega) (by omega) ?_ | refine FinP.drop (n := 0) rfl (Nat.le_refl 0) rfl rfl ⟨rfl, congrArg B ?_⟩)
      · exact fieldOk_no (j := s.i) fun ho => by have := ((okAt_at hi).1 ho).1; omega
      · exact fieldOk_no (j := s.i) fun ho => by have := ((okAt_at hi).1 ho).1; omega
      · rename_i h0 h2
        exact fieldOk_no (j := s.i) fun ho => by have := ((okAt_at hi).1 ho).2 (by omega); omega
      · rename_i h3 h2 h1 h0
        exact ⟨s.next hi ((okAt_at hi).2 ⟨by omega, fun _ => by omega⟩), by simp only [FarOk.next]; omega, Weak.by ⟨rfl, rfl, rfl, congrArg I (by rw [wrap_id] <;> (try simp only [FarOk.next]) <;> omega), trivial⟩⟩
      · rename_i h2 h1 h0
        exact ⟨s.next hi ((okAt_at hi).2 ⟨by omega, fun _ => by omega⟩), by simp only [FarOk.next]; omega, Weak.by ⟨rfl, rfl, rfl, congrArg I (by rw [wrap_id] <;> (try simp only [FarOk.next]) <;> omega), trivial⟩⟩
    · have hi : ¬ s.i < l.length := by simpa using h
      have hin := s.all hi
      repeat' (conv => whnf
               first | refine Br.tt ?_ | refine Br.ff ?_ | refine Br.dec (fun h => ?_) (fun h => ?_) | refine Br.not ?_ | refine Br.intro (fun h => ?_) (fun h => ?_) | refine GetE.intro _ rfl ?_ | refine Need.intro rfl ?_ | refine DrawP.go mixed rfl ?_)
      conv => whnf
      refine FinP.drop (n := 0) rfl (Nat.le_refl 0) rfl rfl ⟨rfl, congrArg B ?_⟩
      simp [fieldOk, hin]; omega
  · have hno : fieldOk l 2 = false := by
      simp only [fieldOk, Bool.and_eq_false_iff, decide_eq_false_iff_not]; omega
    rw [hno]
    repeat' (conv => whnf
             first | refine Br.tt ?_ | refine Br.ff ?_ | refine Br.dec (fun h => ?_) (fun h => ?_) | refine Br.not ?_ | refine Br.intro (fun h => ?_) (fun h => ?_) | refine GetE.intro _ rfl ?_ | refine Need.intro rfl ?_ | refine DrawP.go mixed rfl ?_)
    all_goals conv => whnf
    all_goals first
      | exact FinP.drop (n := 0) rfl (Nat.le_refl 0) rfl rfl ⟨rfl, rfl⟩
      | (exfalso; simp only [List.length_map] at *; omega)
@[irreducible] def bsA (ks : List Int) : List V := (List.range 192).map fun i : Nat => B (decide ((i : Int) ∈ ks))
theorem bsA_len (ks : List Int) : (bsA ks).length = 192 := by unfold bsA; simp
theorem bsA_nil : bsA [] = List.replicate 192 (B false) := by
  unfold bsA
  simp only [List.not_mem_nil, decide_false]
  rw [List.map_const']; simp
theorem bsA_at (ks : List Int) {h : Nat} (hh : h < 192) : (bsA ks)[h]? = some (B (decide ((h : Int) ∈ ks))) := by
  unfold bsA; rw [List.getElem?_map, List.getElem?_eq_getElem (by rw [List.length_range]; exact hh), List.getElem_range]; rfl
theorem bsA_get (ks : List Int) {h : Nat} (hh : h < 192) : ((bsA ks).drop (0 + h * 1)).take 1 = [B (decide ((h : Int) ∈ ks))] := by
  have e := bsA_at ks hh
  rw [Nat.zero_add, Nat.mul_one]
  have hl : h < (bsA ks).length := by rw [bsA_len]; exact hh
  rw [List.drop_eq_getElem_cons hl]
  rw [List.getElem?_eq_getElem hl] at e
  rw [Option.some.inj e]; rfl
theorem bsA_set (ks : List Int) {h : Nat} (hh : h < 192) : setCells (bsA ks) (0 + h * 1) [B true] = bsA (ks ++ [(h : Int)]) := by
  rw [Nat.zero_add, Nat.mul_one, setCells_eq]
  have e : ∀ (l : List V), h < l.length → l.take h ++ [B true] ++ l.drop (h + 1) = l.set h (B true) := fun l hl => by rw [List.set_eq_take_append_cons_drop, if_pos hl]; simp
  show (bsA ks).take h ++ [B true] ++ (bsA ks).drop (h + 1) = _
  rw [e _ (by rw [bsA_len]; exact hh)]
  apply List.ext_getElem?
  intro i
  rw [List.getElem?_set, bsA_len]
  by_cases hi : i < 192
  · rw [bsA_at _ hi, bsA_at _ hi]
    by_cases e : h = i
    · subst e; rw [if_pos rfl, if_pos hh]; simp
    · rw [if_neg e]
      refine congrArg (fun b => some (B b)) ?_
      rw [decide_eq_decide]
      simp only [List.mem_append, List.mem_singleton]
      constructor
      · exact .inl
      · rintro (h | h)
        · exact h
        · omega
  · have e1 : (bsA ks)[i]? = none := List.getElem?_eq_none (by rw [bsA_len]; omega)
    have e2 : (bsA (ks ++ [(h : Int)]))[i]? = none := List.getElem?_eq_none (by rw [bsA_len]; omega)
    rw [e1, e2, if_neg (by omega)]
theorem bsA_put (ks : List Int) {h : Nat} (hh : h < 192) : setCells (bsA ks) (0 + h * 1) (cellsOf (V.d (D.bool true))) = bsA (ks ++ [(h : Int)]) := bsA_set ks hh
theorem bsA_bel (n : Nat) (ks : List Int) : V.belL n (bsA ks) = true := by
  unfold bsA
  generalize List.range 192 = r
  induction r with
  | nil => rfl
  | cons a r ih => simp only [List.map_cons, V.belL, V.bel, Bool.true_and]; exact ih
theorem ble_192 {h : Nat} (hh : h < 192) : Nat.ble (0 + h * 1 + 1) 192 = true := Nat.ble_eq_true_of_le (by omega)
def OkX (cs : List Int) (met r : List Mt) (k : Nat) (hk : k < r.length) : Prop :=
  r[k].home ≠ r[k].away ∧ r[k] ∉ met ++ r.take k ∧ r[k].home ∈ cs ∧ r[k].away ∈ cs ∧ r[k].home ∉ busyL (r.take k) ∧ r[k].away ∉ busyL (r.take k)
def FixP (l : List (List Mt)) (cs : List Int) : Prop := ∀ (i : Nat) (hi : i < l.length) (k : Nat) (hk : k < l[i].length), OkX cs (l.take i).flatten l[i] k hk
open Classical in
noncomputable def fixE (l : List (List Mt)) (cs : List Int) : Int := if fieldOk cs 2 = true then (if l.length ≤ 46 then (if FixP l cs then 0 else 300) else 2) else 1
def MatK (l : List (List Mt)) (cs : List Int) (X : V) (L : List Blk) : Prop :=
  (fixE l cs ≠ 0 ∧ X = .tup [.d .nilmap, I (fixE l cs)] ∧ L = []) ∨ (fixE l cs = 0 ∧ X = .tup [.map 0, I 0] ∧ L = [.map (esM l.flatten)])
theorem field_192 {cs : List Int} (h : fieldOk cs 2 = true) {c : Int} (hc : c ∈ cs) : ∃ n : Nat, c = (n : Int) ∧ n < 192 := by
  simp only [fieldOk, Bool.and_eq_true] at h
  obtain ⟨j, hj, rfl⟩ := List.getElem_of_mem hc
  obtain ⟨h1, h2⟩ := ((okAt_at hj).1 ((incr_iff cs).1 h.1.1 j)).1
  exact ⟨(cs[j]).toNat, by omega, by omega⟩
theorem esM_rn (ρ : Nat → Nat) (ks : List Mt) : (Blk.map (esM ks)).rn ρ = .map (esM ks) := by
  rw [Blk.rn]
  refine congrArg Blk.map ?_
  induction ks with
  | nil => rfl
  | cons a ks ih => unfold esM at ih ⊢; rw [List.map_cons, rnM, ih]; rfl
def xL (l : List (List Mt)) (i : Nat) : List Blk := [.cells [.d (lisD l)], .map (esM (l.take i).flatten)]
def yL (l : List (List Mt)) (i : Nat) (r : List Mt) (k : Nat) : List Blk := [.cells [.d (lisD l)], .map (esM ((l.take i).flatten ++ r.take k)), .cells (bsA (busyL (r.take k)))]
theorem xL_bel (n : Nat) (l : List (List Mt)) (i : Nat) : belB n (xL l i) = true := by
  show (true && (belM n (esM (l.take i).flatten) && true)) = true
  rw [esM_bel]; rfl
theorem yL_bel (n : Nat) (l : List (List Mt)) (i : Nat) (r : List Mt) (k : Nat) : belB n (yL l i r k) = true := by
  show (true && (belM n (esM ((l.take i).flatten ++ r.take k)) && (V.belL n (bsA (busyL (r.take k))) && true))) = true
  rw [esM_bel, bsA_bel]; rfl
theorem matches_c (l : List (List Mt)) (cs : List Int) (hl : l.length ≤ 1073741824) (hr : ∀ r ∈ l, r.length ≤ 4611686018427387904) (hcs : cs.length ≤ 4611686018427387904) :
    CallP C 42 [lisV l, .d (ints cs)] [] (MatK l cs) := by
  refine callP_of C_ok Try.func42 rfl rfl (n := _) rfl (Nat.le_of_ble_eq_true rfl) (rs := _) rfl ?_
  cases hv : fieldOk cs 2 with
  | false =>
    have e : fixE l cs = 1 := by unfold fixE; rw [if_neg (by rw [hv]; decide)]
    repeat' (conv => whnf
             first | refine fvalid_c cs hcs ?_ | refine Br.no hv ?_ | refine Br.tt ?_ | refine Br.ff ?_ | refine Br.dec (fun h => ?_) (fun h => ?_) | refine Br.not ?_ | refine Br.intro (fun h => ?_) (fun h => ?_) | refine GetE.intro _ rfl ?_ | refine Need.intro rfl ?_ | refine DrawP.go mixed rfl ?_)
    conv => whnf
    exact FinP.drop (n := 0) rfl (Nat.le_refl 0) rfl rfl (.inl ⟨by rw [e]; decide, Eq.trans (b := V.tup [.d .nilmap, I 1]) rfl (by rw [e]), rfl⟩)
  | true =>
    by_cases hl46 : l.length ≤ 46
    · have h46 : ¬ (46 : Int) < ((l.map fun r => [mts r]).length : Int) := by rw [List.length_map]; omega
      repeat' (conv => whnf
               first | refine fvalid_c cs hcs ?_ | refine Br.yes hv ?_ | refine Br.no (decide_eq_false h46) ?_ | refine Br.tt ?_ | refine Br.ff ?_ | refine Br.dec (fun h => ?_) (fun h => ?_) | refine Br.not ?_ | refine Br.intro (fun h => ?_) (fun h => ?_) | refine GetE.intro _ rfl ?_ | refine Need.intro rfl ?_ | refine DrawP.go mixed rfl ?_)
      conv => whnf
      have hfail : ∀ (i : Nat) (hi : i < l.length) (k : Nat) (hk : k < l[i].length), ¬ OkX cs (l.take i).flatten l[i] k hk → fixE l cs = 300 := fun i hi k hk h => by
        unfold fixE; rw [if_pos hv, if_pos hl46, if_neg fun hf => h (hf i hi k hk)]
      refine LoopP.inv (fun i => i ≤ l.length ∧ ∀ (j : Nat) (hj : j < l.length), j < i → ∀ (k : Nat) (hk : k < l[j].length), OkX cs (l.take j).flatten l[j] k hk) (fun i => ⟨[(1, .d (ints cs)), (2, .ptr 0 0), (4, .map 1), (20, .d (.sl (l.map fun r => [mts r]))), (21, I l.length), (22, I i)], Try.f42.ntmps, xL l i, [], none⟩) (fun i => l.length - i) 0 ⟨Nat.zero_le _, fun j _ h => absurd h (Nat.not_lt_zero j)⟩ ?_ ?_
      · exact Weak.by ⟨rfl, rfl, rfl, rfl, congrArg I (by simp), rfl, trivial⟩
      rintro i ⟨hi, hok⟩
      by_cases hi' : i < l.length
      · obtain ⟨r, hr1⟩ : ∃ r, r = l[i] := ⟨_, rfl⟩
        have hrl : r.length ≤ 4611686018427387904 := hr r (hr1 ▸ List.getElem_mem hi')
        have hlt : (i : Int) < (l.length : Int) := by omega
        have hw : IntKind.i64.wrap ((i : Int) + 1) = ((i + 1 : Nat) : Int) := by rw [wrap_in (by omega)]; omega
        have r1 : (l.map fun r => [mts r])[i]? = some [mts r] := by rw [List.getElem?_map, List.getElem?_eq_getElem hi', ← hr1]; rfl
        repeat' (conv => whnf
                 first | refine Br.yes (decide_eq_true hlt) ?_ | refine Idx.intro i _ rfl r1 ?_ | refine Br.tt ?_ | refine Br.ff ?_ | refine Br.dec (fun h => ?_) (fun h => ?_) | refine Br.not ?_ | refine Br.intro (fun h => ?_) (fun h => ?_) | refine GetE.intro _ rfl ?_ | refine Need.intro rfl ?_ | refine DrawP.go mixed rfl ?_)
        conv => whnf
        refine LoopP.inv (fun k => k ≤ r.length ∧ ∀ (j : Nat) (hj : j < r.length), j < k → OkX cs (l.take i).flatten r j hj) (fun k => ⟨[(1, .d (ints cs)), (2, .ptr 0 0), (4, .map 1), (20, .d (.sl (l.map fun r => [mts r]))), (21, I l.length), (22, I i), (8, .ptr 2 0), (26, .d (mts r)), (27, I r.length), (28, I k)], Try.f42.ntmps, yL l i r k, [], none⟩) (fun k => r.length - k) 0 ⟨Nat.zero_le _, fun j _ h => absurd h (Nat.not_lt_zero j)⟩ ?_ ?_
        · exact Weak.by ⟨rfl, rfl, rfl, rfl, rfl, rfl, rfl, rfl, congrArg I (by simp), rfl, trivial⟩ (hL := by unfold yL; rw [List.take_zero, List.append_nil]; show _ = [_, _, Blk.cells (bsA [])]; rw [bsA_nil]; rfl)
        rintro kk ⟨hk, hkok⟩
        by_cases hk' : kk < r.length
        · have hlt2 : (kk : Int) < (r.length : Int) := by omega
          have hw2 : IntKind.i64.wrap ((kk : Int) + 1) = ((kk + 1 : Nat) : Int) := by rw [wrap_in (by omega)]; omega
          obtain ⟨m, hm⟩ : ∃ m, m = r[kk] := ⟨_, rfl⟩
          have r2 : (r.map Mt.cells)[kk]? = some m.cells := by rw [List.getElem?_map, List.getElem?_eq_getElem hk', hm]; rfl
          have hfl : ¬ OkX cs (l.take i).flatten r kk hk' → fixE l cs = 300 := by subst hr1; exact hfail i hi' kk hk'
          have hO : (m.home ≠ m.away ∧ m ∉ (l.take i).flatten ++ r.take kk ∧ m.home ∈ cs ∧ m.away ∈ cs ∧ m.home ∉ busyL (r.take kk) ∧ m.away ∉ busyL (r.take kk)) ↔ OkX cs (l.take i).flatten r kk hk' := by subst hm; exact Iff.rfl
          have q1t : m.home = m.away → (decide (m.home = m.away) && (decide (m.away = m.home) && true)) = true := fun h => by simp [h]
          have q1f : m.home ≠ m.away → (decide (m.home = m.away) && (decide (m.away = m.home) && true)) = false := fun h => by simp [h]
          have cT : ∀ c, c ∈ cs → cs.contains c = true := fun c h => List.contains_iff_mem.2 h
          have cF : ∀ c, c ∉ cs → cs.contains c = false := fun c h => by
            cases e : cs.contains c with
            | false => rfl
            | true => exact absurd (List.contains_iff_mem.1 e) h
          by_cases c1 : m.home = m.away
          · have e := hfl fun h => (hO.2 h).1 c1
            repeat' (conv => whnf
                     first | refine Br.yes (decide_eq_true hlt2) ?_ | refine Idx.intro kk _ rfl r2 ?_ | refine Br.yes (q1t c1) ?_ | refine Br.tt ?_ | refine Br.ff ?_ | refine Br.dec (fun h => ?_) (fun h => ?_) | refine Br.not ?_ | refine Br.intro (fun h => ?_) (fun h => ?_) | refine GetE.intro _ rfl ?_ | refine Need.intro rfl ?_ | refine DrawP.go mixed rfl ?_)
            all_goals conv => whnf
            all_goals exact FinP.drop (n := 0) rfl (Nat.le_refl 0) rfl rfl (.inl ⟨by rw [e]; decide, Eq.trans (b := V.tup [.d .nilmap, I 300]) rfl (by rw [e]), rfl⟩)
          by_cases c2 : m ∈ (l.take i).flatten ++ r.take kk
          · have e := hfl fun h => (hO.2 h).2.1 c2
            repeat' (conv => whnf
                     first | refine Br.yes (decide_eq_true hlt2) ?_ | refine Idx.intro kk _ rfl r2 ?_ | refine Br.no (q1f c1) ?_ | refine MapF.memM ((l.take i).flatten ++ r.take kk) m (fun h j => ?_) (fun h => absurd c2 h) | refine Br.tt ?_ | refine Br.ff ?_ | refine Br.dec (fun h => ?_) (fun h => ?_) | refine Br.not ?_ | refine Br.intro (fun h => ?_) (fun h => ?_) | refine GetE.intro _ rfl ?_ | refine Need.intro rfl ?_ | refine DrawP.go mixed rfl ?_)
            all_goals conv => whnf
            all_goals exact FinP.drop (n := 0) rfl (Nat.le_refl 0) rfl rfl (.inl ⟨by rw [e]; decide, Eq.trans (b := V.tup [.d .nilmap, I 300]) rfl (by rw [e]), rfl⟩)
          by_cases c3 : m.home ∈ cs
          rotate_left
          · have e := hfl fun h => c3 (hO.2 h).2.2.1
            repeat' (conv => whnf
                     first | refine Br.yes (decide_eq_true hlt2) ?_ | refine Idx.intro kk _ rfl r2 ?_ | refine Br.no (q1f c1) ?_ | refine MapF.memM ((l.take i).flatten ++ r.take kk) m (fun h => absurd h c2) (fun h => ?_) | refine contains_c cs _ hcs ?_ | refine Br.no (cF _ c3) ?_ | refine Br.tt ?_ | refine Br.ff ?_ | refine Br.dec (fun h => ?_) (fun h => ?_) | refine Br.not ?_ | refine Br.intro (fun h => ?_) (fun h => ?_) | refine GetE.intro _ rfl ?_ | refine Need.intro rfl ?_ | refine DrawP.go mixed rfl ?_)
            all_goals conv => whnf
            all_goals exact FinP.drop (n := 0) rfl (Nat.le_refl 0) rfl rfl (.inl ⟨by rw [e]; decide, Eq.trans (b := V.tup [.d .nilmap, I 300]) rfl (by rw [e]), rfl⟩)
          by_cases c4 : m.away ∈ cs
          rotate_left
          · have e := hfl fun h => c4 (hO.2 h).2.2.2.1
            repeat' (conv => whnf
                     first | refine Br.yes (decide_eq_true hlt2) ?_ | refine Idx.intro kk _ rfl r2 ?_ | refine Br.no (q1f c1) ?_ | refine MapF.memM ((l.take i).flatten ++ r.take kk) m (fun h => absurd h c2) (fun h => ?_) | refine contains_c cs _ hcs ?_ | refine Br.yes (cT _ c3) ?_ | refine Br.no (cF _ c4) ?_ | refine Br.tt ?_ | refine Br.ff ?_ | refine Br.dec (fun h => ?_) (fun h => ?_) | refine Br.not ?_ | refine Br.intro (fun h => ?_) (fun h => ?_) | refine GetE.intro _ rfl ?_ | refine Need.intro rfl ?_ | refine DrawP.go mixed rfl ?_)
            all_goals conv => whnf
            all_goals exact FinP.drop (n := 0) rfl (Nat.le_refl 0) rfl rfl (.inl ⟨by rw [e]; decide, Eq.trans (b := V.tup [.d .nilmap, I 300]) rfl (by rw [e]), rfl⟩)
          obtain ⟨hn, ehn, bhn⟩ := field_192 hv c3
          obtain ⟨an, ean, ban⟩ := field_192 hv c4
          by_cases c5 : (hn : Int) ∈ busyL (r.take kk)
          · have e := hfl fun h => (hO.2 h).2.2.2.2.1 (by rw [ehn]; exact c5)
            repeat' (conv => whnf
                     first | refine Br.yes (decide_eq_true hlt2) ?_ | refine Idx.intro kk _ rfl r2 ?_ | refine Br.no (q1f c1) ?_ | refine MapF.memM ((l.take i).flatten ++ r.take kk) m (fun h => absurd h c2) (fun h => ?_) | refine contains_c cs _ hcs ?_ | refine Br.yes (cT _ c3) ?_ | refine Br.yes (cT _ c4) ?_ | refine IdxN.intro hn ehn bhn ?_ | refine IdxN.intro an ean ban ?_ | simp only [bsA_len, ble_192 bhn, ble_192 ban, bsA_get _ bhn, bsA_get _ ban] | refine Br.yes (decide_eq_true c5) ?_ | refine Br.tt ?_ | refine Br.ff ?_ | refine Br.dec (fun h => ?_) (fun h => ?_) | refine Br.not ?_ | refine Br.intro (fun h => ?_) (fun h => ?_) | refine GetE.intro _ rfl ?_ | refine Need.intro rfl ?_ | refine DrawP.go mixed rfl ?_)
            all_goals conv => whnf
            all_goals exact FinP.drop (n := 0) rfl (Nat.le_refl 0) rfl rfl (.inl ⟨by rw [e]; decide, Eq.trans (b := V.tup [.d .nilmap, I 300]) rfl (by rw [e]), rfl⟩)
          by_cases c6 : (an : Int) ∈ busyL (r.take kk)
          · have e := hfl fun h => (hO.2 h).2.2.2.2.2 (by rw [ean]; exact c6)
            repeat' (conv => whnf
                     first | refine Br.yes (decide_eq_true hlt2) ?_ | refine Idx.intro kk _ rfl r2 ?_ | refine Br.no (q1f c1) ?_ | refine MapF.memM ((l.take i).flatten ++ r.take kk) m (fun h => absurd h c2) (fun h => ?_) | refine contains_c cs _ hcs ?_ | refine Br.yes (cT _ c3) ?_ | refine Br.yes (cT _ c4) ?_ | refine IdxN.intro hn ehn bhn ?_ | refine IdxN.intro an ean ban ?_ | simp only [bsA_len, ble_192 bhn, ble_192 ban, bsA_get _ bhn, bsA_get _ ban] | refine Br.no (decide_eq_false c5) ?_ | refine Br.yes (decide_eq_true c6) ?_ | refine Br.tt ?_ | refine Br.ff ?_ | refine Br.dec (fun h => ?_) (fun h => ?_) | refine Br.not ?_ | refine Br.intro (fun h => ?_) (fun h => ?_) | refine GetE.intro _ rfl ?_ | refine Need.intro rfl ?_ | refine DrawP.go mixed rfl ?_)
            all_goals conv => whnf
            all_goals exact FinP.drop (n := 0) rfl (Nat.le_refl 0) rfl rfl (.inl ⟨by rw [e]; decide, Eq.trans (b := V.tup [.d .nilmap, I 300]) rfl (by rw [e]), rfl⟩)
          repeat' (conv => whnf
                   first | refine Br.yes (decide_eq_true hlt2) ?_ | refine Idx.intro kk _ rfl r2 ?_ | refine Br.no (q1f c1) ?_ | refine MapF.memM ((l.take i).flatten ++ r.take kk) m (fun h => absurd h c2) (fun h => ?_) | refine contains_c cs _ hcs ?_ | refine Br.yes (cT _ c3) ?_ | refine Br.yes (cT _ c4) ?_ | refine IdxN.intro hn ehn bhn ?_ | refine IdxN.intro an ean ban ?_ | simp only [bsA_len, ble_192 bhn, ble_192 ban, bsA_get _ bhn, bsA_get _ ban] | refine Br.no (decide_eq_false c5) ?_ | refine Br.no (decide_eq_false c6) ?_ | refine Br.tt ?_ | refine Br.ff ?_ | refine Br.dec (fun h => ?_) (fun h => ?_) | refine Br.not ?_ | refine Br.intro (fun h => ?_) (fun h => ?_) | refine GetE.intro _ rfl ?_ | refine Need.intro rfl ?_ | refine DrawP.go mixed rfl ?_)
          have hnext : [Blk.cells [.d (lisD l)], .map (esM ((l.take i).flatten ++ r.take kk) ++ [(mtV m, B true)]), .cells (bsA (busyL (r.take kk) ++ [(hn : Int)] ++ [(an : Int)]))] = yL l i r (kk + 1) := by
            have e1 : ∀ (A : List Mt) (x : Mt), esM (A ++ [x]) = esM A ++ [(mtV x, B true)] := fun A x => by unfold esM; rw [List.map_append]; rfl
            have e2 : ∀ (A : List Mt) (x : Mt), busyL (A ++ [x]) = busyL A ++ [x.home] ++ [x.away] := fun A x => by unfold busyL; rw [List.flatMap_append, List.append_assoc]; rfl
            unfold yL
            rw [take_next hk', ← List.append_assoc, e1, e2, ← hm, ← ehn, ← ean]
          refine DrawP.por mixed [1, 3, 5] [[(0, 0), (2, 0), (4, 0), (1, 2), (3, 2), (5, 2), (6, 0), (7, 0), (8, 0), (9, 0), (10, 0)], [(0, 0), (2, 0), (4, 0), (1, 2), (3, 2), (6, 0), (7, 1), (5, 2), (8, 0), (9, 0), (10, 0)], [(0, 0), (2, 0), (4, 0), (1, 2), (3, 2), (6, 0), (7, 1), (8, 0), (5, 2), (9, 0), (10, 0)], [(0, 0), (2, 0), (4, 0), (1, 2), (5, 2), (3, 2), (6, 0), (7, 0), (8, 0), (9, 0), (10, 0)], [(0, 0), (2, 0), (4, 0), (1, 2), (5, 2), (6, 0), (3, 2), (7, 0), (8, 0), (9, 0), (10, 0)], [(0, 0), (2, 0), (4, 0), (1, 2), (6, 0), (3, 2), (7, 1), (5, 2), (8, 0), (9, 0), (10, 0)], [(0, 0), (2, 0), (4, 0), (1, 2), (6, 0), (3, 2), (7, 1), (8, 0), (5, 2), (9, 0), (10, 0)], [(0, 0), (2, 0), (4, 0), (1, 2), (6, 0), (5, 2), (3, 2), (7, 0), (8, 0), (9, 0), (10, 0)], [(0, 0), (2, 0), (4, 0), (3, 2), (1, 2), (5, 2), (6, 0), (7, 0), (8, 0), (9, 0), (10, 0)], [(0, 0), (2, 0), (4, 0), (3, 2), (1, 2), (6, 0), (7, 1), (5, 2), (8, 0), (9, 0), (10, 0)], [(0, 0), (2, 0), (4, 0), (3, 2), (1, 2), (6, 0), (7, 1), (8, 0), (5, 2), (9, 0), (10, 0)], [(0, 0), (2, 0), (4, 0), (3, 2), (5, 2), (1, 2), (6, 0), (7, 0), (8, 0), (9, 0), (10, 0)], [(0, 0), (2, 0), (4, 0), (5, 2), (1, 2), (3, 2), (6, 0), (7, 0), (8, 0), (9, 0), (10, 0)], [(0, 0), (2, 0), (4, 0), (5, 2), (1, 2), (6, 0), (3, 2), (7, 0), (8, 0), (9, 0), (10, 0)], [(0, 0), (2, 0), (4, 0), (5, 2), (3, 2), (1, 2), (6, 0), (7, 0), (8, 0), (9, 0), (10, 0)]] (by kernel_rfl) ?_
          conv => whnf
          refine And.intro ?_ ?_
          rotate_left 1
          conv => whnf
          refine And.intro ?_ ?_
          rotate_left 1
          conv => whnf
          refine And.intro ?_ ?_
          rotate_left 1
          conv => whnf
          refine And.intro ?_ ?_
          rotate_left 1
          conv => whnf
          refine And.intro ?_ ?_
          rotate_left 1
          conv => whnf
          refine And.intro ?_ ?_
          rotate_left 1
          conv => whnf
          refine And.intro ?_ ?_
          rotate_left 1
          conv => whnf
          refine And.intro ?_ ?_
          rotate_left 1
          conv => whnf
          refine And.intro ?_ ?_
          rotate_left 1
          conv => whnf
          refine And.intro ?_ ?_
          rotate_left 1
          conv => whnf
          refine And.intro ?_ ?_
          rotate_left 1
          conv => whnf
          refine And.intro ?_ ?_
          rotate_left 1
          conv => whnf
          refine And.intro ?_ ?_
          rotate_left 1
          conv => whnf
          refine And.intro ?_ ?_
          all_goals
            repeat' (conv => whnf
                     first | refine QCallW.intro (mtV m) _ ⟨rfl, rfl⟩ ?_ | refine QCallW.intro (I m.home) _ ⟨rfl, rfl⟩ ?_ | refine QCallW.intro (I m.away) _ ⟨rfl, rfl⟩ ?_ | refine MapF.memM ((l.take i).flatten ++ r.take kk) m (fun h => absurd h c2) (fun _ => ?_) | refine IdxN.intro hn ehn bhn ?_ | refine IdxN.intro an ean ban ?_ | simp only [bsA_len, ble_192 bhn, ble_192 ban, bsA_put _ bhn, bsA_put _ ban] | refine Br.tt ?_ | refine Br.ff ?_ | refine Br.dec (fun h => ?_) (fun h => ?_) | refine Br.not ?_ | refine Br.intro (fun h => ?_) (fun h => ?_) | refine GetE.intro _ rfl ?_ | refine Need.intro rfl ?_ | refine DrawP.go mixed rfl ?_)
          all_goals conv => whnf
          all_goals exact ⟨kk + 1, ⟨hk', fun j hj hji => by
            by_cases e : j = kk
            · subst e; exact hO.1 ⟨c1, c2, c3, c4, fun h => c5 (by rw [← ehn]; exact h), fun h => c6 (by rw [← ean]; exact h)⟩
            · exact hkok j hj (by omega)⟩, by omega, Weak.to 3 (Eq.trans rfl hnext) (Nat.zero_le _) (Nat.le_of_ble_eq_true rfl) ⟨rfl, rfl, rfl, rfl, rfl, rfl, rfl, rfl, rfl, congrArg I hw2, trivial⟩ (hB := yL_bel 3 l _ _ _)⟩
        · have hlt2 : ¬ (kk : Int) < (r.length : Int) := by omega
          have hkr : r.take kk = r := List.take_of_length_le (by omega)
          repeat' (conv => whnf
                   first | refine Br.no (decide_eq_false hlt2) ?_ | refine Br.tt ?_ | refine Br.ff ?_ | refine Br.dec (fun h => ?_) (fun h => ?_) | refine Br.not ?_ | refine Br.intro (fun h => ?_) (fun h => ?_) | refine GetE.intro _ rfl ?_ | refine Need.intro rfl ?_ | refine DrawP.go mixed rfl ?_)
          conv => whnf
          have hfx : (l.take (i + 1)).flatten = (l.take i).flatten ++ r := by rw [take_next hi', List.flatten_append, ← hr1]; simp
          exact ⟨i + 1, ⟨hi', fun j hj hji => by
            by_cases e : j = i
            · subst e; intro k hk3; subst hr1; exact hkok k hk3 (by omega)
            · exact hok j hj (by omega)⟩, by omega, Weak.to 2 (Eq.trans (b := [Blk.cells [.d (lisD l)], .map (esM ((l.take i).flatten ++ r.take kk))]) rfl (by rw [hkr, ← hfx]; rfl)) (Nat.zero_le _) (Nat.le_of_ble_eq_true rfl) ⟨rfl, rfl, rfl, rfl, rfl, congrArg I hw, trivial⟩ (hB := xL_bel 2 l _)⟩
      · have hlt : ¬ (i : Int) < (l.length : Int) := by omega
        have e : fixE l cs = 0 := by
          unfold fixE; rw [if_pos hv, if_pos hl46, if_pos (show FixP l cs from fun j hj k hk => hok j hj (by omega) k hk)]
        repeat' (conv => whnf
                 first | refine Br.no (decide_eq_false hlt) ?_ | refine Br.tt ?_ | refine Br.ff ?_ | refine Br.dec (fun h => ?_) (fun h => ?_) | refine Br.not ?_ | refine Br.intro (fun h => ?_) (fun h => ?_) | refine GetE.intro _ rfl ?_ | refine Need.intro rfl ?_ | refine DrawP.go mixed rfl ?_)
        conv => whnf
        have ht : l.take i = l := List.take_of_length_le (by omega)
        refine FinP.part [1] [.map (esM (l.take i).flatten)] (Part.one rfl (esM_rn _ _) (esM_bel _ _) rfl) (fun b hb => absurd hb (Nat.not_lt_zero b)) (X' := .tup [.map 0, I 0]) rfl rfl (.inr ⟨e, rfl, by rw [ht]⟩)
    · have e : fixE l cs = 2 := by unfold fixE; rw [if_pos hv, if_neg hl46]
      have h46 : (46 : Int) < ((l.map fun r => [mts r]).length : Int) := by rw [List.length_map]; omega
      repeat' (conv => whnf
               first | refine fvalid_c cs hcs ?_ | refine Br.yes hv ?_ | refine Br.yes (decide_eq_true h46) ?_ | refine Br.tt ?_ | refine Br.ff ?_ | refine Br.dec (fun h => ?_) (fun h => ?_) | refine Br.not ?_ | refine Br.intro (fun h => ?_) (fun h => ?_) | refine GetE.intro _ rfl ?_ | refine Need.intro rfl ?_ | refine DrawP.go mixed rfl ?_)
      conv => whnf
      exact FinP.drop (n := 0) rfl (Nat.le_refl 0) rfl rfl (.inl ⟨by rw [e]; decide, Eq.trans (b := V.tup [.d .nilmap, I 2]) rfl (by rw [e]), rfl⟩)
theorem fcheck_c (l : List (List Mt)) (cs : List Int) (hl : l.length ≤ 1073741824) (hr : ∀ r ∈ l, r.length ≤ 4611686018427387904) (hcs : cs.length ≤ 4611686018427387904) (h : k (I (fixE l cs)) L) :
    CallP C 23 [lisV l, .d (ints cs)] L k := by
  refine CallP.pure ?_ rfl (fun _ => rfl) h
  clear h
  refine callP_of C_ok Try.func23 rfl rfl (n := _) rfl (Nat.le_of_ble_eq_true rfl) (rs := _) rfl ?_
  conv => whnf
  refine CallP.frame (matches_c l cs hl hr hcs) rfl ?_
  rintro X L' (⟨_, rfl, rfl⟩ | ⟨e, rfl, rfl⟩)
  · repeat' (conv => whnf
             first | refine Br.tt ?_ | refine Br.ff ?_ | refine Br.dec (fun h => ?_) (fun h => ?_) | refine Br.not ?_ | refine Br.intro (fun h => ?_) (fun h => ?_) | refine GetE.intro _ rfl ?_ | refine Need.intro rfl ?_ | refine DrawP.go mixed rfl ?_)
    all_goals conv => whnf
    all_goals exact FinP.drop (n := 0) rfl (Nat.le_refl 0) rfl rfl ⟨rfl, rfl⟩
  · repeat' (conv => whnf
             first | refine Br.tt ?_ | refine Br.ff ?_ | refine Br.dec (fun h => ?_) (fun h => ?_) | refine Br.not ?_ | refine Br.intro (fun h => ?_) (fun h => ?_) | refine GetE.intro _ rfl ?_ | refine Need.intro rfl ?_ | refine DrawP.go mixed rfl ?_)
    all_goals conv => whnf
    all_goals exact FinP.drop (n := 0) rfl (Nat.le_refl 0) rfl rfl ⟨rfl, congrArg I e.symm⟩
end Go.Proofs.Ytjknhbfcdjjbhaa
