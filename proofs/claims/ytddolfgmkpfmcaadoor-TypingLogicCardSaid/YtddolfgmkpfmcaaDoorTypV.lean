/-
  typing: the reference's size of an order, Few and FewCond.
-/
import Derived.Test.YtddolfgmkpfmcaaDoorTypU
namespace Go.Proofs.YtddolfgmkpfmcaaDoor
open Go.Tidy
set_option maxRecDepth 100000
set_option maxHeartbeats 0
set_option linter.unusedSimpArgs false
set_option linter.unusedVariables false
variable {L : List Blk} {k : V → List Blk → Prop}
def czF (c : Co) : Nat := if isZ c = true then 0 else cnF 0 c
mutual
def szS (d : Nat) : Sp → Nat × Nat
  | .mk _ _ c t e => (1 + (if t ≠ [] ∧ 16 < d + 1 then (1000, 1000) else szL (d + 1) t (0, 0)).1 + (if e ≠ [] ∧ 16 < d + 1 then (1000, 1000) else szL (d + 1) e (0, 0)).1,
      (if t ≠ [] ∧ 16 < d + 1 then (1000, 1000) else szL (d + 1) t (0, 0)).2 + (if e ≠ [] ∧ 16 < d + 1 then (1000, 1000) else szL (d + 1) e (0, 0)).2 + czF c)
def szL (d : Nat) : List Sp → Nat × Nat → Nat × Nat
  | [], a => a
  | s :: ss, a => if a.1 ≤ 64 ∧ a.2 ≤ 256 then szL d ss (a.1 + (szS d s).1, a.2 + (szS d s).2) else a
end
def szT (d : Nat) (l : List Sp) : Nat × Nat := if l ≠ [] ∧ 16 < d then (1000, 1000) else szL d l (0, 0)
theorem szS_eq (d : Nat) (s : Sp) : szS d s = (1 + (szT (d + 1) s.thn).1 + (szT (d + 1) s.els).1, (szT (d + 1) s.thn).2 + (szT (d + 1) s.els).2 + czF s.cond) := by
  cases s; rw [szS]; rfl
theorem szL_big (d : Nat) : ∀ {l : List Sp} {a : Nat × Nat}, ¬ (a.1 ≤ 64 ∧ a.2 ≤ 256) → szL d l a = a
  | [], a, _ => by rw [szL]
  | s :: ss, a, h => by rw [szL, if_neg h]
theorem szL_le (d B : Nat) (hF : ∀ s, (szS d s).1 ≤ B ∧ (szS d s).2 ≤ B) : ∀ (l : List Sp) (a : Nat × Nat), a.1 ≤ 256 + B → a.2 ≤ 256 + B → (szL d l a).1 ≤ 256 + B ∧ (szL d l a).2 ≤ 256 + B
  | [], a, h1, h2 => by rw [szL]; exact ⟨h1, h2⟩
  | s :: ss, a, h1, h2 => by
    rw [szL]
    split
    · rename_i h
      have := hF s
      exact szL_le d B hF ss _ (by simp only; omega) (by simp only; omega)
    · exact ⟨h1, h2⟩
theorem czF_le (c : Co) : czF c ≤ 6000 := by
  unfold czF; split
  · omega
  · exact cnF_top 0 c
theorem szT_le : ∀ (m d : Nat), 17 ≤ d + m → ∀ l, (szT d l).1 ≤ 7000 * 2 ^ m + 7000 * (2 ^ m - 1) ∧ (szT d l).2 ≤ 7000 * 2 ^ m + 7000 * (2 ^ m - 1)
  | 0, d, h, l => by
    unfold szT
    by_cases hl : l = []
    · subst hl; rw [if_neg (by simp), szL]; simp
    · rw [if_pos ⟨hl, by omega⟩]; simp
  | m + 1, d, h, l => by
    have ih := szT_le m (d + 1) (by omega)
    have hp : 1 ≤ 2 ^ m := Nat.one_le_two_pow
    have e : 2 ^ (m + 1) = 2 * 2 ^ m := by rw [Nat.pow_succ]; omega
    rw [e]
    generalize 2 ^ m = p at *
    unfold szT
    split
    · simp only; omega
    · have hS : ∀ s, (szS d s).1 ≤ 2 * (7000 * p + 7000 * (p - 1)) + 6001 ∧ (szS d s).2 ≤ 2 * (7000 * p + 7000 * (p - 1)) + 6001 := fun s => by
        rw [szS_eq]
        have h1 := ih s.thn
        have h2 := ih s.els
        have h3 := czF_le s.cond
        simp only; omega
      have := szL_le d _ hS l (0, 0) (by simp only; omega) (by simp only; omega)
      omega
theorem szT_top (d : Nat) (l : List Sp) : (szT d l).1 ≤ 2000000000 ∧ (szT d l).2 ≤ 2000000000 := by
  have := szT_le 17 d (by omega) l
  have e : 2 ^ 17 = 131072 := by decide
  rw [e] at this
  omega
theorem szL_drop {d : Nat} {l : List Sp} {i : Nat} (h : i < l.length) {a : Nat × Nat} (ha : a.1 ≤ 64 ∧ a.2 ≤ 256) : szL d (l.drop i) a = szL d (l.drop (i + 1)) (a.1 + (szS d l[i]).1, a.2 + (szS d l[i]).2) := by
  rw [List.drop_eq_getElem_cons h, szL, if_pos ha]
theorem size_s : ∀ (m : Nat) (l : List Sp), SizeOf.sizeOf l ≤ m → LSs l → ∀ (d : Nat), d ≤ 17 → ∀ (L : List Blk) (k : V → List Blk → Prop), k (.tup [I (szT d l).1, I (szT d l).2]) L → CallP C 35 [.d (sps l), I d] L k
  | 0, l, h, _ => absurd h (by cases l <;> simp)
  | m + 1, l, hsz, hl => by
    intro d hd L k h
    have ih := size_s m
    have hlen := hl.len
    by_cases h0 : l ≠ [] ∧ 16 < d
    · have hp : (0 : Int) < ((l.map Sp.cells).length : Int) := by rw [List.length_map]; have := List.length_pos_iff.2 h0.1; omega
      have hd16 : (16 : Int) < (d : Int) := by omega
      have e : szT d l = (1000, 1000) := by unfold szT; rw [if_pos h0]
      rw [e] at h
      refine CallP.pure ?_ rfl (fun _ => rfl) h
      clear h
      refine callP_of C_ok Tryd.func35 rfl rfl (n := _) rfl (Nat.le_of_ble_eq_true rfl) (rs := _) rfl ?_
      repeat' (conv => whnf
               first | refine Br.yes (decide_eq_true hp) ?_ | refine Br.yes (decide_eq_true hd16) ?_ | refine Br.tt ?_ | refine Br.ff ?_ | refine Br.dec (fun h => ?_) (fun h => ?_) | refine Br.not ?_ | refine Br.intro (fun h => ?_) (fun h => ?_) | refine GetE.intro _ rfl ?_ | refine Need.intro rfl ?_ | refine DrawP.go mixed rfl ?_)
      conv => whnf
      exact FinP.drop (n := 0) rfl (Nat.le_refl 0) rfl rfl ⟨rfl, rfl⟩
    have e : szT d l = szL d l (0, 0) := by unfold szT; rw [if_neg h0]
    refine CallP.pure ?_ rfl (fun _ => rfl) h
    clear h
    refine callP_of C_ok Tryd.func35 rfl rfl (n := _) rfl (Nat.le_of_ble_eq_true rfl) (rs := _) rfl ?_
    obtain ⟨t, ht0⟩ : ∃ t, t = szT d l := ⟨_, rfl⟩
    rw [← ht0]
    by_cases hl0 : l = []
    · subst hl0
      rw [e, szL] at ht0
      subst ht0
      repeat' (conv => whnf
               first | refine Br.tt ?_ | refine Br.ff ?_ | refine Br.dec (fun h => ?_) (fun h => ?_) | refine Br.not ?_ | refine Br.intro (fun h => ?_) (fun h => ?_) | refine GetE.intro _ rfl ?_ | refine Need.intro rfl ?_ | refine DrawP.go mixed rfl ?_)
      conv => whnf
      refine LoopP.inv (fun _ : Unit => True) (fun _ => ⟨[(0, .d (sps [])), (1, I d), (6, I 0), (7, I 0), (8, I 0)], Tryd.f35.ntmps, [], [], none⟩) (fun _ => 0) () trivial ?_ ?_
      · exact Weak.by ⟨rfl, rfl, rfl, rfl, rfl, trivial⟩
      rintro - -
      repeat' (conv => whnf
               first | refine Br.tt ?_ | refine Br.ff ?_ | refine Br.dec (fun h => ?_) (fun h => ?_) | refine Br.not ?_ | refine Br.intro (fun h => ?_) (fun h => ?_) | refine GetE.intro _ rfl ?_ | refine Need.intro rfl ?_ | refine DrawP.go mixed rfl ?_)
      conv => whnf
      exact FinP.drop (n := 0) rfl (Nat.le_refl 0) rfl rfl ⟨rfl, rfl⟩
    have hd16 : ¬ (16 : Int) < (d : Int) := by
      have : ¬ 16 < d := fun h => h0 ⟨hl0, h⟩
      omega
    have hp : (0 : Int) < ((l.map Sp.cells).length : Int) := by rw [List.length_map]; have := List.length_pos_iff.2 hl0; omega
    repeat' (conv => whnf
             first | refine Br.yes (decide_eq_true hp) ?_ | refine Br.no (decide_eq_false hd16) ?_ | refine Br.tt ?_ | refine Br.ff ?_ | refine Br.dec (fun h => ?_) (fun h => ?_) | refine Br.not ?_ | refine Br.intro (fun h => ?_) (fun h => ?_) | refine GetE.intro _ rfl ?_ | refine Need.intro rfl ?_ | refine DrawP.go mixed rfl ?_)
    conv => whnf
    refine LoopP.inv (α := Nat × Nat × Nat) (fun s => s.1 ≤ l.length ∧ s.2.1 ≤ 8000000000 ∧ s.2.2 ≤ 8000000000 ∧ szL d (l.drop s.1) s.2 = t) (fun s => ⟨[(0, .d (sps l)), (1, I d), (6, I s.2.1), (7, I s.2.2), (8, I s.1)], Tryd.f35.ntmps, [], [], none⟩) (fun s => l.length - s.1) (0, 0, 0) ⟨Nat.zero_le _, by simp, by simp, by rw [List.drop_zero, ht0, e]⟩ ?_ ?_
    · exact Weak.by ⟨rfl, rfl, rfl, rfl, rfl, trivial⟩
    rintro ⟨i, a, b⟩ ⟨hi, ha, hb, heq⟩
    simp only at hi ha hb heq ⊢
    by_cases h2 : (i : Int) < ((l.map Sp.cells).length : Int)
    rotate_left
    · have h2' : l.length ≤ i := by rw [List.length_map] at h2; omega
      rw [List.drop_eq_nil_of_le h2', szL] at heq
      subst heq
      repeat' (conv => whnf
               first | refine Br.no (decide_eq_false h2) ?_ | refine Br.tt ?_ | refine Br.ff ?_ | refine Br.dec (fun h => ?_) (fun h => ?_) | refine Br.not ?_ | refine Br.intro (fun h => ?_) (fun h => ?_) | refine GetE.intro _ rfl ?_ | refine Need.intro rfl ?_ | refine DrawP.go mixed rfl ?_)
      conv => whnf
      exact FinP.drop (n := 0) rfl (Nat.le_refl 0) rfl rfl ⟨rfl, rfl⟩
    have hi' : i < l.length := by rw [List.length_map] at h2; omega
    by_cases h3 : (a : Int) ≤ 64
    rotate_left
    · rw [szL_big _ (by simp only; omega)] at heq
      subst heq
      repeat' (conv => whnf
               first | refine Br.yes (decide_eq_true h2) ?_ | refine Br.no (decide_eq_false h3) ?_ | refine Br.tt ?_ | refine Br.ff ?_ | refine Br.dec (fun h => ?_) (fun h => ?_) | refine Br.not ?_ | refine Br.intro (fun h => ?_) (fun h => ?_) | refine GetE.intro _ rfl ?_ | refine Need.intro rfl ?_ | refine DrawP.go mixed rfl ?_)
      conv => whnf
      exact FinP.drop (n := 0) rfl (Nat.le_refl 0) rfl rfl ⟨rfl, rfl⟩
    by_cases h4 : (b : Int) ≤ 256
    rotate_left
    · rw [szL_big _ (by simp only; omega)] at heq
      subst heq
      repeat' (conv => whnf
               first | refine Br.yes (decide_eq_true h2) ?_ | refine Br.yes (decide_eq_true h3) ?_ | refine Br.no (decide_eq_false h4) ?_ | refine Br.tt ?_ | refine Br.ff ?_ | refine Br.dec (fun h => ?_) (fun h => ?_) | refine Br.not ?_ | refine Br.intro (fun h => ?_) (fun h => ?_) | refine GetE.intro _ rfl ?_ | refine Need.intro rfl ?_ | refine DrawP.go mixed rfl ?_)
      conv => whnf
      exact FinP.drop (n := 0) rfl (Nat.le_refl 0) rfl rfl ⟨rfl, rfl⟩
    rw [szL_drop hi' ⟨by simp only; omega, by simp only; omega⟩] at heq
    have hm : l[i] ∈ l := List.getElem_mem hi'
    have hs := hl.all _ hm
    have hz : SizeOf.sizeOf l[i] < SizeOf.sizeOf l := List.sizeOf_lt_of_mem hm
    obtain ⟨s, hs0⟩ : ∃ s, s = l[i] := ⟨_, rfl⟩
    rw [← hs0] at hs hz heq
    have r1 : (l.map Sp.cells)[i]? = some [DI s.kind, DI s.by_, DI s.cond.kind, DI s.cond.var, DI s.cond.n, cos s.cond.parts, sps s.thn, sps s.els] := by rw [List.getElem?_map, List.getElem?_eq_getElem hi', ← hs0, ← Sp.cells_eq]; rfl
    have z1 : SizeOf.sizeOf s.thn < SizeOf.sizeOf s := by cases s; simp only [Sp.mk.sizeOf_spec, Sp.thn]; omega
    have z2 : SizeOf.sizeOf s.els < SizeOf.sizeOf s := by cases s; simp only [Sp.mk.sizeOf_spec, Sp.els]; omega
    have i1 := ih s.thn (by omega) ⟨hs.len1, hs.thn⟩ (d + 1) (by omega)
    have i2 := ih s.els (by omega) ⟨hs.len2, hs.els⟩ (d + 1) (by omega)
    have hwd : IntKind.i64.wrap ((d : Int) + 1) = ((d + 1 : Nat) : Int) := by rw [wrap_in (by omega)]; omega
    have hw2 : IntKind.i64.wrap ((i : Int) + 1) = ((i + 1 : Nat) : Int) := by rw [wrap_in (by omega)]; omega
    have b1 := szT_top (d + 1) s.thn
    have b2 := szT_top (d + 1) s.els
    have b3 := czF_le s.cond
    rw [← hwd] at i1 i2
    rw [szS_eq] at heq
    generalize szT (d + 1) s.thn = u at i1 heq b1
    generalize szT (d + 1) s.els = v at i2 heq b2
    have hzr : ∀ {L : List Blk} {k : V → List Blk → Prop}, k (B (isZ s.cond)) L → CallP C 53 [.agg [I s.cond.kind, I s.cond.var, I s.cond.n, .d (cos s.cond.parts)]] L k := fun h => by
      have := zero_c s.cond h
      rw [Co.cells_eq] at this; exact this
    have hcn : ∀ {L : List Blk} {k : V → List Blk → Prop}, k (I (cnF 0 s.cond)) L → CallP C 36 [.agg [I s.cond.kind, I s.cond.var, I s.cond.n, .d (cos s.cond.parts)], I 0] L k := fun h => by
      have := conditions_c s.cond hs.cond h
      rw [Co.cells_eq] at this; exact this
    have e1 : IntKind.i64.wrap (IntKind.i64.wrap (IntKind.i64.wrap ((a : Int) + 1) + (u.1 : Int)) + (v.1 : Int)) = ((a + (1 + u.1 + v.1) : Nat) : Int) := by
      rw [wrap_in (n := (a : Int) + 1) (by omega), wrap_in (n := (a : Int) + 1 + (u.1 : Int)) (by omega), wrap_in (by omega)]; omega
    have e2 : IntKind.i64.wrap (IntKind.i64.wrap ((b : Int) + (u.2 : Int)) + (v.2 : Int)) = ((b + (u.2 + v.2) : Nat) : Int) := by
      rw [wrap_in (n := (b : Int) + (u.2 : Int)) (by omega), wrap_in (by omega)]; omega
    by_cases hzc : isZ s.cond = true
    · have hc0 : czF s.cond = 0 := by unfold czF; rw [if_pos hzc]
      repeat' (conv => whnf
               first | refine Br.yes (decide_eq_true h2) ?_ | refine Br.yes (decide_eq_true h3) ?_ | refine Br.yes (decide_eq_true h4) ?_ | refine Br.yes hzc ?_ | refine Br.tt ?_ | refine Br.ff ?_ | refine Br.dec (fun h => ?_) (fun h => ?_) | refine Br.not ?_ | refine Br.intro (fun h => ?_) (fun h => ?_) | refine GetE.intro _ rfl ?_ | refine Need.intro rfl ?_ | refine DrawP.go mixed rfl ?_ | refine Idx.intro i _ rfl r1 ?_ | refine i1 _ _ ?_ | refine i2 _ _ ?_ | refine hzr ?_)
      conv => whnf
      exact ⟨(i + 1, a + (1 + u.1 + v.1), b + (u.2 + v.2 + czF s.cond)), ⟨hi', by simp only; omega, by simp only; omega, heq⟩, by simp only; omega, Weak.by ⟨rfl, rfl, congrArg I e1, Eq.trans (congrArg I e2) (by rw [hc0]; rfl), congrArg I hw2, trivial⟩⟩
    · have hc0 : czF s.cond = cnF 0 s.cond := by unfold czF; rw [if_neg hzc]
      have hzc' : isZ s.cond = false := by simpa using hzc
      rw [hc0] at b3 heq
      generalize cnF 0 s.cond = cn at *
      have e3 : IntKind.i64.wrap (IntKind.i64.wrap (IntKind.i64.wrap ((b : Int) + (u.2 : Int)) + (v.2 : Int)) + (cn : Int)) = ((b + (u.2 + v.2 + cn) : Nat) : Int) := by
        rw [e2, wrap_in (by omega)]; omega
      repeat' (conv => whnf
               first | refine Br.yes (decide_eq_true h2) ?_ | refine Br.yes (decide_eq_true h3) ?_ | refine Br.yes (decide_eq_true h4) ?_ | refine Br.no hzc' ?_ | refine Br.tt ?_ | refine Br.ff ?_ | refine Br.dec (fun h => ?_) (fun h => ?_) | refine Br.not ?_ | refine Br.intro (fun h => ?_) (fun h => ?_) | refine GetE.intro _ rfl ?_ | refine Need.intro rfl ?_ | refine DrawP.go mixed rfl ?_ | refine Idx.intro i _ rfl r1 ?_ | refine i1 _ _ ?_ | refine i2 _ _ ?_ | refine hzr ?_ | refine hcn ?_)
      conv => whnf
      exact ⟨(i + 1, a + (1 + u.1 + v.1), b + (u.2 + v.2 + cn)), ⟨hi', by simp only; omega, by simp only; omega, heq⟩, by simp only; omega, Weak.by ⟨rfl, rfl, congrArg I e1, congrArg I e3, congrArg I hw2, trivial⟩⟩
theorem rsize_c (l : List Sp) (hl : LSs l) (h : k (.tup [I (szT 0 l).1, I (szT 0 l).2]) L) : CallP C 35 [.d (sps l), I 0] L k := size_s _ l (Nat.le_refl _) hl 0 (by decide) L k h
def fewB (l : List Sp) : Bool := decide (l.length ≤ 20 ∧ (szT 0 l).1 ≤ 80 ∧ (szT 0 l).2 ≤ 300)
theorem few_c (l : List Sp) (hl : LSs l) (h : k (B (fewB l)) L) : CallP C 11 [.d (sps l)] L k := by
  have hs : ∀ {L : List Blk} {k : V → List Blk → Prop}, k (.tup [I (szT 0 l).1, I (szT 0 l).2]) L → CallP C 35 [.d (sps l), I 0] L k := fun h => rsize_c l hl h
  unfold fewB at h
  generalize szT 0 l = t at *
  refine CallP.pure ?_ rfl (fun _ => rfl) h
  clear h
  refine callP_of C_ok Tryd.func11 rfl rfl (n := _) rfl (Nat.le_of_ble_eq_true rfl) (rs := _) rfl ?_
  by_cases h1 : ((l.map Sp.cells).length : Int) ≤ 20
  rotate_left
  · repeat' (conv => whnf
             first | refine Br.no (decide_eq_false h1) ?_ | refine Br.tt ?_ | refine Br.ff ?_ | refine Br.dec (fun h => ?_) (fun h => ?_) | refine Br.not ?_ | refine Br.intro (fun h => ?_) (fun h => ?_) | refine GetE.intro _ rfl ?_ | refine Need.intro rfl ?_ | refine DrawP.go mixed rfl ?_ | refine hs ?_)
    conv => whnf
    exact FinP.drop (n := 0) rfl (Nat.le_refl 0) rfl rfl ⟨rfl, congrArg B (decide_eq_false (by rw [List.length_map] at h1; omega)).symm⟩
  by_cases h2 : (t.1 : Int) ≤ 80
  rotate_left
  · repeat' (conv => whnf
             first | refine Br.yes (decide_eq_true h1) ?_ | refine Br.no (decide_eq_false h2) ?_ | refine Br.tt ?_ | refine Br.ff ?_ | refine Br.dec (fun h => ?_) (fun h => ?_) | refine Br.not ?_ | refine Br.intro (fun h => ?_) (fun h => ?_) | refine GetE.intro _ rfl ?_ | refine Need.intro rfl ?_ | refine DrawP.go mixed rfl ?_ | refine hs ?_)
    conv => whnf
    exact FinP.drop (n := 0) rfl (Nat.le_refl 0) rfl rfl ⟨rfl, congrArg B (decide_eq_false (by omega)).symm⟩
  by_cases h3 : (t.2 : Int) ≤ 300
  rotate_left
  · repeat' (conv => whnf
             first | refine Br.yes (decide_eq_true h1) ?_ | refine Br.yes (decide_eq_true h2) ?_ | refine Br.no (decide_eq_false h3) ?_ | refine Br.tt ?_ | refine Br.ff ?_ | refine Br.dec (fun h => ?_) (fun h => ?_) | refine Br.not ?_ | refine Br.intro (fun h => ?_) (fun h => ?_) | refine GetE.intro _ rfl ?_ | refine Need.intro rfl ?_ | refine DrawP.go mixed rfl ?_ | refine hs ?_)
    conv => whnf
    exact FinP.drop (n := 0) rfl (Nat.le_refl 0) rfl rfl ⟨rfl, (congrArg B (decide_eq_false h3)).trans (congrArg B (decide_eq_false (by omega)).symm)⟩
  · repeat' (conv => whnf
             first | refine Br.yes (decide_eq_true h1) ?_ | refine Br.yes (decide_eq_true h2) ?_ | refine Br.yes (decide_eq_true h3) ?_ | refine Br.tt ?_ | refine Br.ff ?_ | refine Br.dec (fun h => ?_) (fun h => ?_) | refine Br.not ?_ | refine Br.intro (fun h => ?_) (fun h => ?_) | refine GetE.intro _ rfl ?_ | refine Need.intro rfl ?_ | refine DrawP.go mixed rfl ?_ | refine hs ?_)
    conv => whnf
    exact FinP.drop (n := 0) rfl (Nat.le_refl 0) rfl rfl ⟨rfl, (congrArg B (decide_eq_true h3)).trans (congrArg B (decide_eq_true (by rw [List.length_map] at h1; omega)).symm)⟩
def fewC (c : Co) : Bool := decide ((cnF 0 c : Int) ≤ 300)
theorem fewc_c (c : Co) (hc : LCo c) (h : k (B (fewC c)) L) : CallP C 12 [.agg (c.cells.map .d)] L k := by
  have hcn : ∀ {L : List Blk} {k : V → List Blk → Prop}, k (I (cnF 0 c)) L → CallP C 36 [.agg (c.cells.map .d), I 0] L k := fun h => conditions_c c hc h
  unfold fewC at h
  rw [Co.cells_eq] at hcn ⊢
  refine CallP.pure ?_ rfl (fun _ => rfl) h
  clear h
  refine callP_of C_ok Tryd.func12 rfl rfl (n := _) rfl (Nat.le_of_ble_eq_true rfl) (rs := _) rfl ?_
  repeat' (conv => whnf
           first | refine Br.tt ?_ | refine Br.ff ?_ | refine Br.dec (fun h => ?_) (fun h => ?_) | refine Br.not ?_ | refine Br.intro (fun h => ?_) (fun h => ?_) | refine GetE.intro _ rfl ?_ | refine Need.intro rfl ?_ | refine DrawP.go mixed rfl ?_ | refine hcn ?_)
  conv => whnf
  exact FinP.drop (n := 0) rfl (Nat.le_refl 0) rfl rfl ⟨rfl, rfl⟩
end Go.Proofs.YtddolfgmkpfmcaaDoor
