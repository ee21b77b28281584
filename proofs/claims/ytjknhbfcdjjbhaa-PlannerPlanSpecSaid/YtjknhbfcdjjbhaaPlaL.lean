/-
  planner's reference: equality of lists, sizes.
-/
import Derived.Test.YtjknhbfcdjjbhaaPlaF
namespace Go.Proofs.Ytjknhbfcdjjbhaa
open Go.Tidy
set_option maxRecDepth 100000
set_option maxHeartbeats 0
set_option linter.unusedSimpArgs false
set_option linter.unusedVariables false
variable {L : List Blk} {k : V → List Blk → Prop}
theorem rsameM_c (a b : List Mt) (ha : a.length ≤ 4611686018427387904) (h : k (B (decide (a = b))) L) : CallP C 15 [.d (mts a), .d (mts b)] L k := by
  refine CallP.pure ?_ rfl (fun _ => rfl) h
  clear h
  refine callP_of C_ok Try.func15 rfl rfl (n := _) rfl (Nat.le_of_ble_eq_true rfl) (rs := _) rfl ?_
  repeat' (conv => whnf
           first | refine Br.tt ?_ | refine Br.ff ?_ | refine Br.dec (fun h => ?_) (fun h => ?_) | refine Br.not ?_ | refine Br.intro (fun h => ?_) (fun h => ?_) | refine GetE.intro _ rfl ?_ | refine Need.intro rfl ?_ | refine DrawP.go mixed rfl ?_)
  all_goals conv => whnf
  · simp only [List.length_map] at h
    refine LoopP.inv (fun i => i ≤ a.length ∧ ∀ (j : Nat) (hj : j < a.length), j < i → a[j] = b[j]'(by omega)) (fun i => ⟨[(0, .d (mts a)), (1, .d (mts b)), (4, B false), (5, I i)], Try.f15.ntmps, [], [], none⟩) (fun i => a.length - i) 0 ⟨Nat.zero_le _, fun j _ h => absurd h (Nat.not_lt_zero j)⟩ ?_ ?_
    · exact Weak.by ⟨rfl, rfl, rfl, rfl, trivial⟩
    rintro i ⟨hi, hok⟩
    conv => whnf
    refine Br.dec (fun hb => ?_) (fun hb => ?_)
    · have hi' : i < a.length := by simpa using hb
      have hib : i < b.length := by omega
      have hw : IntKind.i64.wrap ((i : Int) + 1) = ((i + 1 : Nat) : Int) := by rw [wrap_in (by omega)]; omega
      have ra : (a.map Mt.cells)[i]? = some a[i].cells := by rw [List.getElem?_map, List.getElem?_eq_getElem hi']; rfl
      have rb : (b.map Mt.cells)[i]? = some b[i].cells := by rw [List.getElem?_map, List.getElem?_eq_getElem hib]; rfl
      repeat' (conv => whnf
               first | refine Idx.intro i _ rfl ra ?_ | refine Idx.intro i _ rfl rb ?_ | refine Br.tt ?_ | refine Br.ff ?_ | refine Br.dec (fun h => ?_) (fun h => ?_) | refine Br.not ?_ | refine Br.intro (fun h => ?_) (fun h => ?_) | refine GetE.intro _ rfl ?_ | refine Need.intro rfl ?_ | refine DrawP.go mixed rfl ?_)
      all_goals conv => whnf
      · have he : a[i] = b[i] := of_decide_eq_true ((mEq _ _).symm.trans h)
        exact ⟨i + 1, ⟨hi', fun j hj hji => by
          by_cases e : j = i
          · subst e; exact he
          · exact hok j hj (by omega)⟩, by omega, Weak.by ⟨rfl, rfl, rfl, congrArg I hw, trivial⟩⟩
      · have he : a[i] ≠ b[i] := of_decide_eq_false ((mEq _ _).symm.trans h)
        exact FinP.drop (n := 0) rfl (Nat.le_refl 0) rfl rfl ⟨rfl, congrArg B (decide_eq_false fun e => by subst e; exact he rfl).symm⟩
    · have hie : i = a.length := by simp at hb; omega
      repeat' (conv => whnf
               first | refine Br.tt ?_ | refine Br.ff ?_ | refine Br.dec (fun h => ?_) (fun h => ?_) | refine Br.not ?_ | refine Br.intro (fun h => ?_) (fun h => ?_) | refine GetE.intro _ rfl ?_ | refine Need.intro rfl ?_ | refine DrawP.go mixed rfl ?_)
      conv => whnf
      exact FinP.drop (n := 0) rfl (Nat.le_refl 0) rfl rfl ⟨rfl, congrArg B (decide_eq_true (List.ext_getElem (by omega) fun j h1 h2 => hok j h1 (by omega))).symm⟩
  · exact FinP.drop (n := 0) rfl (Nat.le_refl 0) rfl rfl ⟨rfl, congrArg B (decide_eq_false fun e => by subst e; exact h rfl).symm⟩
theorem rsame30_c (a b : List Mt) (ha : a.length ≤ 4611686018427387904) (h : k (B (decide (a = b))) L) : CallP C 39 [.d (mts a), .d (mts b)] L k := by
  refine CallP.pure ?_ rfl (fun _ => rfl) h
  clear h
  refine callP_of C_ok Try.func39 rfl rfl (n := _) rfl (Nat.le_of_ble_eq_true rfl) (rs := _) rfl ?_
  repeat' (conv => whnf
           first | refine Br.tt ?_ | refine Br.ff ?_ | refine Br.dec (fun h => ?_) (fun h => ?_) | refine Br.not ?_ | refine Br.intro (fun h => ?_) (fun h => ?_) | refine GetE.intro _ rfl ?_ | refine Need.intro rfl ?_ | refine DrawP.go mixed rfl ?_)
  all_goals conv => whnf
  · simp only [List.length_map] at h
    refine LoopP.inv (fun i => i ≤ a.length ∧ ∀ (j : Nat) (hj : j < a.length), j < i → a[j] = b[j]'(by omega)) (fun i => ⟨[(0, .d (mts a)), (1, .d (mts b)), (4, B false), (5, I i)], Try.f39.ntmps, [], [], none⟩) (fun i => a.length - i) 0 ⟨Nat.zero_le _, fun j _ h => absurd h (Nat.not_lt_zero j)⟩ ?_ ?_
    · exact Weak.by ⟨rfl, rfl, rfl, rfl, trivial⟩
    rintro i ⟨hi, hok⟩
    conv => whnf
    refine Br.dec (fun hb => ?_) (fun hb => ?_)
    · have hi' : i < a.length := by simpa using hb
      have hib : i < b.length := by omega
      have hw : IntKind.i64.wrap ((i : Int) + 1) = ((i + 1 : Nat) : Int) := by rw [wrap_in (by omega)]; omega
      have ra : (a.map Mt.cells)[i]? = some a[i].cells := by rw [List.getElem?_map, List.getElem?_eq_getElem hi']; rfl
      have rb : (b.map Mt.cells)[i]? = some b[i].cells := by rw [List.getElem?_map, List.getElem?_eq_getElem hib]; rfl
      repeat' (conv => whnf
               first | refine Idx.intro i _ rfl ra ?_ | refine Idx.intro i _ rfl rb ?_ | refine Br.tt ?_ | refine Br.ff ?_ | refine Br.dec (fun h => ?_) (fun h => ?_) | refine Br.not ?_ | refine Br.intro (fun h => ?_) (fun h => ?_) | refine GetE.intro _ rfl ?_ | refine Need.intro rfl ?_ | refine DrawP.go mixed rfl ?_)
      all_goals conv => whnf
      · have he : a[i] = b[i] := of_decide_eq_true ((mEq _ _).symm.trans h)
        exact ⟨i + 1, ⟨hi', fun j hj hji => by
          by_cases e : j = i
          · subst e; exact he
          · exact hok j hj (by omega)⟩, by omega, Weak.by ⟨rfl, rfl, rfl, congrArg I hw, trivial⟩⟩
      · have he : a[i] ≠ b[i] := of_decide_eq_false ((mEq _ _).symm.trans h)
        exact FinP.drop (n := 0) rfl (Nat.le_refl 0) rfl rfl ⟨rfl, congrArg B (decide_eq_false fun e => by subst e; exact he rfl).symm⟩
    · have hie : i = a.length := by simp at hb; omega
      repeat' (conv => whnf
               first | refine Br.tt ?_ | refine Br.ff ?_ | refine Br.dec (fun h => ?_) (fun h => ?_) | refine Br.not ?_ | refine Br.intro (fun h => ?_) (fun h => ?_) | refine GetE.intro _ rfl ?_ | refine Need.intro rfl ?_ | refine DrawP.go mixed rfl ?_)
      conv => whnf
      exact FinP.drop (n := 0) rfl (Nat.le_refl 0) rfl rfl ⟨rfl, congrArg B (decide_eq_true (List.ext_getElem (by omega) fun j h1 h2 => hok j h1 (by omega))).symm⟩
  · exact FinP.drop (n := 0) rfl (Nat.le_refl 0) rfl rfl ⟨rfl, congrArg B (decide_eq_false fun e => by subst e; exact h rfl).symm⟩
theorem rsameL_c (a b : Lst) (ha : a.length ≤ 4611686018427387904) (hr : ∀ r ∈ a, r.length ≤ 4611686018427387904) (h : k (B (decide (a = b))) L) : CallP C 20 [lisV a, lisV b] L k := by
  refine CallP.pure ?_ rfl (fun _ => rfl) h
  clear h
  refine callP_of C_ok Try.func20 rfl rfl (n := _) rfl (Nat.le_of_ble_eq_true rfl) (rs := _) rfl ?_
  repeat' (conv => whnf
           first | refine Br.tt ?_ | refine Br.ff ?_ | refine Br.dec (fun h => ?_) (fun h => ?_) | refine Br.not ?_ | refine Br.intro (fun h => ?_) (fun h => ?_) | refine GetE.intro _ rfl ?_ | refine Need.intro rfl ?_ | refine DrawP.go mixed rfl ?_)
  all_goals conv => whnf
  · simp only [List.length_map] at h
    refine LoopP.inv (fun i => i ≤ a.length ∧ ∀ (j : Nat) (hj : j < a.length), j < i → a[j] = b[j]'(by omega)) (fun i => ⟨[(2, .ptr 0 0), (3, .ptr 1 0), (4, B false), (5, I i)], Try.f20.ntmps, [.cells [.d (lisD a)], .cells [.d (lisD b)]], [], none⟩) (fun i => a.length - i) 0 ⟨Nat.zero_le _, fun j _ h => absurd h (Nat.not_lt_zero j)⟩ ?_ ?_
    · exact Weak.by ⟨rfl, rfl, rfl, rfl, trivial⟩
    rintro i ⟨hi, hok⟩
    conv => whnf
    refine Br.dec (fun hb => ?_) (fun hb => ?_)
    · have hi' : i < a.length := by simpa using hb
      have hib : i < b.length := by omega
      have hw : IntKind.i64.wrap ((i : Int) + 1) = ((i + 1 : Nat) : Int) := by rw [wrap_in (by omega)]; omega
      have ra : (a.map fun r => [mts r])[i]? = some [mts a[i]] := by rw [List.getElem?_map, List.getElem?_eq_getElem hi']; rfl
      have rb : (b.map fun r => [mts r])[i]? = some [mts b[i]] := by rw [List.getElem?_map, List.getElem?_eq_getElem hib]; rfl
      repeat' (conv => whnf
               first | refine Idx.intro i _ rfl ra ?_ | refine Idx.intro i _ rfl rb ?_ | refine QCall.intro _ (rsame30_c a[i] b[i] (hr _ (List.getElem_mem hi')) ⟨rfl, rfl⟩) ?_ | refine Br.tt ?_ | refine Br.ff ?_ | refine Br.dec (fun h => ?_) (fun h => ?_) | refine Br.not ?_ | refine Br.intro (fun h => ?_) (fun h => ?_) | refine GetE.intro _ rfl ?_ | refine Need.intro rfl ?_ | refine DrawP.go mixed rfl ?_)
      all_goals conv => whnf
      · have he : a[i] = b[i] := ‹_›
        exact ⟨i + 1, ⟨hi', fun j hj hji => by
          by_cases e : j = i
          · subst e; exact he
          · exact hok j hj (by omega)⟩, by omega, Weak.by ⟨rfl, rfl, rfl, congrArg I hw, trivial⟩⟩
      · have he : a[i] ≠ b[i] := ‹_›
        exact FinP.drop (n := 0) rfl (Nat.le_refl 0) rfl rfl ⟨rfl, congrArg B (decide_eq_false fun e => by subst e; exact he rfl).symm⟩
    · have hie : i = a.length := by simp at hb; omega
      repeat' (conv => whnf
               first | refine Br.tt ?_ | refine Br.ff ?_ | refine Br.dec (fun h => ?_) (fun h => ?_) | refine Br.not ?_ | refine Br.intro (fun h => ?_) (fun h => ?_) | refine GetE.intro _ rfl ?_ | refine Need.intro rfl ?_ | refine DrawP.go mixed rfl ?_)
      conv => whnf
      exact FinP.drop (n := 0) rfl (Nat.le_refl 0) rfl rfl ⟨rfl, congrArg B (decide_eq_true (List.ext_getElem (by omega) fun j h1 h2 => hok j h1 (by omega))).symm⟩
  · exact FinP.drop (n := 0) rfl (Nat.le_refl 0) rfl rfl ⟨rfl, congrArg B (decide_eq_false fun e => by subst e; exact h rfl).symm⟩
def FewP (p : Pl) : Prop := (∀ (i : Nat) (hi : i < p.demands.length), p.demands[i].clubs.length ≤ 30) ∧ p.clubs.length ≤ 5 ∧ p.demands.length ≤ 8
instance (p : Pl) : Decidable (FewP p) := by unfold FewP; infer_instance
theorem rfewP_c (p : Pl) (hD : p.demands.length ≤ 4611686018427387904) (h : k (B (decide (FewP p))) L) : CallP C 11 [plV p] L k := by
  refine CallP.pure ?_ rfl (fun _ => rfl) h
  clear h
  refine callP_of C_ok Try.func11 rfl rfl (n := _) rfl (Nat.le_of_ble_eq_true rfl) (rs := _) rfl ?_
  conv => whnf
  refine LoopP.inv (fun i => i ≤ p.demands.length ∧ ∀ (j : Nat) (hj : j < p.demands.length), j < i → p.demands[j].clubs.length ≤ 30) (fun i => ⟨[(1, .ptr 0 0), (2, B false), (3, I i)], Try.f11.ntmps, [.cells (p.cells.map .d)], [], none⟩) (fun i => p.demands.length - i) 0 ⟨Nat.zero_le _, fun j _ h => absurd h (Nat.not_lt_zero j)⟩ ?_ ?_
  · exact Weak.by ⟨rfl, rfl, rfl, trivial⟩
  rintro i ⟨hi, hok⟩
  conv => whnf
  refine Br.dec (fun hb => ?_) (fun hb => ?_)
  · have hi' : i < p.demands.length := by simpa using hb
    have hw : IntKind.i64.wrap ((i : Int) + 1) = ((i + 1 : Nat) : Int) := by rw [wrap_in (by omega)]; omega
    repeat' (conv => whnf
             first | refine Idx.map i rfl hi' ?_ | refine Br.tt ?_ | refine Br.ff ?_ | refine Br.dec (fun h => ?_) (fun h => ?_) | refine Br.not ?_ | refine Br.intro (fun h => ?_) (fun h => ?_) | refine GetE.intro _ rfl ?_ | refine Need.intro rfl ?_ | refine DrawP.go mixed rfl ?_)
    all_goals conv => whnf
    · exact FinP.drop (n := 0) rfl (Nat.le_refl 0) rfl rfl ⟨rfl, congrArg B (decide_eq_false fun hf => by
        have := hf.1 i hi'
        rw [List.length_map] at h; omega).symm⟩
    · refine ⟨i + 1, ⟨hi', fun j hj hji => ?_⟩, by omega, Weak.by ⟨rfl, rfl, congrArg I hw, trivial⟩⟩
      by_cases e : j = i
      · subst e; rw [List.length_map] at h; omega
      · exact hok j hj (by omega)
  · have hie : i = p.demands.length := by simp at hb; omega
    subst hie
    repeat' (conv => whnf
             first | refine Br.tt ?_ | refine Br.ff ?_ | refine Br.dec (fun h => ?_) (fun h => ?_) | refine Br.not ?_ | refine Br.intro (fun h => ?_) (fun h => ?_) | refine GetE.intro _ rfl ?_ | refine Need.intro rfl ?_ | refine DrawP.go mixed rfl ?_)
    all_goals conv => whnf
    all_goals refine FinP.drop (n := 0) rfl (Nat.le_refl 0) rfl rfl ⟨rfl, congrArg B ?_⟩
    · unfold FewP
      simp only [List.length_map] at h ⊢
      exact decide_eq_decide.2 ⟨fun h2 => ⟨fun i hi => hok i hi hi, by omega, by omega⟩, fun h2 => by have := h2.2; omega⟩
    · simp only [List.length_map] at h
      exact (decide_eq_false fun hf => by have := hf.2.1; omega).symm
def FewL (l : Lst) : Prop := (l.map List.length).sum ≤ 30 ∧ l.length ≤ 14
instance (l : Lst) : Decidable (FewL l) := by unfold FewL; infer_instance
theorem rfewL_c (l : Lst) (hl : l.length ≤ 140737488355328) (hr : ∀ r ∈ l, r.length ≤ 140737488355328) (h : k (B (decide (FewL l))) L) : CallP C 12 [lisV l] L k := by
  refine CallP.pure ?_ rfl (fun _ => rfl) h
  clear h
  refine callP_of C_ok Try.func12 rfl rfl (n := _) rfl (Nat.le_of_ble_eq_true rfl) (rs := _) rfl ?_
  conv => whnf
  refine LoopP.inv (fun s : Nat × Int => s.1 ≤ l.length ∧ (s.1 ≤ 14 → s.2 = (((l.take s.1).map List.length).sum : Nat) ∧ s.2 ≤ (s.1 : Int) * 140737488355328)) (fun s => ⟨[(1, .ptr 0 0), (2, B false), (3, I s.2), (4, I s.1)], Try.f12.ntmps, [.cells [.d (lisD l)]], [], none⟩) (fun s => l.length - s.1) (0, 0) ⟨Nat.zero_le _, fun _ => ⟨rfl, by simp⟩⟩ ?_ ?_
  · exact Weak.by ⟨rfl, rfl, rfl, rfl, trivial⟩
  rintro ⟨i, x⟩ ⟨hi, hx⟩
  simp only at hi hx
  conv => whnf
  refine Br.dec (fun hb => ?_) (fun hb => ?_)
  · have hi' : i < l.length := by simpa using hb
    have hw : IntKind.i64.wrap ((i : Int) + 1) = ((i + 1 : Nat) : Int) := by rw [wrap_in (by omega)]; omega
    have hri := hr _ (List.getElem_mem hi')
    repeat' (conv => whnf
             first | refine Idx.map i rfl hi' ?_ | refine Br.tt ?_ | refine Br.ff ?_ | refine Br.dec (fun h => ?_) (fun h => ?_) | refine Br.not ?_ | refine Br.intro (fun h => ?_) (fun h => ?_) | refine GetE.intro _ rfl ?_ | refine Need.intro rfl ?_ | refine DrawP.go mixed rfl ?_)
    conv => whnf
    refine ⟨(i + 1, IntKind.i64.wrap (x + ((l[i].map Mt.cells).length : Int))), ⟨hi', fun h14 => ?_⟩, by simp only []; omega, Weak.by ⟨rfl, rfl, rfl, congrArg I hw, trivial⟩⟩
    obtain ⟨h1, h2⟩ := hx (by simp only at h14; omega)
    have hs := take_next hi'
    simp only at h14 ⊢
    rw [List.length_map, wrap_in (by omega), hs, List.map_append, List.sum_append]
    simp only [List.map_cons, List.map_nil, List.sum_cons, List.sum_nil]
    omega
  · have hie : i = l.length := by simp at hb; omega
    subst hie
    rw [List.take_length] at hx
    repeat' (conv => whnf
             first | refine Br.tt ?_ | refine Br.ff ?_ | refine Br.dec (fun h => ?_) (fun h => ?_) | refine Br.not ?_ | refine Br.intro (fun h => ?_) (fun h => ?_) | refine GetE.intro _ rfl ?_ | refine Need.intro rfl ?_ | refine DrawP.go mixed rfl ?_)
    all_goals conv => whnf
    all_goals refine FinP.drop (n := 0) rfl (Nat.le_refl 0) rfl rfl ⟨rfl, congrArg B ?_⟩
    · unfold FewL
      simp only [List.length_map] at h ⊢
      refine decide_eq_decide.2 ⟨fun h2 => ?_, fun h2 => by have := h2.2; omega⟩
      have := hx (by omega); omega
    · simp only [List.length_map] at h
      refine (decide_eq_false fun hf => ?_).symm
      have := hx hf.2
      have := hf.1
      omega
end Go.Proofs.Ytjknhbfcdjjbhaa
