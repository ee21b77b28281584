/-
  planner: equality and sizes; the code's choices, Plan and Count are the reference's; the examples of the chapter; a search as a list of what happens in it; what the lists that are found are like.
-/
import Derived.Test.YtjknhbfcdjjbhaaPlaF
import Derived.Test.YtjknhbfcdjjbhaaPlaK
import Derived.Test.YtjknhbfcdjjbhaaDemS
import Derived.Test.YtjknhbfcdjjbhaaDemY
import Derived.Test.YtjknhbfcdjjbhaaFixG
namespace Go.Proofs.Ytjknhbfcdjjbhaa
open Go.Tidy
set_option maxRecDepth 100000
set_option maxHeartbeats 0
set_option linter.unusedSimpArgs false
set_option linter.unusedVariables false
variable {L : List Blk} {k : V → List Blk → Prop}
theorem rsameM_c (a b : List Mt) (ha : a.length ≤ 4611686018427387904) (h : k (B (decide (a = b))) L) : CallP C 15 [.d (mts a), .d (mts b)] L k := by
  refine CallP.pure ?_ rfl (fun _ => rfl) h
  clear h
  refine callP_of C_ok Try.func15 rfl rfl (n := _) rfl (Nat.le_of_ble_eq_true rfl) (rs := _) rfl ?_
  repeat' (conv => whnf
           first | refine Br.tt ?_ | refine Br.ff ?_ | refine Br.dec (fun h => ?_) (fun h => ?_) | refine Br.not ?_ | refine Br.intro (fun h => ?_) (fun h => ?_) | refine GetE.intro _ rfl ?_ | refine Need.intro rfl ?_ | refine DrawP.go mixed rfl ?_)
  all_goals conv => whnf
  · simp only [List.length_map] at h
    refine LoopP.inv (fun i => i ≤ a.length ∧ ∀ (j : Nat) (hj : j < a.length), j < i → a[j] = b[j]'(by omega)) (fun i => ⟨[(0, .d (mts a)), (1, .d (mts b)), (4, B false), (5, I i)], Try.f15.ntmps, [], [], none⟩) (fun i => a.length - i) 0 ⟨Nat.zero_le _, fun j _ h => absurd h (Nat.not_lt_zero j)⟩ ?_ ?_
    · exact Weak.by ⟨rfl, rfl, rfl, rfl, trivial⟩
    rintro i ⟨hi, hok⟩
    conv => whnf
    refine Br.dec (fun hb => ?_) (fun hb => ?_)
    · have hi' : i < a.length := by simpa using hb
      have hib : i < b.length := by omega
      have hw : IntKind.i64.wrap ((i : Int) + 1) = ((i + 1 : Nat) : Int) := by rw [wrap_in (by omega)]; omega
      have ra : (a.map Mt.cells)[i]? = some a[i].cells := by rw [List.getElem?_map, List.getElem?_eq_getElem hi']; rfl
      have rb : (b.map Mt.cells)[i]? = some b[i].cells := by rw [List.getElem?_map, List.getElem?_eq_getElem hib]; rfl
      repeat' (conv => whnf
               first | refine Idx.intro i _ rfl ra ?_ | refine Idx.intro i _ rfl rb ?_ | refine Br.tt ?_ | refine Br.ff ?_ | refine Br.dec (fun h => ?_) (fun h => ?_) | refine Br.not ?_ | refine Br.intro (fun h => ?_) (fun h => ?_) | refine GetE.intro _ rfl ?_ | refine Need.intro rfl ?_ | refine DrawP.go mixed rfl ?_)
      all_goals conv => whnf
      · have he : a[i] = b[i] := of_decide_eq_true ((mEq _ _).symm.trans h)
        exact ⟨i + 1, ⟨hi', fun j hj hji => by
          by_cases e : j = i
          · subst e; exact he
          · exact hok j hj (by omega)⟩, by omega, Weak.by ⟨rfl, rfl, rfl, congrArg I hw, trivial⟩⟩
      · have he : a[i] ≠ b[i] := of_decide_eq_false ((mEq _ _).symm.trans h)
        exact FinP.drop (n := 0) rfl (Nat.le_refl 0) rfl rfl ⟨rfl, congrArg B (decide_eq_false fun e => by subst e; exact he rfl).symm⟩
    · have hie : i = a.length := by simp at hb; omega
      repeat' (conv => whnf
               first | refine Br.tt ?_ | refine Br.ff ?_ | refine Br.dec (fun h => ?_) (fun h => ?_) | refine Br.not ?_ | refine Br.intro (fun h => ?_) (fun h => ?_) | refine GetE.intro _ rfl ?_ | refine Need.intro rfl ?_ | refine DrawP.go mixed rfl ?_)
      conv => whnf
      exact FinP.drop (n := 0) rfl (Nat.le_refl 0) rfl rfl ⟨rfl, congrArg B (decide_eq_true (List.ext_getElem (by omega) fun j h1 h2 => hok j h1 (by omega))).symm⟩
  · exact FinP.drop (n := 0) rfl (Nat.le_refl 0) rfl rfl ⟨rfl, congrArg B (decide_eq_false fun e => by subst e; exact h rfl).symm⟩
theorem rsame30_c (a b : List Mt) (ha : a.length ≤ 4611686018427387904) (h : k (B (decide (a = b))) L) : CallP C 39 [.d (mts a), .d (mts b)] L k := by
  refine CallP.pure ?_ rfl (fun _ => rfl) h
  clear h
  refine callP_of C_ok Try.func39 rfl rfl (n := _) rfl (Nat.le_of_ble_eq_true rfl) (rs := _) rfl ?_
  repeat' (conv => whnf
           first | refine Br.tt ?_ | refine Br.ff ?_ | refine Br.dec (fun h => ?_) (fun h => ?_) | refine Br.not ?_ | refine Br.intro (fun h => ?_) (fun h => ?_) | refine GetE.intro _ rfl ?_ | refine Need.intro rfl ?_ | refine DrawP.go mixed rfl ?_)
  all_goals conv => whnf
  · simp only [List.length_map] at h
    refine LoopP.inv (fun i => i ≤ a.length ∧ ∀ (j : Nat) (hj : j < a.length), j < i → a[j] = b[j]'(by omega)) (fun i => ⟨[(0, .d (mts a)), (1, .d (mts b)), (4, B false), (5, I i)], Try.f39.ntmps, [], [], none⟩) (fun i => a.length - i) 0 ⟨Nat.zero_le _, fun j _ h => absurd h (Nat.not_lt_zero j)⟩ ?_ ?_
    · exact Weak.by ⟨rfl, rfl, rfl, rfl, trivial⟩
    rintro i ⟨hi, hok⟩
    conv => whnf
    refine Br.dec (fun hb => ?_) (fun hb => ?_)
    · have hi' : i < a.length := by simpa using hb
      have hib : i < b.length := by omega
      have hw : IntKind.i64.wrap ((i : Int) + 1) = ((i + 1 : Nat) : Int) := by rw [wrap_in (by omega)]; omega
      have ra : (a.map Mt.cells)[i]? = some a[i].cells := by rw [List.getElem?_map, List.getElem?_eq_getElem hi']; rfl
      have rb : (b.map Mt.cells)[i]? = some b[i].cells := by rw [List.getElem?_map, List.getElem?_eq_getElem hib]; rfl
      repeat' (conv => whnf
               first | refine Idx.intro i _ rfl ra ?_ | refine Idx.intro i _ rfl rb ?_ | refine Br.tt ?_ | refine Br.ff ?_ | refine Br.dec (fun h => ?_) (fun h => ?_) | refine Br.not ?_ | refine Br.intro (fun h => ?_) (fun h => ?_) | refine GetE.intro _ rfl ?_ | refine Need.intro rfl ?_ | refine DrawP.go mixed rfl ?_)
      all_goals conv => whnf
      · have he : a[i] = b[i] := of_decide_eq_true ((mEq _ _).symm.trans h)
        exact ⟨i + 1, ⟨hi', fun j hj hji => by
          by_cases e : j = i
          · subst e; exact he
          · exact hok j hj (by omega)⟩, by omega, Weak.by ⟨rfl, rfl, rfl, congrArg I hw, trivial⟩⟩
      · have he : a[i] ≠ b[i] := of_decide_eq_false ((mEq _ _).symm.trans h)
        exact FinP.drop (n := 0) rfl (Nat.le_refl 0) rfl rfl ⟨rfl, congrArg B (decide_eq_false fun e => by subst e; exact he rfl).symm⟩
    · have hie : i = a.length := by simp at hb; omega
      repeat' (conv => whnf
               first | refine Br.tt ?_ | refine Br.ff ?_ | refine Br.dec (fun h => ?_) (fun h => ?_) | refine Br.not ?_ | refine Br.intro (fun h => ?_) (fun h => ?_) | refine GetE.intro _ rfl ?_ | refine Need.intro rfl ?_ | refine DrawP.go mixed rfl ?_)
      conv => whnf
      exact FinP.drop (n := 0) rfl (Nat.le_refl 0) rfl rfl ⟨rfl, congrArg B (decide_eq_true (List.ext_getElem (by omega) fun j h1 h2 => hok j h1 (by omega))).symm⟩
  · exact FinP.drop (n := 0) rfl (Nat.le_refl 0) rfl rfl ⟨rfl, congrArg B (decide_eq_false fun e => by subst e; exact h rfl).symm⟩
theorem rsameL_c (a b : Lst) (ha : a.length ≤ 4611686018427387904) (hr : ∀ r ∈ a, r.length ≤ 4611686018427387904) (h : k (B (decide (a = b))) L) : CallP C 20 [lisV a, lisV b] L k := by
  refine CallP.pure ?_ rfl (fun _ => rfl) h
  clear h
  refine callP_of C_ok Try.func20 rfl rfl (n := _) rfl (Nat.le_of_ble_eq_true rfl) (rs := _) rfl ?_
  repeat' (conv => whnf
           first | refine Br.tt ?_ | refine Br.ff ?_ | refine Br.dec (fun h => ?_) (fun h => ?_) | refine Br.not ?_ | refine Br.intro (fun h => ?_) (fun h => ?_) | refine GetE.intro _ rfl ?_ | refine Need.intro rfl ?_ | refine DrawP.go mixed rfl ?_)
  all_goals conv => whnf
  · simp only [List.length_map] at h
    refine LoopP.inv (fun i => i ≤ a.length ∧ ∀ (j : Nat) (hj : j < a.length), j < i → a[j] = b[j]'(by omega)) (fun i => ⟨[(2, .ptr 0 0), (3, .ptr 1 0), (4, B false), (5, I i)], Try.f20.ntmps, [.cells [.d (lisD a)], .cells [.d (lisD b)]], [], none⟩) (fun i => a.length - i) 0 ⟨Nat.zero_le _, fun j _ h => absurd h (Nat.not_lt_zero j)⟩ ?_ ?_
    · exact Weak.by ⟨rfl, rfl, rfl, rfl, trivial⟩
    rintro i ⟨hi, hok⟩
    conv => whnf
    refine Br.dec (fun hb => ?_) (fun hb => ?_)
    · have hi' : i < a.length := by simpa using hb
      have hib : i < b.length := by omega
      have hw : IntKind.i64.wrap ((i : Int) + 1) = ((i + 1 : Nat) : Int) := by rw [wrap_in (by omega)]; omega
      have ra : (a.map fun r => [mts r])[i]? = some [mts a[i]] := by rw [List.getElem?_map, List.getElem?_eq_getElem hi']; rfl
      have rb : (b.map fun r => [mts r])[i]? = some [mts b[i]] := by rw [List.getElem?_map, List.getElem?_eq_getElem hib]; rfl
      repeat' (conv => whnf
               first | refine Idx.intro i _ rfl ra ?_ | refine Idx.intro i _ rfl rb ?_ | refine QCall.intro _ (rsame30_c a[i] b[i] (hr _ (List.getElem_mem hi')) ⟨rfl, rfl⟩) ?_ | refine Br.tt ?_ | refine Br.ff ?_ | refine Br.dec (fun h => ?_) (fun h => ?_) | refine Br.not ?_ | refine Br.intro (fun h => ?_) (fun h => ?_) | refine GetE.intro _ rfl ?_ | refine Need.intro rfl ?_ | refine DrawP.go mixed rfl ?_)
      all_goals conv => whnf
      · have he : a[i] = b[i] := ‹_›
        exact ⟨i + 1, ⟨hi', fun j hj hji => by
          by_cases e : j = i
          · subst e; exact he
          · exact hok j hj (by omega)⟩, by omega, Weak.by ⟨rfl, rfl, rfl, congrArg I hw, trivial⟩⟩
      · have he : a[i] ≠ b[i] := ‹_›
        exact FinP.drop (n := 0) rfl (Nat.le_refl 0) rfl rfl ⟨rfl, congrArg B (decide_eq_false fun e => by subst e; exact he rfl).symm⟩
    · have hie : i = a.length := by simp at hb; omega
      repeat' (conv => whnf
               first | refine Br.tt ?_ | refine Br.ff ?_ | refine Br.dec (fun h => ?_) (fun h => ?_) | refine Br.not ?_ | refine Br.intro (fun h => ?_) (fun h => ?_) | refine GetE.intro _ rfl ?_ | refine Need.intro rfl ?_ | refine DrawP.go mixed rfl ?_)
      conv => whnf
      exact FinP.drop (n := 0) rfl (Nat.le_refl 0) rfl rfl ⟨rfl, congrArg B (decide_eq_true (List.ext_getElem (by omega) fun j h1 h2 => hok j h1 (by omega))).symm⟩
  · exact FinP.drop (n := 0) rfl (Nat.le_refl 0) rfl rfl ⟨rfl, congrArg B (decide_eq_false fun e => by subst e; exact h rfl).symm⟩
def FewP (p : Pl) : Prop := (∀ (i : Nat) (hi : i < p.demands.length), p.demands[i].clubs.length ≤ 30) ∧ p.clubs.length ≤ 5 ∧ p.demands.length ≤ 8
instance (p : Pl) : Decidable (FewP p) := by unfold FewP; infer_instance
theorem rfewP_c (p : Pl) (hD : p.demands.length ≤ 4611686018427387904) (h : k (B (decide (FewP p))) L) : CallP C 11 [plV p] L k := by
  refine CallP.pure ?_ rfl (fun _ => rfl) h
  clear h
  refine callP_of C_ok Try.func11 rfl rfl (n := _) rfl (Nat.le_of_ble_eq_true rfl) (rs := _) rfl ?_
  conv => whnf
  refine LoopP.inv (fun i => i ≤ p.demands.length ∧ ∀ (j : Nat) (hj : j < p.demands.length), j < i → p.demands[j].clubs.length ≤ 30) (fun i => ⟨[(1, .ptr 0 0), (2, B false), (3, I i)], Try.f11.ntmps, [.cells (p.cells.map .d)], [], none⟩) (fun i => p.demands.length - i) 0 ⟨Nat.zero_le _, fun j _ h => absurd h (Nat.not_lt_zero j)⟩ ?_ ?_
  · exact Weak.by ⟨rfl, rfl, rfl, trivial⟩
  rintro i ⟨hi, hok⟩
  conv => whnf
  refine Br.dec (fun hb => ?_) (fun hb => ?_)
  · have hi' : i < p.demands.length := by simpa using hb
    have hw : IntKind.i64.wrap ((i : Int) + 1) = ((i + 1 : Nat) : Int) := by rw [wrap_in (by omega)]; omega
    repeat' (conv => whnf
             first | refine Idx.map i rfl hi' ?_ | refine Br.tt ?_ | refine Br.ff ?_ | refine Br.dec (fun h => ?_) (fun h => ?_) | refine Br.not ?_ | refine Br.intro (fun h => ?_) (fun h => ?_) | refine GetE.intro _ rfl ?_ | refine Need.intro rfl ?_ | refine DrawP.go mixed rfl ?_)
    all_goals conv => whnf
    · exact FinP.drop (n := 0) rfl (Nat.le_refl 0) rfl rfl ⟨rfl, congrArg B (decide_eq_false fun hf => by
        have := hf.1 i hi'
        rw [List.length_map] at h; omega).symm⟩
    · refine ⟨i + 1, ⟨hi', fun j hj hji => ?_⟩, by omega, Weak.by ⟨rfl, rfl, congrArg I hw, trivial⟩⟩
      by_cases e : j = i
      · subst e; rw [List.length_map] at h; omega
      · exact hok j hj (by omega)
  · have hie : i = p.demands.length := by simp at hb; omega
    subst hie
    repeat' (conv => whnf
             first | refine Br.tt ?_ | refine Br.ff ?_ | refine Br.dec (fun h => ?_) (fun h => ?_) | refine Br.not ?_ | refine Br.intro (fun h => ?_) (fun h => ?_) | refine GetE.intro _ rfl ?_ | refine Need.intro rfl ?_ | refine DrawP.go mixed rfl ?_)
    all_goals conv => whnf
    all_goals refine FinP.drop (n := 0) rfl (Nat.le_refl 0) rfl rfl ⟨rfl, congrArg B ?_⟩
    · unfold FewP
      simp only [List.length_map] at h ⊢
      exact decide_eq_decide.2 ⟨fun h2 => ⟨fun i hi => hok i hi hi, by omega, by omega⟩, fun h2 => by have := h2.2; omega⟩
    · simp only [List.length_map] at h
      exact (decide_eq_false fun hf => by have := hf.2.1; omega).symm
def FewL (l : Lst) : Prop := (l.map List.length).sum ≤ 30 ∧ l.length ≤ 14
instance (l : Lst) : Decidable (FewL l) := by unfold FewL; infer_instance
theorem rfewL_c (l : Lst) (hl : l.length ≤ 140737488355328) (hr : ∀ r ∈ l, r.length ≤ 140737488355328) (h : k (B (decide (FewL l))) L) : CallP C 12 [lisV l] L k := by
  refine CallP.pure ?_ rfl (fun _ => rfl) h
  clear h
  refine callP_of C_ok Try.func12 rfl rfl (n := _) rfl (Nat.le_of_ble_eq_true rfl) (rs := _) rfl ?_
  conv => whnf
  refine LoopP.inv (fun s : Nat × Int => s.1 ≤ l.length ∧ (s.1 ≤ 14 → s.2 = (((l.take s.1).map List.length).sum : Nat) ∧ s.2 ≤ (s.1 : Int) * 140737488355328)) (fun s => ⟨[(1, .ptr 0 0), (2, B false), (3, I s.2), (4, I s.1)], Try.f12.ntmps, [.cells [.d (lisD l)]], [], none⟩) (fun s => l.length - s.1) (0, 0) ⟨Nat.zero_le _, fun _ => ⟨rfl, by simp⟩⟩ ?_ ?_
  · exact Weak.by ⟨rfl, rfl, rfl, rfl, trivial⟩
  rintro ⟨i, x⟩ ⟨hi, hx⟩
  simp only at hi hx
  conv => whnf
  refine Br.dec (fun hb => ?_) (fun hb => ?_)
  · have hi' : i < l.length := by simpa using hb
    have hw : IntKind.i64.wrap ((i : Int) + 1) = ((i + 1 : Nat) : Int) := by rw [wrap_in (by omega)]; omega
    have hri := hr _ (List.getElem_mem hi')
    repeat' (conv => whnf
             first | refine Idx.map i rfl hi' ?_ | refine Br.tt ?_ | refine Br.ff ?_ | refine Br.dec (fun h => ?_) (fun h => ?_) | refine Br.not ?_ | refine Br.intro (fun h => ?_) (fun h => ?_) | refine GetE.intro _ rfl ?_ | refine Need.intro rfl ?_ | refine DrawP.go mixed rfl ?_)
    conv => whnf
    refine ⟨(i + 1, IntKind.i64.wrap (x + ((l[i].map Mt.cells).length : Int))), ⟨hi', fun h14 => ?_⟩, by simp only []; omega, Weak.by ⟨rfl, rfl, rfl, congrArg I hw, trivial⟩⟩
    obtain ⟨h1, h2⟩ := hx (by simp only at h14; omega)
    have hs := take_next hi'
    simp only at h14 ⊢
    rw [List.length_map, wrap_in (by omega), hs, List.map_append, List.sum_append]
    simp only [List.map_cons, List.map_nil, List.sum_cons, List.sum_nil]
    omega
  · have hie : i = l.length := by simp at hb; omega
    subst hie
    rw [List.take_length] at hx
    repeat' (conv => whnf
             first | refine Br.tt ?_ | refine Br.ff ?_ | refine Br.dec (fun h => ?_) (fun h => ?_) | refine Br.not ?_ | refine Br.intro (fun h => ?_) (fun h => ?_) | refine GetE.intro _ rfl ?_ | refine Need.intro rfl ?_ | refine DrawP.go mixed rfl ?_)
    all_goals conv => whnf
    all_goals refine FinP.drop (n := 0) rfl (Nat.le_refl 0) rfl rfl ⟨rfl, congrArg B ?_⟩
    · unfold FewL
      simp only [List.length_map] at h ⊢
      refine decide_eq_decide.2 ⟨fun h2 => ?_, fun h2 => by have := h2.2; omega⟩
      have := hx (by omega); omega
    · simp only [List.length_map] at h
      refine (decide_eq_false fun hf => ?_).symm
      have := hx hf.2
      have := hf.1
      omega
end Go.Proofs.Ytjknhbfcdjjbhaa
namespace Go.Proofs.Ytjknhbfcdjjbhaa
open Go.Tidy
set_option linter.unusedSimpArgs false
set_option linter.unusedVariables false
theorem firstM_lt {a b : Int} (h : a < b) : firstM ⟨a, b⟩ = a ∧ firstM ⟨b, a⟩ = a := by unfold firstM; constructor <;> (simp only; split <;> omega)
theorem prIn_mem {c : Int} {m : Mt} : ∀ {os : List Int}, m ∈ prIn c os ↔ ∃ o ∈ os, m = ⟨c, o⟩ ∨ m = ⟨o, c⟩
  | [] => by simp [prIn]
  | o :: os => by
    simp only [prIn, List.mem_cons, prIn_mem (os := os)]
    constructor
    · rintro (h | h | ⟨x, hx, h⟩)
      · exact ⟨o, .inl rfl, .inl h⟩
      · exact ⟨o, .inl rfl, .inr h⟩
      · exact ⟨x, .inr hx, h⟩
    · rintro ⟨x, rfl | hx, h⟩
      · exact h.elim .inl fun h => .inr (.inl h)
      · exact .inr (.inr ⟨x, hx, h⟩)
theorem prs_mem {m : Mt} : ∀ {cs : List Int}, cs.Pairwise (· < ·) → m ∈ prs cs → ∃ a b, a ∈ cs ∧ b ∈ cs ∧ a < b ∧ firstM m = a ∧ (m = ⟨a, b⟩ ∨ m = ⟨b, a⟩)
  | [], _, h => by simp [prs] at h
  | c :: cs, hp, h => by
    obtain ⟨hc, hp⟩ := List.pairwise_cons.1 hp
    rw [prs, List.mem_append] at h
    rcases h with h | h
    · obtain ⟨o, ho, h⟩ := prIn_mem.1 h
      refine ⟨c, o, by simp, by simp [ho], hc o ho, ?_, h⟩
      rcases h with rfl | rfl
      · exact (firstM_lt (hc o ho)).1
      · exact (firstM_lt (hc o ho)).2
    · obtain ⟨a, b, h1, h2, h3⟩ := prs_mem hp h
      exact ⟨a, b, by simp [h1], by simp [h2], h3⟩
theorem mem_prs {a b : Int} : ∀ {cs : List Int}, cs.Pairwise (· < ·) → a ∈ cs → b ∈ cs → a < b → (⟨a, b⟩ : Mt) ∈ prs cs ∧ (⟨b, a⟩ : Mt) ∈ prs cs
  | [], _, h, _, _ => by simp at h
  | c :: cs, hp, ha, hb, hab => by
    obtain ⟨hc, hp⟩ := List.pairwise_cons.1 hp
    rw [prs]
    rcases List.mem_cons.1 ha with rfl | ha'
    · rcases List.mem_cons.1 hb with rfl | hb
      · omega
      · exact ⟨List.mem_append_left _ (prIn_mem.2 ⟨b, hb, .inl rfl⟩), List.mem_append_left _ (prIn_mem.2 ⟨b, hb, .inr rfl⟩)⟩
    · rcases List.mem_cons.1 hb with rfl | hb
      · have := hc a ha'; omega
      · have := mem_prs hp ha' hb hab
        exact ⟨List.mem_append_right _ this.1, List.mem_append_right _ this.2⟩
def cntF (bz : List Int) (x : Int) (cs : List Int) : Nat := cs.countP fun c => decide (c < x) && decide (c ∉ bz)
def Pch (bz : List Int) (tk : List Mt) (least : Int) (cs : List Int) (may : Nat) (m : Mt) : Bool := decide (m.home ∉ bz ∧ m.away ∉ bz ∧ m ∉ tk ∧ least < firstM m ∧ cntF bz (firstM m) cs ≤ may)
theorem chIn_eq (bz : List Int) (tk : List Mt) (c : Int) (f : Mt → Bool) : ∀ os : List Int, (∀ o ∈ os, f ⟨c, o⟩ = decide (o ∉ bz ∧ (⟨c, o⟩ : Mt) ∉ tk) ∧ f ⟨o, c⟩ = decide (o ∉ bz ∧ (⟨o, c⟩ : Mt) ∉ tk)) → (prIn c os).filter f = chIn bz tk c os
  | [], _ => rfl
  | o :: os, h => by
    obtain ⟨h1, h2⟩ := h o (by simp)
    have ih := chIn_eq bz tk c f os fun x hx => h x (by simp [hx])
    rw [prIn, chIn, ← ih]
    by_cases hb : o ∈ bz
    · rw [if_pos hb, List.filter_cons_of_neg (by rw [h1]; simp [hb]), List.filter_cons_of_neg (by rw [h2]; simp [hb])]
    · rw [if_neg hb]
      simp only [List.filter_cons, h1, h2, hb, not_false_eq_true, true_and, List.filter_nil]
      split <;> split <;> simp
theorem cntF_zero {bz : List Int} {x : Int} {cs : List Int} (h : ∀ c ∈ cs, x ≤ c) : cntF bz x cs = 0 := by
  unfold cntF
  rw [List.countP_eq_zero]
  intro c hc
  have := h c hc
  rw [decide_eq_false (by omega)]; simp
theorem chOut_eq (bz : List Int) (tk : List Mt) (least : Int) : ∀ (cs : List Int) (may : Nat), cs.Pairwise (· < ·) → chOut bz tk least may cs = (prs cs).filter (Pch bz tk least cs may)
  | [], _, _ => rfl
  | c :: cs, may, hp => by
    obtain ⟨hc, hp'⟩ := List.pairwise_cons.1 hp
    rw [chOut_cons, prs, List.filter_append]
    have hcnt0 : cntF bz c (c :: cs) = 0 := cntF_zero fun x hx => by
      rcases List.mem_cons.1 hx with rfl | hx
      · exact Int.le_refl _
      · have := hc x hx; omega
    have hrest : ∀ m ∈ prs cs, cntF bz (firstM m) (c :: cs) = cntF bz (firstM m) cs + (if c ∈ bz then 0 else 1) := fun m hm => by
      obtain ⟨a, b, ha, _, _, he, _⟩ := prs_mem hp' hm
      have hca := hc a ha
      unfold cntF
      rw [List.countP_cons, he, decide_eq_true (by omega : c < a)]
      by_cases hb : c ∈ bz <;> simp [hb]
    by_cases hb : c ∈ bz
    · rw [if_pos hb, chOut_eq bz tk least cs may hp']
      have e1 : (prIn c cs).filter (Pch bz tk least (c :: cs) may) = [] := by
        rw [List.filter_eq_nil_iff]
        intro m hm
        obtain ⟨o, ho, h⟩ := prIn_mem.1 hm
        rcases h with rfl | rfl <;> simp [Pch, hb]
      rw [e1, List.nil_append]
      refine List.filter_congr fun m hm => ?_
      unfold Pch
      rw [hrest m hm, if_pos hb, Nat.add_zero]
    · rw [if_neg hb]
      have e1 : (prIn c cs).filter (Pch bz tk least (c :: cs) may) = if least < c then chIn bz tk c cs else [] := by
        split
        · rename_i hl
          refine chIn_eq bz tk c _ cs fun o ho => ?_
          obtain ⟨f1, f2⟩ := firstM_lt (hc o ho)
          unfold Pch
          rw [f1, f2, hcnt0]
          refine ⟨decide_eq_decide.2 ⟨fun h => ⟨h.2.1, h.2.2.1⟩, fun h => ⟨hb, h.1, h.2, hl, Nat.zero_le _⟩⟩, decide_eq_decide.2 ⟨fun h => ⟨h.1, h.2.2.1⟩, fun h => ⟨h.1, hb, h.2, hl, Nat.zero_le _⟩⟩⟩
        · rename_i hl
          rw [List.filter_eq_nil_iff]
          intro m hm
          obtain ⟨o, ho, h⟩ := prIn_mem.1 hm
          obtain ⟨f1, f2⟩ := firstM_lt (hc o ho)
          rcases h with rfl | rfl
          · unfold Pch; rw [f1]; simp [hl]
          · unfold Pch; rw [f2]; simp [hl]
      rw [e1]
      congr 1
      by_cases hm0 : may = 0
      · rw [if_pos hm0]
        symm
        rw [List.filter_eq_nil_iff]
        intro m hm
        unfold Pch
        rw [hrest m hm, if_neg hb, hm0]; simp
      · rw [if_neg hm0, chOut_eq bz tk least cs (may - 1) hp']
        refine List.filter_congr fun m hm => ?_
        unfold Pch
        rw [hrest m hm, if_neg hb]
        exact decide_eq_decide.2 ⟨fun h => ⟨h.1, h.2.1, h.2.2.1, h.2.2.2.1, by omega⟩, fun h => ⟨h.1, h.2.1, h.2.2.1, h.2.2.2.1, by omega⟩⟩
theorem snoc_all {α : Type} {P : Nat → List α → α → Prop} (l : List α) (m : α) : (∀ (k : Nat) (hk : k < (l ++ [m]).length), P k ((l ++ [m]).take k) (l ++ [m])[k]) ↔ (∀ (k : Nat) (hk : k < l.length), P k (l.take k) l[k]) ∧ P l.length l m := by
  constructor
  · intro h
    refine ⟨fun k hk => ?_, ?_⟩
    · have := h k (by simp; omega)
      rwa [List.getElem_append_left hk, List.take_append_of_le_length (Nat.le_of_lt hk)] at this
    · have := h l.length (by simp)
      rw [List.getElem_append_right (Nat.le_refl _), List.take_left' rfl] at this
      simpa using this
  · rintro ⟨h1, h2⟩ k hk
    by_cases h : k < l.length
    · rw [List.getElem_append_left h, List.take_append_of_le_length (Nat.le_of_lt h)]; exact h1 k h
    · have e : k = l.length := by simp at hk; omega
      subst e
      rw [List.getElem_append_right (Nat.le_refl _), List.take_left' rfl]
      simpa using h2
def OkQ (p : Pl) (met t : List Mt) (m : Mt) : Prop := m.home ≠ m.away ∧ m.home ∈ p.clubs ∧ m.away ∈ p.clubs ∧ m.home ∉ busyL t ∧ m.away ∉ busyL t ∧ m ∉ met ++ t ∧ (p.double = false → (⟨m.away, m.home⟩ : Mt) ∉ met ++ t) ∧ ∀ x, t.getLast? = some x → firstM x < firstM m
theorem OkI_Q {p : Pl} {met r : List Mt} {k : Nat} (hk : k < r.length) : OkI p met r k hk ↔ OkQ p met (r.take k) r[k] := by
  unfold OkI OkQ
  have e : (0 < k → firstM (r[k - 1]'(by omega)) < firstM r[k]) ↔ ∀ x, (r.take k).getLast? = some x → firstM x < firstM r[k] := by
    rw [List.getLast?_eq_getElem?, List.length_take, Nat.min_eq_left (Nat.le_of_lt hk)]
    by_cases h0 : 0 < k
    · rw [List.getElem?_take_of_lt (by omega), List.getElem?_eq_getElem (by omega)]
      exact ⟨fun h x hx => by cases hx; exact h h0, fun h _ => h _ rfl⟩
    · have : k = 0 := by omega
      subst this
      simp
  rw [e]
def RQ (p : Pl) (row : List Mt) (met : List Mt) (more : Prop) : Prop := row.length ≠ 0 ∧ row.length ≤ halfN p ∧ (more → halfN p ≤ row.length) ∧ (∀ (k : Nat) (hk : k < row.length), OkQ p met (row.take k) row[k]) ∧ leftGo (p.clubs.length % 2) (lastM row) (busyL row) p.clubs 0 = true
theorem RoundP_Q {l : List (List Mt)} {p : Pl} {i : Nat} (hi : i < l.length) : RoundP l p i hi ↔ RQ p l[i] (l.take i).flatten (i + 1 < l.length) := by
  unfold RoundP RQ
  exact and_congr_right fun _ => and_congr_right fun _ => and_congr_right fun _ => and_congr_left fun _ => forall_congr' fun k => forall_congr' fun hk => OkI_Q hk
theorem PartP_snoc {bf : Lst} {w : List Mt} {p : Pl} : PartP (bf ++ [w]) p ↔ bf.length + 1 ≤ roundsN p ∧ (∀ (i : Nat) (hi : i < bf.length), RQ p bf[i] (bf.take i).flatten True) ∧ RQ p w bf.flatten False := by
  unfold PartP
  have e1 : (bf ++ [w]).length = bf.length + 1 := by simp
  have e2 : (∀ (i : Nat) (hi : i < (bf ++ [w]).length), RoundP (bf ++ [w]) p i hi) ↔ ∀ (i : Nat) (hi : i < (bf ++ [w]).length), RQ p (bf ++ [w])[i] ((bf ++ [w]).take i).flatten (i + 1 < bf.length + 1) :=
    forall_congr' fun i => forall_congr' fun hi => by rw [RoundP_Q, e1]
  rw [e2, snoc_all (P := fun i t row => RQ p row t.flatten (i + 1 < bf.length + 1)), e1]
  refine and_congr_right fun _ => and_congr ?_ ?_
  · refine forall_congr' fun i => forall_congr' fun hi => ?_
    unfold RQ
    have : (i + 1 < bf.length + 1) ↔ True := iff_true_intro (by omega)
    rw [this]
  · unfold RQ
    have : (bf.length + 1 < bf.length + 1) ↔ False := iff_false_intro (by omega)
    rw [this]
theorem lastM_snoc (rd : List Mt) (m : Mt) : lastM (rd ++ [m]) = firstM m := by unfold lastM; rw [List.getLast?_concat]
theorem firstM_le {m : Mt} {c : Int} (h : m.home = c ∨ m.away = c) : firstM m ≤ c := by unfold firstM; split <;> rcases h with h | h <;> omega
theorem part_snoc {bf : Lst} {rd : List Mt} {p : Pl} (m : Mt) (hinc : p.clubs.Pairwise (· < ·)) (hb : ∀ (i : Nat) (hi : i < bf.length), RQ p bf[i] (bf.take i).flatten True) (hn : bf.length + 1 ≤ roundsN p) (hr : rd.length < halfN p)
    (hk : ∀ (k : Nat) (hk : k < rd.length), OkQ p bf.flatten (rd.take k) rd[k]) : PartP (bf ++ [rd ++ [m]]) p ↔ OkQ p bf.flatten rd m ∧ cntF (busyL rd) (firstM m) p.clubs ≤ p.clubs.length % 2 := by
  rw [PartP_snoc]
  have e : RQ p (rd ++ [m]) bf.flatten False ↔ OkQ p bf.flatten rd m ∧ cntF (busyL rd) (firstM m) p.clubs ≤ p.clubs.length % 2 := by
    unfold RQ
    have e0 : leftGo (p.clubs.length % 2) (lastM (rd ++ [m])) (busyL (rd ++ [m])) p.clubs 0 = true ↔ cntF (busyL rd) (firstM m) p.clubs ≤ p.clubs.length % 2 := by
      rw [leftGo_eq hinc (Nat.zero_le _), Nat.zero_add, decide_eq_true_eq, lastM_snoc]
      unfold cntF
      have : p.clubs.countP (fun c => decide (c < firstM m) && !busyB (rd ++ [m]) c) = p.clubs.countP fun c => decide (c < firstM m) && decide (c ∉ busyL rd) := by
        refine List.countP_congr fun c _ => ?_
        simp only [Bool.and_eq_true, decide_eq_true_eq, Bool.not_eq_true', ← Bool.not_eq_true, busyB_iff, busyL_append, List.mem_append, not_or]
        refine and_congr_right fun hc => ⟨fun h => h.1, fun h => ⟨h, fun h' => ?_⟩⟩
        obtain ⟨x, hx, he⟩ := mem_busyL.1 h'
        rw [List.mem_singleton.1 hx] at he
        have := firstM_le he
        omega
      rw [this]
    rw [e0, snoc_all (P := fun k t x => OkQ p bf.flatten t x)]
    have l1 : (rd ++ [m]).length = rd.length + 1 := by simp
    rw [l1]
    exact ⟨fun h => ⟨h.2.2.2.1.2, h.2.2.2.2⟩, fun h => ⟨by omega, by omega, False.elim, ⟨hk, h.1⟩, h.2⟩⟩
  rw [e]
  exact ⟨fun h => h.2.2, fun h => ⟨hn, hb, h⟩⟩
theorem open_of {l : Lst} {p : Pl} (hh : 0 < halfN p) (hP : PartP l p) (hx : (nxR l p).2.2 = true) :
    (∀ (i : Nat) (hi : i < (nxR l p).2.1.length), RQ p (nxR l p).2.1[i] ((nxR l p).2.1.take i).flatten True) ∧ (nxR l p).2.1.length + 1 ≤ roundsN p ∧ (nxR l p).1.length < halfN p ∧ (∀ (k : Nat) (hk : k < (nxR l p).1.length), OkQ p (nxR l p).2.1.flatten ((nxR l p).1.take k) (nxR l p).1[k]) ∧
    (nxR l p).1 = (openR l p).1 ∧ (nxR l p).2.1.flatten ++ (nxR l p).1 = l.flatten := by
  rcases openR_spec l p with ⟨h1, h2⟩ | ⟨h1, r, h2, h3, h4, h5⟩
  · have hlt : l.length < roundsN p := by
      unfold nxR at hx
      rw [h1] at hx
      simp only [Bool.true_eq_false, if_false] at hx
      split at hx
      · assumption
      · cases hx
    have e : nxR l p = ([], l, true) := by unfold nxR; rw [h1]; simp only [Bool.true_eq_false, if_false, if_pos hlt]
    rw [e]
    refine ⟨fun i hi => ?_, hlt, hh, fun k hk => absurd hk (Nat.not_lt_zero k), h2.symm, by simp⟩
    replace hi : i < l.length := hi
    have hR := (RoundP_Q hi).1 (hP.2 i hi)
    show RQ p l[i] (l.take i).flatten True
    refine ⟨hR.1, hR.2.1, fun _ => ?_, hR.2.2.2⟩
    by_cases hl : i + 1 < l.length
    · exact hR.2.2.1 hl
    · have hi' : i = l.length - 1 := by omega
      have hla := last_of (l := l) (by omega)
      unfold openR at h1
      rw [hla] at h1
      simp only at h1
      split at h1
      · cases h1
      · rename_i hge
        subst hi'
        exact Nat.le_of_not_lt hge
  · have e : nxR l p = (r, l.dropLast, true) := by unfold nxR; rw [if_pos h1, h3]
    rw [e]
    rw [h5] at hP
    obtain ⟨q1, q2, q3⟩ := PartP_snoc.1 hP
    exact ⟨q2, q1, h4, q3.2.2.2.1, h3.symm, by conv => { rhs; rw [h5] }; simp⟩
theorem nx_open {l : Lst} {p : Pl} : (nxR l p).2.2 = (openR l p).2.2 := by
  unfold nxR openR
  cases l.getLast? with
  | none => simp only [Bool.true_eq_false, if_false]; by_cases h : l.length < roundsN p <;> simp [h]
  | some r =>
    simp only
    by_cases h : r.length < halfN p
    · rw [if_pos h]; simp
    · rw [if_neg h]; simp only [Bool.true_eq_false, if_false]; by_cases h : l.length < roundsN p <;> simp [h]
theorem mem_taken {p : Pl} {l : Lst} {m : Mt} : m ∉ takenOf l p ↔ m ∉ l.flatten ∧ (p.double = false → (⟨m.away, m.home⟩ : Mt) ∉ l.flatten) := by
  unfold takenOf tkM
  rw [List.mem_flatMap]
  cases hd : p.double with
  | true => simp
  | false =>
    simp only [Bool.false_eq_true, if_false, List.mem_cons, List.not_mem_nil, or_false, not_exists, not_and, forall_const]
    constructor
    · intro h
      refine ⟨fun hm => h m hm (.inl rfl), fun hm => h _ hm (.inr rfl)⟩
    · rintro ⟨h1, h2⟩ x hx (rfl | rfl)
      · exact h1 hx
      · exact h2 hx
theorem chs_eq {l : Lst} {p : Pl} (h0 : checkP p = 0) (hP : PartP l p) : chs l p = rchs l p := by
  have hp := checkP_field h0
  have hp' := hp
  simp only [fieldOk, Bool.and_eq_true, decide_eq_true_eq] at hp'
  have hinc : p.clubs.Pairwise (· < ·) := incr_lt hp'.1.1
  have hnn : ∀ c ∈ p.clubs, (0 : Int) ≤ c := fun c hc => by
    obtain ⟨j, hj, rfl⟩ := List.getElem_of_mem hc
    exact ((okAt_at hj).1 ((incr_iff p.clubs).1 hp'.1.1 j)).1.1
  have hh : 0 < halfN p := by unfold halfN; have := hp'.1.2; omega
  unfold chs rchs
  rw [nx_open]
  by_cases hx : (openR l p).2.2 = true
  · rw [if_pos hx, if_pos hx]
    rw [← nx_open] at hx
    obtain ⟨a1, a2, a3, a4, a5, a6⟩ := open_of hh hP hx
    rw [chOut_eq _ _ _ _ _ hinc]
    refine List.filter_congr fun m hm => ?_
    obtain ⟨a, b, ha, hb, hab, hf, hm'⟩ := prs_mem hinc hm
    unfold Pch extR
    rw [decide_eq_decide, ← PartP_iff _ _ hp, part_snoc m hinc a1 a2 a3 a4, ← a5]
    unfold OkQ
    rw [a6, mem_taken]
    have hm1 : m.home ≠ m.away ∧ m.home ∈ p.clubs ∧ m.away ∈ p.clubs := by
      rcases hm' with rfl | rfl
      · exact ⟨by show a ≠ b; omega, ha, hb⟩
      · exact ⟨by show b ≠ a; omega, hb, ha⟩
    have hle : leastOf (nxR l p).1 < firstM m ↔ ∀ x, (nxR l p).1.getLast? = some x → firstM x < firstM m := by
      unfold leastOf
      cases (nxR l p).1.getLast? with
      | none =>
        have := hnn a ha
        simp only [reduceCtorEq, false_implies, implies_true, iff_true]
        omega
      | some x =>
        simp only [Option.some.injEq, forall_eq']
        unfold firstM
        split <;> omega
    rw [hle]
    show (m.home ∉ busyL (nxR l p).1 ∧ m.away ∉ busyL (nxR l p).1 ∧ _ ∧ _ ∧ cntF (busyL (nxR l p).1) _ _ ≤ _) ↔ _
    exact ⟨fun h => ⟨⟨hm1.1, hm1.2.1, hm1.2.2, h.1, h.2.1, h.2.2.1.1, h.2.2.1.2, h.2.2.2.1⟩, h.2.2.2.2⟩, fun ⟨⟨_, _, _, q1, q2, q3, q4, q5⟩, q6⟩ => ⟨q1, q2, ⟨q3, q4⟩, q5, q6⟩⟩
  · rw [if_neg hx, if_neg hx]
end Go.Proofs.Ytjknhbfcdjjbhaa
namespace Go.Proofs.Ytjknhbfcdjjbhaa
open Go.Tidy
set_option maxRecDepth 100000
set_option maxHeartbeats 0
set_option linter.unusedSimpArgs false
set_option linter.unusedVariables false
variable {L : List Blk} {k : V → List Blk → Prop}
theorem exLoop_cong {f f' : Lst → Nat → List Lst → Sr} {ext : Mt → Lst} {ok ok' : Lst → Bool} {bud : Nat} : ∀ (ms : List Mt) (sp : Nat) (fs : List Lst), (∀ m ∈ ms, ok (ext m) = ok' (ext m)) → (∀ m ∈ ms, ok (ext m) = true → ∀ sp fs, f (ext m) sp fs = f' (ext m) sp fs) →
    exLoop f ext ok bud ms sp fs = exLoop f' ext ok' bud ms sp fs
  | [], sp, fs, _, _ => rfl
  | m :: ms, sp, fs, h1, h2 => by
    have ih := fun sp fs => exLoop_cong (f := f) (f' := f') (ext := ext) (ok := ok) (ok' := ok') (bud := bud) ms sp fs (fun x hx => h1 x (by simp [hx])) fun x hx => h2 x (by simp [hx])
    simp only [exLoop]
    rw [← h1 m (by simp)]
    split
    · rfl
    · split
      · rename_i hok
        rw [h2 m (by simp) hok]
        cases f' (ext m) (sp + 1) fs with
        | go sp fs => exact ih _ _
        | stop e sp fs => rfl
      · exact ih _ _
theorem exam_cong {p p' : Pl} {ch ch' : Lst → List Mt} {ok ok' : Lst → Bool} {Q : Lst → Prop} {bud : Nat} {all : Bool} (hf : ∀ l, fullC l p = fullC l p') (he : ∀ l m, extL l p m = extL l p' m) (hch : ∀ l, Q l → ch l = ch' l) (hok : ∀ l m, Q l → ok (extL l p m) = ok' (extL l p m))
    (hQ : ∀ l m, Q l → ok (extL l p m) = true → Q (extL l p m)) : ∀ (n : Nat) (l : Lst) (sp : Nat) (fs : List Lst), Q l → exam ch ok p bud all n l sp fs = exam ch' ok' p' bud all n l sp fs
  | 0, l, sp, fs, _ => rfl
  | n + 1, l, sp, fs, h => by
    unfold exam
    rw [← hf, ← hch l h]
    split
    · rfl
    · have e : extL l p = extL l p' := funext (he l)
      rw [← e]
      exact exLoop_cong _ _ _ (fun m _ => hok l m h) fun m _ ho sp fs => exam_cong hf he hch hok hQ n _ _ _ (hQ l m h ho)
theorem fewlen {p : Pl} (h0 : checkP p = 0) : p.clubs.length ≤ 1000 := by
  have hf := checkP_field h0
  simp only [fieldOk, Bool.and_eq_true, decide_eq_true_eq] at hf; omega
theorem run_eq {p : Pl} (most : Int) (all : Bool) (h0 : checkP p = 0) (hs : Small [] p) : runP p most all = runR p most all :=
  exam_cong (Q := fun l => PartP l p) (fun _ => rfl) (fun _ _ => rfl) (fun l hl => chs_eq h0 hl) (fun l m hl => by rw [(dmd_eq (part_small hs (fewlen h0) hl m).2).1]) (fun l m hl ho => (dmA_part (of_decide_eq_true ho)).2) _ _ _ _ (part_nil p)
def okT (all : Bool) : Sr → Prop
  | .go _ fs => all = false → fs = []
  | .stop e _ fs => (e = 3 ∧ (all = false → fs = [])) ∨ (e = 0 ∧ fs.length = 1 ∧ all = false)
theorem exam_okT (ch : Lst → List Mt) (ok : Lst → Bool) (p : Pl) (bud : Nat) (all : Bool) : ∀ (n : Nat) (l : Lst) (sp : Nat) (fs : List Lst), (all = false → fs = []) → okT all (exam ch ok p bud all n l sp fs)
  | 0, l, sp, fs, h => h
  | n + 1, l, sp, fs, h => by
    unfold exam
    split
    · split
      · rename_i ha; intro hb; rw [ha] at hb; cases hb
      · rename_i ha
        have ha' : all = false := by simpa using ha
        exact .inr ⟨rfl, by rw [h ha']; rfl, ha'⟩
    · have key : ∀ (ms : List Mt) (sp : Nat) (fs : List Lst), (all = false → fs = []) → okT all (exLoop (exam ch ok p bud all n) (extL l p) ok bud ms sp fs) := by
        intro ms
        induction ms with
        | nil => intro sp fs h; exact h
        | cons m ms ih =>
          intro sp fs h
          simp only [exLoop]
          split
          · exact .inl ⟨rfl, h⟩
          · split
            · have h2 := exam_okT ch ok p bud all n (extL l p m) (sp + 1) fs h
              split
              · rename_i e; rw [e] at h2; exact ih _ _ h2
              · rename_i e; rw [e] at h2; exact h2
            · exact ih _ _ h
      exact key _ _ _ h
theorem run_okT (p : Pl) (most : Int) (all : Bool) : okT all (runP p most all) := exam_okT _ _ _ _ _ _ _ _ _ fun _ => rfl
theorem plan_eq {p : Pl} (most : Int) (hs : Small [] p) : planF p most = rplanF p most := by
  unfold planF rplanF
  by_cases hA : argE p most = 0
  · rw [if_pos hA, if_pos hA, ← run_eq most false (argE_zero hA).1 hs]
    have h := run_okT p most false
    generalize runP p most false = o at h ⊢
    cases o with
    | go sp fs =>
      have : fs = [] := h rfl
      subst this; rfl
    | stop e sp fs =>
      rcases h with ⟨rfl, h⟩ | ⟨rfl, h, _⟩
      · have : fs = [] := h rfl
        subst this; rfl
      · obtain ⟨l, rfl⟩ := List.length_eq_one_iff.1 h; rfl
  · rw [if_neg hA, if_neg hA]
theorem count_eq {p : Pl} (most : Int) (hs : Small [] p) : countN p most = rcountN p most ∧ countE p most = rcountE p most := by
  unfold countN rcountN countE rcountE
  by_cases hA : argE p most = 0
  · rw [if_pos hA, if_pos hA, ← run_eq most true (argE_zero hA).1 hs]
    have h := run_okT p most true
    generalize runP p most true = o at h ⊢
    cases o with
    | go sp fs =>
      rw [if_pos ⟨hA, rfl⟩, if_pos ⟨hA, by simp [Sr.e]⟩]
      exact ⟨rfl, rfl⟩
    | stop e sp fs =>
      rcases h with ⟨rfl, h⟩ | ⟨rfl, _, h⟩
      · rw [if_neg (by simp [Sr.e]), if_neg (by simp [Sr.e])]; exact ⟨rfl, rfl⟩
      · cases h
  · rw [if_neg hA, if_neg hA, if_neg (fun h => hA h.1), if_neg (fun h => hA h.1)]
    exact ⟨rfl, rfl⟩
theorem chE_eq {l : Lst} {p : Pl} (hs : Small l p) : chE l p = rchE l p ∧ dmE l p = rdmE l p := by
  have h2 := (dmd_eq hs).2
  refine ⟨?_, h2⟩
  unfold chE rchE
  rw [← h2]
  by_cases h : dmE l p = 0
  · rw [if_pos h, if_pos h]
    unfold dmE at h
    by_cases h0 : checkP p = 0
    · rw [if_pos h0] at h
      by_cases hP : PartP l p
      · exact chs_eq h0 hP
      · rw [if_neg hP] at h; omega
    · rw [if_neg h0] at h; exact absurd h h0
  · rw [if_neg h, if_neg h]
theorem few_small {l : Lst} {p : Pl} (hb : FewP p) (hc : FewL l) : Small l p := by
  refine ⟨by have := hc.2; omega, fun r hr => ?_, by have := hb.2.1; omega, fun d hd => ?_, by have := hb.2.2; omega⟩
  · have h1 : r.length ≤ (l.map List.length).sum := by
      have h2 : ∀ (l : Lst), r ∈ l → r.length ≤ (l.map List.length).sum := fun l => by
        induction l with
        | nil => intro h; simp at h
        | cons x l ih =>
          intro h
          rw [List.map_cons, List.sum_cons]
          rcases List.mem_cons.1 h with rfl | h
          · omega
          · have := ih h; omega
      exact h2 l hr
    have := hc.1; omega
  · obtain ⟨i, hi, rfl⟩ := List.getElem_of_mem hd
    have := hb.1 i hi; omega
theorem few_nil {p : Pl} (hb : FewP p) : Small [] p := few_small hb ⟨by decide, by decide⟩
theorem chE_le (l : Lst) (p : Pl) : (chE l p).length ≤ 4611686018427387904 := by
  unfold chE
  split
  · rename_i h
    have := chs_len l p (dmE_len h).2; omega
  · decide
def pThree : Pl := ⟨[1, 2, 3], false, []⟩
def pTwo : Pl := ⟨[1, 2], false, []⟩
def pBoth : Pl := ⟨[1, 2], false, [⟨1, 1, 0, 0, 0, []⟩, ⟨2, 1, 0, 0, 0, []⟩]⟩
def mSix : List Mt := [⟨1, 2⟩, ⟨2, 1⟩, ⟨1, 3⟩, ⟨3, 1⟩, ⟨2, 3⟩, ⟨3, 2⟩]
theorem pv1 : chE [] pThree = mSix ∧ dmE [] pThree = 0 := by decide +kernel
theorem pv2 : (planF pTwo 10).l = [[⟨1, 2⟩]] ∧ (planF pTwo 10).sp = 1 ∧ (planF pTwo 10).e = 0 := by decide +kernel
theorem pv4 : countN pTwo 10 = 2 ∧ countE pTwo 10 = 0 := by decide +kernel
theorem pv5 : countN pThree 1000 = 48 ∧ countE pThree 1000 = 0 := by decide +kernel
theorem pv6 : planF pTwo 0 = ⟨[], 0, 3⟩ := by
  have h : (planF pTwo 0).l = [] ∧ (planF pTwo 0).sp = 0 ∧ (planF pTwo 0).e = 3 := by decide +kernel
  generalize planF pTwo 0 = o at h; obtain ⟨l, s, e⟩ := o; obtain ⟨rfl, rfl, rfl⟩ := h; rfl
theorem pv7 : planF pTwo (-1) = ⟨[], 0, 1⟩ := by
  have h : (planF pTwo (-1)).l = [] ∧ (planF pTwo (-1)).sp = 0 ∧ (planF pTwo (-1)).e = 1 := by decide +kernel
  generalize planF pTwo (-1) = o at h; obtain ⟨l, s, e⟩ := o; obtain ⟨rfl, rfl, rfl⟩ := h; rfl
theorem pv8 : planF pBoth 10 = ⟨[], 0, 320⟩ := by
  have h : (planF pBoth 10).l = [] ∧ (planF pBoth 10).sp = 0 ∧ (planF pBoth 10).e = 320 := by decide +kernel
  generalize planF pBoth 10 = o at h; obtain ⟨l, s, e⟩ := o; obtain ⟨rfl, rfl, rfl⟩ := h; rfl
theorem pv3 : planF pTwo 10 = ⟨[[⟨1, 2⟩]], 1, 0⟩ := by
  have h := pv2
  generalize planF pTwo 10 = o at h; obtain ⟨l, s, e⟩ := o; obtain ⟨rfl, rfl, rfl⟩ := h; rfl
theorem psm2 : Small [] pTwo := ⟨by decide, by decide, by decide, by decide, by decide⟩
theorem psm3 : Small [] pThree := ⟨by decide, by decide, by decide, by decide, by decide⟩
theorem psmB : Small [] pBoth := ⟨by decide, by decide, by decide, by decide, by decide⟩
theorem plan_e {p : Pl} {most : Int} {o : PlanR} (hs : Small [] p) (ho : planF p most = o) (h : k (.tup [lisV o.l, I o.sp, I o.e]) L) : CallP C 16 [plV p, I most] L k := plan_c p most hs (by rw [ho]; exact h)
theorem count_e {p : Pl} {most n e : Int} (hs : Small [] p) (hn : countN p most = n) (he : countE p most = e) (h : k (.tup [I n, I e]) L) : CallP C 18 [plV p, I most] L k := count_c p most hs (by rw [hn, he]; exact h)
theorem choices_e {l : Lst} {p : Pl} {m : List Mt} {e : Int} (hs : Small l p) (hm : chE l p = m) (he : dmE l p = e) (h : k (.tup [.d (mts m), I e]) L) : CallP C 13 [lisV l, plV p] L k := choices0_c l p hs (by rw [hm, he]; exact h)
theorem len6 {l : List (List D)} (h : l.all (fun e => decide (e.length = 6)) = true) : ∀ e ∈ l, e.length = 6 := fun e he => by simpa using List.all_eq_true.1 h e he
theorem psame6 (h : k (B true) L) : CallP C 15 [.d (mts mSix), .d (mts mSix)] L k := rsameM_c mSix mSix (by decide) h
theorem psame1 (h : k (B true) L) : CallP C 20 [lisV [[⟨1, 2⟩]], lisV [[⟨1, 2⟩]]] L k := rsameL_c [[⟨1, 2⟩]] [[⟨1, 2⟩]] (by decide) (by decide) h
theorem psane_c (h : k (B true) L) : CallP C 10 [] L k := by
  refine CallP.pure ?_ rfl (fun _ => rfl) h
  clear h
  refine callP_cut (fun c => match c with | .region 1 _ _ => true | _ => false) C_ok Try.func10 rfl rfl (n := _) rfl (Nat.le_of_ble_eq_true rfl) (rs := _) rfl ?_
  conv => whnf
  refine CutP.intro (ι := Unit) (fun _ => ⟨[(2, .ptr 1 0), (1, .ptr 0 0), (0, B false)], Try.f10.ntmps, [.cells (pTwo.cells.map .d), .cells (pThree.cells.map .d)], [], none⟩) ?_ (fun _ => ?_)
  · repeat' (conv => whnf
             first | refine Br.tt ?_ | refine Br.ff ?_ | refine Br.dec (fun h => ?_) (fun h => ?_) | refine Br.not ?_ | refine Br.intro (fun h => ?_) (fun h => ?_) | refine GetE.intro _ rfl ?_ | refine Need.intro rfl ?_ | refine DrawP.go mixed rfl ?_)
    conv => whnf
    refine ⟨(), Weak.trans (σ' := ⟨[(2, .ptr 1 0), (1, .ptr 0 0), (0, B false)], Try.f10.ntmps, [.cells [.own 2 0 0 2, B false, .nil], .cells [.own 3 0 0 3, B false, .nil], .row 0 1 [[I 1], [I 2]], .row 0 1 [[I 1], [I 2], [I 3]]], [], none⟩) ?_ ?_⟩
    · exact Weak.re [2, 3, 0, 1] ⟨rfl, rfl, rfl, trivial⟩ rfl (by decide) rfl
    · refine Weak.thaw 2 (Nat.zero_le _) (Nat.le_of_ble_eq_true rfl) rfl ⟨.inl ⟨rfl, rfl⟩, .inl ⟨rfl, rfl⟩, .inl ⟨rfl, rfl⟩, trivial⟩ ?_
      intro b x y hx hy
      match b, hx, hy with
      | 0, hx, hy =>
        cases hx; cases hy
        refine .inr (.inr ⟨_, _, rfl, rfl, rfl, fun j u v hu hv => ?_⟩)
        match j, hu, hv with
        | 0, hu, hv => cases hu; cases hv; exact .inr (.d (.rowL (by decide) rfl (.cons (.cons (.d _) .nil) (.cons (.cons (.d _) .nil) .nil)) rfl (by decide)))
        | 1, hu, hv => cases hu; cases hv; exact .inl ⟨rfl, rfl⟩
        | 2, hu, hv => cases hu; cases hv; exact .inr (.d .nil)
        | j + 3, hu, hv => simp at hu
      | 1, hx, hy =>
        cases hx; cases hy
        refine .inr (.inr ⟨_, _, rfl, rfl, rfl, fun j u v hu hv => ?_⟩)
        match j, hu, hv with
        | 0, hu, hv => cases hu; cases hv; exact .inr (.d (.rowL (by decide) rfl (.cons (.cons (.d _) .nil) (.cons (.cons (.d _) .nil) (.cons (.cons (.d _) .nil) .nil))) rfl (by decide)))
        | 1, hu, hv => cases hu; cases hv; exact .inl ⟨rfl, rfl⟩
        | 2, hu, hv => cases hu; cases hv; exact .inr (.d .nil)
        | j + 3, hu, hv => simp at hu
      | b + 2, hx, hy => simp at hy
  · repeat' (conv => whnf
             first | refine CallP.freeze [] rfl rfl (.cv (.aggL (.cons .nil .nil)) (.keep .nil)) (choices_e psm3 pv1.1 pv1.2 ?_) | refine plan_e psm2 pv3 ?_ | refine count_e psm2 pv4.1 pv4.2 ?_ | refine count_e psm3 pv5.1 pv5.2 ?_ | refine plan_e psm2 pv6 ?_ | refine plan_e psm2 pv7 ?_ | refine CallP.lent (plan_e psmB pv8 ⟨rfl, rfl⟩) (.cv (y := plV pBoth) (.aggL (.cons (.d _) (.cons (.d _) (.cons (.rowL (ds := pBoth.demands.map Dm.cells) trivial rfl (.cons (.cons (.d _) (.cons (.d _) (.cons (.d _) (.cons (.d _) (.cons (.d _) (.cons .nil .nil)))))) (.cons (.cons (.d _) (.cons (.d _) (.cons (.d _) (.cons (.d _) (.cons (.d _) (.cons .nil .nil)))))) .nil)) rfl (by exact len6 rfl)) .nil)))) (.keep .nil)) rfl rfl ?_ | refine CallP.lent (psame6 ⟨rfl, rfl⟩) (.keep (.cv (y := .d (mts mSix)) (.d (.rowL (ds := mSix.map Mt.cells) trivial rfl (.cons (.cons (.d _) (.cons (.d _) .nil)) (.cons (.cons (.d _) (.cons (.d _) .nil)) (.cons (.cons (.d _) (.cons (.d _) .nil)) (.cons (.cons (.d _) (.cons (.d _) .nil)) (.cons (.cons (.d _) (.cons (.d _) .nil)) (.cons (.cons (.d _) (.cons (.d _) .nil)) .nil)))))) rfl (by exact len2 rfl))) .nil)) rfl rfl ?_ | refine CallP.lent (psame1 ⟨rfl, rfl⟩) (.keep (.cv (y := lisV [[⟨1, 2⟩]]) (.aggL (.cons (.rowL (ds := [[.sl [[DI 1, DI 2]]]]) trivial rfl (.cons (.cons (.rowL (ds := [[DI 1, DI 2]]) trivial rfl (.cons (.cons (.d _) (.cons (.d _) .nil)) .nil) rfl (by exact len2 rfl)) .nil) .nil) rfl (by exact len1 rfl)) .nil)) .nil)) rfl rfl ?_ | refine Br.tt ?_ | refine Br.ff ?_ | refine Br.dec (fun h => ?_) (fun h => ?_) | refine Br.not ?_ | refine Br.intro (fun h => ?_) (fun h => ?_) | refine GetE.intro _ rfl ?_ | refine Need.intro rfl ?_ | refine DrawP.go mixed rfl ?_)
    conv => whnf
    exact FinP.drop (n := 0) rfl (Nat.le_refl 0) rfl rfl ⟨rfl, rfl⟩
end Go.Proofs.Ytjknhbfcdjjbhaa
namespace Go.Proofs.Ytjknhbfcdjjbhaa
open Go.Tidy
set_option maxRecDepth 100000
set_option linter.unusedSimpArgs false
set_option linter.unusedVariables false
theorem exLoop_mem {ok : Lst → Bool} {p : Pl} {bud : Nat} {G : Lst → Prop} {f : Lst → Nat → List Lst → Sr} {ext : Mt → Lst} : ∀ (ms : List Mt) (sp : Nat) (fs : List Lst), (∀ m ∈ ms, ok (ext m) = true → ∀ sp fs, ∀ x ∈ (f (ext m) sp fs).fs, x ∈ fs ∨ G x) → ∀ x ∈ (exLoop f ext ok bud ms sp fs).fs, x ∈ fs ∨ G x
  | [], sp, fs, _, x, hx => .inl hx
  | m :: ms, sp, fs, h, x, hx => by
    have ih := fun sp fs => exLoop_mem (ok := ok) (p := p) (bud := bud) (G := G) (f := f) (ext := ext) ms sp fs fun x hx => h x (by simp [hx])
    simp only [exLoop] at hx
    split at hx
    · exact .inl hx
    · split at hx
      · rename_i hok
        have h2 := h m (by simp) hok (sp + 1) fs
        split at hx
        · rename_i e
          rw [e] at h2
          rcases ih _ _ x hx with h3 | h3
          · exact h2 x h3
          · exact .inr h3
        · rename_i e
          rw [e] at h2
          exact h2 x hx
      · exact ih _ _ x hx
theorem exam_mem {p : Pl} {ch : Lst → List Mt} {ok : Lst → Bool} {Q G : Lst → Prop} {bud : Nat} {all : Bool} (hQ : ∀ l m, Q l → m ∈ ch l → ok (extL l p m) = true → Q (extL l p m) ∧ G (extL l p m)) : ∀ (n : Nat) (l : Lst) (sp : Nat) (fs : List Lst), Q l → (fullC l p = true → G l) → ∀ x ∈ (exam ch ok p bud all n l sp fs).fs, x ∈ fs ∨ (G x ∧ fullC x p = true)
  | 0, l, sp, fs, _, _, x, hx => .inl hx
  | n + 1, l, sp, fs, h, hg, x, hx => by
    unfold exam at hx
    split at hx
    · rename_i hf
      have : x ∈ fs ++ [l] := by split at hx <;> exact hx
      rcases List.mem_append.1 this with h1 | h1
      · exact .inl h1
      · rw [List.mem_singleton.1 h1]; exact .inr ⟨hg hf, hf⟩
    · exact exLoop_mem (p := p) _ _ _ (fun m hm ho sp fs => exam_mem hQ n _ sp fs (hQ l m h hm ho).1 fun _ => (hQ l m h hm ho).2) x hx
theorem run_mem {p : Pl} {most : Int} {all : Bool} {x : Lst} (hx : x ∈ (runP p most all).fs) : PartP x p ∧ dmA x p < 0 ∧ fullC x p = true := by
  rcases exam_mem (p := p) (Q := fun l => PartP l p) (G := fun l => PartP l p ∧ dmA l p < 0) (fun l m h _ ho => by
    have ho := of_decide_eq_true ho
    exact ⟨(dmA_part ho).2, (dmA_part ho).2, ho⟩) _ _ _ _ (part_nil p) (fun h => by rw [full_nil] at h; cases h) x hx with h | ⟨⟨h1, h2⟩, h3⟩
  · simp at h
  · exact ⟨h1, h2, h3⟩
theorem planF_cases (p : Pl) (most : Int) : (planF p most).l = [] ∨ (planF p most).l ∈ (runP p most false).fs := by
  unfold planF
  split
  · cases h : (runP p most false).fs.getLast? with
    | none => exact .inl rfl
    | some l => exact .inr (List.mem_of_getLast? h)
  · exact .inl rfl
theorem planF_small {p : Pl} (most : Int) (hs : Small [] p) : Small (planF p most).l p := by
  rcases planF_cases p most with h | h
  · rw [h]; exact hs
  · obtain ⟨h1, h2, _⟩ := run_mem h
    exact (part_small hs (fewlen (dmA_part h2).1) h1 ⟨0, 0⟩).1
end Go.Proofs.Ytjknhbfcdjjbhaa
namespace Go.Proofs.Ytjknhbfcdjjbhaa
open Go.Tidy
set_option maxRecDepth 100000
set_option linter.unusedSimpArgs false
set_option linter.unusedVariables false
inductive Ev where
  | tick
  | found (l : Lst)
def ticks : List Ev → Nat
  | [] => 0
  | .tick :: r => ticks r + 1
  | .found _ :: r => ticks r
def fulls : List Ev → List Lst
  | [] => []
  | .tick :: r => fulls r
  | .found l :: r => l :: fulls r
theorem fulls_append : ∀ a b : List Ev, fulls (a ++ b) = fulls a ++ fulls b
  | [], b => rfl
  | .tick :: a, b => fulls_append a b
  | .found l :: a, b => congrArg (l :: ·) (fulls_append a b)
def runE (bud : Nat) (all : Bool) : List Ev → Nat → List Lst → Sr
  | [], sp, fs => .go sp fs
  | .tick :: r, sp, fs => if sp = bud then .stop 3 sp fs else runE bud all r (sp + 1) fs
  | .found l :: r, sp, fs => if all then runE bud all r sp (fs ++ [l]) else .stop 0 sp (fs ++ [l])
theorem runE_append (bud : Nat) (all : Bool) (b : List Ev) : ∀ (a : List Ev) (sp : Nat) (fs : List Lst), runE bud all (a ++ b) sp fs = match runE bud all a sp fs with
    | .go sp fs => runE bud all b sp fs
    | .stop e sp fs => .stop e sp fs
  | [], sp, fs => rfl
  | .tick :: a, sp, fs => by
    rw [List.cons_append]
    simp only [runE]
    split
    · rfl
    · exact runE_append bud all b a _ _
  | .found l :: a, sp, fs => by
    rw [List.cons_append]
    simp only [runE]
    split
    · exact runE_append bud all b a _ _
    · rfl
def trace (full : Lst → Bool) (ext : Lst → Mt → Lst) (ch : Lst → List Mt) (ok : Lst → Bool) : Nat → Lst → List Ev
  | 0, _ => []
  | n + 1, l => if full l then [.found l] else (ch l).flatMap fun m => .tick :: if ok (ext l m) then trace full ext ch ok n (ext l m) else []
theorem exam_trace (ch : Lst → List Mt) (ok : Lst → Bool) (p : Pl) (bud : Nat) (all : Bool) : ∀ (n : Nat) (l : Lst) (sp : Nat) (fs : List Lst), exam ch ok p bud all n l sp fs = runE bud all (trace (fun l => fullC l p) (fun l m => extL l p m) ch ok n l) sp fs
  | 0, l, sp, fs => rfl
  | n + 1, l, sp, fs => by
    unfold exam trace
    split
    · simp only [runE]
    · generalize ch l = ms
      induction ms generalizing sp fs with
      | nil => rfl
      | cons m ms ih =>
        rw [List.flatMap_cons, List.cons_append]
        simp only [exLoop, runE]
        split
        · rfl
        · split
          · rw [runE_append, ← exam_trace ch ok p bud all n]
            cases exam ch ok p bud all n (extL l p m) (sp + 1) fs with
            | go sp fs => exact ih _ _
            | stop e sp fs => rfl
          · exact ih _ _
theorem run_all {bud : Nat} : ∀ (T : List Ev) (sp : Nat) (fs : List Lst), sp ≤ bud → (sp + ticks T ≤ bud → runE bud true T sp fs = .go (sp + ticks T) (fs ++ fulls T)) ∧ (bud < sp + ticks T → ∃ fs', runE bud true T sp fs = .stop 3 bud fs')
  | [], sp, fs, h => ⟨fun _ => by simp [runE, ticks, fulls], fun h2 => by simp only [ticks] at h2; omega⟩
  | .tick :: r, sp, fs, h => by
    simp only [runE, ticks, fulls]
    by_cases he : sp = bud
    · rw [if_pos he]
      exact ⟨fun h2 => by omega, fun _ => ⟨fs, by rw [he]⟩⟩
    · rw [if_neg he]
      obtain ⟨h1, h2⟩ := run_all (bud := bud) r (sp + 1) fs (by omega)
      have e : sp + 1 + ticks r = sp + (ticks r + 1) := by omega
      rw [e] at h1 h2
      exact ⟨h1, h2⟩
  | .found l :: r, sp, fs, h => by
    simp only [runE, ticks, fulls, if_true]
    obtain ⟨h1, h2⟩ := run_all (bud := bud) r sp (fs ++ [l]) h
    exact ⟨fun h3 => by rw [h1 h3, List.append_assoc]; rfl, h2⟩
def firstAtE : List Ev → Nat
  | [] => 0
  | .tick :: r => firstAtE r + 1
  | .found _ :: _ => 0
theorem first_le : ∀ T : List Ev, firstAtE T ≤ ticks T
  | [] => Nat.le_refl _
  | .tick :: r => Nat.succ_le_succ (first_le r)
  | .found _ :: r => Nat.zero_le _
theorem run_first {bud : Nat} : ∀ (T : List Ev) (sp : Nat), sp ≤ bud → (fulls T = [] → (sp + ticks T ≤ bud → runE bud false T sp [] = .go (sp + ticks T) []) ∧ (bud < sp + ticks T → runE bud false T sp [] = .stop 3 bud [])) ∧
    (∀ x r, fulls T = x :: r → (sp + firstAtE T ≤ bud → runE bud false T sp [] = .stop 0 (sp + firstAtE T) [x]) ∧ (bud < sp + firstAtE T → runE bud false T sp [] = .stop 3 bud []))
  | [], sp, h => ⟨fun _ => ⟨fun _ => by simp [runE, ticks], fun h2 => by simp only [ticks] at h2; omega⟩, fun x r h => by simp [fulls] at h⟩
  | .tick :: r, sp, h => by
    simp only [runE, ticks, fulls, firstAtE]
    by_cases he : sp = bud
    · rw [if_pos he]
      exact ⟨fun _ => ⟨fun h2 => by omega, fun _ => by rw [he]⟩, fun x r _ => ⟨fun h2 => by omega, fun _ => by rw [he]⟩⟩
    · rw [if_neg he]
      obtain ⟨h1, h2⟩ := run_first (bud := bud) r (sp + 1) (by omega)
      have e : sp + 1 + ticks r = sp + (ticks r + 1) := by omega
      have e' : sp + 1 + firstAtE r = sp + (firstAtE r + 1) := by omega
      rw [e] at h1; rw [e'] at h2
      exact ⟨h1, h2⟩
  | .found l :: r, sp, h => by
    simp only [runE, ticks, fulls, firstAtE, Bool.false_eq_true, if_false]
    refine ⟨fun h => by simp at h, fun x r' h2 => ?_⟩
    obtain ⟨rfl, _⟩ := List.cons.inj h2
    exact ⟨fun _ => rfl, fun h3 => by omega⟩
def okD (p : Pl) (l : Lst) : Bool := decide (dmA l p < 0)
def trP (p : Pl) : List Ev := trace (fun l => fullC l p) (fun l m => extL l p m) (fun l => chs l p) (okD p) (fuelN p) []
theorem run_tr (p : Pl) (most : Int) (all : Bool) : runP p most all = runE most.toNat all (trP p) 0 [] := exam_trace _ _ _ _ _ _ _ _ _
theorem trP_first (p : Pl) : ∀ x r, fulls (trP p) = x :: r → 1 ≤ firstAtE (trP p) := by
  intro x r h
  unfold trP fuelN trace at h ⊢
  rw [full_nil] at h ⊢
  simp only [Bool.false_eq_true, if_false] at h ⊢
  cases hc : chs [] p with
  | nil => rw [hc] at h; simp [fulls] at h
  | cons m ms => simp only [List.flatMap_cons, List.cons_append, firstAtE]; omega
theorem argE_of {p : Pl} {most : Int} (h0 : checkP p = 0) (h1 : 0 ≤ most) (h2 : most ≤ 1073741824) : argE p most = 0 := by
  unfold argE; rw [if_pos h0, if_neg (by omega)]
theorem count_tr {p : Pl} {most : Int} (h0 : checkP p = 0) (h1 : 0 ≤ most) (h2 : most ≤ 1073741824) :
    ((ticks (trP p) : Int) ≤ most → countN p most = (fulls (trP p)).length ∧ countE p most = 0) ∧ (most < (ticks (trP p) : Int) → countN p most = 0 ∧ countE p most = 3) := by
  have hA := argE_of h0 h1 h2
  obtain ⟨a1, a2⟩ := run_all (bud := most.toNat) (trP p) 0 [] (Nat.zero_le _)
  unfold countN countE
  rw [if_pos hA, run_tr]
  refine ⟨fun h => ?_, fun h => ?_⟩
  · rw [a1 (by omega), if_pos ⟨hA, rfl⟩]
    exact ⟨rfl, rfl⟩
  · obtain ⟨fs, e⟩ := a2 (by omega)
    rw [e, if_neg (fun h => by simp [Sr.e] at h)]
    exact ⟨rfl, rfl⟩
theorem plan_tr {p : Pl} {most : Int} (h0 : checkP p = 0) (h1 : 0 ≤ most) (h2 : most ≤ 1073741824) :
    (fulls (trP p) = [] → ((ticks (trP p) : Int) ≤ most → planF p most = ⟨[], 0, 320⟩) ∧ (most < (ticks (trP p) : Int) → planF p most = ⟨[], 0, 3⟩)) ∧
    (∀ x r, fulls (trP p) = x :: r → ((firstAtE (trP p) : Int) ≤ most → planF p most = ⟨x, firstAtE (trP p), 0⟩) ∧ (most < (firstAtE (trP p) : Int) → planF p most = ⟨[], 0, 3⟩)) := by
  have hA := argE_of h0 h1 h2
  obtain ⟨a1, a2⟩ := run_first (bud := most.toNat) (trP p) 0 (Nat.zero_le _)
  unfold planF
  rw [if_pos hA, run_tr]
  refine ⟨fun h => ⟨fun h3 => ?_, fun h3 => ?_⟩, fun x r h => ⟨fun h3 => ?_, fun h3 => ?_⟩⟩
  · rw [(a1 h).1 (by omega)]; rfl
  · rw [(a1 h).2 (by omega)]; rfl
  · rw [(a2 x r h).1 (by omega), Nat.zero_add]; rfl
  · rw [(a2 x r h).2 (by omega)]; rfl
theorem dmA_neg {l : Lst} {p : Pl} : dmA l p < 0 ↔ checkP p = 0 ∧ PartP l p ∧ ∀ d ∈ p.demands, doomsF (pR l p) d = false := by
  unfold dmA
  by_cases h : checkP p = 0 ∧ PartP l p
  · rw [if_pos h]
    refine ⟨fun hh => ⟨h.1, h.2, fun d hd => ?_⟩, fun hh => ?_⟩
    · rcases doomL_head (pR l p) p with ⟨_, h2⟩ | h2
      · obtain ⟨a, ha, rfl⟩ := List.getElem_of_mem hd
        cases he : doomsF (pR l p) p.demands[a] with
        | false => rfl
        | true =>
          have : (a : Int) ∈ doomL (pR l p) p := doomL_mem.2 ⟨a, ha, rfl, he⟩
          rw [h2] at this; simp at this
      · obtain ⟨a, ha, e, _⟩ := doomL_mem.1 h2
        omega
    · rcases doomL_head (pR l p) p with ⟨h1, _⟩ | h2
      · omega
      · obtain ⟨a, ha, _, hd⟩ := doomL_mem.1 h2
        rw [hh.2.2 _ (List.getElem_mem ha)] at hd; cases hd
  · rw [if_neg h]
    exact ⟨fun hh => by omega, fun hh => absurd ⟨hh.1, hh.2.1⟩ h⟩
theorem trace_sub {full : Lst → Bool} {ext : Lst → Mt → Lst} {ch : Lst → List Mt} {ok ok' : Lst → Bool} (h : ∀ l, ok l = true → ok' l = true) : ∀ (n : Nat) (l : Lst), (trace full ext ch ok n l).Sublist (trace full ext ch ok' n l)
  | 0, l => .slnil
  | n + 1, l => by
    unfold trace
    split
    · exact List.Sublist.refl _
    · generalize ch l = ms
      induction ms with
      | nil => exact .slnil
      | cons m ms ih =>
        rw [List.flatMap_cons, List.flatMap_cons]
        refine List.Sublist.append (.cons_cons _ ?_) ih
        split
        · rename_i ho
          rw [if_pos (h _ ho)]; exact trace_sub h n _
        · exact List.nil_sublist _
theorem fulls_sub {a b : List Ev} (h : a.Sublist b) : (fulls a).Sublist (fulls b) := by
  induction h with
  | slnil => exact .slnil
  | cons e h ih => cases e with
    | tick => exact ih
    | found l => exact .cons _ ih
  | cons_cons e h ih => cases e with
    | tick => exact ih
    | found l => exact .cons_cons _ ih
theorem tr_fewer {p : Pl} {ds : List Dm} (hx : checkP ⟨p.clubs, p.double, ds⟩ = 0) (hd : ∀ d ∈ ds, d ∈ p.demands) : (trP p).Sublist (trP ⟨p.clubs, p.double, ds⟩) :=
  trace_sub (ok := okD p) (ok' := okD ⟨p.clubs, p.double, ds⟩) (fun l h => decide_eq_true (dmA_neg.2 (by
    obtain ⟨h1, h2, h3⟩ := dmA_neg.1 (of_decide_eq_true h)
    exact ⟨hx, h2, fun d hd' => h3 d (hd d hd')⟩))) _ _
theorem tr_same {p : Pl} {ds : List Dm} (h0 : checkP p = 0) (hx : checkP ⟨p.clubs, p.double, ds⟩ = 0) (hd : ∀ d, d ∈ ds ↔ d ∈ p.demands) : trP p = trP ⟨p.clubs, p.double, ds⟩ := by
  have e : okD p = okD ⟨p.clubs, p.double, ds⟩ := funext fun l => decide_eq_decide.2 (by
    rw [dmA_neg, dmA_neg]
    exact ⟨fun ⟨_, h2, h3⟩ => ⟨hx, h2, fun d hd' => h3 d ((hd d).1 hd')⟩, fun ⟨_, h2, h3⟩ => ⟨h0, h2, fun d hd' => h3 d ((hd d).2 hd')⟩⟩)
  show trace _ _ _ (okD p) _ _ = trace _ _ _ _ _ _
  rw [e]; rfl
theorem check_of {p : Pl} {ds : List Dm} (h0 : checkP p = 0) (hl : ds.length ≤ 128) (hd : ∀ d ∈ ds, validF p d = true) : checkP ⟨p.clubs, p.double, ds⟩ = 0 := by
  have hf := checkP_field h0
  unfold checkP
  rw [if_pos hf, if_pos hl]
  exact if_pos (List.all_eq_true.2 hd)
theorem trace_filter {full : Lst → Bool} {ext : Lst → Mt → Lst} {ch : Lst → List Mt} {ok ok' good : Lst → Bool} {Q : Lst → Prop} (hQ : ∀ l m, Q l → ok (ext l m) = true → Q (ext l m)) (hok : ∀ l, ok' l = (ok l && good l))
    (hmono : ∀ l m, Q l → ok (ext l m) = true → good l = false → good (ext l m) = false) : ∀ (n : Nat) (l : Lst), Q l →
    (good l = true → fulls (trace full ext ch ok' n l) = (fulls (trace full ext ch ok n l)).filter good) ∧ (good l = false → (fulls (trace full ext ch ok n l)).filter good = [])
  | 0, l, _ => ⟨fun _ => rfl, fun _ => rfl⟩
  | n + 1, l, h => by
    unfold trace
    split
    · exact ⟨fun hg => by simp [fulls, hg], fun hg => by simp [fulls, hg]⟩
    · generalize ch l = ms
      induction ms with
      | nil => exact ⟨fun _ => rfl, fun _ => rfl⟩
      | cons m ms ih =>
        simp only [List.flatMap_cons, List.cons_append, fulls, fulls_append, List.filter_append]
        refine ⟨fun hg => ?_, fun hg => ?_⟩
        · rw [ih.1 hg]
          congr 1
          rw [hok]
          by_cases ho : ok (ext l m) = true
          · rw [if_pos ho, ho, Bool.true_and]
            have h2 := trace_filter (full := full) (ch := ch) hQ hok hmono n (ext l m) (hQ l m h ho)
            by_cases hgm : good (ext l m) = true
            · rw [if_pos hgm]; exact h2.1 hgm
            · rw [if_neg hgm, h2.2 (by simpa using hgm)]; rfl
          · rw [if_neg ho, if_neg (by simp [ho])]; rfl
        · rw [ih.2 hg, List.append_nil]
          by_cases ho : ok (ext l m) = true
          · rw [if_pos ho]
            exact (trace_filter hQ hok hmono n (ext l m) (hQ l m h ho)).2 (hmono l m h ho hg)
          · rw [if_neg ho]; rfl
theorem part_ne {l : Lst} {p : Pl} (h : PartP l p) {r : List Mt} (hr : r ∈ l) : 0 < r.length := by
  obtain ⟨i, hi, rfl⟩ := List.getElem_of_mem hr
  have := (h.2 i hi).1; omega
theorem ext_beg {l : Lst} {p : Pl} (h : PartP l p) (m : Mt) : Beg l (extL l p m) := by
  unfold extL
  rcases openR_spec l p with ⟨h1, h2⟩ | ⟨h1, r, h2, h3, h4, h5⟩
  · rw [h1, h2, if_pos rfl]
    have := beg_take l.length (l ++ [[] ++ [m]])
    rwa [List.take_left' rfl] at this
  · rw [h1, h3]
    have hr := part_ne h (List.mem_of_getLast? h2)
    have hlt : l.dropLast.length < (l.dropLast ++ [r ++ [m]]).length := by simp
    have := beg_take1 l.dropLast.length (l.dropLast ++ [r ++ [m]]) hlt r.length hr
    rw [List.take_left' rfl, List.getElem_append_right (Nat.le_refl _)] at this
    simp only [Nat.sub_self, List.getElem_cons_zero, List.take_left' rfl] at this
    rw [← h5] at this
    exact this
theorem step_dooms {l : Lst} {p : Pl} {m : Mt} {d : Dm} (hs : Small [] p) (h0 : checkP p = 0) (hl : PartP l p) (he : PartP (extL l p m) p) (hd : doomsF (pR l p) d = true) : doomsF (pR (extL l p m) p) d = true :=
  dooms_mono ((ext_beg hl m).rnds (part_rnds (part_small hs (fewlen h0) hl m).2 h0 he)) hd
theorem tr_more {p : Pl} {d : Dm} (hs : Small [] p) (h0 : checkP p = 0) (hx : checkP ⟨p.clubs, p.double, p.demands ++ [d]⟩ = 0) (hg : doomsF [] d = false) :
    fulls (trP ⟨p.clubs, p.double, p.demands ++ [d]⟩) = (fulls (trP p)).filter fun l => !doomsF (pR l p) d :=
  (trace_filter (ok := okD p) (ok' := okD ⟨p.clubs, p.double, p.demands ++ [d]⟩) (good := fun l => !doomsF (pR l p) d) (Q := fun l => PartP l p) (fun l m _ ho => (dmA_part (of_decide_eq_true ho)).2) (fun l => by
    rw [Bool.eq_iff_iff, Bool.and_eq_true, Bool.not_eq_true']
    unfold okD
    rw [decide_eq_true_eq, decide_eq_true_eq, dmA_neg, dmA_neg]
    constructor
    · rintro ⟨_, h2, h3⟩
      exact ⟨⟨h0, h2, fun e he => h3 e (List.mem_append_left _ he)⟩, h3 d (by simp)⟩
    · rintro ⟨⟨_, h2, h3⟩, h4⟩
      refine ⟨hx, h2, fun e he => ?_⟩
      rcases List.mem_append.1 he with he | he
      · exact h3 e he
      · rw [List.mem_singleton.1 he]; exact h4) (fun l m hl ho hgd => by
    have he := (dmA_part (of_decide_eq_true ho)).2
    rw [Bool.not_eq_false'] at hgd ⊢
    exact step_dooms hs h0 hl he hgd) _ _ (part_nil p)).1 (by show (!doomsF [] d) = true; rw [hg]; rfl)
end Go.Proofs.Ytjknhbfcdjjbhaa
namespace Go.Proofs.Ytjknhbfcdjjbhaa
open Go.Tidy
set_option maxRecDepth 100000
set_option linter.unusedSimpArgs false
set_option linter.unusedVariables false
theorem full_of {x : Lst} {p : Pl} (hP : PartP x p) (hf : fullC x p = true) : FullP x p := by
  unfold fullC at hf
  rw [Bool.and_eq_true] at hf
  refine ⟨hP, of_decide_eq_true hf.1, fun r hr => ?_⟩
  have h2 := hf.2
  rw [hr] at h2
  exact Nat.le_of_eq (of_decide_eq_true h2).symm
theorem fulls_mem {p : Pl} {x : Lst} (hx : x ∈ fulls (trP p)) : FullP x p ∧ dmA x p < 0 := by
  have e := (run_all (bud := ticks (trP p)) (trP p) 0 [] (Nat.zero_le _)).1 (by omega)
  obtain ⟨h1, h2, h3⟩ := run_mem (p := p) (most := (ticks (trP p) : Int)) (all := true) (x := x) (by rw [run_tr, Int.toNat_natCast, e]; simpa [Sr.fs] using hx)
  exact ⟨full_of h1 h3, h2⟩
theorem fulls_small {p : Pl} (hs : Small [] p) {x : Lst} (hx : x ∈ fulls (trP p)) : Small x p := by
  obtain ⟨h1, h2⟩ := fulls_mem hx
  exact (part_small hs (fewlen (dmA_part h2).1) h1.1 ⟨0, 0⟩).1
theorem fulls_brk {p : Pl} {x : Lst} (hx : x ∈ fulls (trP p)) : brkE x p = 0 ∧ brkL x p = [] := by
  obtain ⟨h1, h2⟩ := fulls_mem hx
  obtain ⟨h3, h4, h5⟩ := dmA_neg.1 h2
  unfold brkE brkL
  rw [if_pos h3, if_pos h1, if_pos ⟨h3, h1⟩]
  refine ⟨rfl, ?_⟩
  rw [List.eq_nil_iff_forall_not_mem]
  intro a ha
  obtain ⟨i, hi, _, hd⟩ := doomL_mem.1 ha
  rw [h5 _ (List.getElem_mem hi)] at hd; cases hd
theorem fulls_holds {p : Pl} {x : Lst} (hs : Small [] p) (hx : x ∈ fulls (trP p)) {d : Dm} (hd : d ∈ p.demands) : holdsF x d = true := by
  obtain ⟨h1, h2⟩ := fulls_mem hx
  obtain ⟨h3, h4, h5⟩ := dmA_neg.1 h2
  rw [full_holds (fulls_small hs hx).hr h1 (checkP_valid h3 d hd), h5 d hd]; rfl
def dmK (k c r : Int) : Dm := ⟨k, c, 0, r, 0, []⟩
theorem state3 {c : Int} : ∀ l : List Mt, stateF l (fun _ => true) c = 1 ∨ stateF l (fun _ => true) c = -1 ∨ stateF l (fun _ => true) c = 0
  | [] => .inr (.inr rfl)
  | m :: l => by
    rw [stateF]
    split
    · exact .inl rfl
    · split
      · exact .inr (.inl rfl)
      · exact state3 l
theorem one_of {x : Lst} {p : Pl} {c r : Int} (hs : Small x p) (hF : FullP x p) (hr : 0 ≤ r ∧ r < roundsN p) :
    (doomsF (pR x p) (dmK 1 c r) = false ∧ doomsF (pR x p) (dmK 2 c r) = true ∧ doomsF (pR x p) (dmK 3 c r) = true) ∨ (doomsF (pR x p) (dmK 1 c r) = true ∧ doomsF (pR x p) (dmK 2 c r) = false ∧ doomsF (pR x p) (dmK 3 c r) = true) ∨
    (doomsF (pR x p) (dmK 1 c r) = true ∧ doomsF (pR x p) (dmK 2 c r) = true ∧ doomsF (pR x p) (dmK 3 c r) = false) := by
  rw [← full_dooms hs.hr hF (d := dmK 1 c r) ⟨(by decide : (1 : Int) ≤ 1), (by decide : (1 : Int) ≤ 10)⟩, ← full_dooms hs.hr hF (d := dmK 2 c r) ⟨(by decide : (1 : Int) ≤ 2), (by decide : (2 : Int) ≤ 10)⟩, ← full_dooms hs.hr hF (d := dmK 3 c r) ⟨(by decide : (1 : Int) ≤ 3), (by decide : (3 : Int) ≤ 10)⟩]
  have hlt : r.toNat < x.length := by rw [hF.2.1]; omega
  have hat : roundAt (x.map hRnd) r = hRnd x[r.toNat] := by
    unfold roundAt
    rw [dif_pos (by rw [List.length_map]; omega)]
    exact List.getElem_map ..
  have e : ∀ k w : Int, doesF (x.map hRnd) w (dmK k c r) = (!decide (stateF x[r.toNat] (fun _ => true) c = 2) && !decide (stateF x[r.toNat] (fun _ => true) c = w)) := fun k w => by
    show (!decide (stR (roundAt (x.map hRnd) r) c = 2) && !decide (stR (roundAt (x.map hRnd) r) c = w)) = _
    rw [hat]
    unfold hRnd
    rw [dif_pos (hs.hr _ (List.getElem_mem hlt))]
    rfl
  have e1 : doomsF (x.map hRnd) (dmK 1 c r) = doesF (x.map hRnd) 1 (dmK 1 c r) := rfl
  have e2 : doomsF (x.map hRnd) (dmK 2 c r) = doesF (x.map hRnd) (-1) (dmK 2 c r) := rfl
  have e3 : doomsF (x.map hRnd) (dmK 3 c r) = doesF (x.map hRnd) 0 (dmK 3 c r) := rfl
  rw [e1, e2, e3, e, e, e]
  rcases state3 (c := c) x[r.toNat] with h | h | h <;> rw [h] <;> decide
theorem nil_doom (c r : Int) : doomsF [] (dmK 1 c r) = false ∧ doomsF [] (dmK 2 c r) = false ∧ doomsF [] (dmK 3 c r) = false := by
  have e : roundAt [] r = noRnd := by unfold roundAt; exact dif_neg (by simp)
  have h : ∀ k w : Int, doesF [] w (dmK k c r) = false := fun k w => by
    show (!decide (stR (roundAt [] r) c = 2) && !decide (stR (roundAt [] r) c = w)) = false
    rw [e]; rfl
  exact ⟨h 1 1, h 2 (-1), h 3 0⟩
theorem filter3 {α : Type} {f g h : α → Bool} : ∀ xs : List α, (∀ x ∈ xs, (f x = false ∧ g x = true ∧ h x = true) ∨ (f x = true ∧ g x = false ∧ h x = true) ∨ (f x = true ∧ g x = true ∧ h x = false)) →
    (xs.filter fun x => !f x).length + (xs.filter fun x => !g x).length + (xs.filter fun x => !h x).length = xs.length
  | [], _ => rfl
  | x :: xs, hh => by
    have ih := filter3 xs fun y hy => hh y (by simp [hy])
    rcases hh x (by simp) with ⟨h1, h2, h3⟩ | ⟨h1, h2, h3⟩ | ⟨h1, h2, h3⟩ <;> simp only [List.filter_cons, h1, h2, h3, Bool.not_false, Bool.not_true, Bool.false_eq_true, if_true, if_false, List.length_cons] <;> omega
theorem tr_splits {p : Pl} {c r : Int} (hs : Small [] p) (h0 : checkP p = 0) (hx : ∀ k : Int, k = 1 ∨ k = 2 ∨ k = 3 → checkP ⟨p.clubs, p.double, p.demands ++ [dmK k c r]⟩ = 0) :
    (fulls (trP ⟨p.clubs, p.double, p.demands ++ [dmK 1 c r]⟩)).length + (fulls (trP ⟨p.clubs, p.double, p.demands ++ [dmK 2 c r]⟩)).length + (fulls (trP ⟨p.clubs, p.double, p.demands ++ [dmK 3 c r]⟩)).length = (fulls (trP p)).length := by
  have hr : 0 ≤ r ∧ r < roundsN p := by
    have hv := checkP_valid (hx 1 (.inl rfl)) (dmK 1 c r) (List.mem_append_right _ (List.mem_singleton.2 rfl))
    exact valid_round hv (by decide : (1 : Int) ≤ 4)
  rw [tr_more hs h0 (hx 1 (.inl rfl)) (nil_doom c r).1, tr_more hs h0 (hx 2 (.inr (.inl rfl))) (nil_doom c r).2.1, tr_more hs h0 (hx 3 (.inr (.inr rfl))) (nil_doom c r).2.2]
  exact filter3 _ fun x hxm => one_of (fulls_small hs hxm) (fulls_mem hxm).1 hr
end Go.Proofs.Ytjknhbfcdjjbhaa
namespace Go.Proofs.Ytjknhbfcdjjbhaa
open Go.Tidy
set_option maxRecDepth 100000
set_option linter.unusedSimpArgs false
set_option linter.unusedVariables false
theorem part_fixE {l : Lst} {p : Pl} (h0 : checkP p = 0) (hP : PartP l p) : fixE l p.clubs = 0 := by
  have hf := checkP_field h0
  have hn : p.clubs.length ≤ 24 := by simp only [fieldOk, Bool.and_eq_true, decide_eq_true_eq] at hf; omega
  have hl := hP.1
  have h46 : l.length ≤ 46 := by
    have : roundsN p ≤ 46 := by unfold roundsN; split <;> omega
    omega
  have hfix : FixP l p.clubs := fun i hi k hk => by
    obtain ⟨h1, h2, h3, h4, h5, h6, _⟩ := (hP.2 i hi).2.2.2.1 k hk
    exact ⟨h1, h6, h2, h3, h4, h5⟩
  unfold fixE; rw [if_pos hf, if_pos h46, if_pos hfix]
theorem prIn_nodup {c : Int} : ∀ {os : List Int}, os.Pairwise (· < ·) → (∀ o ∈ os, c < o) → (prIn c os).Nodup
  | [], _, _ => .nil
  | o :: os, hp, hc => by
    obtain ⟨h1, hp⟩ := List.pairwise_cons.1 hp
    have hco := hc o (by simp)
    have ih := prIn_nodup hp fun x hx => hc x (by simp [hx])
    rw [prIn, List.nodup_cons, List.nodup_cons, List.mem_cons, prIn_mem, prIn_mem]
    refine ⟨?_, ?_, ih⟩
    · rintro (h | ⟨x, hx, h | h⟩)
      · have := congrArg Mt.home h; simp at this; omega
      · have := congrArg Mt.away h; have := h1 x hx; simp at *; omega
      · have := congrArg Mt.home h; have := hc x (by simp [hx]); simp at *; omega
    · rintro ⟨x, hx, h | h⟩
      · have := congrArg Mt.home h; simp at this; omega
      · have := congrArg Mt.home h; have := h1 x hx; simp at *; omega
theorem prs_nodup : ∀ {cs : List Int}, cs.Pairwise (· < ·) → (prs cs).Nodup
  | [], _ => .nil
  | c :: cs, hp => by
    obtain ⟨hc, hp'⟩ := List.pairwise_cons.1 hp
    rw [prs, List.nodup_append]
    refine ⟨prIn_nodup hp' hc, prs_nodup hp', fun a ha b hb e => ?_⟩
    subst e
    obtain ⟨x, y, hx, hy, hxy, hf, _⟩ := prs_mem hp' hb
    obtain ⟨o, ho, h⟩ := prIn_mem.1 ha
    have h1 := hc x hx
    have h2 : firstM a = c := by
      rcases h with rfl | rfl
      · exact (firstM_lt (hc o ho)).1
      · exact (firstM_lt (hc o ho)).2
    omega
theorem sorted_of {p : Pl} (h0 : checkP p = 0) : p.clubs.Pairwise (· < ·) := by
  have hp := checkP_field h0
  simp only [fieldOk, Bool.and_eq_true, decide_eq_true_eq] at hp
  exact incr_lt hp.1.1
theorem chs_nodup {l : Lst} {p : Pl} (h0 : checkP p = 0) (hP : PartP l p) : (chs l p).Nodup := by
  rw [chs_eq h0 hP]
  unfold rchs
  split
  · exact (prs_nodup (sorted_of h0)).filter _
  · exact .nil
theorem ch_mem {l : Lst} {p : Pl} (h0 : checkP p = 0) (hP : PartP l p) {m : Mt} (hm : m ∈ chs l p) : PartP (extL l p m) p := by
  rw [chs_eq h0 hP] at hm
  unfold rchs at hm
  split at hm
  · rename_i hx
    have := of_decide_eq_true (List.mem_filter.1 hm).2
    rw [ext_eq hx] at this
    exact (PartP_iff _ _ (checkP_field h0)).2 this
  · simp at hm
theorem full_chs {l : Lst} {p : Pl} (h0 : checkP p = 0) (hP : PartP l p) (hf : fullB l p.clubs p.double = true) : chs l p = [] := by
  have hinc := sorted_of h0
  have hX : FullX l.flatten p.clubs p.double := by
    unfold fullB at hf
    split at hf
    · rename_i h; exact h.2
    · cases hf
  rw [List.eq_nil_iff_forall_not_mem]
  intro m hm
  unfold chs at hm
  split at hm
  · rw [chOut_eq _ _ _ _ _ hinc] at hm
    obtain ⟨h1, h2⟩ := List.mem_filter.1 hm
    obtain ⟨a, b, ha, hb, hab, _, hm'⟩ := prs_mem hinc h1
    obtain ⟨_, _, h3, _⟩ := of_decide_eq_true h2
    obtain ⟨h4, h5⟩ := mem_taken.1 h3
    obtain ⟨j, hj, rfl⟩ := List.getElem_of_mem ha
    obtain ⟨i, hi, rfl⟩ := List.getElem_of_mem hb
    have hji : j < i := by
      refine Nat.lt_of_not_le fun h => ?_
      by_cases e : i = j
      · subst e; omega
      · have := List.pairwise_iff_getElem.1 hinc i j hi hj (by omega); omega
    have hg := hX i hi j hji
    unfold GamesP at hg
    cases hd : p.double with
    | true =>
      rw [hd, if_pos rfl] at hg
      rcases hm' with rfl | rfl
      · exact h4 hg.2
      · exact h4 hg.1
    | false =>
      rw [hd, if_neg (by decide)] at hg
      have h5 := h5 hd
      rcases hm' with rfl | rfl
      · exact h5 (hg.2 h4)
      · exact h4 (hg.2 h5)
  · simp at hm
theorem dmE_of {l : Lst} {p : Pl} (h0 : checkP p = 0) (hP : PartP l p) : dmE l p = 0 := by unfold dmE; rw [if_pos h0, if_pos hP]
end Go.Proofs.Ytjknhbfcdjjbhaa
