/-
  demands: conditions.
-/
import Derived.Test.YtjknhbfcdjjbhaaDemB
namespace Go.Proofs.Ytjknhbfcdjjbhaa
open Go.Tidy
set_option maxRecDepth 100000
set_option maxHeartbeats 0
set_option linter.unusedSimpArgs false
set_option linter.unusedVariables false
variable {L : List Blk} {k : V → List Blk → Prop}
structure Cnd (p : Pl) where
  f : FuncId
  caps : List D
  q : Dm → Bool
  ok : ∀ (d : Dm) (hd : d.clubs.length ≤ 4611686018427387904) (L : List Blk) (k : V → List Blk → Prop), k (B (q d)) L → CallP C f ([dmV d, plV p] ++ caps.map .d) L k
def cndsD {p : Pl} (fs : List (Cnd p)) : D := .sl (fs.map fun f => [.fn f.f f.caps])
def zeroF (d : Dm) : Bool := decide (d.club = 0 ∧ d.other = 0 ∧ d.round = 0 ∧ d.n = 0 ∧ d.clubs.length = 0)
theorem all_c (clr : FuncId) (fs : D) (h : k (.d (.fn 103 [.rptr [fs], .rptr [.fn clr []]])) L) : CallP C 65 [.d (.fn clr []), .d fs] L k := by
  refine CallP.pure ?_ rfl (fun _ => rfl) h
  clear h
  refine callP_of C_ok Try.func65 rfl rfl (n := _) rfl (Nat.le_of_ble_eq_true rfl) (rs := _) rfl ?_
  repeat' (conv => whnf
           first | refine Br.tt ?_ | refine Br.ff ?_ | refine Br.dec (fun h => ?_) (fun h => ?_) | refine Br.not ?_ | refine Br.intro (fun h => ?_) (fun h => ?_) | refine GetE.intro _ rfl ?_ | refine Need.intro rfl ?_ | refine DrawP.go mixed rfl ?_)
  conv => whnf
  exact FinP.data (L' := []) (.d (.fnL (.cons (.ptrL (Nat.zero_le _) rfl (.cons (.d _) .nil)) (.cons (.ptrL (Nat.zero_le _) rfl (.cons (.d _) .nil)) .nil)))) rfl rfl ⟨rfl, rfl⟩
theorem within_c (a b : Int) (h : k (.d (.fn 104 [.rptr [DI a], .rptr [DI b]])) L) : CallP C 72 [I a, I b] L k := by
  refine CallP.pure ?_ rfl (fun _ => rfl) h
  clear h
  refine callP_of C_ok Try.func72 rfl rfl (n := _) rfl (Nat.le_of_ble_eq_true rfl) (rs := _) rfl ?_
  repeat' (conv => whnf
           first | refine Br.tt ?_ | refine Br.ff ?_ | refine Br.dec (fun h => ?_) (fun h => ?_) | refine Br.not ?_ | refine Br.intro (fun h => ?_) (fun h => ?_) | refine GetE.intro _ rfl ?_ | refine Need.intro rfl ?_ | refine DrawP.go mixed rfl ?_)
  conv => whnf
  exact FinP.data (L' := []) (.d (.fnL (.cons (.ptrL (Nat.zero_le _) rfl (.cons (.d _) .nil)) (.cons (.ptrL (Nat.zero_le _) rfl (.cons (.d _) .nil)) .nil)))) rfl rfl ⟨rfl, rfl⟩
theorem does_c (a : Int) (h : k (.d (.fn 105 [.rptr [DI a]])) L) : CallP C 73 [I a] L k := by
  refine CallP.pure ?_ rfl (fun _ => rfl) h
  clear h
  refine callP_of C_ok Try.func73 rfl rfl (n := _) rfl (Nat.le_of_ble_eq_true rfl) (rs := _) rfl ?_
  repeat' (conv => whnf
           first | refine Br.tt ?_ | refine Br.ff ?_ | refine Br.dec (fun h => ?_) (fun h => ?_) | refine Br.not ?_ | refine Br.intro (fun h => ?_) (fun h => ?_) | refine GetE.intro _ rfl ?_ | refine Need.intro rfl ?_ | refine DrawP.go mixed rfl ?_)
  conv => whnf
  exact FinP.data (L' := []) (.d (.fnL (.cons (.ptrL (Nat.zero_le _) rfl (.cons (.d _) .nil)) .nil))) rfl rfl ⟨rfl, rfl⟩
structure FarA {p : Pl} (fs : List (Cnd p)) (d : Dm) where
  i : Nat
  le : i ≤ fs.length
  ok : ∀ (j : Nat) (hj : j < fs.length), j < i → (fs[j]).q d = true
theorem all1_c (p : Pl) (clr : FuncId) (c : Dm → Dm) (hc : ∀ d : Dm, CallP C clr [.ptr 0 0] [.cells (d.cells.map .d)] fun X L' => L' = [.cells ((c d).cells.map .d)] ∧ X = .tup []) (fs : List (Cnd p)) (hl : fs.length ≤ 4611686018427387904) (d : Dm) (hd : d.clubs.length ≤ 4611686018427387904)
    (h : k (B ((fs.all fun f => f.q d) && zeroF (c { d with kind := 0 }))) L) : CallP C 103 [dmV d, plV p, .d (.rptr [cndsD fs]), .d (.rptr [.fn clr []])] L k := by
  refine CallP.pure ?_ rfl (fun _ => rfl) h
  clear h
  refine callP_of C_ok Try.func103 rfl rfl (n := _) rfl (Nat.le_of_ble_eq_true rfl) (rs := _) rfl ?_
  conv => whnf
  refine LoopP.intro (ι := FarA fs d) (fun s => ⟨[(3, .d (.rptr [.fn clr []])), (4, .ptr 0 0), (5, .ptr 1 0), (9, .d (cndsD fs)), (10, I fs.length), (11, I s.i)], Try.f103.ntmps, [.cells (d.cells.map .d), .cells (p.cells.map .d)], [], none⟩) (fun s => fs.length - s.i) ⟨0, Nat.zero_le _, fun j _ h => absurd h (Nat.not_lt_zero j)⟩ ?_ ?_
  · exact Weak.by ⟨rfl, rfl, rfl, rfl, congrArg I (by simp), rfl, trivial⟩
  intro s
  conv => whnf
  refine Br.dec (fun h => ?_) (fun h => ?_)
  · have hi : s.i < fs.length := by simpa using h
    repeat' (conv => whnf
             first | refine Br.tt ?_ | refine Br.ff ?_ | refine Br.dec (fun h => ?_) (fun h => ?_) | refine Br.not ?_ | refine Br.intro (fun h => ?_) (fun h => ?_) | refine GetE.intro _ rfl ?_ | refine Need.intro rfl ?_ | refine DrawP.go mixed rfl ?_ | refine Idx.map s.i rfl hi ?_ | refine (fs[s.i]).ok d hd _ _ ?_ | refine QCall.intro _ ((fs[s.i]).ok d hd _ _ ⟨rfl, rfl⟩) ?_)
    all_goals conv => whnf
    · exact ⟨⟨s.i + 1, hi, fun j hj hji => by
        by_cases e : j = s.i
        · subst e; exact h
        · exact s.ok j hj (by omega)⟩, by simp only []; omega, Weak.by ⟨rfl, rfl, rfl, rfl, rfl, congrArg I (by rw [wrap_in (by omega)]; simp only []; omega), trivial⟩⟩
    · have hno : (fs.all fun f => f.q d) = false := by
        rw [List.all_eq_false]; exact ⟨fs[s.i], List.getElem_mem hi, by simp [h]⟩
      exact FinP.drop (n := 0) rfl (Nat.le_refl 0) rfl rfl ⟨rfl, congrArg B (by rw [hno]; rfl)⟩
  · have hi : ¬ s.i < fs.length := by simpa using h
    have hall : (fs.all fun f => f.q d) = true := List.all_eq_true.2 fun f hf => by
      obtain ⟨j, hj, rfl⟩ := List.getElem_of_mem hf
      exact s.ok j hj (by omega)
    have hgo : ∀ b, b = zeroF (c { d with kind := 0 }) → b = ((fs.all fun f => f.q d) && zeroF (c { d with kind := 0 })) := fun b hb => by rw [hall, hb]; rfl
    repeat' (conv => whnf
             first | refine Br.tt ?_ | refine Br.ff ?_ | refine Br.dec (fun h => ?_) (fun h => ?_) | refine Br.not ?_ | refine Br.intro (fun h => ?_) (fun h => ?_) | refine GetE.intro _ rfl ?_ | refine Need.intro rfl ?_ | refine DrawP.go mixed rfl ?_)
    conv => whnf
    refine (hc { d with kind := 0 }).at1 (b := 0) rfl rfl rfl rfl ?_ rfl rfl rfl
    generalize c { d with kind := 0 } = e at hgo
    repeat' (conv => whnf
             first | refine Br.tt ?_ | refine Br.ff ?_ | refine Br.dec (fun h => ?_) (fun h => ?_) | refine Br.not ?_ | refine Br.intro (fun h => ?_) (fun h => ?_) | refine GetE.intro _ rfl ?_ | refine Need.intro rfl ?_ | refine DrawP.go mixed rfl ?_)
    all_goals conv => whnf
    all_goals refine FinP.drop (n := 0) rfl (Nat.le_refl 0) rfl rfl ⟨rfl, congrArg B (hgo _ ?_)⟩
    all_goals unfold zeroF
    all_goals first | exact (decide_eq_false (fun hh => by omega)).symm | exact decide_eq_decide.2 (by simp only [List.length_map]; omega)
def nilC (d : Dm) : List V := [I d.kind, I d.club, I d.other, I d.round, I d.n, .nil]
theorem all1n_c (p : Pl) (clr : FuncId) (c : Dm → Dm) (hc : ∀ d : Dm, CallP C clr [.ptr 0 0] [.cells (d.cells.map .d)] fun X L' => L' = [.cells (nilC (c d))] ∧ X = .tup []) (hn : ∀ d, (c d).clubs = []) (fs : List (Cnd p)) (hl : fs.length ≤ 4611686018427387904) (d : Dm) (hd : d.clubs.length ≤ 4611686018427387904)
    (h : k (B ((fs.all fun f => f.q d) && zeroF (c { d with kind := 0 }))) L) : CallP C 103 [dmV d, plV p, .d (.rptr [cndsD fs]), .d (.rptr [.fn clr []])] L k := by
  refine CallP.pure ?_ rfl (fun _ => rfl) h
  clear h
  refine callP_of C_ok Try.func103 rfl rfl (n := _) rfl (Nat.le_of_ble_eq_true rfl) (rs := _) rfl ?_
  conv => whnf
  refine LoopP.intro (ι := FarA fs d) (fun s => ⟨[(3, .d (.rptr [.fn clr []])), (4, .ptr 0 0), (5, .ptr 1 0), (9, .d (cndsD fs)), (10, I fs.length), (11, I s.i)], Try.f103.ntmps, [.cells (d.cells.map .d), .cells (p.cells.map .d)], [], none⟩) (fun s => fs.length - s.i) ⟨0, Nat.zero_le _, fun j _ h => absurd h (Nat.not_lt_zero j)⟩ ?_ ?_
  · exact Weak.by ⟨rfl, rfl, rfl, rfl, congrArg I (by simp), rfl, trivial⟩
  intro s
  conv => whnf
  refine Br.dec (fun h => ?_) (fun h => ?_)
  · have hi : s.i < fs.length := by simpa using h
    repeat' (conv => whnf
             first | refine Br.tt ?_ | refine Br.ff ?_ | refine Br.dec (fun h => ?_) (fun h => ?_) | refine Br.not ?_ | refine Br.intro (fun h => ?_) (fun h => ?_) | refine GetE.intro _ rfl ?_ | refine Need.intro rfl ?_ | refine DrawP.go mixed rfl ?_ | refine Idx.map s.i rfl hi ?_ | refine (fs[s.i]).ok d hd _ _ ?_ | refine QCall.intro _ ((fs[s.i]).ok d hd _ _ ⟨rfl, rfl⟩) ?_)
    all_goals conv => whnf
    · exact ⟨⟨s.i + 1, hi, fun j hj hji => by
        by_cases e : j = s.i
        · subst e; exact h
        · exact s.ok j hj (by omega)⟩, by simp only []; omega, Weak.by ⟨rfl, rfl, rfl, rfl, rfl, congrArg I (by rw [wrap_in (by omega)]; simp only []; omega), trivial⟩⟩
    · have hno : (fs.all fun f => f.q d) = false := by
        rw [List.all_eq_false]; exact ⟨fs[s.i], List.getElem_mem hi, by simp [h]⟩
      exact FinP.drop (n := 0) rfl (Nat.le_refl 0) rfl rfl ⟨rfl, congrArg B (by rw [hno]; rfl)⟩
  · have hi : ¬ s.i < fs.length := by simpa using h
    have hall : (fs.all fun f => f.q d) = true := List.all_eq_true.2 fun f hf => by
      obtain ⟨j, hj, rfl⟩ := List.getElem_of_mem hf
      exact s.ok j hj (by omega)
    have hgo : ∀ b, b = zeroF (c { d with kind := 0 }) → b = ((fs.all fun f => f.q d) && zeroF (c { d with kind := 0 })) := fun b hb => by rw [hall, hb]; rfl
    repeat' (conv => whnf
             first | refine Br.tt ?_ | refine Br.ff ?_ | refine Br.dec (fun h => ?_) (fun h => ?_) | refine Br.not ?_ | refine Br.intro (fun h => ?_) (fun h => ?_) | refine GetE.intro _ rfl ?_ | refine Need.intro rfl ?_ | refine DrawP.go mixed rfl ?_)
    conv => whnf
    refine (hc { d with kind := 0 }).at1 (b := 0) rfl rfl rfl rfl ?_ rfl rfl rfl
    have hne := hn { d with kind := 0 }
    generalize c { d with kind := 0 } = e at hgo hne
    repeat' (conv => whnf
             first | refine Br.tt ?_ | refine Br.ff ?_ | refine Br.dec (fun h => ?_) (fun h => ?_) | refine Br.not ?_ | refine Br.intro (fun h => ?_) (fun h => ?_) | refine GetE.intro _ rfl ?_ | refine Need.intro rfl ?_ | refine DrawP.go mixed rfl ?_)
    all_goals conv => whnf
    all_goals refine FinP.drop (n := 0) rfl (Nat.le_refl 0) rfl rfl ⟨rfl, congrArg B (hgo _ ?_)⟩
    all_goals unfold zeroF
    all_goals have hlen : e.clubs.length = 0 := by rw [hne]; rfl
    all_goals first | exact (decide_eq_true (by omega)).symm | exact (decide_eq_false (fun hh => by omega)).symm | exact decide_eq_decide.2 (by simp only [List.length_map]; omega)
theorem clr1_c (d : Dm) : CallP C 66 [.ptr 0 0] [.cells (d.cells.map .d)] fun X L' => L' = [.cells (({ d with club := 0, round := 0 } : Dm).cells.map .d)] ∧ X = .tup [] := by
  refine callP_of C_ok Try.func66 rfl rfl (n := _) rfl (Nat.le_of_ble_eq_true rfl) (rs := _) rfl ?_
  repeat' (conv => whnf
           first | refine Br.tt ?_ | refine Br.ff ?_ | refine Br.dec (fun h => ?_) (fun h => ?_) | refine Br.not ?_ | refine Br.intro (fun h => ?_) (fun h => ?_) | refine GetE.intro _ rfl ?_ | refine Need.intro rfl ?_ | refine DrawP.go mixed rfl ?_ | refine FinP.drop (n := 1) rfl (Nat.le_refl 1) rfl rfl ⟨rfl, rfl⟩)
theorem clr2_c (d : Dm) : CallP C 69 [.ptr 0 0] [.cells (d.cells.map .d)] fun X L' => L' = [.cells (({ d with club := 0, other := 0, round := 0 } : Dm).cells.map .d)] ∧ X = .tup [] := by
  refine callP_of C_ok Try.func69 rfl rfl (n := _) rfl (Nat.le_of_ble_eq_true rfl) (rs := _) rfl ?_
  repeat' (conv => whnf
           first | refine Br.tt ?_ | refine Br.ff ?_ | refine Br.dec (fun h => ?_) (fun h => ?_) | refine Br.not ?_ | refine Br.intro (fun h => ?_) (fun h => ?_) | refine GetE.intro _ rfl ?_ | refine Need.intro rfl ?_ | refine DrawP.go mixed rfl ?_ | refine FinP.drop (n := 1) rfl (Nat.le_refl 1) rfl rfl ⟨rfl, rfl⟩)
theorem clr3_c (d : Dm) : CallP C 71 [.ptr 0 0] [.cells (d.cells.map .d)] fun X L' => L' = [.cells (({ d with club := 0, n := 0 } : Dm).cells.map .d)] ∧ X = .tup [] := by
  refine callP_of C_ok Try.func71 rfl rfl (n := _) rfl (Nat.le_of_ble_eq_true rfl) (rs := _) rfl ?_
  repeat' (conv => whnf
           first | refine Br.tt ?_ | refine Br.ff ?_ | refine Br.dec (fun h => ?_) (fun h => ?_) | refine Br.not ?_ | refine Br.intro (fun h => ?_) (fun h => ?_) | refine GetE.intro _ rfl ?_ | refine Need.intro rfl ?_ | refine DrawP.go mixed rfl ?_ | refine FinP.drop (n := 1) rfl (Nat.le_refl 1) rfl rfl ⟨rfl, rfl⟩)
theorem clr6_c (d : Dm) : CallP C 79 [.ptr 0 0] [.cells (d.cells.map .d)] fun X L' => L' = [.cells (nilC ({ d with clubs := [] } : Dm))] ∧ X = .tup [] := by
  refine callP_of C_ok Try.func79 rfl rfl (n := _) rfl (Nat.le_of_ble_eq_true rfl) (rs := _) rfl ?_
  repeat' (conv => whnf
           first | refine Br.tt ?_ | refine Br.ff ?_ | refine Br.dec (fun h => ?_) (fun h => ?_) | refine Br.not ?_ | refine Br.intro (fun h => ?_) (fun h => ?_) | refine GetE.intro _ rfl ?_ | refine Need.intro rfl ?_ | refine DrawP.go mixed rfl ?_ | refine FinP.drop (n := 1) rfl (Nat.le_refl 1) rfl rfl ⟨rfl, rfl⟩)
theorem clr8_c (d : Dm) : CallP C 83 [.ptr 0 0] [.cells (d.cells.map .d)] fun X L' => L' = [.cells (nilC ({ d with clubs := [], n := 0 } : Dm))] ∧ X = .tup [] := by
  refine callP_of C_ok Try.func83 rfl rfl (n := _) rfl (Nat.le_of_ble_eq_true rfl) (rs := _) rfl ?_
  repeat' (conv => whnf
           first | refine Br.tt ?_ | refine Br.ff ?_ | refine Br.dec (fun h => ?_) (fun h => ?_) | refine Br.not ?_ | refine Br.intro (fun h => ?_) (fun h => ?_) | refine GetE.intro _ rfl ?_ | refine Need.intro rfl ?_ | refine DrawP.go mixed rfl ?_ | refine FinP.drop (n := 1) rfl (Nat.le_refl 1) rfl rfl ⟨rfl, rfl⟩)
theorem clr10_c (d : Dm) : CallP C 85 [.ptr 0 0] [.cells (d.cells.map .d)] fun X L' => L' = [.cells (({ d with club := 0, other := 0, n := 0 } : Dm).cells.map .d)] ∧ X = .tup [] := by
  refine callP_of C_ok Try.func85 rfl rfl (n := _) rfl (Nat.le_of_ble_eq_true rfl) (rs := _) rfl ?_
  repeat' (conv => whnf
           first | refine Br.tt ?_ | refine Br.ff ?_ | refine Br.dec (fun h => ?_) (fun h => ?_) | refine Br.not ?_ | refine Br.intro (fun h => ?_) (fun h => ?_) | refine GetE.intro _ rfl ?_ | refine Need.intro rfl ?_ | refine DrawP.go mixed rfl ?_ | refine FinP.drop (n := 1) rfl (Nat.le_refl 1) rfl rfl ⟨rfl, rfl⟩)
end Go.Proofs.Ytjknhbfcdjjbhaa
