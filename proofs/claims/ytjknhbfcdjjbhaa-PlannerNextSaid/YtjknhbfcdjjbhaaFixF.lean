/-
  fixtures.Full.
-/
import Derived.Test.YtjknhbfcdjjbhaaFixE
namespace Go.Proofs.Ytjknhbfcdjjbhaa
open Go.Tidy
set_option maxRecDepth 100000
set_option maxHeartbeats 0
set_option linter.unusedSimpArgs false
set_option linter.unusedVariables false
variable {L : List Blk} {k : V → List Blk → Prop}
def GamesP (met : List Mt) (dbl : Bool) (a b : Int) : Prop := if dbl = true then (⟨a, b⟩ : Mt) ∈ met ∧ (⟨b, a⟩ : Mt) ∈ met else ((⟨a, b⟩ : Mt) ∈ met ↔ (⟨b, a⟩ : Mt) ∉ met)
def FullX (met : List Mt) (cs : List Int) (dbl : Bool) : Prop := ∀ (i : Nat) (hi : i < cs.length) (j : Nat) (hj : j < i), GamesP met dbl cs[i] (cs[j]'(by omega))
open Classical in
noncomputable def fullB (l : List (List Mt)) (cs : List Int) (dbl : Bool) : Bool := if fixE l cs = 0 ∧ FullX l.flatten cs dbl then true else false
theorem esM_sh (m : Nat) (ks : List Mt) : (Blk.map (esM ks)).sh m = .map (esM ks) := by
  rw [Blk.sh]
  refine congrArg Blk.map ?_
  induction ks with
  | nil => rfl
  | cons a ks ih => unfold esM at ih ⊢; rw [List.map_cons, shM, ih]; rfl
theorem lenC (cs : List Int) : ∀ e ∈ cs.map (fun n => [DI n]), e.length = 1 := by
  intro e he; obtain ⟨x, _, rfl⟩ := List.mem_map.1 he; rfl
def mapS (l : List (List Mt)) : List Blk := [.cells [.d (lisD l)], .map (esM l.flatten)]
theorem ffull_c (l : List (List Mt)) (cs : List Int) (dbl : Bool) (hl : l.length ≤ 1073741824) (hr : ∀ r ∈ l, r.length ≤ 4611686018427387904) (hcs : cs.length ≤ 4611686018427387904) (h : k (.tup [B (fullB l cs dbl), I (fixE l cs)]) L) :
    CallP C 22 [lisV l, .d (ints cs), B dbl] L k := by
  refine CallP.pure ?_ rfl (fun _ => rfl) h
  clear h
  refine callP_of C_ok Try.func22 rfl rfl (n := _) rfl (Nat.le_of_ble_eq_true rfl) (rs := _) rfl ?_
  conv => whnf
  refine CallP.frame (matches_c l cs hl hr hcs) rfl ?_
  rintro X L' (⟨e, rfl, rfl⟩ | ⟨e, rfl, rfl⟩)
  · have hf : fullB l cs dbl = false := by unfold fullB; exact if_neg fun h => e h.1
    rw [hf]
    repeat' (conv => whnf
             first | refine Br.yes (decide_eq_true e) ?_ | refine Br.no (decide_eq_false e) ?_ | refine Br.tt ?_ | refine Br.ff ?_ | refine Br.dec (fun h => ?_) (fun h => ?_) | refine Br.not ?_ | refine Br.intro (fun h => ?_) (fun h => ?_) | refine GetE.intro _ rfl ?_ | refine Need.intro rfl ?_ | refine DrawP.go mixed rfl ?_)
    all_goals conv => whnf
    all_goals exact FinP.drop (n := 0) rfl (Nat.le_refl 0) rfl rfl ⟨rfl, rfl⟩
  · have hno : ∀ (i : Nat) (hi : i < cs.length) (j : Nat) (hj : j < i), ¬ GamesP l.flatten dbl cs[i] (cs[j]'(by omega)) → fullB l cs dbl = false := fun i hi j hj h => by
      unfold fullB; exact if_neg fun hh => h (hh.2 i hi j hj)
    repeat' (conv => whnf
             first | refine Br.yes (decide_eq_true (rfl : (0 : Int) = 0)) ?_ | refine Br.tt ?_ | refine Br.ff ?_ | refine Br.dec (fun h => ?_) (fun h => ?_) | refine Br.not ?_ | refine Br.intro (fun h => ?_) (fun h => ?_) | refine GetE.intro _ rfl ?_ | refine Need.intro rfl ?_ | refine DrawP.go mixed rfl ?_)
    conv => whnf
    refine LoopP.inv (fun i => i ≤ cs.length ∧ ∀ (a : Nat) (ha : a < cs.length), a < i → ∀ (j : Nat) (hj : j < a), GamesP l.flatten dbl cs[a] (cs[j]'(by omega))) (fun i => ⟨[(1, .d (ints cs)), (2, B dbl), (8, .map 1), (24, .d (ints cs)), (25, I cs.length), (26, I i)], Try.f22.ntmps, mapS l, [], none⟩) (fun i => cs.length - i) 0 ⟨Nat.zero_le _, fun j _ h => absurd h (Nat.not_lt_zero j)⟩ ?_ ?_
    · exact Weak.by ⟨rfl, rfl, rfl, rfl, congrArg I (by simp), rfl, trivial⟩ (hL := Eq.trans (b := [Blk.cells [.d (lisD l)], (Blk.map (esM l.flatten)).sh _]) rfl (by rw [esM_sh]; rfl))
    rintro i ⟨hi, hok⟩
    by_cases hi' : i < cs.length
    · have hlt : (i : Int) < (cs.length : Int) := by omega
      have hw : IntKind.i64.wrap ((i : Int) + 1) = ((i + 1 : Nat) : Int) := by rw [wrap_in (by omega)]; omega
      have r1 : (cs.map fun c => [DI c])[i]? = some [DI cs[i]] := by rw [List.getElem?_map, List.getElem?_eq_getElem hi']; rfl
      repeat' (conv => whnf
               first | refine Br.yes (decide_eq_true hlt) ?_ | refine Idx.intro i _ rfl r1 ?_ | refine Need.intro (lenC cs) ?_ | refine SliceP.intro 0 i rfl rfl (Nat.zero_le _) (by rw [List.length_map]; omega) ?_ | refine Br.tt ?_ | refine Br.ff ?_ | refine Br.dec (fun h => ?_) (fun h => ?_) | refine Br.not ?_ | refine Br.intro (fun h => ?_) (fun h => ?_) | refine GetE.intro _ rfl ?_ | refine Need.intro rfl ?_ | refine DrawP.go mixed rfl ?_)
      conv => whnf
      refine LoopP.inv (fun j => j ≤ i ∧ ∀ (a : Nat) (ha : a < i), a < j → GamesP l.flatten dbl cs[i] (cs[a]'(by omega))) (fun j => ⟨[(1, .d (ints cs)), (2, B dbl), (8, .map 1), (24, .d (ints cs)), (25, I cs.length), (26, I i), (10, I cs[i]), (33, .d (ints (cs.take i))), (34, I i), (35, I j)], Try.f22.ntmps, mapS l, [], none⟩) (fun j => i - j) 0 ⟨Nat.zero_le _, fun j _ h => absurd h (Nat.not_lt_zero j)⟩ ?_ ?_
      · exact Weak.by ⟨rfl, rfl, rfl, rfl, rfl, rfl, rfl, congrArg (fun x => V.d (D.sl x)) (by show ((cs.map fun c => [DI c]).drop 0).take (i - 0) = (cs.take i).map fun c => [DI c]; rw [List.drop_zero, Nat.sub_zero, List.map_take]), congrArg (fun n : Nat => I (n : Int)) (by show (((cs.map fun c => [DI c]).drop 0).take (i - 0)).length = i; simp; omega), rfl, trivial⟩
      rintro j ⟨hj, hjok⟩
      by_cases hj' : j < i
      · have hlt2 : (j : Int) < (i : Int) := by omega
        have hw2 : IntKind.i64.wrap ((j : Int) + 1) = ((j + 1 : Nat) : Int) := by rw [wrap_in (by omega)]; omega
        have hjc : j < cs.length := by omega
        obtain ⟨a, ha⟩ : ∃ a, a = cs[i] := ⟨_, rfl⟩
        obtain ⟨b, hb⟩ : ∃ b, b = cs[j] := ⟨_, rfl⟩
        have r2 : ((cs.take i).map fun c => [DI c])[j]? = some [DI b] := by rw [List.getElem?_map, List.getElem?_take, if_pos hj', List.getElem?_eq_getElem hjc, hb]; rfl
        have hnx : GamesP l.flatten dbl a b → ∀ (x : Nat) (hx : x < i), x < j + 1 → GamesP l.flatten dbl cs[i] (cs[x]'(by omega)) := fun hg x hx hxj => by
          by_cases e : x = j
          · subst e; rw [← ha, ← hb]; exact hg
          · exact hjok x hx (by omega)
        have hfl : ¬ GamesP l.flatten dbl a b → fullB l cs dbl = false := fun h => hno i hi' j hj' (by rw [← ha, ← hb]; exact h)
        rw [← ha]
        by_cases c1 : (⟨a, b⟩ : Mt) ∈ l.flatten
        · by_cases c2 : (⟨b, a⟩ : Mt) ∈ l.flatten
          · cases dbl with
            | false =>
              repeat' (conv => whnf
                       first | refine Br.yes (decide_eq_true hlt2) ?_ | refine Idx.intro j _ rfl r2 ?_ | refine MapF.memM l.flatten ⟨a, b⟩ (fun h y => ?_) (fun h => absurd c1 h) | refine MapF.memM l.flatten ⟨b, a⟩ (fun h y => ?_) (fun h => absurd c2 h) | refine Br.tt ?_ | refine Br.ff ?_ | refine Br.dec (fun h => ?_) (fun h => ?_) | refine Br.not ?_ | refine Br.intro (fun h => ?_) (fun h => ?_) | refine GetE.intro _ rfl ?_ | refine Need.intro rfl ?_ | refine DrawP.go mixed rfl ?_)
              all_goals conv => whnf
              have hg : ¬ GamesP l.flatten false a b := by unfold GamesP; rw [if_neg (by decide)]; exact fun h => (h.1 c1) c2
              have hf := hfl hg
              exact FinP.drop (n := 0) rfl (Nat.le_refl 0) rfl rfl ⟨rfl, Eq.trans (b := V.tup [B false, I 0]) rfl (by rw [hf, e])⟩
            | true =>
              repeat' (conv => whnf
                       first | refine Br.yes (decide_eq_true hlt2) ?_ | refine Idx.intro j _ rfl r2 ?_ | refine MapF.memM l.flatten ⟨a, b⟩ (fun h y => ?_) (fun h => absurd c1 h) | refine MapF.memM l.flatten ⟨b, a⟩ (fun h y => ?_) (fun h => absurd c2 h) | refine Br.tt ?_ | refine Br.ff ?_ | refine Br.dec (fun h => ?_) (fun h => ?_) | refine Br.not ?_ | refine Br.intro (fun h => ?_) (fun h => ?_) | refine GetE.intro _ rfl ?_ | refine Need.intro rfl ?_ | refine DrawP.go mixed rfl ?_)
              all_goals conv => whnf
              have hg : GamesP l.flatten true a b := by unfold GamesP; rw [if_pos rfl]; exact ⟨c1, c2⟩
              exact ⟨j + 1, ⟨hj', by have := hnx hg; rw [← ha] at this; exact this⟩, by omega, Weak.by ⟨rfl, rfl, rfl, rfl, rfl, rfl, rfl, rfl, rfl, congrArg I hw2, trivial⟩⟩
          · cases dbl with
            | false =>
              repeat' (conv => whnf
                       first | refine Br.yes (decide_eq_true hlt2) ?_ | refine Idx.intro j _ rfl r2 ?_ | refine MapF.memM l.flatten ⟨a, b⟩ (fun h y => ?_) (fun h => absurd c1 h) | refine MapF.memM l.flatten ⟨b, a⟩ (fun h y => absurd h c2) (fun h => ?_) | refine Br.tt ?_ | refine Br.ff ?_ | refine Br.dec (fun h => ?_) (fun h => ?_) | refine Br.not ?_ | refine Br.intro (fun h => ?_) (fun h => ?_) | refine GetE.intro _ rfl ?_ | refine Need.intro rfl ?_ | refine DrawP.go mixed rfl ?_)
              all_goals conv => whnf
              have hg : GamesP l.flatten false a b := by unfold GamesP; rw [if_neg (by decide)]; exact ⟨fun _ => c2, fun _ => c1⟩
              exact ⟨j + 1, ⟨hj', by have := hnx hg; rw [← ha] at this; exact this⟩, by omega, Weak.by ⟨rfl, rfl, rfl, rfl, rfl, rfl, rfl, rfl, rfl, congrArg I hw2, trivial⟩⟩
            | true =>
              repeat' (conv => whnf
                       first | refine Br.yes (decide_eq_true hlt2) ?_ | refine Idx.intro j _ rfl r2 ?_ | refine MapF.memM l.flatten ⟨a, b⟩ (fun h y => ?_) (fun h => absurd c1 h) | refine MapF.memM l.flatten ⟨b, a⟩ (fun h y => absurd h c2) (fun h => ?_) | refine Br.tt ?_ | refine Br.ff ?_ | refine Br.dec (fun h => ?_) (fun h => ?_) | refine Br.not ?_ | refine Br.intro (fun h => ?_) (fun h => ?_) | refine GetE.intro _ rfl ?_ | refine Need.intro rfl ?_ | refine DrawP.go mixed rfl ?_)
              all_goals conv => whnf
              have hg : ¬ GamesP l.flatten true a b := by unfold GamesP; rw [if_pos rfl]; exact fun h => c2 h.2
              have hf := hfl hg
              exact FinP.drop (n := 0) rfl (Nat.le_refl 0) rfl rfl ⟨rfl, Eq.trans (b := V.tup [B false, I 0]) rfl (by rw [hf, e])⟩
        · by_cases c2 : (⟨b, a⟩ : Mt) ∈ l.flatten
          · cases dbl with
            | false =>
              repeat' (conv => whnf
                       first | refine Br.yes (decide_eq_true hlt2) ?_ | refine Idx.intro j _ rfl r2 ?_ | refine MapF.memM l.flatten ⟨a, b⟩ (fun h y => absurd h c1) (fun h => ?_) | refine MapF.memM l.flatten ⟨b, a⟩ (fun h y => ?_) (fun h => absurd c2 h) | refine Br.tt ?_ | refine Br.ff ?_ | refine Br.dec (fun h => ?_) (fun h => ?_) | refine Br.not ?_ | refine Br.intro (fun h => ?_) (fun h => ?_) | refine GetE.intro _ rfl ?_ | refine Need.intro rfl ?_ | refine DrawP.go mixed rfl ?_)
              all_goals conv => whnf
              have hg : GamesP l.flatten false a b := by unfold GamesP; rw [if_neg (by decide)]; exact ⟨fun h => absurd h c1, fun h => absurd c2 h⟩
              exact ⟨j + 1, ⟨hj', by have := hnx hg; rw [← ha] at this; exact this⟩, by omega, Weak.by ⟨rfl, rfl, rfl, rfl, rfl, rfl, rfl, rfl, rfl, congrArg I hw2, trivial⟩⟩
            | true =>
              repeat' (conv => whnf
                       first | refine Br.yes (decide_eq_true hlt2) ?_ | refine Idx.intro j _ rfl r2 ?_ | refine MapF.memM l.flatten ⟨a, b⟩ (fun h y => absurd h c1) (fun h => ?_) | refine MapF.memM l.flatten ⟨b, a⟩ (fun h y => ?_) (fun h => absurd c2 h) | refine Br.tt ?_ | refine Br.ff ?_ | refine Br.dec (fun h => ?_) (fun h => ?_) | refine Br.not ?_ | refine Br.intro (fun h => ?_) (fun h => ?_) | refine GetE.intro _ rfl ?_ | refine Need.intro rfl ?_ | refine DrawP.go mixed rfl ?_)
              all_goals conv => whnf
              have hg : ¬ GamesP l.flatten true a b := by unfold GamesP; rw [if_pos rfl]; exact fun h => c1 h.1
              have hf := hfl hg
              exact FinP.drop (n := 0) rfl (Nat.le_refl 0) rfl rfl ⟨rfl, Eq.trans (b := V.tup [B false, I 0]) rfl (by rw [hf, e])⟩
          · cases dbl with
            | false =>
              repeat' (conv => whnf
                       first | refine Br.yes (decide_eq_true hlt2) ?_ | refine Idx.intro j _ rfl r2 ?_ | refine MapF.memM l.flatten ⟨a, b⟩ (fun h y => absurd h c1) (fun h => ?_) | refine MapF.memM l.flatten ⟨b, a⟩ (fun h y => absurd h c2) (fun h => ?_) | refine Br.tt ?_ | refine Br.ff ?_ | refine Br.dec (fun h => ?_) (fun h => ?_) | refine Br.not ?_ | refine Br.intro (fun h => ?_) (fun h => ?_) | refine GetE.intro _ rfl ?_ | refine Need.intro rfl ?_ | refine DrawP.go mixed rfl ?_)
              all_goals conv => whnf
              have hg : ¬ GamesP l.flatten false a b := by unfold GamesP; rw [if_neg (by decide)]; exact fun h => c1 (h.2 c2)
              have hf := hfl hg
              exact FinP.drop (n := 0) rfl (Nat.le_refl 0) rfl rfl ⟨rfl, Eq.trans (b := V.tup [B false, I 0]) rfl (by rw [hf, e])⟩
            | true =>
              repeat' (conv => whnf
                       first | refine Br.yes (decide_eq_true hlt2) ?_ | refine Idx.intro j _ rfl r2 ?_ | refine MapF.memM l.flatten ⟨a, b⟩ (fun h y => absurd h c1) (fun h => ?_) | refine MapF.memM l.flatten ⟨b, a⟩ (fun h y => absurd h c2) (fun h => ?_) | refine Br.tt ?_ | refine Br.ff ?_ | refine Br.dec (fun h => ?_) (fun h => ?_) | refine Br.not ?_ | refine Br.intro (fun h => ?_) (fun h => ?_) | refine GetE.intro _ rfl ?_ | refine Need.intro rfl ?_ | refine DrawP.go mixed rfl ?_)
              all_goals conv => whnf
              have hg : ¬ GamesP l.flatten true a b := by unfold GamesP; rw [if_pos rfl]; exact fun h => c1 h.1
              have hf := hfl hg
              exact FinP.drop (n := 0) rfl (Nat.le_refl 0) rfl rfl ⟨rfl, Eq.trans (b := V.tup [B false, I 0]) rfl (by rw [hf, e])⟩
      · have hlt2 : ¬ (j : Int) < (i : Int) := by omega
        repeat' (conv => whnf
                 first | refine Br.no (decide_eq_false hlt2) ?_ | refine Br.tt ?_ | refine Br.ff ?_ | refine Br.dec (fun h => ?_) (fun h => ?_) | refine Br.not ?_ | refine Br.intro (fun h => ?_) (fun h => ?_) | refine GetE.intro _ rfl ?_ | refine Need.intro rfl ?_ | refine DrawP.go mixed rfl ?_)
        conv => whnf
        exact ⟨i + 1, ⟨hi', fun x hx hxi => by
          by_cases e : x = i
          · subst e; exact fun y hy => hjok y hy (by omega)
          · exact hok x hx (by omega)⟩, by omega, Weak.by ⟨rfl, rfl, rfl, rfl, rfl, congrArg I hw, trivial⟩⟩
    · have hlt : ¬ (i : Int) < (cs.length : Int) := by omega
      have hf : fullB l cs dbl = true := by
        unfold fullB; exact if_pos ⟨e, fun x hx y hy => hok x hx (by omega) y hy⟩
      rw [hf, e]
      repeat' (conv => whnf
               first | refine Br.no (decide_eq_false hlt) ?_ | refine Br.tt ?_ | refine Br.ff ?_ | refine Br.dec (fun h => ?_) (fun h => ?_) | refine Br.not ?_ | refine Br.intro (fun h => ?_) (fun h => ?_) | refine GetE.intro _ rfl ?_ | refine Need.intro rfl ?_ | refine DrawP.go mixed rfl ?_)
      conv => whnf
      exact FinP.drop (n := 0) rfl (Nat.le_refl 0) rfl rfl ⟨rfl, rfl⟩
end Go.Proofs.Ytjknhbfcdjjbhaa
