/-
  demands' reference: partial lists and full lists.
-/
import Derived.Test.YtjknhbfcdjjbhaaDemN
namespace Go.Proofs.Ytjknhbfcdjjbhaa
open Go.Tidy
set_option maxRecDepth 100000
set_option maxHeartbeats 0
set_option linter.unusedSimpArgs false
set_option linter.unusedVariables false
variable {L : List Blk} {k : V → List Blk → Prop}
def mR (F : List Mt) : List (List V) := F.map fun m => m.cells.map .d
def PairR (p : Pl) (a b : Mt) : Prop := a ≠ b ∧ (p.double = false → betwM a b.home b.away = false)
instance (p : Pl) (a b : Mt) : Decidable (PairR p a b) := by unfold PairR; infer_instance
def RowR (l : List (List Mt)) (p : Pl) (i : Nat) (hi : i < l.length) : Prop := RndR p.clubs l[i] ∧ (i + 1 < l.length → l[i].length = halfN p)
instance (l : List (List Mt)) (p : Pl) (i : Nat) (hi : i < l.length) : Decidable (RowR l p i hi) := by unfold RowR; infer_instance
def PartR (l : List (List Mt)) (p : Pl) : Prop := l.length ≤ roundsN p ∧ (∀ (i : Nat) (hi : i < l.length), RowR l p i hi) ∧
  ∀ (i : Nat) (hi : i < l.flatten.length), ∀ (j : Nat) (hj : j < i), PairR p l.flatten[i] (l.flatten[j]'(by omega))
instance (l : List (List Mt)) (p : Pl) : Decidable (PartR l p) := by unfold PartR; infer_instance
theorem mR_bel (n : Nat) : ∀ F : List Mt, belR n (mR F) = true
  | [] => rfl
  | m :: F => by simp only [mR, List.map_cons, belR, V.belL_d, Bool.true_and]; exact mR_bel n F
theorem mR_get {F : List Mt} {i : Nat} (h : i < F.length) : (mR F)[0 + i]? = some (F[i].cells.map .d) := by
  rw [Nat.zero_add, mR, List.getElem?_map, List.getElem?_eq_getElem h]; rfl
def ptL (l : List (List Mt)) (p : Pl) (i : Nat) : List Blk := [.cells [.d (lisD l)], .cells (p.cells.map .d), .row i 2 (mR (l.take i).flatten)]
theorem ptL_bel {n : Nat} (l : List (List Mt)) (p : Pl) (i : Nat) : belB n (ptL l p i) = true := by
  show (true && (V.belL n (p.cells.map .d) && (belR n (mR (l.take i).flatten) && true))) = true
  rw [V.belL_d, mR_bel]; rfl
theorem flat_le {l : List (List Mt)} (i : Nat) : (l.take i).flatten.length ≤ l.flatten.length := by
  conv => rhs; rw [← List.take_append_drop i l, List.flatten_append, List.length_append]
  omega
theorem rpartial_c (l : List (List Mt)) (p : Pl) (hp : fieldOk p.clubs 2 = true) (hl : l.length ≤ 1073741824) (hr : ∀ r ∈ l, r.length ≤ 4611686018427387904) (hF : l.flatten.length ≤ 4294967296) (h : k (B (decide (PartR l p))) L) : CallP C 31 [lisV l, plV p] L k := by
  refine CallP.pure ?_ rfl (fun _ => rfl) h
  clear h
  refine callP_of C_ok Try.func31 rfl rfl (n := _) rfl (Nat.le_of_ble_eq_true rfl) (rs := _) rfl ?_
  have hlen : 1 ≤ p.clubs.length ∧ p.clubs.length ≤ 1000 := by
    simp only [fieldOk, Bool.and_eq_true, decide_eq_true_eq] at hp; omega
  have hhe := half_e p hlen.2
  repeat' (conv => whnf
           first | refine QCall.intro _ (rrounds_c p hlen ⟨rfl, rfl⟩) ?_ | refine Br.tt ?_ | refine Br.ff ?_ | refine Br.dec (fun h => ?_) (fun h => ?_) | refine Br.not ?_ | refine Br.intro (fun h => ?_) (fun h => ?_) | refine GetE.intro _ rfl ?_ | refine Need.intro rfl ?_ | refine DrawP.go mixed rfl ?_)
  all_goals conv => whnf
  · exact FinP.drop (n := 0) rfl (Nat.le_refl 0) rfl rfl ⟨rfl, congrArg B (decide_eq_false fun hh => by have := hh.1; simp only [List.length_map] at h; omega).symm⟩
  · have hle : l.length ≤ roundsN p := by simp only [List.length_map] at h; omega
    refine LoopP.inv (fun i => i ≤ l.length ∧ ∀ (j : Nat) (hj : j < l.length), j < i → RowR l p j hj) (fun i => ⟨[(2, .ptr 0 0), (3, .ptr 1 0), (4, B false), (5, .own 2 i 0 (l.take i).flatten.length), (6, I i)], Try.f31.ntmps, ptL l p i, [], none⟩) (fun i => l.length - i) 0 ⟨Nat.zero_le _, fun j _ h => absurd h (Nat.not_lt_zero j)⟩ ?_ ?_
    · exact Weak.by ⟨rfl, rfl, rfl, rfl, rfl, trivial⟩
    rintro i ⟨hi, hok⟩
    have hfl := flat_le (l := l) i
    have hfl1 := flat_le (l := l) (i + 1)
    conv => whnf
    refine Br.dec (fun hb => ?_) (fun hb => ?_)
    · have hi' : i < l.length := by simp only [List.length_map] at hb; omega
      have hw : IntKind.i64.wrap ((i : Int) + 1) = ((i + 1 : Nat) : Int) := by rw [wrap_in (by omega)]; omega
      have hfail : ¬ RowR l p i hi' → false = decide (PartR l p) := fun h => (decide_eq_false fun hr => h (hr.2.1 i hi')).symm
      have hrl : (l[i]).length ≤ 4611686018427387904 := hr _ (List.getElem_mem hi')
      have hnx : (l.take (i + 1)).flatten = (l.take i).flatten ++ l[i] := by rw [take_next hi', List.flatten_append, List.flatten_singleton]
      rw [hnx, List.length_append] at hfl1
      repeat' (conv => whnf
               first | refine Idx.map i rfl hi' ?_ | refine QCall.intro _ (rround_c l[i] p.clubs hrl (by omega) ⟨rfl, rfl⟩) ?_ | refine Need.intro (show (2 : Int) ≠ 0 by decide) ?_ | simp only [Nat.beq_refl, Bool.and_self] | refine Need.intro (show ∀ e ∈ l[i].map Mt.cells, e.length = 2 from fun e he => (List.mem_map.1 he).choose_spec.2 ▸ rfl) ?_ | refine Need.intro (Nat.le_trans (m := 4294967296) (by rw [List.length_map, List.length_map]; omega) (apLim_ge _)) ?_ | refine Br.tt ?_ | refine Br.ff ?_ | refine Br.dec (fun h => ?_) (fun h => ?_) | refine Br.not ?_ | refine Br.intro (fun h => ?_) (fun h => ?_) | refine GetE.intro _ rfl ?_ | refine Need.intro rfl ?_ | refine DrawP.go mixed rfl ?_)
      all_goals conv => whnf
      all_goals first
        | exact FinP.drop (n := 0) rfl (Nat.le_refl 0) rfl rfl ⟨rfl, congrArg B (hfail fun h0 => absurd h0.1 ‹¬ RndR p.clubs l[i]›)⟩
        | exact FinP.drop (n := 0) rfl (Nat.le_refl 0) rfl rfl ⟨rfl, congrArg B (hfail fun h0 => by
            rename_i h1
            have := h0.2 (by simp only [hw, List.length_map] at h1; omega)
            rw [hhe, List.length_map] at h; omega)⟩
        | skip
      all_goals
        have hok1 : RowR l p i hi' := ⟨‹RndR p.clubs l[i]›, fun h1 => by
          first
          | (rw [hhe, List.length_map] at h; omega)
          | (simp only [hw, List.length_map] at h; omega)⟩
        refine ⟨i + 1, ⟨hi', fun j hj hji => ?_⟩, by omega, Weak.to 3 (Eq.trans (b := [.cells [.d (lisD l)], .cells (p.cells.map .d), .row (i + 1) 2 ((mR (l.take i).flatten).take (l.take i).flatten.length ++ (l[i].map Mt.cells).map fun e => e.map .d)]) rfl ?_) (Nat.zero_le _) (Nat.le_of_ble_eq_true rfl)
          ⟨rfl, rfl, rfl, congrArg (V.own 2 (i + 1) 0) ?_, congrArg I hw, trivial⟩ (hB := ptL_bel l p (i + 1))⟩
        · by_cases e : j = i
          · subst e; exact hok1
          · exact hok j hj (by omega)
        · have e : mR (l.take (i + 1)).flatten = (mR (l.take i).flatten).take (l.take i).flatten.length ++ (l[i].map Mt.cells).map fun e => e.map .d := by
            rw [hnx, List.take_of_length_le (l := mR (l.take i).flatten) (by unfold mR; rw [List.length_map]; exact Nat.le_refl _)]
            unfold mR; rw [List.map_append, List.map_map]; rfl
          unfold ptL; rw [e]
        · rw [List.length_map, List.length_map, hnx, List.length_append]
    · have hie : i = l.length := by simp only [List.length_map] at hb; omega
      subst hie
      have htk : l.take l.length = l := List.take_length
      repeat' (conv => whnf
               first | refine Br.tt ?_ | refine Br.ff ?_ | refine Br.dec (fun h => ?_) (fun h => ?_) | refine Br.not ?_ | refine Br.intro (fun h => ?_) (fun h => ?_) | refine GetE.intro _ rfl ?_ | refine Need.intro rfl ?_ | refine DrawP.go mixed rfl ?_)
      conv => whnf
      generalize hFl : l.flatten = F at *
      have hT : ∀ a, ptL l p l.length = a → a = [.cells [.d (lisD l)], .cells (p.cells.map .d), .row l.length 2 (mR F)] := fun a h => by rw [← h, ptL, htk, hFl]
      refine LoopP.inv (fun a => a ≤ F.length ∧ ∀ (i : Nat) (hi : i < F.length), i < a → ∀ (j : Nat) (hj : j < i), PairR p F[i] (F[j]'(by omega))) (fun a => ⟨[(2, .ptr 0 0), (3, .ptr 1 0), (4, B false), (5, .own 2 l.length 0 F.length), (7, I a)], Try.f31.ntmps, [.cells [.d (lisD l)], .cells (p.cells.map .d), .row l.length 2 (mR F)], [], none⟩) (fun a => F.length - a) 0 ⟨Nat.zero_le _, fun i _ h => absurd h (Nat.not_lt_zero i)⟩ ?_ ?_
      · exact Weak.by ⟨rfl, rfl, rfl, congrArg (V.own 2 l.length 0) (by rw [htk, hFl]), rfl, trivial⟩ (hL := hT _ rfl)
      rintro a ⟨ha, hpa⟩
      conv => whnf
      simp only [Nat.beq_refl]
      conv => whnf
      refine Br.dec (fun hb1 => ?_) (fun hb1 => ?_)
      · have ha' : a < F.length := by omega
        have hw1 : IntKind.i64.wrap ((a : Int) + 1) = ((a + 1 : Nat) : Int) := by rw [wrap_in (by omega)]; omega
        have hga := mR_get ha'
        have hfail : ∀ (j : Nat) (hj : j < a), ¬ PairR p F[a] (F[j]'(by omega)) → false = decide (PartR l p) := fun j hj h => (decide_eq_false fun hr => by
          have := hr.2.2 a (by rw [hFl]; exact ha') j hj
          simp only [hFl] at this
          exact h this).symm
        repeat' (conv => whnf
                 first | refine Br.tt ?_ | refine Br.ff ?_ | refine Br.dec (fun h => ?_) (fun h => ?_) | refine Br.not ?_ | refine Br.intro (fun h => ?_) (fun h => ?_) | refine GetE.intro _ rfl ?_ | refine Need.intro rfl ?_ | refine DrawP.go mixed rfl ?_)
        conv => whnf
        refine LoopP.inv (fun c => c ≤ a ∧ ∀ (j : Nat) (hj : j < a), j < c → PairR p F[a] (F[j]'(by omega))) (fun c => ⟨[(2, .ptr 0 0), (3, .ptr 1 0), (4, B false), (5, .own 2 l.length 0 F.length), (7, I a), (8, I c)], Try.f31.ntmps, [.cells [.d (lisD l)], .cells (p.cells.map .d), .row l.length 2 (mR F)], [], none⟩) (fun c => a - c) 0 ⟨Nat.zero_le _, fun i _ h => absurd h (Nat.not_lt_zero i)⟩ ?_ ?_
        · exact Weak.by ⟨rfl, rfl, rfl, rfl, rfl, rfl, trivial⟩
        rintro c ⟨hc, hpc⟩
        conv => whnf
        refine Br.dec (fun hb2 => ?_) (fun hb2 => ?_)
        · have hc' : c < a := by omega
          have hcF : c < F.length := by omega
          have hw2 : IntKind.i64.wrap ((c : Int) + 1) = ((c + 1 : Nat) : Int) := by rw [wrap_in (by omega)]; omega
          have hgc := mR_get hcF
          repeat' (conv => whnf
                   first | refine IdxN.intro a rfl ha' ?_ | refine IdxN.intro c rfl hcF ?_ | refine GetE.intro _ hga ?_ | refine GetE.intro _ hgc ?_ | simp only [Nat.beq_refl, Bool.and_self] | refine QCall.intro _ (rbetween_c _ _ _ ⟨rfl, rfl⟩) ?_ | refine Br.tt ?_ | refine Br.ff ?_ | refine Br.dec (fun h => ?_) (fun h => ?_) | refine Br.not ?_ | refine Br.intro (fun h => ?_) (fun h => ?_) | refine GetE.intro _ rfl ?_ | refine Need.intro rfl ?_ | refine DrawP.go mixed rfl ?_)
          all_goals conv => whnf
          · have he : F[a] = F[c] := of_decide_eq_true ((mEq _ _).symm.trans h)
            exact FinP.drop (n := 0) rfl (Nat.le_refl 0) rfl rfl ⟨rfl, congrArg B (hfail c hc' fun hq => hq.1 he)⟩
          · rename_i h1
            have hne : F[a] ≠ F[c] := of_decide_eq_false ((mEq _ _).symm.trans h1)
            exact ⟨c + 1, ⟨hc', fun j hj hji => by
              by_cases e : j = c
              · subst e; exact ⟨hne, fun hd => by rw [h] at hd; cases hd⟩
              · exact hpc j hj (by omega)⟩, by omega, Weak.by ⟨rfl, rfl, rfl, rfl, rfl, congrArg I hw2, trivial⟩⟩
          · rename_i h2 h1
            exact FinP.drop (n := 0) rfl (Nat.le_refl 0) rfl rfl ⟨rfl, congrArg B (hfail c hc' fun hq => by have := hq.2 h1; rw [h] at this; cases this)⟩
          · rename_i h2 h1
            have hne : F[a] ≠ F[c] := of_decide_eq_false ((mEq _ _).symm.trans h2)
            exact ⟨c + 1, ⟨hc', fun j hj hji => by
              by_cases e : j = c
              · subst e; exact ⟨hne, fun _ => h⟩
              · exact hpc j hj (by omega)⟩, by omega, Weak.by ⟨rfl, rfl, rfl, rfl, rfl, congrArg I hw2, trivial⟩⟩
        · have hca : c = a := by omega
          subst hca
          repeat' (conv => whnf
                   first | refine Br.tt ?_ | refine Br.ff ?_ | refine Br.dec (fun h => ?_) (fun h => ?_) | refine Br.not ?_ | refine Br.intro (fun h => ?_) (fun h => ?_) | refine GetE.intro _ rfl ?_ | refine Need.intro rfl ?_ | refine DrawP.go mixed rfl ?_)
          conv => whnf
          exact ⟨c + 1, ⟨ha', fun i hi hia j hj => by
            by_cases e : i = c
            · subst e; exact hpc j hj hj
            · exact hpa i hi (by omega) j hj⟩, by omega, Weak.by ⟨rfl, rfl, rfl, rfl, congrArg I hw1, trivial⟩⟩
      · have hae : a = F.length := by omega
        subst hae
        repeat' (conv => whnf
                 first | refine Br.tt ?_ | refine Br.ff ?_ | refine Br.dec (fun h => ?_) (fun h => ?_) | refine Br.not ?_ | refine Br.intro (fun h => ?_) (fun h => ?_) | refine GetE.intro _ rfl ?_ | refine Need.intro rfl ?_ | refine DrawP.go mixed rfl ?_)
        conv => whnf
        refine FinP.drop (n := 0) rfl (Nat.le_refl 0) rfl rfl ⟨rfl, congrArg B (decide_eq_true ⟨hle, fun i hi => hok i hi hi, ?_⟩).symm⟩
        subst hFl
        exact fun i hi j hj => hpa i hi hi j hj
def FullR (l : List (List Mt)) (p : Pl) : Prop := PartR l p ∧ l.length = roundsN p ∧ ∀ r, l.getLast? = some r → r.length = halfN p
instance (l : List (List Mt)) (p : Pl) : Decidable (FullR l p) := by
  unfold FullR
  cases l.getLast? with
  | none => exact decidable_of_iff (PartR l p ∧ l.length = roundsN p) (by simp)
  | some r => exact decidable_of_iff (PartR l p ∧ l.length = roundsN p ∧ r.length = halfN p) (by simp)
theorem rfull_c (l : List (List Mt)) (p : Pl) (hp : fieldOk p.clubs 2 = true) (hl : l.length ≤ 1073741824) (hr : ∀ r ∈ l, r.length ≤ 4611686018427387904) (hF : l.flatten.length ≤ 4294967296) (h : k (B (decide (FullR l p))) L) : CallP C 62 [lisV l, plV p] L k := by
  refine CallP.pure ?_ rfl (fun _ => rfl) h
  clear h
  refine callP_of C_ok Try.func62 rfl rfl (n := _) rfl (Nat.le_of_ble_eq_true rfl) (rs := _) rfl ?_
  have hlen : 1 ≤ p.clubs.length ∧ p.clubs.length ≤ 1000 := by
    simp only [fieldOk, Bool.and_eq_true, decide_eq_true_eq] at hp; omega
  have hhe := half_e p hlen.2
  have hr1 : 1 ≤ roundsN p := by unfold roundsN; split <;> omega
  by_cases hP : PartR l p
  · by_cases hn : l.length = roundsN p
    · have hla : l[l.length - 1]'(by omega) ∈ l := List.getElem_mem _
      have hgl : l.getLast? = some (l[l.length - 1]'(by omega)) := by rw [List.getLast?_eq_getElem?, List.getElem?_eq_getElem (by omega)]
      have hq : ((List.map (fun r => [mts r]) l).length : Int) = (roundsN p : Int) := by rw [List.length_map]; omega
      repeat' (conv => whnf
               first | refine QCall.intro _ (rpartial_c l p hp hl hr hF ⟨rfl, rfl⟩) ?_ | refine QCall.intro _ (rrounds_c p hlen ⟨rfl, rfl⟩) ?_ | refine Br.yes (decide_eq_true hP) ?_ | refine Br.yes (decide_eq_true hq) ?_ | refine Need.intro (show (2 : Int) ≠ 0 by decide) ?_ | refine Idx.map (l.length - 1) (by rw [List.length_map, wrap_in] <;> omega) (by omega) ?_ | refine Br.tt ?_ | refine Br.ff ?_ | refine Br.dec (fun h => ?_) (fun h => ?_) | refine Br.not ?_ | refine Br.intro (fun h => ?_) (fun h => ?_) | refine GetE.intro _ rfl ?_ | refine Need.intro rfl ?_ | refine DrawP.go mixed rfl ?_)
      all_goals conv => whnf
      refine FinP.drop (n := 0) rfl (Nat.le_refl 0) rfl rfl ⟨rfl, congrArg B ?_⟩
      rw [hhe, List.length_map]
      exact decide_eq_decide.2 ⟨fun h => ⟨hP, hn, fun r hr => by rw [hgl] at hr; cases hr; omega⟩, fun h => by have := h.2.2 _ hgl; omega⟩
    · have hq : ¬ ((List.map (fun r => [mts r]) l).length : Int) = (roundsN p : Int) := by rw [List.length_map]; omega
      repeat' (conv => whnf
               first | refine QCall.intro _ (rpartial_c l p hp hl hr hF ⟨rfl, rfl⟩) ?_ | refine QCall.intro _ (rrounds_c p hlen ⟨rfl, rfl⟩) ?_ | refine Br.yes (decide_eq_true hP) ?_ | refine Br.no (decide_eq_false hq) ?_ | refine Br.tt ?_ | refine Br.ff ?_ | refine Br.dec (fun h => ?_) (fun h => ?_) | refine Br.not ?_ | refine Br.intro (fun h => ?_) (fun h => ?_) | refine GetE.intro _ rfl ?_ | refine Need.intro rfl ?_ | refine DrawP.go mixed rfl ?_)
      all_goals conv => whnf
      exact FinP.drop (n := 0) rfl (Nat.le_refl 0) rfl rfl ⟨rfl, congrArg B (decide_eq_false fun hh => hn hh.2.1).symm⟩
  · repeat' (conv => whnf
             first | refine QCall.intro _ (rpartial_c l p hp hl hr hF ⟨rfl, rfl⟩) ?_ | refine Br.no (decide_eq_false hP) ?_ | refine Br.tt ?_ | refine Br.ff ?_ | refine Br.dec (fun h => ?_) (fun h => ?_) | refine Br.not ?_ | refine Br.intro (fun h => ?_) (fun h => ?_) | refine GetE.intro _ rfl ?_ | refine Need.intro rfl ?_ | refine DrawP.go mixed rfl ?_)
    all_goals conv => whnf
    exact FinP.drop (n := 0) rfl (Nat.le_refl 0) rfl rfl ⟨rfl, congrArg B (decide_eq_false fun hh => hP hh.1).symm⟩
end Go.Proofs.Ytjknhbfcdjjbhaa
