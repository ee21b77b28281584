/-
  demands: what a list dooms.
-/
import Derived.Test.YtjknhbfcdjjbhaaDemF
namespace Go.Proofs.Ytjknhbfcdjjbhaa
open Go.Tidy
set_option maxRecDepth 100000
set_option maxHeartbeats 0
set_option linter.unusedSimpArgs false
set_option linter.unusedVariables false
variable {L : List Blk} {k : V → List Blk → Prop}
def rndsD (R : List Rnd) : D := .sl (R.map Rnd.cells)
theorem noRnd_c (n : Int) (h : k (B false) L) : CallP C 106 [I n] L k := by
  refine CallP.pure ?_ rfl (fun _ => rfl) h
  clear h
  refine callP_of C_ok Try.func106 rfl rfl (n := _) rfl (Nat.le_of_ble_eq_true rfl) (rs := _) rfl ?_
  repeat' (conv => whnf
           first | refine Br.tt ?_ | refine Br.ff ?_ | refine Br.dec (fun h => ?_) (fun h => ?_) | refine Br.not ?_ | refine Br.intro (fun h => ?_) (fun h => ?_) | refine GetE.intro _ rfl ?_ | refine Need.intro rfl ?_ | refine DrawP.go mixed rfl ?_)
  conv => whnf
  exact FinP.drop (n := 0) rfl (Nat.le_refl 0) rfl rfl ⟨rfl, rfl⟩
def noRnd : Rnd := ⟨[], fun _ => false, 106, [], by simp, fun n L k h => noRnd_c n h⟩
def roundAt (R : List Rnd) (n : Int) : Rnd := if h : 0 ≤ n ∧ n < R.length then R[n.toNat]'(by omega) else noRnd
theorem lround_c (R : List Rnd) (n : Int) (hl : R.length ≤ 4611686018427387904) (h : k (rndV (roundAt R n)) L) : CallP C 75 [.d (rndsD R), I n] L k := by
  refine CallP.pure ?_ rfl (fun _ => rfl) h
  clear h
  refine callP_of C_ok Try.func75 rfl rfl (n := _) rfl (Nat.le_of_ble_eq_true rfl) (rs := _) rfl ?_
  conv => whnf
  refine Br.dec (fun h1 => ?_) (fun h1 => ?_)
  · repeat' (conv => whnf
             first | refine Br.tt ?_ | refine Br.ff ?_ | refine Br.dec (fun h => ?_) (fun h => ?_) | refine Br.not ?_ | refine Br.intro (fun h => ?_) (fun h => ?_) | refine GetE.intro _ rfl ?_ | refine Need.intro rfl ?_ | refine DrawP.go mixed rfl ?_)
    · have hin : 0 ≤ n ∧ n < R.length := by simp only [List.length_map] at h; omega
      have hn : n = (n.toNat : Int) := by omega
      have hlt : n.toNat < R.length := by omega
      repeat' (conv => whnf
               first | refine Br.tt ?_ | refine Br.ff ?_ | refine Br.dec (fun h => ?_) (fun h => ?_) | refine Br.not ?_ | refine Br.intro (fun h => ?_) (fun h => ?_) | refine GetE.intro _ rfl ?_ | refine Need.intro rfl ?_ | refine DrawP.go mixed rfl ?_ | refine Idx.map n.toNat hn hlt ?_)
      conv => whnf
      exact FinP.drop (n := 0) rfl (Nat.le_refl 0) rfl rfl ⟨rfl, by rw [roundAt, dif_pos hin]; rfl⟩
    · have hout : ¬ (0 ≤ n ∧ n < R.length) := by simp only [List.length_map] at h; omega
      conv => whnf
      exact FinP.data (L' := []) (.agg _ [.sl [], .fn 106 []] rfl (fun j x y hx hy => by
        match j with
        | 0 => cases hx; cases hy; exact .nil
        | 1 => cases hx; cases hy; exact .fnL .nil
        | j + 2 => simp at hy)) rfl rfl ⟨rfl, by rw [roundAt, dif_neg hout]; rfl⟩
  · have hout : ¬ (0 ≤ n ∧ n < R.length) := by omega
    repeat' (conv => whnf
             first | refine Br.tt ?_ | refine Br.ff ?_ | refine Br.dec (fun h => ?_) (fun h => ?_) | refine Br.not ?_ | refine Br.intro (fun h => ?_) (fun h => ?_) | refine GetE.intro _ rfl ?_ | refine Need.intro rfl ?_ | refine DrawP.go mixed rfl ?_)
    conv => whnf
    exact FinP.data (L' := []) (.agg _ [.sl [], .fn 106 []] rfl (fun j x y hx hy => by
        match j with
        | 0 => cases hx; cases hy; exact .nil
        | 1 => cases hx; cases hy; exact .fnL .nil
        | j + 2 => simp at hy)) rfl rfl ⟨rfl, by rw [roundAt, dif_neg hout]; rfl⟩
def stR (r : Rnd) (c : Int) : Int := stateF r.l r.kn c
def doesF (R : List Rnd) (what : Int) (d : Dm) : Bool := !decide (stR (roundAt R d.round) d.club = 2) && !decide (stR (roundAt R d.round) d.club = what)
theorem does1_c (R : List Rnd) (what : Int) (d : Dm) (hl : R.length ≤ 4611686018427387904) (h : k (B (doesF R what d)) L) : CallP C 105 [.d (rndsD R), dmV d, .d (.rptr [DI what])] L k := by
  refine CallP.pure ?_ rfl (fun _ => rfl) h
  clear h
  refine callP_of C_ok Try.func105 rfl rfl (n := _) rfl (Nat.le_of_ble_eq_true rfl) (rs := _) rfl ?_
  repeat' (conv => whnf
           first | refine Br.tt ?_ | refine Br.ff ?_ | refine Br.dec (fun h => ?_) (fun h => ?_) | refine Br.not ?_ | refine Br.intro (fun h => ?_) (fun h => ?_) | refine GetE.intro _ rfl ?_ | refine Need.intro rfl ?_ | refine DrawP.go mixed rfl ?_ | refine lround_c R d.round hl ?_ | refine QCall.intro _ (lround_c R d.round hl ⟨rfl, rfl⟩) ?_ | refine state_c (roundAt R d.round) _ ?_ | refine QCall.intro _ (state_c (roundAt R d.round) _ ⟨rfl, rfl⟩) ?_ | refine meet_c (roundAt R d.round) _ _ ?_ | refine QCall.intro _ (meet_c (roundAt R d.round) _ _ ⟨rfl, rfl⟩) ?_)
  all_goals conv => whnf
  all_goals refine FinP.drop (n := 0) rfl (Nat.le_refl 0) rfl rfl ⟨rfl, congrArg B ?_⟩
  all_goals (simp_all [doesF, stR] <;> exact decide_eq_decide.2 Iff.rfl)
def meets (R : List Rnd) (d : Dm) : Bool := meetF (roundAt R d.round).l d.club d.other
def k4F (R : List Rnd) (d : Dm) : Bool := !meets R d && (!decide (stR (roundAt R d.round) d.club = 2) || !decide (stR (roundAt R d.round) d.other = 2))
theorem k4_c (R : List Rnd) (d : Dm) (hl : R.length ≤ 4611686018427387904) (h : k (B (k4F R d)) L) : CallP C 74 [.d (rndsD R), dmV d] L k := by
  refine CallP.pure ?_ rfl (fun _ => rfl) h
  clear h
  refine callP_of C_ok Try.func74 rfl rfl (n := _) rfl (Nat.le_of_ble_eq_true rfl) (rs := _) rfl ?_
  repeat' (conv => whnf
           first | refine Br.tt ?_ | refine Br.ff ?_ | refine Br.dec (fun h => ?_) (fun h => ?_) | refine Br.not ?_ | refine Br.intro (fun h => ?_) (fun h => ?_) | refine GetE.intro _ rfl ?_ | refine Need.intro rfl ?_ | refine DrawP.go mixed rfl ?_ | refine lround_c R d.round hl ?_ | refine QCall.intro _ (lround_c R d.round hl ⟨rfl, rfl⟩) ?_ | refine state_c (roundAt R d.round) _ ?_ | refine QCall.intro _ (state_c (roundAt R d.round) _ ⟨rfl, rfl⟩) ?_ | refine meet_c (roundAt R d.round) _ _ ?_ | refine QCall.intro _ (meet_c (roundAt R d.round) _ _ ⟨rfl, rfl⟩) ?_)
  all_goals conv => whnf
  all_goals refine FinP.drop (n := 0) rfl (Nat.le_refl 0) rfl rfl ⟨rfl, congrArg B ?_⟩
  all_goals (simp_all [k4F, stR, meets] <;> exact decide_eq_decide.2 Iff.rfl)
theorem k5_c (R : List Rnd) (d : Dm) (hl : R.length ≤ 4611686018427387904) (h : k (B (meets R d)) L) : CallP C 78 [.d (rndsD R), dmV d] L k := by
  refine CallP.pure ?_ rfl (fun _ => rfl) h
  clear h
  refine callP_of C_ok Try.func78 rfl rfl (n := _) rfl (Nat.le_of_ble_eq_true rfl) (rs := _) rfl ?_
  repeat' (conv => whnf
           first | refine Br.tt ?_ | refine Br.ff ?_ | refine Br.dec (fun h => ?_) (fun h => ?_) | refine Br.not ?_ | refine Br.intro (fun h => ?_) (fun h => ?_) | refine GetE.intro _ rfl ?_ | refine Need.intro rfl ?_ | refine DrawP.go mixed rfl ?_ | refine lround_c R d.round hl ?_ | refine QCall.intro _ (lround_c R d.round hl ⟨rfl, rfl⟩) ?_ | refine state_c (roundAt R d.round) _ ?_ | refine QCall.intro _ (state_c (roundAt R d.round) _ ⟨rfl, rfl⟩) ?_ | refine meet_c (roundAt R d.round) _ _ ?_ | refine QCall.intro _ (meet_c (roundAt R d.round) _ _ ⟨rfl, rfl⟩) ?_)
  all_goals conv => whnf
  all_goals exact FinP.drop (n := 0) rfl (Nat.le_refl 0) rfl rfl ⟨rfl, rfl⟩
theorem lindexFunc_c (l : List Rnd) (hl : l.length ≤ 4611686018427387904) (f : FuncId) (caps : List D) (p : Rnd → Bool) (hp : ∀ n (L : List Blk) (k : V → List Blk → Prop), k (B (p n)) L → CallP C f ([rndV n] ++ caps.map .d) L k)
    (h : k (I (findI p l)) L) : CallP C 117 [.d (rndsD l), .d (.fn f caps)] L k := by
  refine CallP.pure ?_ rfl (fun _ => rfl) h
  clear h
  refine callP_of C_ok Try.func117 rfl rfl (n := _) rfl (Nat.le_of_ble_eq_true rfl) (rs := _) rfl ?_
  conv => whnf
  refine LoopP.intro (ι := Far p l) (fun s => ⟨[(0, .d (rndsD l)), (1, .d (.fn f caps)), (7, I l.length), (8, I s.i)], Try.f117.ntmps, [], [], none⟩) (fun s => l.length - s.i) (Far.zero p l) ?_ ?_
  · exact Weak.by ⟨rfl, rfl, congrArg I (by simp), rfl, trivial⟩
  intro s
  conv => whnf
  refine Br.intro (fun h => ?_) (fun h => ?_)
  · have hi : s.i < l.length := by simpa using h
    repeat' (conv => whnf
             first | refine Br.tt ?_ | refine Br.ff ?_ | refine Br.dec (fun h => ?_) (fun h => ?_) | refine Br.not ?_ | refine Br.intro (fun h => ?_) (fun h => ?_) | refine GetE.intro _ rfl ?_ | refine Need.intro rfl ?_ | refine DrawP.go mixed rfl ?_ | refine Idx.map s.i rfl hi ?_ | refine hp _ _ _ ?_)
    all_goals conv => whnf
    · exact FinP.drop (n := 0) rfl (Nat.le_refl 0) rfl rfl ⟨rfl, congrArg I (findI_hit hi h s.no).symm⟩
    · exact ⟨s.next hi h, by simp only [Far.next]; omega, Weak.by ⟨rfl, rfl, rfl, congrArg I (by rw [wrap_id] <;> (try simp only [Far.next]) <;> omega), trivial⟩⟩
  · have hi : ¬ s.i < l.length := by simpa using h
    repeat' (conv => whnf
             first | refine Br.tt ?_ | refine Br.ff ?_ | refine Br.dec (fun h => ?_) (fun h => ?_) | refine Br.not ?_ | refine Br.intro (fun h => ?_) (fun h => ?_) | refine GetE.intro _ rfl ?_ | refine Need.intro rfl ?_ | refine DrawP.go mixed rfl ?_)
    conv => whnf
    exact FinP.drop (n := 0) rfl (Nat.le_refl 0) rfl rfl ⟨rfl, congrArg I (findI_miss fun j hj => s.no j hj (by omega)).symm⟩
theorem lcontainsFunc_c (l : List Rnd) (hl : l.length ≤ 4611686018427387904) (f : FuncId) (caps : List D) (p : Rnd → Bool) (hp : ∀ n (L : List Blk) (k : V → List Blk → Prop), k (B (p n)) L → CallP C f ([rndV n] ++ caps.map .d) L k)
    (h : k (B (l.any p)) L) : CallP C 108 [.d (rndsD l), .d (.fn f caps)] L k := by
  refine CallP.pure ?_ rfl (fun _ => rfl) h
  clear h
  refine callP_of C_ok Try.func108 rfl rfl (n := _) rfl (Nat.le_of_ble_eq_true rfl) (rs := _) rfl ?_
  conv => whnf
  refine lindexFunc_c l hl f caps p hp ?_
  repeat' (conv => whnf
           first | refine Br.tt ?_ | refine Br.ff ?_ | refine Br.dec (fun h => ?_) (fun h => ?_) | refine Br.not ?_ | refine Br.intro (fun h => ?_) (fun h => ?_) | refine GetE.intro _ rfl ?_ | refine Need.intro rfl ?_ | refine DrawP.go mixed rfl ?_)
  conv => whnf
  exact FinP.drop (n := 0) rfl (Nat.le_refl 0) rfl rfl ⟨rfl, congrArg B (findI_any p l)⟩
def overF (d : Dm) (n : Int) (r : Rnd) : Bool := decide (n < atF r d.clubs)
theorem crowded1_c (r : Rnd) (d : Dm) (n : Int) (hd : d.clubs.length ≤ 4611686018427387904) (h : k (B (overF d n r)) L) : CallP C 109 [rndV r, .d (.rptr d.cells), .d (.rptr [DI n])] L k := by
  refine CallP.pure ?_ rfl (fun _ => rfl) h
  clear h
  refine callP_of C_ok Try.func109 rfl rfl (n := _) rfl (Nat.le_of_ble_eq_true rfl) (rs := _) rfl ?_
  repeat' (conv => whnf
           first | refine Br.tt ?_ | refine Br.ff ?_ | refine Br.dec (fun h => ?_) (fun h => ?_) | refine Br.not ?_ | refine Br.intro (fun h => ?_) (fun h => ?_) | refine GetE.intro _ rfl ?_ | refine Need.intro rfl ?_ | refine DrawP.go mixed rfl ?_ | refine at_c r d.clubs hd ?_ | refine QCall.intro _ (at_c r d.clubs hd ⟨rfl, rfl⟩) ?_)
  conv => whnf
  exact FinP.drop (n := 0) rfl (Nat.le_refl 0) rfl rfl ⟨rfl, rfl⟩
theorem crowded_c (R : List Rnd) (d : Dm) (n : Int) (hl : R.length ≤ 4611686018427387904) (hd : d.clubs.length ≤ 4611686018427387904) (h : k (B (R.any (overF d n))) L) : CallP C 82 [.d (rndsD R), dmV d, I n] L k := by
  refine CallP.pure ?_ rfl (fun _ => rfl) h
  clear h
  refine callP_of C_ok Try.func82 rfl rfl (n := _) rfl (Nat.le_of_ble_eq_true rfl) (rs := _) rfl ?_
  conv => whnf
  refine CallP.lent (lcontainsFunc_c R hl 109 [.rptr d.cells, .rptr [DI n]] (overF d n) (fun r L k h => crowded1_c r d n hd h) ⟨rfl, rfl⟩) (.keep (.cv (.d (.fnL (.cons (.ptrL trivial rfl (.data d.cells)) (.cons (.ptrL trivial rfl (.data [DI n])) .nil)))) .nil)) rfl rfl ?_
  repeat' (conv => whnf
           first | refine Br.tt ?_ | refine Br.ff ?_ | refine Br.dec (fun h => ?_) (fun h => ?_) | refine Br.not ?_ | refine Br.intro (fun h => ?_) (fun h => ?_) | refine GetE.intro _ rfl ?_ | refine Need.intro rfl ?_ | refine DrawP.go mixed rfl ?_)
  conv => whnf
  exact FinP.drop (n := 0) rfl (Nat.le_refl 0) rfl rfl ⟨rfl, rfl⟩
theorem k7_c (R : List Rnd) (d : Dm) (hl : R.length ≤ 4611686018427387904) (hd : d.clubs.length ≤ 4611686018427387904) (h : k (B (R.any (overF d 1))) L) : CallP C 81 [.d (rndsD R), dmV d] L k := by
  refine CallP.pure ?_ rfl (fun _ => rfl) h
  clear h
  refine callP_of C_ok Try.func81 rfl rfl (n := _) rfl (Nat.le_of_ble_eq_true rfl) (rs := _) rfl ?_
  conv => whnf
  refine crowded_c R d 1 hl hd ?_
  repeat' (conv => whnf
           first | refine Br.tt ?_ | refine Br.ff ?_ | refine Br.dec (fun h => ?_) (fun h => ?_) | refine Br.not ?_ | refine Br.intro (fun h => ?_) (fun h => ?_) | refine GetE.intro _ rfl ?_ | refine Need.intro rfl ?_ | refine DrawP.go mixed rfl ?_)
  conv => whnf
  exact FinP.drop (n := 0) rfl (Nat.le_refl 0) rfl rfl ⟨rfl, rfl⟩
theorem k9_c (R : List Rnd) (d : Dm) (hl : R.length ≤ 4611686018427387904) (hd : d.clubs.length ≤ 4611686018427387904) (h : k (B (R.any (overF d d.n))) L) : CallP C 84 [.d (rndsD R), dmV d] L k := by
  refine CallP.pure ?_ rfl (fun _ => rfl) h
  clear h
  refine callP_of C_ok Try.func84 rfl rfl (n := _) rfl (Nat.le_of_ble_eq_true rfl) (rs := _) rfl ?_
  conv => whnf
  refine crowded_c R d d.n hl hd ?_
  repeat' (conv => whnf
           first | refine Br.tt ?_ | refine Br.ff ?_ | refine Br.dec (fun h => ?_) (fun h => ?_) | refine Br.not ?_ | refine Br.intro (fun h => ?_) (fun h => ?_) | refine GetE.intro _ rfl ?_ | refine Need.intro rfl ?_ | refine DrawP.go mixed rfl ?_)
  conv => whnf
  exact FinP.drop (n := 0) rfl (Nat.le_refl 0) rfl rfl ⟨rfl, rfl⟩
def closeGo (d : Dm) : List Rnd → Int → Int → Bool → Bool
  | [], _, _, _ => false
  | r :: R, i, last, met => if meetF r.l d.club d.other then (if met && decide (i - last < d.n) then true else closeGo d R (i + 1) i true) else closeGo d R (i + 1) last met
structure Cl (R : List Rnd) (d : Dm) where
  i : Nat
  last : Int
  met : Bool
  le : i ≤ R.length
  b : 0 ≤ last ∧ last ≤ i
  eq : closeGo d (R.drop i) i last met = closeGo d R 0 0 false
theorem drop_cons {α : Type} {l : List α} {i : Nat} (h : i < l.length) : l.drop i = l[i] :: l.drop (i + 1) := List.drop_eq_getElem_cons h
theorem tooClose_c (R : List Rnd) (d : Dm) (hl : R.length ≤ 4611686018427387904) (h : k (B (closeGo d R 0 0 false)) L) : CallP C 86 [.d (rndsD R), dmV d] L k := by
  refine CallP.pure ?_ rfl (fun _ => rfl) h
  clear h
  refine callP_of C_ok Try.func86 rfl rfl (n := _) rfl (Nat.le_of_ble_eq_true rfl) (rs := _) rfl ?_
  conv => whnf
  refine LoopP.intro (ι := Cl R d) (fun s => ⟨[(3, .ptr 0 0), (5, I s.last), (6, B s.met), (9, .d (rndsD R)), (10, I R.length), (11, I s.i)], Try.f86.ntmps, [.cells (d.cells.map .d)], [], none⟩) (fun s => R.length - s.i) ⟨0, 0, false, Nat.zero_le _, ⟨Int.le_refl _, Int.le_refl _⟩, rfl⟩ ?_ ?_
  · exact Weak.by ⟨rfl, rfl, rfl, rfl, congrArg I (by simp), rfl, trivial⟩
  intro s
  conv => whnf
  refine Br.dec (fun h => ?_) (fun h => ?_)
  · have hi : s.i < R.length := by simpa using h
    have hw : IntKind.i64.wrap ((s.i : Int) + 1) = ((s.i + 1 : Nat) : Int) := by rw [wrap_in (by omega)]; omega
    have hb := s.b
    have hsub : IntKind.i64.wrap ((s.i : Int) - s.last) = (s.i : Int) - s.last := wrap_in (by omega)
    have heq := s.eq
    rw [drop_cons hi, closeGo] at heq
    repeat' (conv => whnf
             first | refine Br.tt ?_ | refine Br.ff ?_ | refine Br.dec (fun h => ?_) (fun h => ?_) | refine Br.not ?_ | refine Br.intro (fun h => ?_) (fun h => ?_) | refine GetE.intro _ rfl ?_ | refine Need.intro rfl ?_ | refine DrawP.go mixed rfl ?_ | refine Idx.map s.i rfl hi ?_ | refine meet_c R[s.i] _ _ ?_ | refine QCall.intro _ (meet_c R[s.i] _ _ ⟨rfl, rfl⟩) ?_)
    all_goals conv => whnf
    · rename_i h1 h2
      rw [hsub] at h
      rw [if_pos h1, h2, decide_eq_true h] at heq
      exact FinP.drop (n := 0) rfl (Nat.le_refl 0) rfl rfl ⟨rfl, congrArg B heq⟩
    · rename_i h1 h2
      rw [hsub] at h
      rw [if_pos h1, h2, decide_eq_false h] at heq
      exact ⟨⟨s.i + 1, s.i, true, hi, ⟨by omega, by omega⟩, by rw [show ((s.i + 1 : Nat) : Int) = (s.i : Int) + 1 by omega]; exact heq⟩, by simp only []; omega, Weak.to 1 rfl (Nat.zero_le _) (Nat.le_of_ble_eq_true rfl) ⟨rfl, rfl, rfl, rfl, rfl, congrArg I hw, trivial⟩⟩
    · rename_i h1
      rw [if_pos h1, h] at heq
      exact ⟨⟨s.i + 1, s.i, true, hi, ⟨by omega, by omega⟩, by rw [show ((s.i + 1 : Nat) : Int) = (s.i : Int) + 1 by omega]; exact heq⟩, by simp only []; omega, Weak.to 1 rfl (Nat.zero_le _) (Nat.le_of_ble_eq_true rfl) ⟨rfl, rfl, rfl, rfl, rfl, congrArg I hw, trivial⟩⟩
    · rw [h] at heq
      exact ⟨⟨s.i + 1, s.last, s.met, hi, ⟨by omega, by omega⟩, by rw [show ((s.i + 1 : Nat) : Int) = (s.i : Int) + 1 by omega]; exact heq⟩, by simp only []; omega, Weak.to 1 rfl (Nat.zero_le _) (Nat.le_of_ble_eq_true rfl) ⟨rfl, rfl, rfl, rfl, rfl, congrArg I hw, trivial⟩⟩
  · have hi : ¬ s.i < R.length := by simpa using h
    have heq := s.eq
    rw [List.drop_of_length_le (by omega), closeGo] at heq
    repeat' (conv => whnf
             first | refine Br.tt ?_ | refine Br.ff ?_ | refine Br.dec (fun h => ?_) (fun h => ?_) | refine Br.not ?_ | refine Br.intro (fun h => ?_) (fun h => ?_) | refine GetE.intro _ rfl ?_ | refine Need.intro rfl ?_ | refine DrawP.go mixed rfl ?_)
    conv => whnf
    exact FinP.drop (n := 0) rfl (Nat.le_refl 0) rfl rfl ⟨rfl, congrArg B heq⟩
end Go.Proofs.Ytjknhbfcdjjbhaa
