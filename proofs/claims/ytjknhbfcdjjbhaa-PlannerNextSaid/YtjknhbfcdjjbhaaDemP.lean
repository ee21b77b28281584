/-
  demands' reference: views of lists.
-/
import Derived.Test.YtjknhbfcdjjbhaaDemO
namespace Go.Proofs.Ytjknhbfcdjjbhaa
open Go.Tidy
set_option maxRecDepth 100000
set_option maxHeartbeats 0
set_option linter.unusedSimpArgs false
set_option linter.unusedVariables false
variable {L : List Blk} {k : V → List Blk → Prop}
structure VR where
  l : List Mt
  full : Bool
  free : Int
abbrev Vw := List VR
def Vw.cells (v : Vw) : List D := [.sl (v.map fun r => [mts r.l]), .sl (v.map fun r => [.bool r.full]), .sl (v.map fun r => [DI r.free])]
abbrev vwV (v : Vw) : V := .agg (v.cells.map .d)
def VR.kn (r : VR) (c : Int) : Bool := r.full || decide (c < r.free)
theorem rstate_c (r : VR) (c : Int) (hl : r.l.length ≤ 4611686018427387904) (h : k (I (stateF r.l r.kn c)) L) : CallP C 119 [.d (mts r.l), I c, B r.full, I r.free] L k := by
  refine CallP.pure ?_ rfl (fun _ => rfl) h
  clear h
  refine callP_of C_ok Try.func119 rfl rfl (n := _) rfl (Nat.le_of_ble_eq_true rfl) (rs := _) rfl ?_
  conv => whnf
  refine LoopP.inv (fun i => i ≤ r.l.length ∧ ∀ (j : Nat) (hj : j < r.l.length), j < i → c ≠ r.l[j].home ∧ c ≠ r.l[j].away) (fun i => ⟨[(0, .d (mts r.l)), (1, I c), (2, B r.full), (3, I r.free), (8, I 0), (9, I i)], Try.f119.ntmps, [], [], none⟩) (fun i => r.l.length - i) 0 ⟨Nat.zero_le _, fun j _ h => absurd h (Nat.not_lt_zero j)⟩ ?_ ?_
  · exact Weak.by ⟨rfl, rfl, rfl, rfl, rfl, rfl, trivial⟩
  rintro i ⟨hi, hno⟩
  conv => whnf
  refine Br.dec (fun hb => ?_) (fun hb => ?_)
  · have hi' : i < r.l.length := by simpa using hb
    have hw : IntKind.i64.wrap ((i : Int) + 1) = ((i + 1 : Nat) : Int) := by rw [wrap_in (by omega)]; omega
    repeat' (conv => whnf
             first | refine Idx.map i rfl hi' ?_ | refine Br.tt ?_ | refine Br.ff ?_ | refine Br.dec (fun h => ?_) (fun h => ?_) | refine Br.not ?_ | refine Br.intro (fun h => ?_) (fun h => ?_) | refine GetE.intro _ rfl ?_ | refine Need.intro rfl ?_ | refine DrawP.go mixed rfl ?_)
    all_goals conv => whnf
    · exact FinP.drop (n := 0) rfl (Nat.le_refl 0) rfl rfl ⟨rfl, congrArg I (stateF_home hi' hno h.symm).symm⟩
    · rename_i h1
      exact FinP.drop (n := 0) rfl (Nat.le_refl 0) rfl rfl ⟨rfl, congrArg I (stateF_away hi' hno (fun e => h1 e.symm) h.symm).symm⟩
    · rename_i h1
      exact ⟨i + 1, ⟨hi', fun j hj hji => by
        by_cases e : j = i
        · subst e; exact ⟨fun e => h1 e.symm, fun e => h e.symm⟩
        · exact hno j hj (by omega)⟩, by omega, Weak.by ⟨rfl, rfl, rfl, rfl, rfl, congrArg I hw, trivial⟩⟩
  · have hie : i = r.l.length := by simp at hb; omega
    have hs := stateF_none (kn := r.kn) (c := c) (l := r.l) fun j hj => hno j hj (by omega)
    repeat' (conv => whnf
             first | refine Br.tt ?_ | refine Br.ff ?_ | refine Br.dec (fun h => ?_) (fun h => ?_) | refine Br.not ?_ | refine Br.intro (fun h => ?_) (fun h => ?_) | refine GetE.intro _ rfl ?_ | refine Need.intro rfl ?_ | refine DrawP.go mixed rfl ?_)
    all_goals conv => whnf
    all_goals refine FinP.drop (n := 0) rfl (Nat.le_refl 0) rfl rfl ⟨rfl, congrArg I ?_⟩
    all_goals (rw [hs]; simp_all [VR.kn])
def vState (v : Vw) (i c : Int) : Int := if h : 0 ≤ i ∧ i < v.length then stateF (v[i.toNat]'(by omega)).l (v[i.toNat]'(by omega)).kn c else 2
def VOk (v : Vw) : Prop := v.length ≤ 1073741824 ∧ ∀ r ∈ v, r.l.length ≤ 4611686018427387904
theorem vstate_c (v : Vw) (i c : Int) (hv : VOk v) (h : k (I (vState v i c)) L) : CallP C 113 [vwV v, I i, I c] L k := by
  refine CallP.pure ?_ rfl (fun _ => rfl) h
  clear h
  refine callP_of C_ok Try.func113 rfl rfl (n := _) rfl (Nat.le_of_ble_eq_true rfl) (rs := _) rfl ?_
  by_cases hin : 0 ≤ i ∧ i < v.length
  · have hn : i = (i.toNat : Int) := by omega
    have hlt : i.toNat < v.length := by omega
    have hr := hv.2 _ (List.getElem_mem hlt)
    repeat' (conv => whnf
             first | refine Br.tt ?_ | refine Br.ff ?_ | refine Br.dec (fun h => ?_) (fun h => ?_) | refine Br.not ?_ | refine Br.intro (fun h => ?_) (fun h => ?_) | refine GetE.intro _ rfl ?_ | refine Need.intro rfl ?_ | refine DrawP.go mixed rfl ?_ | refine Idx.map i.toNat hn hlt ?_ | refine rstate_c v[i.toNat] c hr ?_ | refine QCall.intro _ (rstate_c v[i.toNat] c hr ⟨rfl, rfl⟩) ?_)
    all_goals conv => whnf
    · exact absurd h (by omega)
    · simp only [List.length_map] at h; omega
    · exact FinP.drop (n := 0) rfl (Nat.le_refl 0) rfl rfl ⟨rfl, congrArg I (by rw [vState, dif_pos hin])⟩
  · repeat' (conv => whnf
             first | refine Br.tt ?_ | refine Br.ff ?_ | refine Br.dec (fun h => ?_) (fun h => ?_) | refine Br.not ?_ | refine Br.intro (fun h => ?_) (fun h => ?_) | refine GetE.intro _ rfl ?_ | refine Need.intro rfl ?_ | refine DrawP.go mixed rfl ?_)
    all_goals conv => whnf
    · exact FinP.drop (n := 0) rfl (Nat.le_refl 0) rfl rfl ⟨rfl, congrArg I (by rw [vState, dif_neg hin])⟩
    · exact FinP.drop (n := 0) rfl (Nat.le_refl 0) rfl rfl ⟨rfl, congrArg I (by rw [vState, dif_neg hin])⟩
    · exfalso; simp only [List.length_map] at h; omega
def vMeet (v : Vw) (i a b : Int) : Bool := if h : 0 ≤ i ∧ i < v.length then (v[i.toNat]'(by omega)).l.any fun m => betwM m a b else false
theorem vmeet_c (v : Vw) (i a b : Int) (hv : VOk v) (h : k (B (vMeet v i a b)) L) : CallP C 114 [vwV v, I i, I a, I b] L k := by
  refine CallP.pure ?_ rfl (fun _ => rfl) h
  clear h
  refine callP_of C_ok Try.func114 rfl rfl (n := _) rfl (Nat.le_of_ble_eq_true rfl) (rs := _) rfl ?_
  by_cases hin : 0 ≤ i ∧ i < v.length
  · have hn : i = (i.toNat : Int) := by omega
    have hlt : i.toNat < v.length := by omega
    obtain ⟨r, hr⟩ : ∃ r, r = v[i.toNat] := ⟨_, rfl⟩
    have hrl := hv.2 _ (List.getElem_mem hlt)
    rw [← hr] at hrl
    have r1 : (v.map fun r => [mts r.l])[i.toNat]? = some [mts r.l] := by rw [List.getElem?_map, List.getElem?_eq_getElem hlt, hr]; rfl
    have hm : vMeet v i a b = r.l.any fun m => betwM m a b := by rw [vMeet, dif_pos hin, hr]
    have hq1 : ¬ i < 0 := by omega
    have hq2 : ¬ ((v.map fun r => [mts r.l]).length : Int) ≤ i := by rw [List.length_map]; omega
    rw [hm]
    repeat' (conv => whnf
             first | refine Br.no (decide_eq_false hq1) ?_ | refine Br.no (decide_eq_false hq2) ?_ | refine Br.tt ?_ | refine Br.ff ?_ | refine Br.dec (fun h => ?_) (fun h => ?_) | refine Br.not ?_ | refine Br.intro (fun h => ?_) (fun h => ?_) | refine GetE.intro _ rfl ?_ | refine Need.intro rfl ?_ | refine DrawP.go mixed rfl ?_)
    all_goals conv => whnf
    refine LoopP.inv (fun j => j ≤ r.l.length ∧ ∀ (c : Nat) (hc : c < r.l.length), c < j → betwM r.l[c] a b = false) (fun j => ⟨[(1, I i), (2, I a), (3, I b), (4, .ptr 0 0), (8, B false), (9, I j)], Try.f114.ntmps, [.cells (v.cells.map .d)], [], none⟩) (fun j => r.l.length - j) 0 ⟨Nat.zero_le _, fun j _ h => absurd h (Nat.not_lt_zero j)⟩ ?_ ?_
    · exact Weak.by ⟨rfl, rfl, rfl, rfl, rfl, rfl, trivial⟩
    rintro j ⟨hj, hno⟩
    repeat' (conv => whnf
             first | refine Idx.intro i.toNat _ hn r1 ?_ | refine Br.dec (fun hb => ?_) (fun hb => ?_) | refine Idx.map j rfl (by simp only [List.length_map] at *; omega) ?_ | refine rbetween_c _ _ _ ?_ | refine Br.tt ?_ | refine Br.ff ?_ | refine Br.dec (fun h => ?_) (fun h => ?_) | refine Br.not ?_ | refine Br.intro (fun h => ?_) (fun h => ?_) | refine GetE.intro _ rfl ?_ | refine Need.intro rfl ?_ | refine DrawP.go mixed rfl ?_)
    all_goals conv => whnf
    · exact FinP.drop (n := 0) rfl (Nat.le_refl 0) rfl rfl ⟨rfl, congrArg B (List.any_eq_true.2 ⟨_, List.getElem_mem _, h⟩).symm⟩
    · have hj' : j < r.l.length := by simp only [List.length_map] at hb; omega
      exact ⟨j + 1, ⟨hj', fun c hc hcj => by
        by_cases e : c = j
        · subst e; exact h
        · exact hno c hc (by omega)⟩, by omega, Weak.by ⟨rfl, rfl, rfl, rfl, rfl, congrArg I (by rw [wrap_in (by omega)]; omega), trivial⟩⟩
    · refine FinP.drop (n := 0) rfl (Nat.le_refl 0) rfl rfl ⟨rfl, congrArg B ?_⟩
      symm
      rw [List.any_eq_false]
      intro m hm
      obtain ⟨c, hc, rfl⟩ := List.getElem_of_mem hm
      rw [hno c hc (by simp only [List.length_map] at hb; omega)]; decide
  · repeat' (conv => whnf
             first | refine Br.tt ?_ | refine Br.ff ?_ | refine Br.dec (fun h => ?_) (fun h => ?_) | refine Br.not ?_ | refine Br.intro (fun h => ?_) (fun h => ?_) | refine GetE.intro _ rfl ?_ | refine Need.intro rfl ?_ | refine DrawP.go mixed rfl ?_)
    all_goals conv => whnf
    · exact FinP.drop (n := 0) rfl (Nat.le_refl 0) rfl rfl ⟨rfl, congrArg B (by rw [vMeet, dif_neg hin])⟩
    · exact FinP.drop (n := 0) rfl (Nat.le_refl 0) rfl rfl ⟨rfl, congrArg B (by rw [vMeet, dif_neg hin])⟩
    · exfalso; simp only [List.length_map] at h; omega
def vHome (v : Vw) (i : Int) (cl : List Int) : Nat := cl.countP fun c => decide (vState v i c = 1)
theorem vhome_c (v : Vw) (i : Int) (cl : List Int) (hv : VOk v) (hc : cl.length ≤ 4611686018427387904) (h : k (I (vHome v i cl)) L) : CallP C 115 [vwV v, I i, .d (ints cl)] L k := by
  refine CallP.pure ?_ rfl (fun _ => rfl) h
  clear h
  refine callP_of C_ok Try.func115 rfl rfl (n := _) rfl (Nat.le_of_ble_eq_true rfl) (rs := _) rfl ?_
  conv => whnf
  refine LoopP.inv (fun c => c ≤ cl.length) (fun c => ⟨[(1, I i), (2, .d (ints cl)), (3, .ptr 0 0), (6, I 0), (7, I (vHome v i (cl.take c))), (8, I c)], Try.f115.ntmps, [.cells (v.cells.map .d)], [], none⟩) (fun c => cl.length - c) 0 (Nat.zero_le _) ?_ ?_
  · exact Weak.by ⟨rfl, rfl, rfl, rfl, rfl, rfl, trivial⟩
  intro c hc1
  conv => whnf
  refine Br.dec (fun hb => ?_) (fun hb => ?_)
  · have hc' : c < cl.length := by simpa using hb
    have hw : IntKind.i64.wrap ((c : Int) + 1) = ((c + 1 : Nat) : Int) := by rw [wrap_in (by omega)]; omega
    have hcnt : vHome v i (cl.take c) ≤ c := Nat.le_trans List.countP_le_length (by simp; omega)
    have hw2 : IntKind.i64.wrap ((vHome v i (cl.take c) : Int) + 1) = ((vHome v i (cl.take c) + 1 : Nat) : Int) := by rw [wrap_in (by omega)]; omega
    have hnext : vHome v i (cl.take (c + 1)) = vHome v i (cl.take c) + if vState v i cl[c] = 1 then 1 else 0 := by
      unfold vHome; rw [take_next hc', List.countP_append]; simp [List.countP_cons]
    repeat' (conv => whnf
             first | refine Idx.map c rfl hc' ?_ | refine QCall.intro _ (vstate_c v i _ hv ⟨rfl, rfl⟩) ?_ | refine Br.tt ?_ | refine Br.ff ?_ | refine Br.dec (fun h => ?_) (fun h => ?_) | refine Br.not ?_ | refine Br.intro (fun h => ?_) (fun h => ?_) | refine GetE.intro _ rfl ?_ | refine Need.intro rfl ?_ | refine DrawP.go mixed rfl ?_)
    all_goals conv => whnf
    · rw [if_pos h] at hnext
      exact ⟨c + 1, hc', by omega, Weak.by ⟨rfl, rfl, rfl, rfl, congrArg I (hw2.trans (congrArg Nat.cast hnext.symm)), congrArg I hw, trivial⟩⟩
    · rw [if_neg h] at hnext
      exact ⟨c + 1, hc', by omega, Weak.by ⟨rfl, rfl, rfl, rfl, congrArg (fun n : Nat => I n) hnext.symm, congrArg I hw, trivial⟩⟩
  · have hce : c = cl.length := by simp at hb; omega
    subst hce
    repeat' (conv => whnf
             first | refine Br.tt ?_ | refine Br.ff ?_ | refine Br.dec (fun h => ?_) (fun h => ?_) | refine Br.not ?_ | refine Br.intro (fun h => ?_) (fun h => ?_) | refine GetE.intro _ rfl ?_ | refine Need.intro rfl ?_ | refine DrawP.go mixed rfl ?_)
    conv => whnf
    exact FinP.drop (n := 0) rfl (Nat.le_refl 0) rfl rfl ⟨rfl, congrArg (fun n : Nat => I n) (by rw [List.take_length])⟩
structure DS where
  (sum last breaks met : Int) (known : Bool)
def dKnown (d : Dm) (v : Vw) (i : Nat) (s : DS) : DS := { s with known := s.known && !decide (vState v i d.club = 2) }
def dKind (d : Dm) (v : Vw) (i : Nat) (s : DS) : Option DS :=
  if d.kind = 6 then (if 1 < (vHome v i d.clubs : Int) then none else some s)
  else if d.kind = 7 then (if d.n < (vHome v i d.clubs : Int) then none else some s)
  else if d.kind = 8 then (if vMeet v i d.club d.other then (if 0 ≤ s.met ∧ (i : Int) - s.met < d.n then none else some { s with met := i }) else some s)
  else if d.kind = 9 then (if vState v i d.club = 1 ∨ vState v i d.club = -1 then some { s with breaks := if vState v i d.club = s.last then s.breaks + 1 else s.breaks, last := vState v i d.club } else some s)
  else if d.kind = 10 then (if s.known then (if d.n < s.sum + vState v i d.club ∨ d.n < -(s.sum + vState v i d.club) then none else some { s with sum := s.sum + vState v i d.club }) else some s)
  else some s
def dGo (d : Dm) (v : Vw) : Nat → Nat → DS → Bool
  | 0, _, s => decide (d.kind = 9) && decide (d.n < s.breaks)
  | f + 1, i, s => match dKind d v i (dKnown d v i s) with
    | none => true
    | some s' => dGo d v f (i + 1) s'
def ds0 : DS := ⟨0, 0, 0, -1, true⟩
def vDooms (v : Vw) (d : Dm) : Bool :=
  let s := vState v d.round d.club
  if d.kind = 1 then !decide (s = 2) && !decide (s = 1) else if d.kind = 2 then !decide (s = 2) && !decide (s = -1) else if d.kind = 3 then !decide (s = 2) && !decide (s = 0)
  else if d.kind = 4 then !vMeet v d.round d.club d.other && (!decide (s = 2) || !decide (vState v d.round d.other = 2)) else if d.kind = 5 then vMeet v d.round d.club d.other
  else dGo d v v.length 0 ds0
structure DB (v : Vw) (d : Dm) (i : Nat) (s : DS) : Prop where
  sum : -2 * (i : Int) ≤ s.sum ∧ s.sum ≤ 2 * i
  brk : 0 ≤ s.breaks ∧ s.breaks ≤ i
  met : -1 ≤ s.met ∧ s.met ≤ i
  last : -2 ≤ s.last ∧ s.last ≤ 2
  eq : dGo d v (v.length - i) i s = dGo d v v.length 0 ds0
theorem vState_range (v : Vw) (i c : Int) : -1 ≤ vState v i c ∧ vState v i c ≤ 2 := by
  unfold vState
  split
  · exact stateF_range _ _ _
  · omega
theorem vdooms_c (v : Vw) (d : Dm) (hv : VOk v) (hd : d.clubs.length ≤ 4611686018427387904) (h : k (B (vDooms v d)) L) : CallP C 102 [vwV v, dmV d] L k := by
  obtain ⟨R, hR⟩ : ∃ R, R = vDooms v d := ⟨_, rfl⟩
  rw [← hR] at h
  refine CallP.pure ?_ rfl (fun _ => rfl) h
  clear h
  refine callP_of C_ok Try.func102 rfl rfl (n := _) rfl (Nat.le_of_ble_eq_true rfl) (rs := _) rfl ?_
  have hvl := hv.1
  repeat' (conv => whnf
           first | refine Br.tt ?_ | refine Br.ff ?_ | refine Br.dec (fun h => ?_) (fun h => ?_) | refine Br.not ?_ | refine Br.intro (fun h => ?_) (fun h => ?_) | refine GetE.intro _ rfl ?_ | refine Need.intro rfl ?_ | refine vstate_c v _ _ hv ?_ | refine vmeet_c v _ _ _ hv ?_ | refine QCall.intro _ (vstate_c v _ _ hv ⟨rfl, rfl⟩) ?_ | refine QCall.intro _ (vmeet_c v _ _ _ hv ⟨rfl, rfl⟩) ?_)
  all_goals conv => whnf
  all_goals first
    | (refine FinP.drop (n := 0) rfl (Nat.le_refl 0) rfl rfl ⟨rfl, congrArg B ?_⟩
       rw [hR]; simp_all [vDooms]; done)
    | skip
  rename_i k1 k2 k3 k4
  have hD : vDooms v d = dGo d v v.length 0 ds0 := by unfold vDooms; rw [if_neg k1, if_neg k2, if_neg k3, if_neg k4, if_neg h]
  rw [hD] at hR
  refine LoopP.inv (fun p : Nat × DS => p.1 ≤ v.length ∧ DB v d p.1 p.2) (fun p => ⟨[(2, .ptr 0 0), (3, .ptr 1 0), (4, B false), (6, I p.2.sum), (7, I p.2.last), (8, I p.2.breaks), (9, I p.2.met), (10, B p.2.known), (11, I p.1)], Try.f102.ntmps, [.cells (v.cells.map .d), .cells (d.cells.map .d)], [], none⟩) (fun p => v.length - p.1) (0, ds0)
    ⟨Nat.zero_le _, ⟨by decide, by decide⟩, ⟨by decide, by decide⟩, ⟨by decide, by decide⟩, ⟨by decide, by decide⟩, rfl⟩ ?_ ?_
  · exact Weak.by ⟨rfl, rfl, rfl, rfl, rfl, rfl, rfl, rfl, rfl, trivial⟩
  rintro ⟨i, s⟩ ⟨hi, hB⟩
  obtain ⟨hb1, hb2, hb3, hb5, hb4⟩ := hB
  obtain ⟨sum, last, breaks, met, known⟩ := s
  simp only at hi hb1 hb2 hb3 hb4 hb5
  conv => whnf
  refine Br.dec (fun hb => ?_) (fun hb => ?_)
  · have hi' : i < v.length := by simp only [List.length_map] at hb; omega
    have hw : IntKind.i64.wrap ((i : Int) + 1) = ((i + 1 : Nat) : Int) := by rw [wrap_in (by omega)]; omega
    have hst := vState_range v i d.club
    have hwb : IntKind.i64.wrap (breaks + 1) = breaks + 1 := wrap_in (by omega)
    have hwm : IntKind.i64.wrap ((i : Int) - met) = i - met := wrap_in (by omega)
    have hws : IntKind.i64.wrap (sum + vState v i d.club) = sum + vState v i d.club := wrap_in (by omega)
    have hwn : IntKind.i64.wrap (0 - (sum + vState v i d.club)) = -(sum + vState v i d.club) := by rw [wrap_in (by omega)]; omega
    obtain ⟨x, hx⟩ : ∃ x, x = vState v i d.club := ⟨_, rfl⟩
    rw [show v.length - i = (v.length - (i + 1)) + 1 by omega, dGo] at hb4
    have hmt : -1 ≤ (i : Int) ∧ (i : Int) ≤ ((i + 1 : Nat) : Int) := by omega
    have hnone : dKind d v i (dKnown d v i ⟨sum, last, breaks, met, known⟩) = none → R = true := fun hk => by rw [hR, ← hb4, hk]
    have hnext : ∀ s', dKind d v i (dKnown d v i ⟨sum, last, breaks, met, known⟩) = some s' → (-2 * ((i + 1 : Nat) : Int) ≤ s'.sum ∧ s'.sum ≤ 2 * ((i + 1 : Nat) : Int)) → (0 ≤ s'.breaks ∧ s'.breaks ≤ ((i + 1 : Nat) : Int)) → (-1 ≤ s'.met ∧ s'.met ≤ ((i + 1 : Nat) : Int)) → (-2 ≤ s'.last ∧ s'.last ≤ 2) → DB v d (i + 1) s' := fun s' hk a1 a2 a3 a5 => ⟨a1, a2, a3, a5, by rw [← hb4, hk]⟩
    repeat' (conv => whnf
             first | refine vstate_c v _ _ hv ?_ | refine vmeet_c v _ _ _ hv ?_ | refine vhome_c v _ _ hv hd ?_ | refine QCall.intro _ (vhome_c v _ _ hv hd ⟨rfl, rfl⟩) ?_ | refine QCall.intro _ (vstate_c v _ _ hv ⟨rfl, rfl⟩) ?_ | refine QCall.intro _ (vmeet_c v _ _ _ hv ⟨rfl, rfl⟩) ?_ | refine Br.tt ?_ | refine Br.ff ?_ | refine Br.dec (fun h => ?_) (fun h => ?_) | refine Br.not ?_ | refine Br.intro (fun h => ?_) (fun h => ?_) | refine GetE.intro _ rfl ?_ | refine Need.intro rfl ?_ | refine DrawP.go mixed rfl ?_)
    all_goals conv => whnf
    all_goals first
      | (refine FinP.drop (n := 0) rfl (Nat.le_refl 0) rfl rfl ⟨rfl, congrArg B ?_⟩
         refine (hnone ?_).symm
         clear hnone hnext hb4 hD hR hb1 hb2 hb3 hb5
         simp_all [dKind, dKnown]; done)
      | (refine ⟨(i + 1, ⟨sum, last, breaks, met, !decide (vState v i d.club = 2)⟩), ⟨hi', hnext _ ?_ ?_ ?_ ?_ ?_⟩, ?_, Weak.by ⟨rfl, rfl, rfl, rfl, rfl, rfl, rfl, rfl, congrArg I hw, trivial⟩⟩
         · clear hnone hnext hb4 hD hR hb1 hb2 hb3 hb5
           simp_all [dKind, dKnown] <;> omega
         all_goals (dsimp only; first | exact hmt | omega))
      | (refine ⟨(i + 1, ⟨sum, last, breaks, (i : Int), !decide (vState v i d.club = 2)⟩), ⟨hi', hnext _ ?_ ?_ ?_ ?_ ?_⟩, ?_, Weak.by ⟨rfl, rfl, rfl, rfl, rfl, rfl, rfl, rfl, congrArg I hw, trivial⟩⟩
         · clear hnone hnext hb4 hD hR hb1 hb2 hb3 hb5
           simp_all [dKind, dKnown] <;> omega
         all_goals (dsimp only; first | exact hmt | omega))
      | (refine ⟨(i + 1, ⟨sum, vState v i d.club, breaks + 1, met, !decide (vState v i d.club = 2)⟩), ⟨hi', hnext _ ?_ ?_ ?_ ?_ ?_⟩, ?_, Weak.by ⟨rfl, rfl, rfl, rfl, rfl, congrArg I hwb, rfl, rfl, congrArg I hw, trivial⟩⟩
         · clear hnone hnext hb4 hD hR hb1 hb2 hb3 hb5
           simp_all [dKind, dKnown] <;> omega
         all_goals (dsimp only; first | exact hmt | omega))
      | (refine ⟨(i + 1, ⟨sum, vState v i d.club, breaks, met, !decide (vState v i d.club = 2)⟩), ⟨hi', hnext _ ?_ ?_ ?_ ?_ ?_⟩, ?_, Weak.by ⟨rfl, rfl, rfl, rfl, rfl, rfl, rfl, rfl, congrArg I hw, trivial⟩⟩
         · clear hnone hnext hb4 hD hR hb1 hb2 hb3 hb5
           simp_all [dKind, dKnown] <;> omega
         all_goals (dsimp only; first | exact hmt | omega))
      | (refine ⟨(i + 1, ⟨sum + vState v i d.club, last, breaks, met, !decide (vState v i d.club = 2)⟩), ⟨hi', hnext _ ?_ ?_ ?_ ?_ ?_⟩, ?_, Weak.by ⟨rfl, rfl, rfl, congrArg I hws, rfl, rfl, rfl, rfl, congrArg I hw, trivial⟩⟩
         · clear hnone hnext hb4 hD hR hb1 hb2 hb3 hb5
           simp_all [dKind, dKnown] <;> omega
         all_goals (dsimp only; first | exact hmt | omega))
      | (refine ⟨(i + 1, ⟨sum, last, breaks, met, false⟩), ⟨hi', hnext _ ?_ ?_ ?_ ?_ ?_⟩, ?_, Weak.by ⟨rfl, rfl, rfl, rfl, rfl, rfl, rfl, rfl, congrArg I hw, trivial⟩⟩
         · clear hnone hnext hb4 hD hR hb1 hb2 hb3 hb5
           simp_all [dKind, dKnown] <;> omega
         all_goals (dsimp only; first | exact hmt | omega))
      | (refine ⟨(i + 1, ⟨sum, last, breaks, (i : Int), false⟩), ⟨hi', hnext _ ?_ ?_ ?_ ?_ ?_⟩, ?_, Weak.by ⟨rfl, rfl, rfl, rfl, rfl, rfl, rfl, rfl, congrArg I hw, trivial⟩⟩
         · clear hnone hnext hb4 hD hR hb1 hb2 hb3 hb5
           simp_all [dKind, dKnown] <;> omega
         all_goals (dsimp only; first | exact hmt | omega))
      | (refine ⟨(i + 1, ⟨sum, vState v i d.club, breaks + 1, met, false⟩), ⟨hi', hnext _ ?_ ?_ ?_ ?_ ?_⟩, ?_, Weak.by ⟨rfl, rfl, rfl, rfl, rfl, congrArg I hwb, rfl, rfl, congrArg I hw, trivial⟩⟩
         · clear hnone hnext hb4 hD hR hb1 hb2 hb3 hb5
           simp_all [dKind, dKnown] <;> omega
         all_goals (dsimp only; first | exact hmt | omega))
      | (refine ⟨(i + 1, ⟨sum, vState v i d.club, breaks, met, false⟩), ⟨hi', hnext _ ?_ ?_ ?_ ?_ ?_⟩, ?_, Weak.by ⟨rfl, rfl, rfl, rfl, rfl, rfl, rfl, rfl, congrArg I hw, trivial⟩⟩
         · clear hnone hnext hb4 hD hR hb1 hb2 hb3 hb5
           simp_all [dKind, dKnown] <;> omega
         all_goals (dsimp only; first | exact hmt | omega))
      | (refine ⟨(i + 1, ⟨sum + vState v i d.club, last, breaks, met, false⟩), ⟨hi', hnext _ ?_ ?_ ?_ ?_ ?_⟩, ?_, Weak.by ⟨rfl, rfl, rfl, congrArg I hws, rfl, rfl, rfl, rfl, congrArg I hw, trivial⟩⟩
         · clear hnone hnext hb4 hD hR hb1 hb2 hb3 hb5
           simp_all [dKind, dKnown] <;> omega
         all_goals (dsimp only; first | exact hmt | omega))
  · have hie : i = v.length := by simp only [List.length_map] at hb; omega
    subst hie
    rw [Nat.sub_self, dGo] at hb4
    repeat' (conv => whnf
             first | refine Br.tt ?_ | refine Br.ff ?_ | refine Br.dec (fun h => ?_) (fun h => ?_) | refine Br.not ?_ | refine Br.intro (fun h => ?_) (fun h => ?_) | refine GetE.intro _ rfl ?_ | refine Need.intro rfl ?_ | refine DrawP.go mixed rfl ?_)
    all_goals conv => whnf
    all_goals refine FinP.drop (n := 0) rfl (Nat.le_refl 0) rfl rfl ⟨rfl, congrArg B ?_⟩
    all_goals (rw [hR, ← hb4]; simp_all)
end Go.Proofs.Ytjknhbfcdjjbhaa
