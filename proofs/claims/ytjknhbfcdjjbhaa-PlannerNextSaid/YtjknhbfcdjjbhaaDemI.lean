/-
  demands: whether a demand is doomed; demands.Holds.
-/
import Derived.Test.YtjknhbfcdjjbhaaDemH
namespace Go.Proofs.Ytjknhbfcdjjbhaa
open Go.Tidy
set_option maxRecDepth 100000
set_option maxHeartbeats 0
set_option linter.unusedSimpArgs false
set_option linter.unusedVariables false
variable {L : List Blk} {k : V → List Blk → Prop}
def doomsF (R : List Rnd) (d : Dm) : Bool :=
  if d.kind = 1 then doesF R 1 d else if d.kind = 2 then doesF R (-1) d else if d.kind = 3 then doesF R 0 d else if d.kind = 4 then k4F R d else if d.kind = 5 then meets R d
  else if d.kind = 6 then R.any (overF d 1) else if d.kind = 7 then R.any (overF d d.n) else if d.kind = 8 then closeGo d R 0 0 false
  else if d.kind = 9 then decide (d.n < (brkF (kst R d.club)).2) else tiltGo d.n (kst R d.club) 0
theorem hold1_c (n : Int) (h : k (B true) L) : CallP C 47 [I n] L k := by
  refine CallP.pure ?_ rfl (fun _ => rfl) h
  clear h
  refine callP_of C_ok Try.func47 rfl rfl (n := _) rfl (Nat.le_of_ble_eq_true rfl) (rs := _) rfl ?_
  repeat' (conv => whnf
           first | refine Br.tt ?_ | refine Br.ff ?_ | refine Br.dec (fun h => ?_) (fun h => ?_) | refine Br.not ?_ | refine Br.intro (fun h => ?_) (fun h => ?_) | refine GetE.intro _ rfl ?_ | refine Need.intro rfl ?_ | refine DrawP.go mixed rfl ?_)
  conv => whnf
  exact FinP.drop (n := 0) rfl (Nat.le_refl 0) rfl rfl ⟨rfl, rfl⟩
def hRnd (l : List Mt) : Rnd := if h : l.length ≤ 4611686018427387904 then ⟨l, fun _ => true, 47, [], h, fun n L k h => hold1_c n h⟩ else noRnd
def hE (l : List Mt) : List V := [.d (mts l), .fn 47 []]
theorem hRnd_cells {l : List Mt} (h : l.length ≤ 4611686018427387904) : (hRnd l).cells = [mts l, .fn 47 []] := by unfold hRnd; rw [dif_pos h]; rfl
theorem belR_of {n : Nat} : ∀ {A : List (List V)}, (∀ x ∈ A, V.belL n x = true) → belR n A = true
  | [], _ => rfl
  | x :: A, h => by
    rw [belR, h x (by simp), belR_of fun y hy => h y (by simp [hy])]; rfl
theorem hE_bel (n m g : Nat) (l : List (List Mt)) : belB n [.row g m (l.map hE)] = true := by
  simp only [belB, Blk.bel, Bool.and_true]
  refine belR_of fun x hx => ?_
  obtain ⟨c, _, rfl⟩ := List.mem_map.1 hx
  rfl
theorem hE_rows {S : Nat → Prop} {L : List Blk} : ∀ {l : List (List Mt)}, (∀ r ∈ l, r.length ≤ 4611686018427387904) → CvLL S L (l.map hE) ((l.map hRnd).map Rnd.cells)
  | [], _ => .nil
  | r :: l, h => by
    simp only [List.map_cons]
    rw [hRnd_cells (h r (by simp))]
    exact .cons (.cons (.d _) (.cons (.fnL .nil) .nil)) (hE_rows fun r hr => h r (by simp [hr]))
def holdsF (l : List (List Mt)) (d : Dm) : Bool := decide (1 ≤ d.kind ∧ d.kind ≤ 10) && !(decide (d.kind ≤ 4) && (decide (d.round < 0) || decide (l.length ≤ d.round))) && !doomsF (l.map hRnd) d
def DoomsOk (R : List Rnd) (d : Dm) (f : FuncId) (caps : List D) : Prop := ∀ (L : List Blk) (k : V → List Blk → Prop), k (B (doomsF R d)) L → CallP C f (.d (rndsD R) :: dmV d :: caps.map .d) L k
theorem kind_entry (R : List Rnd) (d : Dm) (hl : R.length ≤ 1073741824) (hd : d.clubs.length ≤ 4611686018427387904) (hk : 1 ≤ d.kind ∧ d.kind ≤ 10) :
    ∃ i w, firstAt d.kind kindKs i = true ∧ ((∃ f c, kindsMap[i]? = some (I d.kind, .agg [.d w, .d (.fn f [c])]) ∧ DoomsOk R d f [c]) ∨ (∃ f, kindsMap[i]? = some (I d.kind, .agg [.d w, .fn f []]) ∧ DoomsOk R d f [])) := by
  rcases d with ⟨kd, cl, ot, ro, nn, cs⟩
  simp only at hk
  have hk' : kd = 1 ∨ kd = 2 ∨ kd = 3 ∨ kd = 4 ∨ kd = 5 ∨ kd = 6 ∨ kd = 7 ∨ kd = 8 ∨ kd = 9 ∨ kd = 10 := by omega
  rcases hk' with rfl | rfl | rfl | rfl | rfl | rfl | rfl | rfl | rfl | rfl
  · exact ⟨0, _, rfl, .inl ⟨_, _, rfl, fun L k h => does1_c R 1 _ (by omega) h⟩⟩
  · exact ⟨1, _, rfl, .inl ⟨_, _, rfl, fun L k h => does1_c R (-1) _ (by omega) h⟩⟩
  · exact ⟨2, _, rfl, .inl ⟨_, _, rfl, fun L k h => does1_c R 0 _ (by omega) h⟩⟩
  · exact ⟨3, _, rfl, .inr ⟨_, rfl, fun L k h => k4_c R _ (by omega) h⟩⟩
  · exact ⟨4, _, rfl, .inr ⟨_, rfl, fun L k h => k5_c R _ (by omega) h⟩⟩
  · exact ⟨5, _, rfl, .inr ⟨_, rfl, fun L k h => k7_c R _ (by omega) hd h⟩⟩
  · exact ⟨6, _, rfl, .inr ⟨_, rfl, fun L k h => k9_c R _ (by omega) hd h⟩⟩
  · exact ⟨7, _, rfl, .inr ⟨_, rfl, fun L k h => tooClose_c R _ (by omega) h⟩⟩
  · exact ⟨8, _, rfl, .inr ⟨_, rfl, fun L k h => broken_c R _ (by omega) h⟩⟩
  · exact ⟨9, _, rfl, .inr ⟨_, rfl, fun L k h => tilted_c R _ hl h⟩⟩
theorem hld_bel (n : Nat) (d : Dm) (w : D) (v : V) (j m : Nat) (l : List (List Mt)) (hv : v.bel n = true) : belB n [.cells [.d (lisD l)], .cells (d.cells.map .d), .cells [.d w, v], .row j 2 ((l.take m).map hE)] = true := by
  have h := hE_bel n 2 j (l.take m)
  simp only [belB, Bool.and_true] at h
  show (V.belL n [.d (lisD l)] && (V.belL n (d.cells.map .d) && (V.belL n [.d w, v] && (_ && true)))) = true
  rw [h, V.belL_d]
  simp [V.belL, V.bel, hv]
theorem hld_rows {S : Nat → Prop} {L : List Blk} {l : List (List Mt)} (hr : ∀ r ∈ l, r.length ≤ 4611686018427387904) : CvLL S L ((((l.take l.length).map hE).drop 0).take l.length) ((l.map hRnd).map Rnd.cells) := by
  rw [List.take_length, List.drop_zero, List.take_of_length_le (by simp)]
  exact hE_rows hr
theorem hld_len (l : List (List Mt)) (hr : ∀ r ∈ l, r.length ≤ 4611686018427387904) : ∀ e ∈ (l.map hRnd).map Rnd.cells, e.length = 2 := by
  intro e he
  obtain ⟨r, hr', rfl⟩ := List.mem_map.1 he
  rfl
theorem kinds_L (h : k (.map L.length) (L ++ [.map kindsMap])) : CallP C 41 [] L k := by
  refine kinds_c.frame rfl fun X L' h' => ?_
  obtain ⟨rfl, rfl⟩ := h'
  have e : V.sh L.length (.map 0) = .map L.length := by simp [V.sh]
  rw [e]
  exact h
theorem holds_c (l : List (List Mt)) (d : Dm) (hl : l.length ≤ 1073741824) (hr : ∀ r ∈ l, r.length ≤ 4611686018427387904) (hd : d.clubs.length ≤ 4611686018427387904) (h : k (B (holdsF l d)) L) : CallP C 25 [lisV l, dmV d] L k := by
  refine CallP.pure ?_ rfl (fun _ => rfl) h
  clear h
  refine callP_of C_ok Try.func25 rfl rfl (n := _) rfl (Nat.le_of_ble_eq_true rfl) (rs := _) rfl ?_
  have hlR : (l.map hRnd).length ≤ 1073741824 := by simpa using hl
  by_cases hk : 1 ≤ d.kind ∧ d.kind ≤ 10
  · obtain ⟨i, w, hi, ⟨f, c, hm, hok⟩ | ⟨f, hm, hok⟩⟩ := kind_entry (l.map hRnd) d hlR hd hk
    · repeat' (conv => whnf
               first | refine Br.tt ?_ | refine Br.ff ?_ | refine Br.dec (fun h => ?_) (fun h => ?_) | refine Br.not ?_ | refine Br.intro (fun h => ?_) (fun h => ?_) | refine GetE.intro _ rfl ?_ | refine Need.intro rfl ?_)
      conv => whnf
      refine DrawP.por mixed [0, 2, 3] [[(1, 0), (0, 2), (2, 2), (3, 2), (4, 0), (5, 0), (6, 0), (7, 0), (8, 0), (9, 0)], [(1, 0), (0, 2), (2, 2), (7, 0), (3, 2), (4, 0), (5, 0), (6, 0), (8, 0), (9, 0)], [(1, 0), (0, 2), (7, 0), (2, 2), (3, 2), (4, 0), (5, 0), (6, 0), (8, 0), (9, 0)], [(1, 0), (2, 2), (0, 2), (3, 2), (4, 0), (5, 0), (6, 0), (7, 0), (8, 0), (9, 0)], [(1, 0), (2, 2), (0, 2), (7, 0), (3, 2), (4, 0), (5, 0), (6, 0), (8, 0), (9, 0)], [(1, 0), (2, 2), (7, 0), (0, 2), (3, 2), (4, 0), (5, 0), (6, 0), (8, 0), (9, 0)], [(1, 0), (7, 0), (0, 2), (2, 2), (3, 2), (4, 0), (5, 0), (6, 0), (8, 0), (9, 0)], [(1, 0), (7, 0), (2, 2), (0, 2), (3, 2), (4, 0), (5, 0), (6, 0), (8, 0), (9, 0)]] (by kernel_rfl) ?_
      conv => whnf
      refine And.intro ?_ ?_
      rotate_left 1
      conv => whnf
      refine And.intro ?_ ?_
      rotate_left 1
      conv => whnf
      refine And.intro ?_ ?_
      rotate_left 1
      conv => whnf
      refine And.intro ?_ ?_
      rotate_left 1
      conv => whnf
      refine And.intro ?_ ?_
      rotate_left 1
      conv => whnf
      refine And.intro ?_ ?_
      rotate_left 1
      conv => whnf
      refine And.intro ?_ ?_
      all_goals
        repeat' (conv => whnf
                 first | refine Br.tt ?_ | refine Br.ff ?_ | refine Br.dec (fun h => ?_) (fun h => ?_) | refine Br.not ?_ | refine Br.intro (fun h => ?_) (fun h => ?_) | refine GetE.intro _ rfl ?_ | refine Need.intro rfl ?_ | refine QCallW.intro _ _ (kinds_L ⟨rfl, rfl⟩) ?_ | refine QCallW.intro _ _ (MapF.at kindKs i _ rfl hi hm ⟨rfl, rfl⟩) ?_ | refine QCallW.intro (I d.kind) _ ⟨rfl, rfl⟩ ?_)
      all_goals conv => whnf
      all_goals first | exact FinP.drop (n := 0) rfl (Nat.le_refl 0) rfl rfl ⟨rfl, congrArg B (by simp_all [holdsF] <;> omega)⟩ | skip
      all_goals
        refine LoopP.intro (ι := { j : Nat // j ≤ l.length }) (fun j => ⟨[(3, .ptr 1 0), (5, .ptr 2 0), (7, .own 3 j.1 0 j.1), (38, .d (lisD l)), (39, I l.length), (40, I j.1)], Try.f25.ntmps, [.cells [.d (lisD l)], .cells (d.cells.map .d), .cells [.d w, .d (.fn f [c])], .row j.1 2 ((l.take j.1).map hE)], [], none⟩) (fun j => l.length - j.1) ⟨0, Nat.zero_le _⟩ ?_ ?_
        · have e : I (l.map fun r => [mts r]).length = I l.length := congrArg I (by simp)
          first
          | exact (Weak.nilOwn 7 2 rfl (by decide)).trans (Weak.re [0, 1, 3, 4] ⟨rfl, rfl, rfl, rfl, e, rfl, trivial⟩ rfl (by decide) rfl)
          | exact (Weak.nilOwn 7 2 rfl (by decide)).trans (Weak.re [0, 1, 2, 4] ⟨rfl, rfl, rfl, rfl, e, rfl, trivial⟩ rfl (by decide) rfl)
        rintro ⟨j, hj⟩
        conv => whnf
        refine Br.dec (fun hb => ?_) (fun hb => ?_)
        · have hj' : j < l.length := by simpa using hb
          repeat' (conv => whnf
                   first | refine Br.tt ?_ | refine Br.ff ?_ | refine Br.dec (fun h => ?_) (fun h => ?_) | refine Br.not ?_ | refine Br.intro (fun h => ?_) (fun h => ?_) | refine GetE.intro _ rfl ?_ | refine Need.intro rfl ?_ | refine DrawP.go mixed rfl ?_ | refine Idx.map j rfl hj' ?_ | simp only [Nat.beq_refl, Bool.and_self] | refine Need.intro (by first | omega | (simp; omega) | (refine Nat.le_trans (m := 4294967296) ?_ (apLim_ge _); first | omega | (simp; omega))) ?_)
          conv => whnf
          refine ⟨⟨j + 1, hj'⟩, by simp only []; omega, Weak.to 4 (Eq.trans (b := [Blk.cells [.d (lisD l)], .cells (d.cells.map .d), .cells [.d w, .d (.fn f [c])], Blk.row (j + 1) 2 (((l.take j).map hE).take j ++ [hE l[j]])]) rfl ?_) (Nat.zero_le _) (Nat.le_of_ble_eq_true rfl)
            ⟨rfl, rfl, Eq.trans (b := V.own 3 (j + 1) 0 (j + 1)) rfl ?_, rfl, rfl, congrArg I ?_, trivial⟩ (hB := ?_)⟩
          · rw [take_next hj', List.map_append, List.take_of_length_le (l := (l.take j).map hE) (by rw [List.length_map, List.length_take]; omega)]; rfl
          · rfl
          · rw [wrap_in (by omega)]; simp only []; omega
          · exact hld_bel 4 d w _ _ _ l rfl
        · have hje : j = l.length := by simp at hb; omega
          subst hje
          repeat' (conv => whnf
                   first | refine Br.tt ?_ | refine Br.ff ?_ | refine Br.dec (fun h => ?_) (fun h => ?_) | refine Br.not ?_ | refine Br.intro (fun h => ?_) (fun h => ?_) | refine GetE.intro _ rfl ?_ | refine Need.intro rfl ?_ | refine DrawP.go mixed rfl ?_)
          conv => whnf
          refine CallP.lent (x := B (doomsF (l.map hRnd) d)) (hok _ _ ⟨rfl, rfl⟩) (.cv (.d (.rowL trivial rfl (hld_rows hr) (by simp) (hld_len l hr))) (.keep (.keep .nil))) rfl rfl ?_
          repeat' (conv => whnf
                   first | refine Br.tt ?_ | refine Br.ff ?_ | refine Br.dec (fun h => ?_) (fun h => ?_) | refine Br.not ?_ | refine Br.intro (fun h => ?_) (fun h => ?_) | refine GetE.intro _ rfl ?_ | refine Need.intro rfl ?_ | refine DrawP.go mixed rfl ?_)
          conv => whnf
          refine FinP.drop (n := 0) rfl (Nat.le_refl 0) rfl rfl ⟨rfl, congrArg B ?_⟩
          simp_all [holdsF]
    · repeat' (conv => whnf
               first | refine Br.tt ?_ | refine Br.ff ?_ | refine Br.dec (fun h => ?_) (fun h => ?_) | refine Br.not ?_ | refine Br.intro (fun h => ?_) (fun h => ?_) | refine GetE.intro _ rfl ?_ | refine Need.intro rfl ?_)
      conv => whnf
      refine DrawP.por mixed [0, 2, 3] [[(1, 0), (0, 2), (2, 2), (3, 2), (4, 0), (5, 0), (6, 0), (7, 0), (8, 0), (9, 0)], [(1, 0), (0, 2), (2, 2), (7, 0), (3, 2), (4, 0), (5, 0), (6, 0), (8, 0), (9, 0)], [(1, 0), (0, 2), (7, 0), (2, 2), (3, 2), (4, 0), (5, 0), (6, 0), (8, 0), (9, 0)], [(1, 0), (2, 2), (0, 2), (3, 2), (4, 0), (5, 0), (6, 0), (7, 0), (8, 0), (9, 0)], [(1, 0), (2, 2), (0, 2), (7, 0), (3, 2), (4, 0), (5, 0), (6, 0), (8, 0), (9, 0)], [(1, 0), (2, 2), (7, 0), (0, 2), (3, 2), (4, 0), (5, 0), (6, 0), (8, 0), (9, 0)], [(1, 0), (7, 0), (0, 2), (2, 2), (3, 2), (4, 0), (5, 0), (6, 0), (8, 0), (9, 0)], [(1, 0), (7, 0), (2, 2), (0, 2), (3, 2), (4, 0), (5, 0), (6, 0), (8, 0), (9, 0)]] (by kernel_rfl) ?_
      conv => whnf
      refine And.intro ?_ ?_
      rotate_left 1
      conv => whnf
      refine And.intro ?_ ?_
      rotate_left 1
      conv => whnf
      refine And.intro ?_ ?_
      rotate_left 1
      conv => whnf
      refine And.intro ?_ ?_
      rotate_left 1
      conv => whnf
      refine And.intro ?_ ?_
      rotate_left 1
      conv => whnf
      refine And.intro ?_ ?_
      rotate_left 1
      conv => whnf
      refine And.intro ?_ ?_
      all_goals
        repeat' (conv => whnf
                 first | refine Br.tt ?_ | refine Br.ff ?_ | refine Br.dec (fun h => ?_) (fun h => ?_) | refine Br.not ?_ | refine Br.intro (fun h => ?_) (fun h => ?_) | refine GetE.intro _ rfl ?_ | refine Need.intro rfl ?_ | refine QCallW.intro _ _ (kinds_L ⟨rfl, rfl⟩) ?_ | refine QCallW.intro _ _ (MapF.at kindKs i _ rfl hi hm ⟨rfl, rfl⟩) ?_ | refine QCallW.intro (I d.kind) _ ⟨rfl, rfl⟩ ?_)
      all_goals conv => whnf
      all_goals first | exact FinP.drop (n := 0) rfl (Nat.le_refl 0) rfl rfl ⟨rfl, congrArg B (by simp_all [holdsF] <;> omega)⟩ | skip
      all_goals
        refine LoopP.intro (ι := { j : Nat // j ≤ l.length }) (fun j => ⟨[(3, .ptr 1 0), (5, .ptr 2 0), (7, .own 3 j.1 0 j.1), (38, .d (lisD l)), (39, I l.length), (40, I j.1)], Try.f25.ntmps, [.cells [.d (lisD l)], .cells (d.cells.map .d), .cells [.d w, .fn f []], .row j.1 2 ((l.take j.1).map hE)], [], none⟩) (fun j => l.length - j.1) ⟨0, Nat.zero_le _⟩ ?_ ?_
        · have e : I (l.map fun r => [mts r]).length = I l.length := congrArg I (by simp)
          first
          | exact (Weak.nilOwn 7 2 rfl (by decide)).trans (Weak.re [0, 1, 3, 4] ⟨rfl, rfl, rfl, rfl, e, rfl, trivial⟩ rfl (by decide) rfl)
          | exact (Weak.nilOwn 7 2 rfl (by decide)).trans (Weak.re [0, 1, 2, 4] ⟨rfl, rfl, rfl, rfl, e, rfl, trivial⟩ rfl (by decide) rfl)
        rintro ⟨j, hj⟩
        conv => whnf
        refine Br.dec (fun hb => ?_) (fun hb => ?_)
        · have hj' : j < l.length := by simpa using hb
          repeat' (conv => whnf
                   first | refine Br.tt ?_ | refine Br.ff ?_ | refine Br.dec (fun h => ?_) (fun h => ?_) | refine Br.not ?_ | refine Br.intro (fun h => ?_) (fun h => ?_) | refine GetE.intro _ rfl ?_ | refine Need.intro rfl ?_ | refine DrawP.go mixed rfl ?_ | refine Idx.map j rfl hj' ?_ | simp only [Nat.beq_refl, Bool.and_self] | refine Need.intro (by first | omega | (simp; omega) | (refine Nat.le_trans (m := 4294967296) ?_ (apLim_ge _); first | omega | (simp; omega))) ?_)
          conv => whnf
          refine ⟨⟨j + 1, hj'⟩, by simp only []; omega, Weak.to 4 (Eq.trans (b := [Blk.cells [.d (lisD l)], .cells (d.cells.map .d), .cells [.d w, .fn f []], Blk.row (j + 1) 2 (((l.take j).map hE).take j ++ [hE l[j]])]) rfl ?_) (Nat.zero_le _) (Nat.le_of_ble_eq_true rfl)
            ⟨rfl, rfl, Eq.trans (b := V.own 3 (j + 1) 0 (j + 1)) rfl ?_, rfl, rfl, congrArg I ?_, trivial⟩ (hB := ?_)⟩
          · rw [take_next hj', List.map_append, List.take_of_length_le (l := (l.take j).map hE) (by rw [List.length_map, List.length_take]; omega)]; rfl
          · rfl
          · rw [wrap_in (by omega)]; simp only []; omega
          · exact hld_bel 4 d w _ _ _ l rfl
        · have hje : j = l.length := by simp at hb; omega
          subst hje
          repeat' (conv => whnf
                   first | refine Br.tt ?_ | refine Br.ff ?_ | refine Br.dec (fun h => ?_) (fun h => ?_) | refine Br.not ?_ | refine Br.intro (fun h => ?_) (fun h => ?_) | refine GetE.intro _ rfl ?_ | refine Need.intro rfl ?_ | refine DrawP.go mixed rfl ?_)
          conv => whnf
          refine CallP.lent (x := B (doomsF (l.map hRnd) d)) (hok _ _ ⟨rfl, rfl⟩) (.cv (.d (.rowL trivial rfl (hld_rows hr) (by simp) (hld_len l hr))) (.keep .nil)) rfl rfl ?_
          repeat' (conv => whnf
                   first | refine Br.tt ?_ | refine Br.ff ?_ | refine Br.dec (fun h => ?_) (fun h => ?_) | refine Br.not ?_ | refine Br.intro (fun h => ?_) (fun h => ?_) | refine GetE.intro _ rfl ?_ | refine Need.intro rfl ?_ | refine DrawP.go mixed rfl ?_)
          conv => whnf
          refine FinP.drop (n := 0) rfl (Nat.le_refl 0) rfl rfl ⟨rfl, congrArg B ?_⟩
          simp_all [holdsF]
  · have hno : holdsF l d = false := by simp [holdsF, hk]
    rw [hno]
    repeat' (conv => whnf
             first | refine Br.tt ?_ | refine Br.ff ?_ | refine Br.dec (fun h => ?_) (fun h => ?_) | refine Br.not ?_ | refine Br.intro (fun h => ?_) (fun h => ?_) | refine GetE.intro _ rfl ?_ | refine Need.intro rfl ?_)
    conv => whnf
    refine DrawP.por mixed [0, 2, 3] [[(1, 0), (0, 2), (2, 2), (3, 2), (4, 0), (5, 0), (6, 0), (7, 0), (8, 0), (9, 0)], [(1, 0), (0, 2), (2, 2), (7, 0), (3, 2), (4, 0), (5, 0), (6, 0), (8, 0), (9, 0)], [(1, 0), (0, 2), (7, 0), (2, 2), (3, 2), (4, 0), (5, 0), (6, 0), (8, 0), (9, 0)], [(1, 0), (2, 2), (0, 2), (3, 2), (4, 0), (5, 0), (6, 0), (7, 0), (8, 0), (9, 0)], [(1, 0), (2, 2), (0, 2), (7, 0), (3, 2), (4, 0), (5, 0), (6, 0), (8, 0), (9, 0)], [(1, 0), (2, 2), (7, 0), (0, 2), (3, 2), (4, 0), (5, 0), (6, 0), (8, 0), (9, 0)], [(1, 0), (7, 0), (0, 2), (2, 2), (3, 2), (4, 0), (5, 0), (6, 0), (8, 0), (9, 0)], [(1, 0), (7, 0), (2, 2), (0, 2), (3, 2), (4, 0), (5, 0), (6, 0), (8, 0), (9, 0)]] (by kernel_rfl) ?_
    conv => whnf
    refine And.intro ?_ ?_
    rotate_left 1
    conv => whnf
    refine And.intro ?_ ?_
    rotate_left 1
    conv => whnf
    refine And.intro ?_ ?_
    rotate_left 1
    conv => whnf
    refine And.intro ?_ ?_
    rotate_left 1
    conv => whnf
    refine And.intro ?_ ?_
    rotate_left 1
    conv => whnf
    refine And.intro ?_ ?_
    rotate_left 1
    conv => whnf
    refine And.intro ?_ ?_
    all_goals
      repeat' (conv => whnf
               first | refine Br.tt ?_ | refine Br.ff ?_ | refine Br.dec (fun h => ?_) (fun h => ?_) | refine Br.not ?_ | refine Br.intro (fun h => ?_) (fun h => ?_) | refine GetE.intro _ rfl ?_ | refine Need.intro rfl ?_ | refine QCallW.intro _ _ (kinds_L ⟨rfl, rfl⟩) ?_ | refine QCallW.intro _ _ (MapF.no kindKs rfl (by simp only [kindKs, List.mem_cons, List.not_mem_nil, or_false]; omega) ⟨rfl, rfl⟩) ?_ | refine QCallW.intro (I d.kind) _ ⟨rfl, rfl⟩ ?_)
    all_goals conv => whnf
    all_goals exact FinP.drop (n := 0) rfl (Nat.le_refl 0) rfl rfl ⟨rfl, rfl⟩
end Go.Proofs.Ytjknhbfcdjjbhaa
