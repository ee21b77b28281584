/-
  demands: cuts are beginnings; what a beginning dooms is broken by the full list.
-/
import Derived.Test.YtjknhbfcdjjbhaaDemX
namespace Go.Proofs.Ytjknhbfcdjjbhaa
open Go.Tidy
set_option maxRecDepth 100000
set_option maxHeartbeats 0
set_option linter.unusedSimpArgs false
set_option linter.unusedVariables false
theorem beg_take : ∀ (k : Nat) (l : List (List Mt)), Beg (l.take k) l
  | 0, l => by rw [List.take_zero]; exact .nil l
  | _ + 1, [] => by rw [List.take_nil]; exact .nil []
  | k + 1, r :: l => by rw [List.take_succ_cons]; exact .cons r (beg_take k l)
theorem beg_take1 : ∀ (k : Nat) (l : List (List Mt)) (hk : k < l.length) (j : Nat), 0 < j → Beg (l.take k ++ [l[k].take j]) l
  | _, [], hk, _, _ => by simp at hk
  | 0, r :: l, _, j, hj => .last r l j hj
  | k + 1, r :: l, hk, j, hj => by
    rw [List.take_succ_cons, List.cons_append]
    exact .cons r (beg_take1 k l (by simpa using hk) j hj)
theorem cut_beg (l : List (List Mt)) (n m : Int) : Beg (cutF l n m) l := by
  unfold cutF
  by_cases h : 0 ≤ n ∧ n < l.length ∧ 0 < m
  · have hk : n.toNat < l.length := by omega
    rw [if_pos h, List.getElem?_eq_getElem hk]
    exact beg_take1 n.toNat l hk m.toNat (by omega)
  · rw [if_neg h, List.append_nil]; exact beg_take _ _
theorem Beg.small {A l : List (List Mt)} {p : Pl} (h : Beg A l) (hs : Small l p) : Small A p := by
  have := h.len
  refine ⟨by have := hs.hl; omega, fun r hr => ?_, hs.hc, hs.hd, hs.hD⟩
  obtain ⟨i, hi, rfl⟩ := List.getElem_of_mem hr
  obtain ⟨m, _, e, _⟩ := h.get i hi (by omega)
  have := hs.hr _ (List.getElem_mem (show i < l.length by omega))
  rw [e, List.length_take]; omega
theorem doomGo_mem {R : List Rnd} {x : Nat} : ∀ {ds : List Dm} {i : Nat}, x ∈ doomGo R ds i ↔ ∃ (a : Nat) (ha : a < ds.length), x = i + a ∧ doomsF R ds[a] = true
  | [], i => by simp [doomGo]
  | d :: ds, i => by
    have ih := doomGo_mem (R := R) (x := x) (ds := ds) (i := i + 1)
    have key : (∃ (a : Nat) (ha : a < (d :: ds).length), x = i + a ∧ doomsF R (d :: ds)[a] = true) ↔ (x = i ∧ doomsF R d = true) ∨ x ∈ doomGo R ds (i + 1) := by
      rw [ih]
      constructor
      · rintro ⟨a, ha, e, hd⟩
        cases a with
        | zero => exact .inl ⟨e, hd⟩
        | succ a => exact .inr ⟨a, by simpa using ha, by omega, hd⟩
      · rintro (⟨e, hd⟩ | ⟨a, ha, e, hd⟩)
        · exact ⟨0, by simp, e, hd⟩
        · exact ⟨a + 1, by simpa using ha, by omega, hd⟩
    rw [key, doomGo]
    cases hd : doomsF R d with
    | true => rw [if_pos rfl, List.mem_cons]; simp
    | false => rw [if_neg (by simp)]; simp
theorem doomL_mem {R : List Rnd} {p : Pl} {x : Int} : x ∈ doomL R p ↔ ∃ (a : Nat) (ha : a < p.demands.length), x = (a : Int) ∧ doomsF R p.demands[a] = true := by
  unfold doomL
  rw [List.mem_map]
  constructor
  · rintro ⟨y, hy, rfl⟩
    obtain ⟨a, ha, e, hd⟩ := doomGo_mem.1 hy
    exact ⟨a, ha, by omega, hd⟩
  · rintro ⟨a, ha, rfl, hd⟩
    exact ⟨a, doomGo_mem.2 ⟨a, ha, by omega, hd⟩, rfl⟩
theorem doomL_head (R : List Rnd) (p : Pl) : ((doomL R p).headD (-1) = -1 ∧ doomL R p = []) ∨ (doomL R p).headD (-1) ∈ doomL R p := by
  cases doomL R p with
  | nil => exact .inl ⟨rfl, rfl⟩
  | cons x l => exact .inr (List.mem_cons_self ..)
theorem full_same {l : List (List Mt)} {p : Pl} (hr : ∀ r ∈ l, r.length ≤ 4611686018427387904) (hF : FullP l p) : SameV (l.map hRnd) (seenV l p) := by
  refine ⟨by unfold seenV; rw [List.length_map, List.length_map], fun i hi hj => ?_, fun i hi hj => ?_⟩
  all_goals
    have hil : i < l.length := by simpa using hi
    have hri := hr _ (List.getElem_mem hil)
    have e1 : (l.map hRnd)[i] = hRnd l[i] := List.getElem_map ..
    have e2 : (seenV l p)[i] = seenR p l[i] := List.getElem_map ..
    rw [e1, e2]
    unfold hRnd; rw [dif_pos hri]
  · rfl
  · funext c
    have h1 := (hF.1.2 i hil).2.1
    have h2 : halfN p ≤ l[i].length := by
      by_cases hlt : i + 1 < l.length
      · exact (hF.1.2 i hil).2.2.1 hlt
      · refine hF.2.2 _ ?_
        rw [List.getLast?_eq_getElem?, show l.length - 1 = i by omega, List.getElem?_eq_getElem hil]
    show true = (decide (l[i].length = halfN p) || decide (c < lastM l[i]))
    rw [decide_eq_true (show l[i].length = halfN p by omega)]; rfl
theorem full_dooms {l : List (List Mt)} {p : Pl} {d : Dm} (hr : ∀ r ∈ l, r.length ≤ 4611686018427387904) (hF : FullP l p) (hk : 1 ≤ d.kind ∧ d.kind ≤ 10) : doomsF (l.map hRnd) d = doomsF (pR l p) d := by
  rw [dooms_eq (full_same hr hF) (hLast hr) hk, dooms_eq (pSame hr) (pLast hr hF.1) hk]
theorem valid_round {p : Pl} {d : Dm} (h : validF p d = true) (hk : d.kind ≤ 4) : 0 ≤ d.round ∧ d.round < roundsN p := by
  have hkk := valid_kind h
  have hq : qRound p d = true := by
    unfold validF at h
    by_cases h1 : d.kind = 1 ∨ d.kind = 2 ∨ d.kind = 3
    · rw [if_pos h1] at h
      unfold v1 at h; simp only [Bool.and_eq_true] at h; exact h.1.2.1
    · rw [if_neg h1, if_pos (by omega)] at h
      unfold v4 at h; simp only [Bool.and_eq_true] at h; exact h.1.2.2.1
  exact of_decide_eq_true hq
theorem full_holds {l : List (List Mt)} {p : Pl} {d : Dm} (hr : ∀ r ∈ l, r.length ≤ 4611686018427387904) (hF : FullP l p) (hv : validF p d = true) : holdsF l d = !doomsF (pR l p) d := by
  have hk := valid_kind hv
  unfold holdsF
  rw [decide_eq_true hk, full_dooms hr hF hk]
  by_cases h4 : d.kind ≤ 4
  · obtain ⟨h1, h2⟩ := valid_round hv h4
    rw [decide_eq_false (show ¬ d.round < 0 by omega), decide_eq_false (show ¬ (l.length : Int) ≤ d.round by rw [hF.2.1]; omega)]
    simp
  · rw [decide_eq_false h4]; simp
theorem part_rnds {l : List (List Mt)} {p : Pl} (hs : Small l p) (h0 : checkP p = 0) (hP : PartP l p) : ∀ r ∈ l, RndR p.clubs r ∧ r.length ≤ halfN p ∧ r.length ≤ 4611686018427387904 := fun r hr => by
  have hR := (PartP_iff l p (checkP_field h0)).1 hP
  have hs := hs.hr r hr
  obtain ⟨i, hi, rfl⟩ := List.getElem_of_mem hr
  exact ⟨(hR.2.1 i hi).1, hP.len hi, hs⟩
theorem beg_part {A l : List (List Mt)} {p : Pl} (hb : Beg A l) (h0 : checkP p = 0) (hP : PartP l p) : PartP A p :=
  (PartP_iff A p (checkP_field h0)).2 (((PartP_iff l p (checkP_field h0)).1 hP).beg hb)
theorem beg_dooms {A l : List (List Mt)} {p : Pl} {x : Int} (hb : Beg A l) (hs : Small l p) (h0 : checkP p = 0) (hP : PartP l p) (hx : x ∈ doomL (pR A p) p) : x ∈ doomL (pR l p) p := by
  obtain ⟨a, ha, e, hd⟩ := doomL_mem.1 hx
  exact doomL_mem.2 ⟨a, ha, e, dooms_mono (hb.rnds (part_rnds hs h0 hP)) hd⟩
end Go.Proofs.Ytjknhbfcdjjbhaa
