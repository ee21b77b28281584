/-
  demands: a pledge of one demand; what a list dooms first.
-/
import Derived.Test.YtjknhbfcdjjbhaaDemY
namespace Go.Proofs.Ytjknhbfcdjjbhaa
open Go.Tidy
set_option maxRecDepth 100000
set_option maxHeartbeats 0
set_option linter.unusedSimpArgs false
set_option linter.unusedVariables false
def oneP (p : Pl) (d : Dm) : Pl := { p with demands := [d] }
theorem part_one {l : List (List Mt)} {p : Pl} {d : Dm} : PartP l (oneP p d) ↔ PartP l p := Iff.rfl
theorem pR_one (l : List (List Mt)) (p : Pl) (d : Dm) : pR l (oneP p d) = pR l p := rfl
theorem check_one {p : Pl} {d : Dm} (h : checkP p = 0) (hd : d ∈ p.demands) : checkP (oneP p d) = 0 := by
  have hv := checkP_valid h d hd
  have hv' : validF (oneP p d) d = true := hv
  have hf : fieldOk (oneP p d).clubs 2 = true := checkP_field (p := p) h
  unfold checkP
  rw [if_pos hf, if_pos (show (oneP p d).demands.length ≤ 128 by unfold oneP; simp), if_pos (by unfold oneP at hv' ⊢; simp [hv'])]
theorem small_one {l : List (List Mt)} {p : Pl} {d : Dm} (hs : Small l p) (hd : d ∈ p.demands) : Small l (oneP p d) :=
  ⟨hs.hl, hs.hr, hs.hc, fun x hx => by
    have : x = d := by simpa [oneP] using hx
    rw [this]; exact hs.hd d hd, by simp [oneP]⟩
theorem doomGo_le {R : List Rnd} : ∀ {ds : List Dm} {i x : Nat}, x ∈ doomGo R ds i → ∃ y t, doomGo R ds i = y :: t ∧ y ≤ x
  | [], i, x, h => by simp [doomGo] at h
  | d :: ds, i, x, h => by
    rw [doomGo] at h ⊢
    cases hd : doomsF R d with
    | true =>
      rw [hd] at h
      simp only [if_true] at h ⊢
      refine ⟨i, _, rfl, ?_⟩
      rcases List.mem_cons.1 h with e | h
      · omega
      · obtain ⟨a, _, e, _⟩ := doomGo_mem.1 h; omega
    | false =>
      rw [hd] at h
      simp only [Bool.false_eq_true, if_false] at h ⊢
      exact doomGo_le h
theorem head_le {R : List Rnd} {p : Pl} {x : Int} (h : x ∈ doomL R p) : 0 ≤ (doomL R p).headD (-1) ∧ (doomL R p).headD (-1) ≤ x := by
  unfold doomL at h ⊢
  obtain ⟨y, hy, rfl⟩ := List.mem_map.1 h
  obtain ⟨z, t, e, hz⟩ := doomGo_le hy
  rw [e]
  simp only [List.map_cons, List.headD_cons]
  omega
theorem dmA_of {l : List (List Mt)} {p : Pl} (h0 : checkP p = 0) (hP : PartP l p) : dmA l p = (doomL (pR l p) p).headD (-1) ∧ dmE l p = 0 := by
  unfold dmA dmE
  rw [if_pos ⟨h0, hP⟩, if_pos h0, if_pos hP]; exact ⟨rfl, rfl⟩
theorem dmA_ne {l : List (List Mt)} {p : Pl} (h : ¬ dmE l p = 0) : dmA l p = 0 := by
  unfold dmA
  refine if_neg fun hh => h ?_
  unfold dmE; rw [if_pos hh.1, if_pos hh.2]
theorem dmE_zero {l : List (List Mt)} {p : Pl} (h : dmE l p = 0) : checkP p = 0 ∧ PartP l p := by
  unfold dmE at h
  by_cases h0 : checkP p = 0
  · rw [if_pos h0] at h
    by_cases hF : PartP l p
    · exact ⟨h0, hF⟩
    · rw [if_neg hF] at h; omega
  · rw [if_neg h0] at h; exact absurd h h0
theorem goes_on {l A : List (List Mt)} {p : Pl} {d : Dm} (hb : Beg A l) (hs : Small l p) (hE : dmE l p = 0) (hd : d ∈ p.demands) :
    dmE A p = 0 ∧ dmE l (oneP p d) = 0 ∧ dmE A (oneP p d) = 0 ∧ ¬ (0 ≤ dmA A p ∧ (dmA l p < 0 ∨ dmA A p < dmA l p)) ∧ (dmA A (oneP p d) < 0 ∨ dmA l (oneP p d) = 0) ∧ (dmA l (oneP p d) < 0 ∨ 0 ≤ dmA l p) := by
  obtain ⟨h0, hP⟩ := dmE_zero hE
  have hPA := beg_part hb h0 hP
  have h01 := check_one h0 hd
  have hs1 := small_one hs hd
  obtain ⟨a1, e1⟩ := dmA_of h0 hP
  obtain ⟨a2, e2⟩ := dmA_of h0 hPA
  obtain ⟨a3, e3⟩ := dmA_of h01 (part_one.2 hP)
  obtain ⟨a4, e4⟩ := dmA_of h01 (part_one.2 hPA)
  refine ⟨e2, e3, e4, ?_, ?_, ?_⟩
  · rw [a1, a2]
    rintro ⟨hp, hq⟩
    rcases doomL_head (pR A p) p with ⟨h, _⟩ | h
    · omega
    · have := head_le (beg_dooms hb hs h0 hP h)
      omega
  · rw [a3, a4]
    rcases doomL_head (pR A (oneP p d)) (oneP p d) with ⟨h, _⟩ | h
    · exact .inl (by omega)
    · have h1 := beg_dooms hb hs1 h01 (part_one.2 hP) h
      have := head_le h1
      rcases doomL_head (pR l (oneP p d)) (oneP p d) with ⟨h2, _⟩ | h2
      · omega
      · obtain ⟨a, ha, e, _⟩ := doomL_mem.1 h2
        have : a < 1 := by simpa [oneP] using ha
        exact .inr (by omega)
  · rw [a3, a1]
    rcases doomL_head (pR l (oneP p d)) (oneP p d) with ⟨h2, _⟩ | h2
    · exact .inl (by omega)
    · obtain ⟨a, ha, e, hdm⟩ := doomL_mem.1 h2
      have ha1 : a = 0 := by have : a < 1 := by simpa [oneP] using ha
                             omega
      subst ha1
      have hdd : doomsF (pR l p) d = true := hdm
      obtain ⟨j, hj, rfl⟩ := List.getElem_of_mem hd
      exact .inr (head_le (doomL_mem.2 ⟨j, hj, rfl, hdd⟩)).1
end Go.Proofs.Ytjknhbfcdjjbhaa
