/-
  The statement StatsTotals: its call's contract, and the statement.
-/
import Derived.Test.YtnkfifkgbkgcjaaLawB
import Derived.Test.YtnkfifkgbkgcjaaStatsN
namespace Go.Proofs.Ytnkfifkgbkgcjaa.totals
open Go.Tidy Go.ChangeShapes Go.WideShapes Go.ChangeAt Go.RowKit
set_option maxRecDepth 100000
set_option maxHeartbeats 0
set_option linter.unusedSimpArgs false
set_option linter.unusedVariables false
theorem sum_bound {α : Type} {f : α → Int} {b : Int} : ∀ {L : List α}, (∀ x ∈ L, 0 ≤ f x ∧ f x ≤ b) → 0 ≤ (L.map f).sum ∧ (L.map f).sum ≤ b * L.length
  | [], _ => by simp
  | x :: L, h => by
    have h1 := h x (by simp)
    have h2 := sum_bound (L := L) fun y hy => h y (by simp [hy])
    simp only [List.map_cons, List.sum_cons, List.length_cons]
    rw [show ((L.length + 1 : Nat) : Int) = (L.length : Int) + 1 by omega, Int.mul_add]
    omega
def ps {α : Type} (f : α → Int) (L : List α) (i : Nat) : Int := ((L.take i).map f).sum
theorem ps_next {α : Type} (f : α → Int) {L : List α} {i : Nat} (h : i < L.length) : ps f L (i + 1) = ps f L i + f L[i] := by
  unfold ps
  rw [take_next h, List.map_append, List.sum_append]
  simp only [List.map_cons, List.map_nil, List.sum_cons, List.sum_nil, Int.add_zero]
theorem ps_all {α : Type} (f : α → Int) {L : List α} {i : Nat} (h : ¬ i < L.length) : ps f L i = (L.map f).sum := by
  unfold ps
  rw [List.take_of_length_le (by omega)]
theorem ps_bound {α : Type} {f : α → Int} {b : Int} {L : List α} (i : Nat) (hb : 0 ≤ b) (h : ∀ x ∈ L, 0 ≤ f x ∧ f x ≤ b) : 0 ≤ ps f L i ∧ ps f L i ≤ b * L.length := by
  have h1 := sum_bound (f := f) (b := b) (L := L.take i) fun x hx => h x (List.mem_of_mem_take hx)
  refine ⟨h1.1, Int.le_trans h1.2 (Int.mul_le_mul_of_nonneg_left ?_ hb)⟩
  have : (L.take i).length ≤ L.length := by rw [List.length_take]; omega
  omega

theorem rowOk_of {w : Worth} {n : Int} {r : Row} (h : RowInv w n r) (hc : 0 ≤ r.club ∧ r.club ≤ 191) (hn : n ≤ 1000) : rowOk r := by
  obtain ⟨h1, h2, h3, h4, h5, h6, h7, h8, h9, h10, h11, h12⟩ := h
  unfold rowOk
  omega
theorem mul_bound {a n : Int} (ha : -99 ≤ a ∧ a ≤ 99) (hn : 0 ≤ n ∧ n ≤ 1000) : -99000 ≤ a * n ∧ a * n ≤ 99000 := by
  have h1 : a * n ≤ 99 * n := Int.mul_le_mul_of_nonneg_right ha.2 hn.1
  have h2 : -99 * n ≤ a * n := Int.mul_le_mul_of_nonneg_right ha.1 hn.1
  omega
theorem nTally_club (w : Worth) : ∀ (l : List Res) (g : Int → Row) (c : Int), (nTally w l g c).club = (g c).club
  | [], _, _ => rfl
  | r :: l, g, c => by
    rw [nTally, nTally_club w l]
    have step : ∀ (g : Int → Row) (s : Side), (nTallyS w g s c).club = (g c).club := fun g s => by
      unfold nTallyS
      split
      · unfold nCount
        split
        · rfl
        · split <;> rfl
      · rfl
    rw [step, step]
/-- What is known of the rows where all is in order. -/
structure Known (l : List Res) (clubs : List Int) (w : Worth) (X : Int → Row) : Prop where
  inv : ∀ c, RowInv w (hits c l) (X c)
  club : ∀ c, (X c).club = c
  field : ∀ c ∈ clubs, 0 ≤ c ∧ c ≤ 191
  sum : ∀ (φ : Row → Int) (δ : Side → Int), (∀ r s, φ (nCount r s w) = φ r + δ s) → (∀ c, φ (rowC c) = 0) → (clubs.map fun c => φ (X c)).sum = (l.map (both2 δ)).sum
theorem check_parts {l : List Res} {clubs : List Int} {w : Worth} (h : checkF l clubs w = 0) : fieldOk clubs 1 = true ∧ worthOk w ∧ ∀ r ∈ l, resOk r := by
  unfold checkF at h
  split at h
  · rename_i h1
    split at h
    · rename_i h2
      split at h
      · rename_i h3
        refine ⟨h1, h2, fun r hr => ?_⟩
        exact of_decide_eq_true (List.all_eq_true.1 h3 r hr)
      · cases h
    · cases h
  · cases h
theorem rows_known {l : List Res} {clubs : List Int} {w : Worth} {R : List Row} (h : rowsF l clubs w = (R, 0)) (hl : l.length ≤ 40) : R = clubs.map (tally w l rowC) ∧ Known l clubs w (tally w l rowC) ∧ clubs.length ≤ 24 ∧ (∀ r ∈ l, resOk r) ∧ worthOk w := by
  unfold rowsF at h
  split at h
  · rename_i h0
    obtain ⟨h1, h2, h3⟩ := check_parts h0
    split at h
    · rename_i hk
      cases h
      simp only [fieldOk, Bool.and_eq_true, decide_eq_true_eq] at h1
      have hnd := incr_nodup h1.1.1
      have hinv := fun c => tally_inv h2 l rowC rowC c 0 h3 (by omega) rfl (RowInv.zero w c)
      have heq : tally w l rowC = nTally w l rowC := funext fun c => (hinv c).1
      refine ⟨rfl, ⟨fun c => ?_, fun c => ?_, fun c hc => ?_, fun φ δ hφ h0' => ?_⟩, h1.2, h3, h2⟩
      · rw [heq]; simpa using (hinv c).2
      · rw [heq, nTally_club]; rfl
      · obtain ⟨j, hj, rfl⟩ := List.mem_iff_getElem.1 hc
        have := ((okAt_at hj).1 ((incr_iff clubs).1 h1.1.1 j)).1
        omega
      · rw [heq, ← sum_clubs hnd δ l (fun r hr => List.all_eq_true.1 hk r hr)]
        refine congrArg List.sum (List.map_congr_left fun c _ => ?_)
        rw [field_sum hφ, h0', Int.zero_add]
    · cases h
  · rename_i h0
    injection h with _ h
    exact absurd h h0

theorem rowsF_err {l : List Res} {clubs : List Int} {w : Worth} {R : List Row} {e : Int} (h : rowsF l clubs w = (R, e)) (he : e ≠ 0) : R = [] := by
  unfold rowsF at h
  split at h
  · split at h
    · cases h; exact absurd rfl he
    · cases h; rfl
  · cases h; rfl
section
variable {l : List Res} {clubs : List Int} {w : Worth} {X : Int → Row} (hK : Known l clubs w X) (hl : l.length ≤ 40)
include hK hl
theorem played_b (c : Int) : 0 ≤ (X c).played ∧ (X c).played ≤ 80 ∧ (80 : Int) ≤ 10000 := by
  have h := hK.inv c; have := hits_le c l; have := h.played; omega
theorem goals_b (c : Int) : 0 ≤ (X c).goals ∧ (X c).goals ≤ 7920 ∧ (7920 : Int) ≤ 10000 := by
  have h := hK.inv c; have := hits_le c l; have := h.goals; omega
theorem against_b (c : Int) : 0 ≤ (X c).against ∧ (X c).against ≤ 7920 ∧ (7920 : Int) ≤ 10000 := by
  have h := hK.inv c; have := hits_le c l; have := h.against; omega
theorem away_b (c : Int) : 0 ≤ (X c).awayFor ∧ (X c).awayFor ≤ 7920 ∧ (7920 : Int) ≤ 10000 := by
  have h := hK.inv c; have := hits_le c l; have := h.awayFor; have := h.goals; omega
theorem cards_b (c : Int) : 0 ≤ (X c).cards ∧ (X c).cards ≤ 9600 ∧ (9600 : Int) ≤ 10000 := by
  have h := hK.inv c; have := hits_le c l; have := h.cards; omega
end
theorem law (l : List Res) (clubs : List Int) (w : Worth) : CallP C 5 [.d (ress l), .d (ints clubs), I w.win, I w.draw, I w.loss] [] fun X L => L = [] ∧ X = .d (.bool true) := by
  refine callP_of C_ok Try.func5 rfl rfl (n := _) rfl (Nat.le_of_ble_eq_true rfl) (rs := _) rfl ?_
  conv => whnf
  refine sane_c ?_
  repeat' (conv => whnf
           first | refine Br.tt ?_ | refine Br.ff ?_ | refine Br.dec (fun h => ?_) (fun h => ?_) | refine Br.not ?_ | refine Br.intro (fun h => ?_) (fun h => ?_) | refine GetE.intro _ rfl ?_ | refine Need.intro rfl ?_ | refine DrawP.go mixed rfl ?_)
  refine few_c l clubs ?_
  repeat' (conv => whnf
           first | refine Br.tt ?_ | refine Br.ff ?_ | refine Br.dec (fun h => ?_) (fun h => ?_) | refine Br.not ?_ | refine Br.intro (fun h => ?_) (fun h => ?_) | refine GetE.intro _ rfl ?_ | refine Need.intro rfl ?_ | refine DrawP.go mixed rfl ?_ | refine FinP.drop (n := 0) rfl (Nat.le_refl 0) rfl rfl ⟨rfl, rfl⟩)
  have hfew := h
  clear h
  rcases hRe : rowsF l clubs w with ⟨R, e⟩
  refine rows_e hRe (by omega) (by omega) ?_
  by_cases he : e = 0
  · subst he
    obtain ⟨rfl, hK, hlen, hres, hw⟩ := rows_known hRe hfew.1
    generalize tally w l rowC = X at hK
    clear hRe
    have hps : ∀ (f : Int → Int) (b : Int), (∀ c, 0 ≤ f c ∧ f c ≤ b ∧ b ≤ 10000) → ∀ (i : Nat) (hi : i < clubs.length), IntKind.i64.wrap (ps f clubs i + f clubs[i]) = ps f clubs (i + 1) := fun f b hf i hi => by
      rw [ps_next f hi]
      have h1 := hf clubs[i]
      have h2 := ps_bound (f := f) (b := b) (L := clubs) i (by omega) fun x _ => ⟨(hf x).1, (hf x).2.1⟩
      have h3 : b * (clubs.length : Int) ≤ 10000 * 24 := by
        have : b * (clubs.length : Int) ≤ 10000 * clubs.length := Int.mul_le_mul_of_nonneg_right h1.2.2 (by omega)
        omega
      exact wrap_in (by omega)
    repeat' (conv => whnf
             first | refine Br.tt ?_ | refine Br.ff ?_ | refine Br.dec (fun h => ?_) (fun h => ?_) | refine Br.not ?_ | refine Br.intro (fun h => ?_) (fun h => ?_) | refine GetE.intro _ rfl ?_ | refine Need.intro rfl ?_ | refine DrawP.go mixed rfl ?_)
    · refine LoopP.intro (ι := { i : Nat // i ≤ clubs.length })
        (fun i => ⟨[(0, .d (ress l)), (1, .d (ints clubs)), (2, I w.win), (3, I w.draw), (4, I w.loss), (11, .d (rowsD (clubs.map X))), (13, I (ps (fun c => (X c).played) clubs i.1)), (14, I (ps (fun c => (X c).goals) clubs i.1)), (15, I (ps (fun c => (X c).against) clubs i.1)),
          (16, I (ps (fun c => (X c).awayFor) clubs i.1)), (17, I (ps (fun c => (X c).cards) clubs i.1)), (18, I i.1)], 179, [], [], none⟩) (fun i => clubs.length - i.1) ⟨0, Nat.zero_le _⟩ ?_ ?_
      · exact Weak.by ⟨rfl, rfl, rfl, rfl, rfl, rfl, rfl, rfl, rfl, rfl, rfl, rfl, trivial⟩
      rintro ⟨i, hi⟩
      conv => whnf
      refine Br.dec (fun hb => ?_) (fun hb => ?_)
      · have hi' : i < clubs.length := by simpa using hb
        have hrow : (List.map Row.cells (List.map X clubs))[i]? = some (X clubs[i]).cells := by simp [List.getElem?_eq_getElem hi']
        have hin := hK.inv clubs[i]
        have hh := hits_le clubs[i] l
        have hclub := hK.club clubs[i]
        have hok : rowOk (X clubs[i]) := rowOk_of hin (by rw [hclub]; exact hK.field _ (List.getElem_mem hi')) (by omega)
        have hpts : IntKind.i64.wrap (IntKind.i64.wrap (IntKind.i64.wrap (w.win * (X clubs[i]).won) + IntKind.i64.wrap (w.draw * (X clubs[i]).drawn)) + IntKind.i64.wrap (w.loss * (X clubs[i]).lost)) = (X clubs[i]).points := by
          have b1 := mul_bound hw.1 (n := (X clubs[i]).won) ⟨hin.won, by have := hin.parts; have := hin.drawn; have := hin.lost; omega⟩
          have b2 := mul_bound hw.2.1 (n := (X clubs[i]).drawn) ⟨hin.drawn, by have := hin.parts; have := hin.won; have := hin.lost; omega⟩
          have b3 := mul_bound hw.2.2 (n := (X clubs[i]).lost) ⟨hin.lost, by have := hin.parts; have := hin.drawn; have := hin.won; omega⟩
          rw [wrap_in (n := w.win * _) (by omega), wrap_in (n := w.draw * _) (by omega), wrap_in (n := w.loss * _) (by omega), wrap_in (n := w.win * _ + w.draw * _) (by omega), wrap_in (by omega), hin.points]
        repeat' (conv => whnf
                 first | refine Idx.intro i _ rfl hrow ?_ | refine Idx.map i rfl hi' ?_ | refine QCall.intro _ (rowcheck_e (r := X clubs[i]) (m := 0) (if_pos hok) ⟨rfl, rfl⟩) ?_ | refine Br.no (Bool.not_eq_false'.2 (decide_eq_true hclub)) ?_ | refine Br.no (Bool.not_eq_false'.2 (decide_eq_true hpts.symm)) ?_ | refine Br.tt ?_ | refine Br.ff ?_ | refine Br.dec (fun h => ?_) (fun h => ?_) | refine Br.not ?_ | refine Br.intro (fun h => ?_) (fun h => ?_) | refine GetE.intro _ rfl ?_ | refine Need.intro rfl ?_ | refine DrawP.go mixed rfl ?_)
        · exact ⟨⟨i + 1, hi'⟩, by simp only []; omega, Weak.to 0 rfl (Nat.le_refl 0) (Nat.zero_le _) ⟨rfl, rfl, rfl, rfl, rfl, rfl, congrArg I (hps _ 80 (fun c => played_b hK hfew.1 c) i hi'), congrArg I (hps _ 7920 (fun c => goals_b hK hfew.1 c) i hi'), congrArg I (hps _ 7920 (fun c => against_b hK hfew.1 c) i hi'),
            congrArg I (hps _ 7920 (fun c => away_b hK hfew.1 c) i hi'), congrArg I (hps _ 9600 (fun c => cards_b hK hfew.1 c) i hi'), congrArg I (by rw [wrap_id] <;> (try simp only []) <;> omega), trivial⟩⟩
        · exact absurd hpts.symm h
        · exact absurd hclub h
      · have hie : ¬ i < clubs.length := by simpa using hb
        have hA : ∀ (f : Int → Int) (b : Int), (∀ c, 0 ≤ f c ∧ f c ≤ b ∧ b ≤ 10000) → 0 ≤ ps f clubs i ∧ ps f clubs i ≤ 240000 := fun f b hf => by
          have h2 := ps_bound (f := f) (b := b) (L := clubs) i (by have := hf 0; omega) fun x _ => ⟨(hf x).1, (hf x).2.1⟩
          have h3 : b * (clubs.length : Int) ≤ 10000 * clubs.length := Int.mul_le_mul_of_nonneg_right (hf 0).2.2 (by omega)
          omega
        have hB : ∀ (f : Res → Int) (m : Nat), (∀ r ∈ l, 0 ≤ f r ∧ f r ≤ 240) → 0 ≤ ps f l m ∧ ps f l m ≤ 9600 := fun f m hf => by
          have h2 := ps_bound (f := f) (b := 240) (L := l) m (by omega) hf
          omega
        have q1 := hA _ 80 (fun c => played_b hK hfew.1 c)
        have q2 := hA _ 7920 (fun c => goals_b hK hfew.1 c)
        have q3 := hA _ 7920 (fun c => against_b hK hfew.1 c)
        have q4 := hA _ 7920 (fun c => away_b hK hfew.1 c)
        have q5 := hA _ 9600 (fun c => cards_b hK hfew.1 c)
        have t1 : ps (fun c => (X c).played) clubs i = (l.map fun r => (2 : Int)).sum := by rw [ps_all _ hie]; exact hK.sum (·.played) (fun _ => 1) (fun r s => by unfold nCount; split <;> (try split) <;> rfl) (fun _ => rfl)
        have t2 : ps (fun c => (X c).goals) clubs i = (l.map fun r => r.hg + r.ag).sum := by rw [ps_all _ hie]; exact hK.sum (·.goals) (·.own) (fun r s => by unfold nCount; split <;> (try split) <;> rfl) (fun _ => rfl)
        have t3 : ps (fun c => (X c).against) clubs i = (l.map fun r => r.ag + r.hg).sum := by rw [ps_all _ hie]; exact hK.sum (·.against) (·.other) (fun r s => by unfold nCount; split <;> (try split) <;> rfl) (fun _ => rfl)
        have t4 : ps (fun c => (X c).awayFor) clubs i = (l.map fun r => 0 + r.ag).sum := by
          rw [ps_all _ hie]
          exact hK.sum (·.awayFor) (fun s => bif s.away then s.own else 0) (fun r s => by unfold nCount; split <;> (try split) <;> (simp only [nBase]; cases s.away <;> simp)) (fun _ => rfl)
        have t5 : ps (fun c => (X c).cards) clubs i = (l.map fun r => r.hc + r.ac).sum := by rw [ps_all _ hie]; exact hK.sum (·.cards) (·.cards) (fun r s => by unfold nCount; split <;> (try split) <;> rfl) (fun _ => rfl)
        repeat' (conv => whnf
                 first | refine Br.tt ?_ | refine Br.ff ?_ | refine Br.dec (fun h => ?_) (fun h => ?_) | refine Br.not ?_ | refine Br.intro (fun h => ?_) (fun h => ?_) | refine GetE.intro _ rfl ?_ | refine Need.intro rfl ?_ | refine DrawP.go mixed rfl ?_)
        refine LoopP.intro (ι := { m : Nat // m ≤ l.length })
          (fun m => ⟨[(0, .d (ress l)), (13, I (ps (fun c => (X c).played) clubs i - ps (fun _ => 2) l m.1)), (14, I (ps (fun c => (X c).goals) clubs i - ps (fun r => r.hg + r.ag) l m.1)), (15, I (ps (fun c => (X c).against) clubs i - ps (fun r => r.ag + r.hg) l m.1)),
            (16, I (ps (fun c => (X c).awayFor) clubs i - ps (fun r => 0 + r.ag) l m.1)), (17, I (ps (fun c => (X c).cards) clubs i - ps (fun r => r.hc + r.ac) l m.1)), (20, I m.1)], 179, [], [], none⟩) (fun m => l.length - m.1) ⟨0, Nat.zero_le _⟩ ?_ ?_
        · exact Weak.by ⟨rfl, congrArg I (by simp [ps]), congrArg I (by simp [ps]), congrArg I (by simp [ps]), congrArg I (by simp [ps]), congrArg I (by simp [ps]), rfl, trivial⟩
        rintro ⟨m, hm⟩
        conv => whnf
        refine Br.dec (fun hb => ?_) (fun hb => ?_)
        · have hm' : m < l.length := by simpa using hb
          have hr := hres l[m] (List.getElem_mem hm')
          unfold resOk at hr
          have z1 := hB (fun _ => 2) m (fun r _ => by omega)
          have z2 := hB (fun r => r.hg + r.ag) m (fun r h => by have := hres r h; unfold resOk at this; omega)
          have z3 := hB (fun r => r.ag + r.hg) m (fun r h => by have := hres r h; unfold resOk at this; omega)
          have z4 := hB (fun r => 0 + r.ag) m (fun r h => by have := hres r h; unfold resOk at this; omega)
          have z5 := hB (fun r => r.hc + r.ac) m (fun r h => by have := hres r h; unfold resOk at this; omega)
          repeat' (conv => whnf
                   first | refine Br.tt ?_ | refine Br.ff ?_ | refine Br.dec (fun h => ?_) (fun h => ?_) | refine Br.not ?_ | refine Br.intro (fun h => ?_) (fun h => ?_) | refine GetE.intro _ rfl ?_ | refine Need.intro rfl ?_ | refine DrawP.go mixed rfl ?_ | refine Idx.map m rfl hm' ?_)
          have w1 : IntKind.i64.wrap (ps (fun c => (X c).played) clubs i - ps (fun _ => 2) l m - 2) = ps (fun c => (X c).played) clubs i - ps (fun _ => 2) l (m + 1) := by
            rw [ps_next _ hm', wrap_in (by omega)]; omega
          have w2 : IntKind.i64.wrap (IntKind.i64.wrap (ps (fun c => (X c).goals) clubs i - ps (fun r => r.hg + r.ag) l m - l[m].hg) - l[m].ag) = ps (fun c => (X c).goals) clubs i - ps (fun r => r.hg + r.ag) l (m + 1) := by
            rw [ps_next _ hm', wrap_in (n := ps (fun c => (X c).goals) clubs i - _ - _) (by omega), wrap_in (by omega)]; omega
          have w3 : IntKind.i64.wrap (IntKind.i64.wrap (ps (fun c => (X c).against) clubs i - ps (fun r => r.ag + r.hg) l m - l[m].ag) - l[m].hg) = ps (fun c => (X c).against) clubs i - ps (fun r => r.ag + r.hg) l (m + 1) := by
            rw [ps_next _ hm', wrap_in (n := ps (fun c => (X c).against) clubs i - _ - _) (by omega), wrap_in (by omega)]; omega
          have w3' : IntKind.i64.wrap (IntKind.i64.wrap (ps (fun c => (X c).against) clubs i - ps (fun r => r.ag + r.hg) l m - l[m].hg) - l[m].ag) = ps (fun c => (X c).against) clubs i - ps (fun r => r.ag + r.hg) l (m + 1) := by
            rw [ps_next _ hm', wrap_in (n := ps (fun c => (X c).against) clubs i - _ - _) (by omega), wrap_in (by omega)]; omega
          have w4 : IntKind.i64.wrap (ps (fun c => (X c).awayFor) clubs i - ps (fun r => 0 + r.ag) l m - l[m].ag) = ps (fun c => (X c).awayFor) clubs i - ps (fun r => 0 + r.ag) l (m + 1) := by
            rw [ps_next _ hm', wrap_in (by omega)]; omega
          have w5 : IntKind.i64.wrap (IntKind.i64.wrap (ps (fun c => (X c).cards) clubs i - ps (fun r => r.hc + r.ac) l m - l[m].hc) - l[m].ac) = ps (fun c => (X c).cards) clubs i - ps (fun r => r.hc + r.ac) l (m + 1) := by
            rw [ps_next _ hm', wrap_in (n := ps (fun c => (X c).cards) clubs i - _ - _) (by omega), wrap_in (by omega)]; omega
          exact ⟨⟨m + 1, hm'⟩, by simp only []; omega, Weak.by ⟨rfl, congrArg I w1, congrArg I w2, congrArg I (by first | exact w3 | exact w3'), congrArg I w4, congrArg I w5,
            congrArg I (by rw [wrap_id] <;> (try simp only []) <;> omega), trivial⟩⟩
        · have hme : ¬ m < l.length := by simpa using hb
          have y1 : ps (fun c => (X c).played) clubs i - ps (fun _ => 2) l m = 0 := by rw [t1, ps_all _ hme]; omega
          have y2 : ps (fun c => (X c).goals) clubs i - ps (fun r => r.hg + r.ag) l m = 0 := by rw [t2, ps_all _ hme]; omega
          have y3 : ps (fun c => (X c).against) clubs i - ps (fun r => r.ag + r.hg) l m = 0 := by rw [t3, ps_all _ hme]; omega
          have y4 : ps (fun c => (X c).awayFor) clubs i - ps (fun r => 0 + r.ag) l m = 0 := by rw [t4, ps_all _ hme]; omega
          have y5 : ps (fun c => (X c).cards) clubs i - ps (fun r => r.hc + r.ac) l m = 0 := by rw [t5, ps_all _ hme]; omega
          repeat' (conv => whnf
                   first | refine Br.yes (decide_eq_true y1) ?_ | refine Br.yes (decide_eq_true y2) ?_ | refine Br.yes (decide_eq_true y3) ?_ | refine Br.yes (decide_eq_true y4) ?_ | refine Br.tt ?_ | refine Br.ff ?_ | refine Br.dec (fun h => ?_) (fun h => ?_) | refine Br.not ?_ | refine Br.intro (fun h => ?_) (fun h => ?_) | refine GetE.intro _ rfl ?_ | refine Need.intro rfl ?_ | refine DrawP.go mixed rfl ?_)
          conv => whnf
          exact FinP.drop (n := 0) rfl (Nat.le_refl 0) rfl rfl ⟨rfl, congrArg B (decide_eq_true y5)⟩
    · exact absurd (by simp) h
  · have hR := rowsF_err hRe he
    subst hR
    conv => whnf
    refine Br.yes (by simp [he]) ?_
    repeat' (conv => whnf
             first | refine Br.tt ?_ | refine Br.ff ?_ | refine Br.dec (fun h => ?_) (fun h => ?_) | refine Br.not ?_ | refine Br.intro (fun h => ?_) (fun h => ?_) | refine GetE.intro _ rfl ?_ | refine Need.intro rfl ?_ | refine DrawP.go mixed rfl ?_)
    conv => whnf
    exact FinP.drop (n := 0) rfl (Nat.le_refl 0) rfl rfl ⟨rfl, rfl⟩
theorem call_closed : ∀ xss, TyA C.P Try.f5.params.toList xss → CallP C 5 (argVs C.P Try.f5.params.toList xss) [] fun X L => L = [] ∧ X = .d (.bool true) := by
  intro xss h
  match xss, h with
  | [x1, x2, x3, x4, x5], ⟨h1, h2, h3, h4, h5, _⟩ =>
    obtain ⟨x1, rfl, _⟩ := ressT h1
    obtain ⟨x2, rfl, _⟩ := intsT h2
    obtain ⟨x3, rfl⟩ := intT h3
    obtain ⟨x4, rfl⟩ := intT h4
    obtain ⟨x5, rfl⟩ := intT h5
    exact law x1 x2 ⟨x3, x4, x5⟩
set_option maxRecDepth 100000 in
theorem lifted (os : Os) (started : os.Started) (H : Type) (enc : TypeId × Value → H) :
    ReturnsInHanded {} Try.checked os 5 .any (Rows.statsTotalsSpec.pre6 enc Try.prog Try.f5 Rows.statsTotalsRow.domain false) (Rows.statsTotalsSpec.post enc Try.prog Try.f5 false true false false) := by
  refine returnsInHanded_of_change (C := Try.checked) own started (by kernel_rfl) Try.func5
    (ChangeSpec.witness6 (enc := enc) (C := Try.checked) false ⟨#[], #[.slice none 0 0, .slice none 0 0, .int .i64 0, .int .i64 0, .int .i64 0], []⟩ 8 (by kernel_rfl) (by kernel_rfl) (by kernel_rfl) (by kernel_rfl)) ?_
  intro W base args ds gs before hval hW _ _
  refine law_of (C := C) (l := plainTys) kids full plainOk plainLt (fun t ht => ?_) rfl rfl Try.underlying4 (fun ds hd => ?_) call_closed hval hW
  · have : Try.f5.params.toList.all (fun t => plainTys.contains t) = true := by kernel_rfl
    simpa using List.all_eq_true.1 this t ht
  · match ds, hd with
    | [d1, d2, d3, d4, d5], _ => rfl
theorem proved : Rows.StatsTotalsSaid :=
  OpenClaim.holds_of_wide 5 Try.f5 rfl rfl rfl rfl rfl rfl rfl ⟨rfl, rfl, rfl, rfl, rfl⟩ rfl rfl rfl rfl rfl (by kernel_rfl) Try.func5 (by kernel_rfl)
    (of_decide_eq_true (by kernel_rfl)) (by unfold Func.isWrapper; first | (rw [if_pos (by decide +kernel)]; kernel_rfl) | (rw [if_neg (by decide +kernel)]; exact ⟨rfl, rfl⟩))
    (fun os started H enc _ => lifted os started H enc)
end Go.Proofs.Ytnkfifkgbkgcjaa.totals
