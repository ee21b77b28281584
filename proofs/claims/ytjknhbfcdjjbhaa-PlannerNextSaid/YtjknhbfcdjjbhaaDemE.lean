/-
  demands: which demands are valid; Check.
-/
import Derived.Test.YtjknhbfcdjjbhaaDemD
namespace Go.Proofs.Ytjknhbfcdjjbhaa
open Go.Tidy
set_option maxRecDepth 100000
set_option maxHeartbeats 0
set_option linter.unusedSimpArgs false
set_option linter.unusedVariables false
variable {L : List Blk} {k : V → List Blk → Prop}
def incrP (P : Int → Bool) : List Int → Bool
  | [] => true
  | [c] => P c
  | c :: d :: r => P c && decide (c < d) && incrP P (d :: r)
def okAtP (P : Int → Bool) (l : List Int) (j : Nat) : Prop := ∀ c, l[j]? = some c → P c = true ∧ (∀ d, 0 < j → l[j - 1]? = some d → d < c)
theorem incrP_iff (P : Int → Bool) : ∀ l : List Int, incrP P l = true ↔ ∀ j, okAtP P l j
  | [] => by simp [incrP, okAtP]
  | [c] => by
    simp only [incrP]
    refine ⟨fun h j x hx => ?_, fun h => (h 0 c rfl).1⟩
    cases j with
    | zero => simp at hx; subst hx; exact ⟨h, fun d hd => absurd hd (by omega)⟩
    | succ j => simp at hx
  | c :: d :: r => by
    simp only [incrP, Bool.and_eq_true, decide_eq_true_eq]
    rw [incrP_iff P (d :: r)]
    constructor
    · rintro ⟨⟨h1, h2⟩, h3⟩ j x hx
      cases j with
      | zero => simp at hx; subst hx; exact ⟨h1, fun d hd => absurd hd (by omega)⟩
      | succ j =>
        have := h3 j x (by simpa using hx)
        refine ⟨this.1, fun y _ hy => ?_⟩
        cases j with
        | zero => simp at hx hy; subst hx hy; exact h2
        | succ j => exact this.2 y (by omega) (by simpa using hy)
    · intro h
      refine ⟨⟨(h 0 c rfl).1, ?_⟩, fun j x hx => ⟨(h (j + 1) x (by simpa using hx)).1, fun y hj hy => ?_⟩⟩
      · exact (h 1 d rfl).2 c (by omega) rfl
      · refine (h (j + 1) x (by simpa using hx)).2 y (by omega) ?_
        cases j with
        | zero => omega
        | succ j => simpa using hy
theorem okAtP_at {P : Int → Bool} {l : List Int} {j : Nat} (hj : j < l.length) : okAtP P l j ↔ P l[j] = true ∧ ∀ h : 0 < j, l[j - 1]'(by omega) < l[j] := by
  refine ⟨fun h => ⟨(h _ (List.getElem?_eq_getElem hj)).1, fun h0 => (h _ (List.getElem?_eq_getElem hj)).2 _ h0 (List.getElem?_eq_getElem (by omega))⟩, fun h c hc => ?_⟩
  rw [List.getElem?_eq_getElem hj] at hc
  cases hc
  refine ⟨h.1, fun d h0 hd => ?_⟩
  rw [List.getElem?_eq_getElem (by omega)] at hd
  cases hd
  exact h.2 h0
def someF (P : Int → Bool) (l : List Int) : Bool := incrP P l && decide (2 ≤ l.length)
theorem someF_no {P : Int → Bool} {l : List Int} {j : Nat} (h : ¬ okAtP P l j) : false = someF P l := by
  unfold someF
  cases e : incrP P l with
  | false => rfl
  | true => exact absurd ((incrP_iff P l).1 e j) h
structure FarP (P : Int → Bool) (l : List Int) where
  i : Nat
  le : i ≤ l.length
  ok : ∀ j, j < i → okAtP P l j
def FarP.zero (P : Int → Bool) (l : List Int) : FarP P l := ⟨0, Nat.zero_le _, fun j h => absurd h (Nat.not_lt_zero j)⟩
def FarP.next {P : Int → Bool} {l : List Int} (s : FarP P l) (h : s.i < l.length) (hp : okAtP P l s.i) : FarP P l :=
  ⟨s.i + 1, h, fun j hj => by
    by_cases e : j = s.i
    · subst e; exact hp
    · exact s.ok j (by omega)⟩
theorem FarP.all {P : Int → Bool} {l : List Int} (s : FarP P l) (h : ¬ s.i < l.length) : incrP P l = true := (incrP_iff P l).2 fun j => by
  by_cases hj : j < s.i
  · exact s.ok j hj
  · intro c hc; have := lt_of_get hc; omega
theorem hasClubs_c (d : Dm) (p : Pl) (hl : p.clubs.length ≤ 4611686018427387904) (hd : d.clubs.length ≤ 4611686018427387904) (h : k (B (someF p.clubs.contains d.clubs)) L) : CallP C 80 [dmV d, plV p] L k := by
  refine CallP.pure ?_ rfl (fun _ => rfl) h
  clear h
  refine callP_of C_ok Try.func80 rfl rfl (n := _) rfl (Nat.le_of_ble_eq_true rfl) (rs := _) rfl ?_
  conv => whnf
  refine LoopP.intro (ι := FarP p.clubs.contains d.clubs) (fun s => ⟨[(2, .ptr 0 0), (3, .ptr 1 0), (4, B false), (8, .d (ints d.clubs)), (9, I d.clubs.length), (10, I s.i)], Try.f80.ntmps, [.cells (d.cells.map .d), .cells (p.cells.map .d)], [], none⟩) (fun s => d.clubs.length - s.i) (FarP.zero _ _) ?_ ?_
  · exact Weak.by ⟨rfl, rfl, rfl, rfl, congrArg I (by simp), rfl, trivial⟩
  intro s
  conv => whnf
  refine Br.dec (fun h => ?_) (fun h => ?_)
  · have hi : s.i < d.clubs.length := by simpa using h
    have hmi : 0 < s.i → IntKind.i64.wrap ((s.i : Int) - 1) = ((s.i - 1 : Nat) : Int) := fun h => by rw [wrap_in (by omega)]; omega
    repeat' (conv => whnf
             first | refine Br.tt ?_ | refine Br.ff ?_ | refine Br.dec (fun h => ?_) (fun h => ?_) | refine Br.not ?_ | refine Br.intro (fun h => ?_) (fun h => ?_) | refine GetE.intro _ rfl ?_ | refine Need.intro rfl ?_ | refine DrawP.go mixed rfl ?_ | refine Idx.map s.i rfl hi ?_ | refine contains_c p.clubs _ hl ?_ | refine QCall.intro _ (contains_c p.clubs _ hl ⟨rfl, rfl⟩) ?_ | refine Idx.map (s.i - 1) (by rw [wrap_id] <;> omega) (by omega) ?_)
    all_goals conv => whnf
    · exact FinP.drop (n := 0) rfl (Nat.le_refl 0) rfl rfl ⟨rfl, congrArg B (someF_no (j := s.i) fun ho => by have := ((okAtP_at hi).1 ho).2 (by omega); omega)⟩
    · rename_i h2 h1
      exact ⟨s.next hi ((okAtP_at hi).2 ⟨h2, fun _ => by omega⟩), by simp only [FarP.next]; omega, Weak.by ⟨rfl, rfl, rfl, rfl, rfl, congrArg I (by rw [wrap_id] <;> (try simp only [FarP.next]) <;> omega), trivial⟩⟩
    · rename_i h2
      exact ⟨s.next hi ((okAtP_at hi).2 ⟨h2, fun _ => by omega⟩), by simp only [FarP.next]; omega, Weak.by ⟨rfl, rfl, rfl, rfl, rfl, congrArg I (by rw [wrap_id] <;> (try simp only [FarP.next]) <;> omega), trivial⟩⟩
    · exact FinP.drop (n := 0) rfl (Nat.le_refl 0) rfl rfl ⟨rfl, congrArg B (someF_no (j := s.i) fun ho => by rw [((okAtP_at hi).1 ho).1] at h; cases h)⟩
  · have hi : ¬ s.i < d.clubs.length := by simpa using h
    have hall := s.all hi
    repeat' (conv => whnf
             first | refine Br.tt ?_ | refine Br.ff ?_ | refine Br.dec (fun h => ?_) (fun h => ?_) | refine Br.not ?_ | refine Br.intro (fun h => ?_) (fun h => ?_) | refine GetE.intro _ rfl ?_ | refine Need.intro rfl ?_ | refine DrawP.go mixed rfl ?_)
    conv => whnf
    refine FinP.drop (n := 0) rfl (Nat.le_refl 0) rfl rfl ⟨rfl, congrArg B ?_⟩
    rw [someF, hall, Bool.true_and]
    exact decide_eq_decide.2 (by simp only [List.length_map]; omega)
def qClub (p : Pl) (d : Dm) : Bool := p.clubs.contains d.club
def qOther (p : Pl) (d : Dm) : Bool := p.clubs.contains d.other && decide (d.other ≠ d.club)
def qRound (p : Pl) (d : Dm) : Bool := decide (0 ≤ d.round ∧ d.round < roundsN p)
def qClubs (p : Pl) (d : Dm) : Bool := someF p.clubs.contains d.clubs
def qN (a b : Int) (d : Dm) : Bool := decide (a ≤ d.n ∧ d.n ≤ b)
def v1 (p : Pl) (d : Dm) : Bool := (qClub p d && (qRound p d && true)) && zeroF { d with kind := 0, club := 0, round := 0 }
def v4 (p : Pl) (d : Dm) : Bool := (qClub p d && (qOther p d && (qRound p d && true))) && zeroF { d with kind := 0, club := 0, other := 0, round := 0 }
def v6 (p : Pl) (d : Dm) : Bool := (qClubs p d && true) && zeroF { d with kind := 0, clubs := [] }
def v7 (p : Pl) (d : Dm) : Bool := (qClubs p d && (qN 0 24 d && true)) && zeroF { d with kind := 0, clubs := [], n := 0 }
def v8 (p : Pl) (d : Dm) : Bool := (qClub p d && (qOther p d && (qN 1 46 d && true))) && zeroF { d with kind := 0, club := 0, other := 0, n := 0 }
def v9 (p : Pl) (d : Dm) : Bool := (qClub p d && (qN 0 46 d && true)) && zeroF { d with kind := 0, club := 0, n := 0 }
def validF (p : Pl) (d : Dm) : Bool :=
  if d.kind = 1 ∨ d.kind = 2 ∨ d.kind = 3 then v1 p d else if d.kind = 4 ∨ d.kind = 5 then v4 p d else if d.kind = 6 then v6 p d else if d.kind = 7 then v7 p d
  else if d.kind = 8 then v8 p d else if d.kind = 9 ∨ d.kind = 10 then v9 p d else false
section
variable (p : Pl) (hp : 1 ≤ p.clubs.length ∧ p.clubs.length ≤ 1000)
def cClub : Cnd p := ⟨67, [], qClub p, fun d hd L k h => hasClub_c d p (by omega) h⟩
def cOther : Cnd p := ⟨70, [], qOther p, fun d hd L k h => hasOther_c d p (by omega) h⟩
def cRound : Cnd p := ⟨68, [], qRound p, fun d hd L k h => hasRound_c d p hp h⟩
def cClubs : Cnd p := ⟨80, [], qClubs p, fun d hd L k h => hasClubs_c d p (by omega) hd h⟩
def cN (a b : Int) : Cnd p := ⟨104, [.rptr [DI a], .rptr [DI b]], qN a b, fun d hd L k h => within1_c d p a b h⟩
include hp
theorem valid1_c (d : Dm) (hd : d.clubs.length ≤ 4611686018427387904) (h : k (B (v1 p d)) L) : CallP C 103 ([dmV d, plV p] ++ [D.rptr [.sl [[.fn 67 []], [.fn 68 []]]], .rptr [.fn 66 []]].map .d) L k :=
  all1_c p _ _ clr1_c [cClub p hp, cRound p hp] (by simp) d hd h
theorem valid4_c (d : Dm) (hd : d.clubs.length ≤ 4611686018427387904) (h : k (B (v4 p d)) L) : CallP C 103 ([dmV d, plV p] ++ [D.rptr [.sl [[.fn 67 []], [.fn 70 []], [.fn 68 []]]], .rptr [.fn 69 []]].map .d) L k :=
  all1_c p _ _ clr2_c [cClub p hp, cOther p hp, cRound p hp] (by simp) d hd h
theorem valid6_c (d : Dm) (hd : d.clubs.length ≤ 4611686018427387904) (h : k (B (v6 p d)) L) : CallP C 103 ([dmV d, plV p] ++ [D.rptr [.sl [[.fn 80 []]]], .rptr [.fn 79 []]].map .d) L k :=
  all1n_c p _ _ clr6_c (fun _ => rfl) [cClubs p hp] (by simp) d hd h
theorem valid7_c (d : Dm) (hd : d.clubs.length ≤ 4611686018427387904) (h : k (B (v7 p d)) L) : CallP C 103 ([dmV d, plV p] ++ [D.rptr [.sl [[.fn 80 []], [withinD 0 24]]], .rptr [.fn 83 []]].map .d) L k :=
  all1n_c p _ _ clr8_c (fun _ => rfl) [cClubs p hp, cN p 0 24] (by simp) d hd h
theorem valid8_c (d : Dm) (hd : d.clubs.length ≤ 4611686018427387904) (h : k (B (v8 p d)) L) : CallP C 103 ([dmV d, plV p] ++ [D.rptr [.sl [[.fn 67 []], [.fn 70 []], [withinD 1 46]]], .rptr [.fn 85 []]].map .d) L k :=
  all1_c p _ _ clr10_c [cClub p hp, cOther p hp, cN p 1 46] (by simp) d hd h
theorem valid9_c (d : Dm) (hd : d.clubs.length ≤ 4611686018427387904) (h : k (B (v9 p d)) L) : CallP C 103 ([dmV d, plV p] ++ [D.rptr [.sl [[.fn 67 []], [withinD 0 46]]], .rptr [.fn 71 []]].map .d) L k :=
  all1_c p _ _ clr3_c [cClub p hp, cN p 0 46] (by simp) d hd h
end
def checkP (p : Pl) : Int := if fieldOk p.clubs 2 then if p.demands.length ≤ 128 then if p.demands.all (validF p) then 0 else 310 else 2 else 1
def kindKs : List Int := [1, 2, 3, 4, 5, 6, 7, 8, 9, 10]
structure FarV (p : Pl) where
  i : Nat
  le : i ≤ p.demands.length
  ok : ∀ (j : Nat) (hj : j < p.demands.length), j < i → validF p p.demands[j] = true
theorem check_c (p : Pl) (hl : p.clubs.length ≤ 4611686018427387904) (hd : ∀ d ∈ p.demands, d.clubs.length ≤ 4611686018427387904) (hD : p.demands.length ≤ 4611686018427387904) (h : k (I (checkP p)) L) : CallP C 21 [plV p] L k := by
  refine CallP.pure ?_ rfl (fun _ => rfl) h
  clear h
  refine callP_of C_ok Try.func21 rfl rfl (n := _) rfl (Nat.le_of_ble_eq_true rfl) (rs := _) rfl ?_
  conv => whnf
  refine dIsField_c p.clubs hl ?_
  cases hf : fieldOk p.clubs 2 with
  | false =>
    repeat' (conv => whnf
             first | refine Br.tt ?_ | refine Br.ff ?_ | refine Br.dec (fun h => ?_) (fun h => ?_) | refine Br.not ?_ | refine Br.intro (fun h => ?_) (fun h => ?_) | refine GetE.intro _ rfl ?_ | refine Need.intro rfl ?_ | refine DrawP.go mixed rfl ?_)
    conv => whnf
    exact FinP.drop (n := 0) rfl (Nat.le_refl 0) rfl rfl ⟨rfl, congrArg I (by rw [checkP, hf]; rfl)⟩
  | true =>
    have hlen : 1 ≤ p.clubs.length ∧ p.clubs.length ≤ 1000 := by
      simp only [fieldOk, Bool.and_eq_true, decide_eq_true_eq] at hf; omega
    repeat' (conv => whnf
             first | refine Br.tt ?_ | refine Br.ff ?_ | refine Br.dec (fun h => ?_) (fun h => ?_) | refine Br.not ?_ | refine Br.intro (fun h => ?_) (fun h => ?_) | refine GetE.intro _ rfl ?_ | refine Need.intro rfl ?_ | refine DrawP.go mixed rfl ?_)
    · conv => whnf
      exact FinP.drop (n := 0) rfl (Nat.le_refl 0) rfl rfl ⟨rfl, congrArg I (by rw [checkP, hf]; simp only [if_true]; rw [if_neg (by simp only [List.length_map] at h; omega)])⟩
    · conv => whnf
      refine kinds_c.frame rfl ?_
      rintro X L1 ⟨rfl, rfl⟩
      repeat' (conv => whnf
               first | refine Br.tt ?_ | refine Br.ff ?_ | refine Br.dec (fun h => ?_) (fun h => ?_) | refine Br.not ?_ | refine Br.intro (fun h => ?_) (fun h => ?_) | refine GetE.intro _ rfl ?_ | refine Need.intro rfl ?_ | refine DrawP.go mixed rfl ?_)
      conv => whnf
      have hc : checkP p = if p.demands.all (validF p) then 0 else 310 := by
        rw [checkP, hf]; simp only [if_true]; rw [if_pos (by simp only [List.length_map] at h; omega)]
      refine LoopP.intro (ι := FarV p) (fun s => ⟨[(1, .ptr 0 0), (3, .map 1), (20, .d (.sl (p.demands.map Dm.cells))), (21, I p.demands.length), (22, I s.i)], Try.f21.ntmps, [.cells (p.cells.map .d), .map kindsMap], [], none⟩) (fun s => p.demands.length - s.i) ⟨0, Nat.zero_le _, fun j _ h => absurd h (Nat.not_lt_zero j)⟩ ?_ ?_
      · exact Weak.by ⟨rfl, rfl, rfl, congrArg I (by simp), rfl, trivial⟩
      intro s
      conv => whnf
      refine Br.dec (fun hb => ?_) (fun hb => ?_)
      · have hi : s.i < p.demands.length := by simpa using hb
        obtain ⟨d, hdi⟩ : ∃ d, d = p.demands[s.i] := ⟨_, rfl⟩
        have r1 : (p.demands.map Dm.cells)[s.i]? = some d.cells := by rw [List.getElem?_map, List.getElem?_eq_getElem hi, hdi]; rfl
        have hdd : d.clubs.length ≤ 4611686018427387904 := hd d (hdi ▸ List.getElem_mem hi)
        have hnext : validF p d = true → ∀ (j : Nat) (hj : j < p.demands.length), j < s.i + 1 → validF p p.demands[j] = true := fun hv j hj hji => by
          by_cases e : j = s.i
          · subst e; rw [← hdi]; exact hv
          · exact s.ok j hj (by omega)
        have hno : validF p d = false → checkP p = 310 := fun hv => by
          rw [hc, if_neg]
          intro ha
          have := List.all_eq_true.1 ha d (hdi ▸ List.getElem_mem hi)
          rw [hv] at this; cases this
        have hw : IntKind.i64.wrap ((s.i : Int) + 1) = ((s.i + 1 : Nat) : Int) := by rw [wrap_in (by omega)]; omega
        clear hdi
        rcases d with ⟨kd, cl, ot, ro, nn, cs⟩
        have hk : kd = 1 ∨ kd = 2 ∨ kd = 3 ∨ kd = 4 ∨ kd = 5 ∨ kd = 6 ∨ kd = 7 ∨ kd = 8 ∨ kd = 9 ∨ kd = 10 ∨ kd ∉ kindKs := by simp only [kindKs, List.mem_cons, List.not_mem_nil, or_false]; omega
        rcases hk with rfl | rfl | rfl | rfl | rfl | rfl | rfl | rfl | rfl | rfl | hk
        · have hv : validF p ⟨1, cl, ot, ro, nn, cs⟩ = v1 p ⟨1, cl, ot, ro, nn, cs⟩ := by simp [validF]
          repeat' (conv => whnf
                   first | refine Idx.intro s.i _ rfl r1 ?_ | refine MapF.at kindKs 0 _ rfl rfl rfl ?_ | refine valid1_c p hlen ⟨1, cl, ot, ro, nn, cs⟩ hdd ?_ | refine QCall.intro _ (valid1_c p hlen ⟨1, cl, ot, ro, nn, cs⟩ hdd ⟨rfl, rfl⟩) ?_ | refine Br.tt ?_ | refine Br.ff ?_ | refine Br.dec (fun h => ?_) (fun h => ?_) | refine Br.not ?_ | refine Br.intro (fun h => ?_) (fun h => ?_) | refine GetE.intro _ rfl ?_ | refine Need.intro rfl ?_ | refine DrawP.go mixed rfl ?_)
          all_goals conv => whnf
          · exact ⟨⟨s.i + 1, hi, hnext (hv.trans h)⟩, by simp only []; omega, Weak.to 2 rfl (Nat.zero_le _) (Nat.le_of_ble_eq_true rfl) ⟨rfl, rfl, rfl, rfl, congrArg I hw, trivial⟩⟩
          · exact FinP.drop (n := 0) rfl (Nat.le_refl 0) rfl rfl ⟨rfl, congrArg I (hno (hv.trans h)).symm⟩
        · have hv : validF p ⟨2, cl, ot, ro, nn, cs⟩ = v1 p ⟨2, cl, ot, ro, nn, cs⟩ := by simp [validF]
          repeat' (conv => whnf
                   first | refine Idx.intro s.i _ rfl r1 ?_ | refine MapF.at kindKs 1 _ rfl rfl rfl ?_ | refine valid1_c p hlen ⟨2, cl, ot, ro, nn, cs⟩ hdd ?_ | refine QCall.intro _ (valid1_c p hlen ⟨2, cl, ot, ro, nn, cs⟩ hdd ⟨rfl, rfl⟩) ?_ | refine Br.tt ?_ | refine Br.ff ?_ | refine Br.dec (fun h => ?_) (fun h => ?_) | refine Br.not ?_ | refine Br.intro (fun h => ?_) (fun h => ?_) | refine GetE.intro _ rfl ?_ | refine Need.intro rfl ?_ | refine DrawP.go mixed rfl ?_)
          all_goals conv => whnf
          · exact ⟨⟨s.i + 1, hi, hnext (hv.trans h)⟩, by simp only []; omega, Weak.to 2 rfl (Nat.zero_le _) (Nat.le_of_ble_eq_true rfl) ⟨rfl, rfl, rfl, rfl, congrArg I hw, trivial⟩⟩
          · exact FinP.drop (n := 0) rfl (Nat.le_refl 0) rfl rfl ⟨rfl, congrArg I (hno (hv.trans h)).symm⟩
        · have hv : validF p ⟨3, cl, ot, ro, nn, cs⟩ = v1 p ⟨3, cl, ot, ro, nn, cs⟩ := by simp [validF]
          repeat' (conv => whnf
                   first | refine Idx.intro s.i _ rfl r1 ?_ | refine MapF.at kindKs 2 _ rfl rfl rfl ?_ | refine valid1_c p hlen ⟨3, cl, ot, ro, nn, cs⟩ hdd ?_ | refine QCall.intro _ (valid1_c p hlen ⟨3, cl, ot, ro, nn, cs⟩ hdd ⟨rfl, rfl⟩) ?_ | refine Br.tt ?_ | refine Br.ff ?_ | refine Br.dec (fun h => ?_) (fun h => ?_) | refine Br.not ?_ | refine Br.intro (fun h => ?_) (fun h => ?_) | refine GetE.intro _ rfl ?_ | refine Need.intro rfl ?_ | refine DrawP.go mixed rfl ?_)
          all_goals conv => whnf
          · exact ⟨⟨s.i + 1, hi, hnext (hv.trans h)⟩, by simp only []; omega, Weak.to 2 rfl (Nat.zero_le _) (Nat.le_of_ble_eq_true rfl) ⟨rfl, rfl, rfl, rfl, congrArg I hw, trivial⟩⟩
          · exact FinP.drop (n := 0) rfl (Nat.le_refl 0) rfl rfl ⟨rfl, congrArg I (hno (hv.trans h)).symm⟩
        · have hv : validF p ⟨4, cl, ot, ro, nn, cs⟩ = v4 p ⟨4, cl, ot, ro, nn, cs⟩ := by simp [validF]
          repeat' (conv => whnf
                   first | refine Idx.intro s.i _ rfl r1 ?_ | refine MapF.at kindKs 3 _ rfl rfl rfl ?_ | refine valid4_c p hlen ⟨4, cl, ot, ro, nn, cs⟩ hdd ?_ | refine QCall.intro _ (valid4_c p hlen ⟨4, cl, ot, ro, nn, cs⟩ hdd ⟨rfl, rfl⟩) ?_ | refine Br.tt ?_ | refine Br.ff ?_ | refine Br.dec (fun h => ?_) (fun h => ?_) | refine Br.not ?_ | refine Br.intro (fun h => ?_) (fun h => ?_) | refine GetE.intro _ rfl ?_ | refine Need.intro rfl ?_ | refine DrawP.go mixed rfl ?_)
          all_goals conv => whnf
          · exact ⟨⟨s.i + 1, hi, hnext (hv.trans h)⟩, by simp only []; omega, Weak.to 2 rfl (Nat.zero_le _) (Nat.le_of_ble_eq_true rfl) ⟨rfl, rfl, rfl, rfl, congrArg I hw, trivial⟩⟩
          · exact FinP.drop (n := 0) rfl (Nat.le_refl 0) rfl rfl ⟨rfl, congrArg I (hno (hv.trans h)).symm⟩
        · have hv : validF p ⟨5, cl, ot, ro, nn, cs⟩ = v4 p ⟨5, cl, ot, ro, nn, cs⟩ := by simp [validF]
          repeat' (conv => whnf
                   first | refine Idx.intro s.i _ rfl r1 ?_ | refine MapF.at kindKs 4 _ rfl rfl rfl ?_ | refine valid4_c p hlen ⟨5, cl, ot, ro, nn, cs⟩ hdd ?_ | refine QCall.intro _ (valid4_c p hlen ⟨5, cl, ot, ro, nn, cs⟩ hdd ⟨rfl, rfl⟩) ?_ | refine Br.tt ?_ | refine Br.ff ?_ | refine Br.dec (fun h => ?_) (fun h => ?_) | refine Br.not ?_ | refine Br.intro (fun h => ?_) (fun h => ?_) | refine GetE.intro _ rfl ?_ | refine Need.intro rfl ?_ | refine DrawP.go mixed rfl ?_)
          all_goals conv => whnf
          · exact ⟨⟨s.i + 1, hi, hnext (hv.trans h)⟩, by simp only []; omega, Weak.to 2 rfl (Nat.zero_le _) (Nat.le_of_ble_eq_true rfl) ⟨rfl, rfl, rfl, rfl, congrArg I hw, trivial⟩⟩
          · exact FinP.drop (n := 0) rfl (Nat.le_refl 0) rfl rfl ⟨rfl, congrArg I (hno (hv.trans h)).symm⟩
        · have hv : validF p ⟨6, cl, ot, ro, nn, cs⟩ = v6 p ⟨6, cl, ot, ro, nn, cs⟩ := by simp [validF]
          repeat' (conv => whnf
                   first | refine Idx.intro s.i _ rfl r1 ?_ | refine MapF.at kindKs 5 _ rfl rfl rfl ?_ | refine valid6_c p hlen ⟨6, cl, ot, ro, nn, cs⟩ hdd ?_ | refine QCall.intro _ (valid6_c p hlen ⟨6, cl, ot, ro, nn, cs⟩ hdd ⟨rfl, rfl⟩) ?_ | refine Br.tt ?_ | refine Br.ff ?_ | refine Br.dec (fun h => ?_) (fun h => ?_) | refine Br.not ?_ | refine Br.intro (fun h => ?_) (fun h => ?_) | refine GetE.intro _ rfl ?_ | refine Need.intro rfl ?_ | refine DrawP.go mixed rfl ?_)
          all_goals conv => whnf
          · exact ⟨⟨s.i + 1, hi, hnext (hv.trans h)⟩, by simp only []; omega, Weak.to 2 rfl (Nat.zero_le _) (Nat.le_of_ble_eq_true rfl) ⟨rfl, rfl, rfl, rfl, congrArg I hw, trivial⟩⟩
          · exact FinP.drop (n := 0) rfl (Nat.le_refl 0) rfl rfl ⟨rfl, congrArg I (hno (hv.trans h)).symm⟩
        · have hv : validF p ⟨7, cl, ot, ro, nn, cs⟩ = v7 p ⟨7, cl, ot, ro, nn, cs⟩ := by simp [validF]
          repeat' (conv => whnf
                   first | refine Idx.intro s.i _ rfl r1 ?_ | refine MapF.at kindKs 6 _ rfl rfl rfl ?_ | refine valid7_c p hlen ⟨7, cl, ot, ro, nn, cs⟩ hdd ?_ | refine QCall.intro _ (valid7_c p hlen ⟨7, cl, ot, ro, nn, cs⟩ hdd ⟨rfl, rfl⟩) ?_ | refine Br.tt ?_ | refine Br.ff ?_ | refine Br.dec (fun h => ?_) (fun h => ?_) | refine Br.not ?_ | refine Br.intro (fun h => ?_) (fun h => ?_) | refine GetE.intro _ rfl ?_ | refine Need.intro rfl ?_ | refine DrawP.go mixed rfl ?_)
          all_goals conv => whnf
          · exact ⟨⟨s.i + 1, hi, hnext (hv.trans h)⟩, by simp only []; omega, Weak.to 2 rfl (Nat.zero_le _) (Nat.le_of_ble_eq_true rfl) ⟨rfl, rfl, rfl, rfl, congrArg I hw, trivial⟩⟩
          · exact FinP.drop (n := 0) rfl (Nat.le_refl 0) rfl rfl ⟨rfl, congrArg I (hno (hv.trans h)).symm⟩
        · have hv : validF p ⟨8, cl, ot, ro, nn, cs⟩ = v8 p ⟨8, cl, ot, ro, nn, cs⟩ := by simp [validF]
          repeat' (conv => whnf
                   first | refine Idx.intro s.i _ rfl r1 ?_ | refine MapF.at kindKs 7 _ rfl rfl rfl ?_ | refine valid8_c p hlen ⟨8, cl, ot, ro, nn, cs⟩ hdd ?_ | refine QCall.intro _ (valid8_c p hlen ⟨8, cl, ot, ro, nn, cs⟩ hdd ⟨rfl, rfl⟩) ?_ | refine Br.tt ?_ | refine Br.ff ?_ | refine Br.dec (fun h => ?_) (fun h => ?_) | refine Br.not ?_ | refine Br.intro (fun h => ?_) (fun h => ?_) | refine GetE.intro _ rfl ?_ | refine Need.intro rfl ?_ | refine DrawP.go mixed rfl ?_)
          all_goals conv => whnf
          · exact ⟨⟨s.i + 1, hi, hnext (hv.trans h)⟩, by simp only []; omega, Weak.to 2 rfl (Nat.zero_le _) (Nat.le_of_ble_eq_true rfl) ⟨rfl, rfl, rfl, rfl, congrArg I hw, trivial⟩⟩
          · exact FinP.drop (n := 0) rfl (Nat.le_refl 0) rfl rfl ⟨rfl, congrArg I (hno (hv.trans h)).symm⟩
        · have hv : validF p ⟨9, cl, ot, ro, nn, cs⟩ = v9 p ⟨9, cl, ot, ro, nn, cs⟩ := by simp [validF]
          repeat' (conv => whnf
                   first | refine Idx.intro s.i _ rfl r1 ?_ | refine MapF.at kindKs 8 _ rfl rfl rfl ?_ | refine valid9_c p hlen ⟨9, cl, ot, ro, nn, cs⟩ hdd ?_ | refine QCall.intro _ (valid9_c p hlen ⟨9, cl, ot, ro, nn, cs⟩ hdd ⟨rfl, rfl⟩) ?_ | refine Br.tt ?_ | refine Br.ff ?_ | refine Br.dec (fun h => ?_) (fun h => ?_) | refine Br.not ?_ | refine Br.intro (fun h => ?_) (fun h => ?_) | refine GetE.intro _ rfl ?_ | refine Need.intro rfl ?_ | refine DrawP.go mixed rfl ?_)
          all_goals conv => whnf
          · exact ⟨⟨s.i + 1, hi, hnext (hv.trans h)⟩, by simp only []; omega, Weak.to 2 rfl (Nat.zero_le _) (Nat.le_of_ble_eq_true rfl) ⟨rfl, rfl, rfl, rfl, congrArg I hw, trivial⟩⟩
          · exact FinP.drop (n := 0) rfl (Nat.le_refl 0) rfl rfl ⟨rfl, congrArg I (hno (hv.trans h)).symm⟩
        · have hv : validF p ⟨10, cl, ot, ro, nn, cs⟩ = v9 p ⟨10, cl, ot, ro, nn, cs⟩ := by simp [validF]
          repeat' (conv => whnf
                   first | refine Idx.intro s.i _ rfl r1 ?_ | refine MapF.at kindKs 9 _ rfl rfl rfl ?_ | refine valid9_c p hlen ⟨10, cl, ot, ro, nn, cs⟩ hdd ?_ | refine QCall.intro _ (valid9_c p hlen ⟨10, cl, ot, ro, nn, cs⟩ hdd ⟨rfl, rfl⟩) ?_ | refine Br.tt ?_ | refine Br.ff ?_ | refine Br.dec (fun h => ?_) (fun h => ?_) | refine Br.not ?_ | refine Br.intro (fun h => ?_) (fun h => ?_) | refine GetE.intro _ rfl ?_ | refine Need.intro rfl ?_ | refine DrawP.go mixed rfl ?_)
          all_goals conv => whnf
          · exact ⟨⟨s.i + 1, hi, hnext (hv.trans h)⟩, by simp only []; omega, Weak.to 2 rfl (Nat.zero_le _) (Nat.le_of_ble_eq_true rfl) ⟨rfl, rfl, rfl, rfl, congrArg I hw, trivial⟩⟩
          · exact FinP.drop (n := 0) rfl (Nat.le_refl 0) rfl rfl ⟨rfl, congrArg I (hno (hv.trans h)).symm⟩
        · have hv : validF p ⟨kd, cl, ot, ro, nn, cs⟩ = false := by
            simp only [kindKs, List.mem_cons, List.not_mem_nil, or_false, not_or] at hk
            simp [validF, hk]
          repeat' (conv => whnf
                   first | refine Idx.intro s.i _ rfl r1 ?_ | refine MapF.no kindKs rfl hk ?_ | refine Br.tt ?_ | refine Br.ff ?_ | refine Br.dec (fun h => ?_) (fun h => ?_) | refine Br.not ?_ | refine Br.intro (fun h => ?_) (fun h => ?_) | refine GetE.intro _ rfl ?_ | refine Need.intro rfl ?_ | refine DrawP.go mixed rfl ?_)
          all_goals conv => whnf
          exact FinP.drop (n := 0) rfl (Nat.le_refl 0) rfl rfl ⟨rfl, congrArg I (hno hv).symm⟩
      · have hi : ¬ s.i < p.demands.length := by simpa using hb
        have hall : p.demands.all (validF p) = true := List.all_eq_true.2 fun d hd => by
          obtain ⟨j, hj, rfl⟩ := List.getElem_of_mem hd
          exact s.ok j hj (by omega)
        repeat' (conv => whnf
                 first | refine Br.tt ?_ | refine Br.ff ?_ | refine Br.dec (fun h => ?_) (fun h => ?_) | refine Br.not ?_ | refine Br.intro (fun h => ?_) (fun h => ?_) | refine GetE.intro _ rfl ?_ | refine Need.intro rfl ?_ | refine DrawP.go mixed rfl ?_)
        conv => whnf
        exact FinP.drop (n := 0) rfl (Nat.le_refl 0) rfl rfl ⟨rfl, congrArg I (by rw [hc, hall]; rfl)⟩
end Go.Proofs.Ytjknhbfcdjjbhaa
