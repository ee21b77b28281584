/-
  typing: Cond, Order; names; environments.
-/
import Derived.Test.YtddolfgmkpfmcaaDoorTypE
namespace Go.Proofs.YtddolfgmkpfmcaaDoor
open Go.Tidy
set_option maxRecDepth 100000
set_option maxHeartbeats 0
set_option linter.unusedSimpArgs false
set_option linter.unusedVariables false
variable {L : List Blk} {k : V → List Blk → Prop}
theorem valid_c (f : Fm) (hF : LFm f) : VCall f := valid_s _ f (Nat.le_refl _) hF
theorem finvalid_c (l : List Fm) (hF : LFs l) (h : k (B (l.any fun f => !vFm f)) L) : CallP C 55 [.d (fms l), .fn 56 []] L k :=
  fcontains_c l (by have := hF.len; omega) _ (fun f hf L k h => invalid_c f (valid_c f (hF.all f hf)) h) h
def checkF (l : List Fm) : Int := if (wF 40 l 0 (0, 0)).1 = true then (if l.length = 0 then 140 else if (l.any fun f => !vFm f) = true then 140 else 0) else 2
theorem check_c (l : List Fm) (hF : LFs l) (h : k (I (checkF l)) L) : CallP C 41 [.d (fms l)] L k := by
  have hE : Enough 40 l 0 := ⟨by decide, by decide, by decide, fun f _ => by cases f <;> simp [need]⟩
  have hw := within_c 40 l 0 (0, 0) hE hF ⟨Int.le_refl _, Int.le_refl _, by decide, by decide⟩
  unfold WCall at hw
  unfold checkF at h
  generalize wF 40 l 0 (0, 0) = r at *
  have hll : ((l.map fun f => [f.d]).length : Int) = (l.length : Int) := by simp
  refine CallP.pure ?_ rfl (fun _ => rfl) h
  clear h
  refine callP_of C_ok Tryd.func41 rfl rfl (n := _) rfl (Nat.le_of_ble_eq_true rfl) (rs := _) rfl ?_
  by_cases h1 : r.1 = true
  · by_cases h2 : l.length = 0
    · have h2' : ((l.map fun f => [f.d]).length : Int) = 0 := by omega
      repeat' (conv => whnf
               first | refine Br.yes h1 ?_ | refine Br.yes (decide_eq_true h2') ?_ | refine Br.tt ?_ | refine Br.ff ?_ | refine Br.dec (fun h => ?_) (fun h => ?_) | refine Br.not ?_ | refine Br.intro (fun h => ?_) (fun h => ?_) | refine GetE.intro _ rfl ?_ | refine Need.intro rfl ?_ | refine DrawP.go mixed rfl ?_ | refine CallP.at1 (b := 0) hw rfl rfl rfl rfl ?_ rfl rfl rfl)
      conv => whnf
      exact FinP.drop (n := 0) rfl (Nat.le_refl 0) rfl rfl ⟨rfl, Eq.trans (b := I 140) rfl (by rw [if_pos h1, if_pos h2])⟩
    · have h2' : ¬ ((l.map fun f => [f.d]).length : Int) = 0 := by omega
      by_cases h3 : (l.any fun f => !vFm f) = true
      · repeat' (conv => whnf
                 first | refine Br.yes h1 ?_ | refine Br.no (decide_eq_false h2') ?_ | refine Br.yes h3 ?_ | refine Br.tt ?_ | refine Br.ff ?_ | refine Br.dec (fun h => ?_) (fun h => ?_) | refine Br.not ?_ | refine Br.intro (fun h => ?_) (fun h => ?_) | refine GetE.intro _ rfl ?_ | refine Need.intro rfl ?_ | refine DrawP.go mixed rfl ?_ | refine CallP.at1 (b := 0) hw rfl rfl rfl rfl ?_ rfl rfl rfl | refine finvalid_c l hF ?_)
        conv => whnf
        exact FinP.drop (n := 0) rfl (Nat.le_refl 0) rfl rfl ⟨rfl, Eq.trans (b := I 140) rfl (by rw [if_pos h1, if_neg h2, if_pos h3])⟩
      · have h3' : (l.any fun f => !vFm f) = false := by simpa using h3
        repeat' (conv => whnf
                 first | refine Br.yes h1 ?_ | refine Br.no (decide_eq_false h2') ?_ | refine Br.no h3' ?_ | refine Br.tt ?_ | refine Br.ff ?_ | refine Br.dec (fun h => ?_) (fun h => ?_) | refine Br.not ?_ | refine Br.intro (fun h => ?_) (fun h => ?_) | refine GetE.intro _ rfl ?_ | refine Need.intro rfl ?_ | refine DrawP.go mixed rfl ?_ | refine CallP.at1 (b := 0) hw rfl rfl rfl rfl ?_ rfl rfl rfl | refine finvalid_c l hF ?_)
        conv => whnf
        exact FinP.drop (n := 0) rfl (Nat.le_refl 0) rfl rfl ⟨rfl, Eq.trans (b := I 0) rfl (by rw [if_pos h1, if_neg h2, if_neg h3])⟩
  · have h1' : r.1 = false := by simpa using h1
    repeat' (conv => whnf
             first | refine Br.no h1' ?_ | refine Br.tt ?_ | refine Br.ff ?_ | refine Br.dec (fun h => ?_) (fun h => ?_) | refine Br.not ?_ | refine Br.intro (fun h => ?_) (fun h => ?_) | refine GetE.intro _ rfl ?_ | refine Need.intro rfl ?_ | refine DrawP.go mixed rfl ?_ | refine CallP.at1 (b := 0) hw rfl rfl rfl rfl ?_ rfl rfl rfl)
    conv => whnf
    exact FinP.drop (n := 0) rfl (Nat.le_refl 0) rfl rfl ⟨rfl, Eq.trans (b := I 2) rfl (by rw [if_neg h1])⟩
theorem cond_c (c : Co) (hc : LCo c) (h : k (I (checkF [.c c])) L) : CallP C 17 [.agg (c.cells.map .d)] L k := by
  have hF : LFs [.c c] := ⟨(show 1 ≤ 8796093022208 by decide), fun g hg => by rw [List.mem_singleton.1 hg]; exact hc⟩
  have hck : ∀ {L : List Blk} {k : V → List Blk → Prop}, k (I (checkF [.c c])) L → CallP C 41 [.d (.sl [[.iface 75 true [DI c.kind, DI c.var, DI c.n, cos c.parts]]])] L k := fun h => by
    have := check_c [.c c] hF h
    rw [show fms [.c c] = .sl [[(Fm.c c).d]] from rfl, Fm.c_d] at this; exact this
  rw [Co.cells_eq]
  refine CallP.pure ?_ rfl (fun _ => rfl) h
  clear h
  refine callP_of C_ok Tryd.func17 rfl rfl (n := _) rfl (Nat.le_of_ble_eq_true rfl) (rs := _) rfl ?_
  repeat' (conv => whnf
           first | refine Br.tt ?_ | refine Br.ff ?_ | refine Br.dec (fun h => ?_) (fun h => ?_) | refine Br.not ?_ | refine Br.intro (fun h => ?_) (fun h => ?_) | refine GetE.intro _ rfl ?_ | refine Need.intro rfl ?_ | refine DrawP.go mixed rfl ?_ | refine CallP.lent (hck ⟨rfl, rfl⟩) (.cv (.d (.rowL (ds := [[.iface 75 true [DI c.kind, DI c.var, DI c.n, cos c.parts]]]) trivial rfl (.cons (.cons (.d _) .nil) .nil) rfl (lenO _))) .nil) rfl rfl ?_)
  conv => whnf
  exact FinP.drop (n := 0) rfl (Nat.le_refl 0) rfl rfl ⟨rfl, rfl⟩
structure LSs (l : List Sp) : Prop where
  len : l.length ≤ 4398046511104
  all : ∀ s ∈ l, LSp s
theorem LSs.fms {l : List Sp} (h : LSs l) : LFs (l.map .s) := ⟨by rw [List.length_map]; have := h.len; omega, fun f hf => by
  obtain ⟨y, hy, rfl⟩ := List.mem_map.1 hf
  exact h.all y hy⟩
def orderF (l : List Sp) : Int := checkF (l.map .s)
theorem order_c (l : List Sp) (hl : LSs l) (h : k (I (orderF l)) L) : CallP C 15 [.d (sps l)] L k := by
  refine CallP.pure ?_ rfl (fun _ => rfl) h
  clear h
  refine callP_of C_ok Tryd.func15 rfl rfl (n := _) rfl (Nat.le_of_ble_eq_true rfl) (rs := _) rfl ?_
  repeat' (conv => whnf
           first | refine Br.tt ?_ | refine Br.ff ?_ | refine Br.dec (fun h => ?_) (fun h => ?_) | refine Br.not ?_ | refine Br.intro (fun h => ?_) (fun h => ?_) | refine GetE.intro _ rfl ?_ | refine Need.intro rfl ?_ | refine DrawP.go mixed rfl ?_ | refine steps_c l hl.len ?_ | refine check_c (l.map .s) hl.fms ?_)
  conv => whnf
  exact FinP.drop (n := 0) rfl (Nat.le_refl 0) rfl rfl ⟨rfl, rfl⟩
/-! ### Names -/
def okB (c : Int) : Bool := !((decide (c < 97) || decide (122 < c)) && (decide (c < 48) || decide (57 < c)) && !decide (c = 95))
def nameF (s : ByteArray) : Bool := decide (1 ≤ s.size ∧ s.size ≤ 24 ∧ 97 ≤ byteAt s 0 ∧ byteAt s 0 ≤ 122 ∧ ∀ j, j < s.size → okB (byteAt s j) = true)
theorem nameF_no {s : ByteArray} (h : ¬ (1 ≤ s.size ∧ s.size ≤ 24 ∧ 97 ≤ byteAt s 0 ∧ byteAt s 0 ≤ 122 ∧ ∀ j, j < s.size → okB (byteAt s j) = true)) : false = nameF s := (decide_eq_false h).symm
theorem isName_c (s : ByteArray) (hs : s.size ≤ 4611686018427387904) (h : k (B (nameF s)) L) : CallP C 37 [.d (.str s)] L k := by
  refine CallP.pure ?_ rfl (fun _ => rfl) h
  clear h
  refine callP_of C_ok Tryd.func37 rfl rfl (n := _) rfl (Nat.le_of_ble_eq_true rfl) (rs := _) rfl ?_
  by_cases h1 : (s.size : Int) < 1
  · repeat' (conv => whnf
             first | refine Br.yes (decide_eq_true h1) ?_ | refine Br.tt ?_ | refine Br.ff ?_ | refine Br.dec (fun h => ?_) (fun h => ?_) | refine Br.not ?_ | refine Br.intro (fun h => ?_) (fun h => ?_) | refine GetE.intro _ rfl ?_ | refine Need.intro rfl ?_ | refine DrawP.go mixed rfl ?_)
    conv => whnf
    exact FinP.drop (n := 0) rfl (Nat.le_refl 0) rfl rfl ⟨rfl, congrArg B (nameF_no fun h => by omega)⟩
  by_cases h2 : (24 : Int) < (s.size : Int)
  · repeat' (conv => whnf
             first | refine Br.no (decide_eq_false h1) ?_ | refine Br.yes (decide_eq_true h2) ?_ | refine Br.tt ?_ | refine Br.ff ?_ | refine Br.dec (fun h => ?_) (fun h => ?_) | refine Br.not ?_ | refine Br.intro (fun h => ?_) (fun h => ?_) | refine GetE.intro _ rfl ?_ | refine Need.intro rfl ?_ | refine DrawP.go mixed rfl ?_)
    conv => whnf
    exact FinP.drop (n := 0) rfl (Nat.le_refl 0) rfl rfl ⟨rfl, congrArg B (nameF_no fun h => by omega)⟩
  have h0 : 0 < s.size := by omega
  by_cases h3 : byteAt s 0 < 97
  · repeat' (conv => whnf
             first | refine Br.no (decide_eq_false h1) ?_ | refine Br.no (decide_eq_false h2) ?_ | refine Br.yes (decide_eq_true h3) ?_ | refine Br.tt ?_ | refine Br.ff ?_ | refine Br.dec (fun h => ?_) (fun h => ?_) | refine Br.not ?_ | refine Br.intro (fun h => ?_) (fun h => ?_) | refine GetE.intro _ rfl ?_ | refine Need.intro rfl ?_ | refine DrawP.go mixed rfl ?_ | refine IdxN.intro 0 rfl h0 ?_)
    conv => whnf
    exact FinP.drop (n := 0) rfl (Nat.le_refl 0) rfl rfl ⟨rfl, congrArg B (nameF_no fun h => by omega)⟩
  by_cases h4 : 122 < byteAt s 0
  · repeat' (conv => whnf
             first | refine Br.no (decide_eq_false h1) ?_ | refine Br.no (decide_eq_false h2) ?_ | refine Br.no (decide_eq_false h3) ?_ | refine Br.yes (decide_eq_true h4) ?_ | refine Br.tt ?_ | refine Br.ff ?_ | refine Br.dec (fun h => ?_) (fun h => ?_) | refine Br.not ?_ | refine Br.intro (fun h => ?_) (fun h => ?_) | refine GetE.intro _ rfl ?_ | refine Need.intro rfl ?_ | refine DrawP.go mixed rfl ?_ | refine IdxN.intro 0 rfl h0 ?_)
    conv => whnf
    exact FinP.drop (n := 0) rfl (Nat.le_refl 0) rfl rfl ⟨rfl, congrArg B (nameF_no fun h => by omega)⟩
  repeat' (conv => whnf
           first | refine Br.no (decide_eq_false h1) ?_ | refine Br.no (decide_eq_false h2) ?_ | refine Br.no (decide_eq_false h3) ?_ | refine Br.no (decide_eq_false h4) ?_ | refine Br.tt ?_ | refine Br.ff ?_ | refine Br.dec (fun h => ?_) (fun h => ?_) | refine Br.not ?_ | refine Br.intro (fun h => ?_) (fun h => ?_) | refine GetE.intro _ rfl ?_ | refine Need.intro rfl ?_ | refine DrawP.go mixed rfl ?_ | refine IdxN.intro 0 rfl h0 ?_)
  conv => whnf
  refine LoopP.inv (fun i => i ≤ s.size ∧ ∀ j, j < i → okB (byteAt s j) = true) (fun i => ⟨[(0, .d (.str s)), (24, I s.size), (25, I i)], Tryd.f37.ntmps, [], [], none⟩) (fun i => s.size - i) 0 ⟨Nat.zero_le _, fun j h => absurd h (Nat.not_lt_zero j)⟩ ?_ ?_
  · exact Weak.by ⟨rfl, rfl, rfl, trivial⟩
  rintro i ⟨hi, hok⟩
  by_cases hi' : i < s.size
  · have hlt : (i : Int) < (s.size : Int) := by omega
    have hw : IntKind.i64.wrap ((i : Int) + 1) = ((i + 1 : Nat) : Int) := by rw [wrap_in (by omega)]; omega
    obtain ⟨c, hc⟩ : ∃ c, c = byteAt s i := ⟨_, rfl⟩
    have hno : okB c = false → false = nameF s := fun h => nameF_no fun hh => by
      have := hh.2.2.2.2 i hi'
      rw [← hc, h] at this; cases this
    have hyes : okB c = true → i + 1 ≤ s.size ∧ ∀ j, j < i + 1 → okB (byteAt s j) = true := fun h => ⟨hi', fun j hj => by
      by_cases e : j = i
      · subst e; rw [← hc]; exact h
      · exact hok j (by omega)⟩
    have hid : ∀ {k : Nat → Prop}, k i → IdxN s.size (i : Int) k := fun h => IdxN.intro i rfl hi' h
    repeat' (conv => whnf
             first | refine Br.yes (decide_eq_true hlt) ?_ | refine Br.tt ?_ | refine Br.ff ?_ | refine Br.dec (fun h => ?_) (fun h => ?_) | refine Br.not ?_ | refine Br.intro (fun h => ?_) (fun h => ?_) | refine GetE.intro _ rfl ?_ | refine Need.intro rfl ?_ | refine DrawP.go mixed rfl ?_ | refine hid ?_)
    all_goals conv => whnf
    all_goals rw [← hc] at *
    all_goals first
      | exact ⟨i + 1, hyes (by simp_all [okB]), by omega, Weak.by ⟨rfl, rfl, congrArg I hw, trivial⟩⟩
      | exact FinP.drop (n := 0) rfl (Nat.le_refl 0) rfl rfl ⟨rfl, congrArg B (hno (by simp_all [okB]))⟩
  · have hlt : ¬ (i : Int) < (s.size : Int) := by omega
    repeat' (conv => whnf
             first | refine Br.no (decide_eq_false hlt) ?_ | refine Br.tt ?_ | refine Br.ff ?_ | refine Br.dec (fun h => ?_) (fun h => ?_) | refine Br.not ?_ | refine Br.intro (fun h => ?_) (fun h => ?_) | refine GetE.intro _ rfl ?_ | refine Need.intro rfl ?_ | refine DrawP.go mixed rfl ?_)
    conv => whnf
    exact FinP.drop (n := 0) rfl (Nat.le_refl 0) rfl rfl ⟨rfl, congrArg B (decide_eq_true ⟨by omega, by omega, by omega, by omega, fun j hj => hok j (by omega)⟩).symm⟩
end Go.Proofs.YtddolfgmkpfmcaaDoor
