/-
  typing: the methods of forms; counting them.
-/
import Derived.Test.YtddolfgmkpfmcaaDoorTypB
namespace Go.Proofs.YtddolfgmkpfmcaaDoor
open Go.Tidy
set_option maxRecDepth 100000
set_option maxHeartbeats 0
set_option linter.unusedSimpArgs false
set_option linter.unusedVariables false
variable {L : List Blk} {k : V → List Blk → Prop}
theorem meth_c : MethOK C.P 75 "assize/typing.parts" 67 := by
  intro v w
  have hi : ∃ i, C.P.info? 75 = some i ∧ ∃ m, i.methods.find? (·.name == "assize/typing.parts") = some m ∧ m.path = #[] ∧ m.func = some (67, false) := ⟨_, rfl, _, rfl, rfl, rfl⟩
  obtain ⟨i, h1, m, h2, h3, h4⟩ := hi
  show (method (_ + 1) 75 v "assize/typing.parts").run C.P w = _
  simp [method, typeInfo, h1, h2, h3, h4, follow, receiverAt]
  rw [run_underlying (show C.P.underlying 75 = some _ from Tryd.underlying75)]; rfl
theorem meth_s : MethOK C.P 94 "assize/typing.parts" 68 := by
  intro v w
  have hi : ∃ i, C.P.info? 94 = some i ∧ ∃ m, i.methods.find? (·.name == "assize/typing.parts") = some m ∧ m.path = #[] ∧ m.func = some (68, false) := ⟨_, rfl, _, rfl, rfl, rfl⟩
  obtain ⟨i, h1, m, h2, h3, h4⟩ := hi
  show (method (_ + 1) 94 v "assize/typing.parts").run C.P w = _
  simp [method, typeInfo, h1, h2, h3, h4, follow, receiverAt]
  rw [run_underlying (show C.P.underlying 94 = some _ from Tryd.underlying94)]; rfl
/-! ### How long the lists are -/
inductive LCo : Co → Prop
  | mk {c : Co} (h : c.parts.length ≤ 4398046511104) (hs : ∀ p ∈ c.parts, LCo p) : LCo c
theorem LCo.len {c : Co} : LCo c → c.parts.length ≤ 4398046511104 | .mk h _ => h
theorem LCo.sub {c : Co} : LCo c → ∀ p ∈ c.parts, LCo p | .mk _ h => h
inductive LSp : Sp → Prop
  | mk {s : Sp} (h1 : s.thn.length ≤ 4398046511104) (h2 : s.els.length ≤ 4398046511104) (hc : LCo s.cond) (ht : ∀ p ∈ s.thn, LSp p) (he : ∀ p ∈ s.els, LSp p) : LSp s
theorem LSp.len1 {s : Sp} : LSp s → s.thn.length ≤ 4398046511104 | .mk h _ _ _ _ => h
theorem LSp.len2 {s : Sp} : LSp s → s.els.length ≤ 4398046511104 | .mk _ h _ _ _ => h
theorem LSp.cond {s : Sp} : LSp s → LCo s.cond | .mk _ _ h _ _ => h
theorem LSp.thn {s : Sp} : LSp s → ∀ p ∈ s.thn, LSp p | .mk _ _ _ h _ => h
theorem LSp.els {s : Sp} : LSp s → ∀ p ∈ s.els, LSp p | .mk _ _ _ _ h => h
def LFm : Fm → Prop
  | .c x => LCo x
  | .s x => LSp x
structure LFs (l : List Fm) : Prop where
  len : l.length ≤ 8796093022208
  all : ∀ f ∈ l, LFm f
theorem LFm.parts {f : Fm} (h : LFm f) : LFs f.parts := by
  cases f with
  | c x =>
    have h : LCo x := h
    refine ⟨?_, fun f hf => ?_⟩
    · show (x.parts.map Fm.c).length ≤ _
      rw [List.length_map]; have := h.len; omega
    · obtain ⟨y, hy, rfl⟩ := List.mem_map.1 hf
      exact h.sub y hy
  | s x =>
    have h : LSp x := h
    refine ⟨?_, fun f hf => ?_⟩
    · show ((x.thn ++ x.els).map Fm.s).length ≤ _
      rw [List.length_map, List.length_append]; have := h.len1; have := h.len2; omega
    · obtain ⟨y, hy, rfl⟩ := List.mem_map.1 hf
      rcases List.mem_append.1 hy with hy | hy
      · exact h.thn y hy
      · exact h.els y hy
/-! ### Counting -/
def isZ (c : Co) : Bool := decide (c.kind = 0) && decide (c.var = 0) && decide (c.n = 0) && decide ((c.parts.length : Int) = 0)
theorem isZero_c (c : Co) (h : k (B (isZ c)) L) : CallP C 63 [.agg (c.cells.map .d)] L k := by
  rw [Co.cells_eq]
  refine CallP.pure ?_ rfl (fun _ => rfl) h
  clear h
  refine callP_of C_ok Tryd.func63 rfl rfl (n := _) rfl (Nat.le_of_ble_eq_true rfl) (rs := _) rfl ?_
  repeat' (conv => whnf
           first | refine Br.tt ?_ | refine Br.ff ?_ | refine Br.dec (fun h => ?_) (fun h => ?_) | refine Br.not ?_ | refine Br.intro (fun h => ?_) (fun h => ?_) | refine GetE.intro _ rfl ?_ | refine Need.intro rfl ?_ | refine DrawP.go mixed rfl ?_)
  all_goals conv => whnf
  all_goals refine FinP.drop (n := 0) rfl (Nat.le_refl 0) rfl rfl ⟨rfl, congrArg B ?_⟩
  all_goals simp_all [isZ]
abbrev W := Bool × Int × Int
def over (a : Int × Int) : Bool := decide (64 < a.1) || decide (256 < a.2)
def wTail (w : List Fm → Nat → Int × Int → W) (f : Fm) (d : Nat) (a : Int × Int) : W := if over a = true then (false, a) else w f.parts (d + 1) a
def wStep (w : List Fm → Nat → Int × Int → W) (f : Fm) (d : Nat) (a : Int × Int) : W :=
  match f with
  | .c x => wTail w (.c x) d (a.1, a.2 + 1)
  | .s x => if isZ x.cond = true then wTail w (.s x) d (a.1 + 1, a.2) else if (w [.c x.cond] 0 (a.1 + 1, a.2)).1 = true then wTail w (.s x) d (w [.c x.cond] 0 (a.1 + 1, a.2)).2 else w [.c x.cond] 0 (a.1 + 1, a.2)
def wLoop (w : List Fm → Nat → Int × Int → W) : List Fm → Nat → Int × Int → W
  | [], _, a => (true, a)
  | f :: l, d, a => if (wStep w f d a).1 = true then wLoop w l d (wStep w f d a).2 else wStep w f d a
def wF : Nat → List Fm → Nat → Int × Int → W
  | 0, _, _, a => (false, a)
  | n + 1, l, d, a => if l ≠ [] ∧ 16 < d then (false, a) else wLoop (wF n) l d a
def Bs (a : Int × Int) : Prop := 0 ≤ a.1 ∧ a.1 ≤ 64 ∧ 0 ≤ a.2 ∧ a.2 ≤ 256
def Bd (n : Nat) (a : Int × Int) : Prop := 0 ≤ a.1 ∧ 0 ≤ a.2 ∧ a.1 + n ≤ 1000000 ∧ a.2 + n ≤ 1000000
/-- What is known of a count that went well. -/
def Wq (w : List Fm → Nat → Int × Int → W) : Prop := ∀ l d a, 0 ≤ a.1 → 0 ≤ a.2 → (w l d a).1 = true → (l = [] ∧ (w l d a).2 = a) ∨ Bs (w l d a).2
theorem over_no {a : Int × Int} (h1 : 0 ≤ a.1) (h2 : 0 ≤ a.2) (h : ¬ over a = true) : Bs a := by
  simp only [over, Bool.or_eq_true, decide_eq_true_eq, not_or] at h
  exact ⟨h1, by omega, h2, by omega⟩
theorem wTail_q {w : List Fm → Nat → Int × Int → W} (hw : Wq w) {f : Fm} {d : Nat} {a : Int × Int} (h1 : 0 ≤ a.1) (h2 : 0 ≤ a.2) (h : (wTail w f d a).1 = true) : Bs (wTail w f d a).2 := by
  unfold wTail at h ⊢
  by_cases ho : over a = true
  · rw [if_pos ho] at h; cases h
  · rw [if_neg ho] at h ⊢
    rcases hw _ _ _ h1 h2 h with ⟨_, e⟩ | e
    · rw [e]; exact over_no h1 h2 ho
    · exact e
theorem wStep_q {w : List Fm → Nat → Int × Int → W} (hw : Wq w) {f : Fm} {d : Nat} {a : Int × Int} (h1 : 0 ≤ a.1) (h2 : 0 ≤ a.2) (h : (wStep w f d a).1 = true) : Bs (wStep w f d a).2 := by
  cases f with
  | c x => exact wTail_q hw (by simpa using h1) (by simp only; omega) h
  | s x =>
    unfold wStep at h ⊢
    by_cases hz : isZ x.cond = true
    · simp only [if_pos hz] at h ⊢; exact wTail_q hw (by simp only; omega) (by simpa using h2) h
    · simp only [if_neg hz] at h ⊢
      by_cases hr : (w [.c x.cond] 0 (a.1 + 1, a.2)).1 = true
      · simp only [if_pos hr] at h ⊢
        rcases hw _ _ _ (by simp only; omega) (by simpa using h2) hr with ⟨e, _⟩ | e
        · cases e
        · exact wTail_q hw e.1 e.2.2.1 h
      · simp only [if_neg hr] at h; exact absurd h hr
theorem wLoop_q {w : List Fm → Nat → Int × Int → W} (hw : Wq w) : ∀ (l : List Fm) (d : Nat) (a : Int × Int), 0 ≤ a.1 → 0 ≤ a.2 → (wLoop w l d a).1 = true → (l = [] ∧ (wLoop w l d a).2 = a) ∨ Bs (wLoop w l d a).2
  | [], d, a, _, _, _ => .inl ⟨rfl, rfl⟩
  | f :: l, d, a, h1, h2, h => by
    unfold wLoop at h ⊢
    by_cases hr : (wStep w f d a).1 = true
    · rw [if_pos hr] at h ⊢
      have hb := wStep_q hw h1 h2 hr
      rcases wLoop_q hw l d _ hb.1 hb.2.2.1 h with ⟨_, e⟩ | e
      · exact .inr (by rw [e]; exact hb)
      · exact .inr e
    · rw [if_neg hr] at h; exact absurd h hr
theorem wF_q : ∀ n, Wq (wF n)
  | 0 => fun l d a _ _ h => by cases h
  | n + 1 => fun l d a h1 h2 h => by
    unfold wF at h ⊢
    by_cases hc : l ≠ [] ∧ 16 < d
    · rw [if_pos hc] at h; cases h
    · rw [if_neg hc] at h ⊢; exact wLoop_q (wF_q n) l d a h1 h2 h
def need : Fm → Nat
  | .c _ => 18
  | .s _ => 40
structure Enough (n : Nat) (l : List Fm) (d : Nat) : Prop where
  pos : 1 ≤ n
  le : n ≤ 100
  dep : d ≤ 17
  ok : ∀ f ∈ l, need f ≤ n + d
theorem Enough.parts {n : Nat} {l : List Fm} {d : Nat} (h : Enough (n + 1) l d) (hd : d ≤ 16) {f : Fm} (hf : f ∈ l) : Enough n f.parts (d + 1) := by
  have h0 := h.ok f hf
  have hl := h.le
  cases f with
  | c x =>
    simp only [need] at h0
    refine ⟨by omega, by omega, by omega, fun g hg => ?_⟩
    obtain ⟨y, _, rfl⟩ := List.mem_map.1 hg
    simp only [need]; omega
  | s x =>
    simp only [need] at h0
    refine ⟨by omega, by omega, by omega, fun g hg => ?_⟩
    obtain ⟨y, _, rfl⟩ := List.mem_map.1 hg
    simp only [need]; omega
theorem Enough.cond {n : Nat} {l : List Fm} {d : Nat} (h : Enough (n + 1) l d) (hd : d ≤ 16) {s : Sp} (hf : .s s ∈ l) : Enough n [.c s.cond] 0 := by
  have h0 := h.ok _ hf
  have hl := h.le
  simp only [need] at h0
  refine ⟨by omega, by omega, by omega, fun g hg => ?_⟩
  rw [List.mem_singleton.1 hg]
  simp only [need]; omega
def WCall (n : Nat) (l : List Fm) (d : Nat) (a : Int × Int) : Prop := CallP C 54 [.ptr 0 0, .d (fms l), I d] [.cells [I a.1, I a.2]] fun X L' => L' = [.cells [I (wF n l d a).2.1, I (wF n l d a).2.2]] ∧ X = B (wF n l d a).1
end Go.Proofs.YtddolfgmkpfmcaaDoor
