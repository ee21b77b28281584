/-
  Matches, demands and pledges as data; the simple contracts.
-/
import Derived.Test.YtjknhbfcdjjbhaaTab
import Derived.Test.YtjknhbfcdjjbhaaBaseG
namespace Go.Proofs.Ytjknhbfcdjjbhaa
open Go.Tidy
set_option maxRecDepth 100000
set_option maxHeartbeats 0
set_option linter.unusedSimpArgs false
set_option linter.unusedVariables false
structure Mt where
  (home away : Int)
  deriving DecidableEq, Inhabited
def Mt.cells (m : Mt) : List D := [DI m.home, DI m.away]
abbrev mtV (m : Mt) : V := .agg (m.cells.map .d)
def mts (l : List Mt) : D := .sl (l.map Mt.cells)
structure Dm where
  (kind club other round n : Int) (clubs : List Int)
  deriving DecidableEq, Inhabited
def Dm.cells (d : Dm) : List D := [DI d.kind, DI d.club, DI d.other, DI d.round, DI d.n, ints d.clubs]
abbrev dmV (d : Dm) : V := .agg (d.cells.map .d)
structure Pl where
  (clubs : List Int) (double : Bool) (demands : List Dm)
  deriving DecidableEq, Inhabited
def Pl.cells (p : Pl) : List D := [ints p.clubs, .bool p.double, .sl (p.demands.map Dm.cells)]
abbrev plV (p : Pl) : V := .agg (p.cells.map .d)
def lisD (l : List (List Mt)) : D := .sl (l.map fun r => [mts r])
abbrev lisV (l : List (List Mt)) : V := .agg [.d (lisD l)]
variable {L : List Blk} {k : V → List Blk → Prop}
theorem wrap_in {n : Int} (h : -9223372036854775808 ≤ n ∧ n ≤ 9223372036854775807) : IntKind.i64.wrap n = n := wrap_id h.1 h.2
theorem take_next {α : Type} {l : List α} {i : Nat} (h : i < l.length) : l.take (i + 1) = l.take i ++ [l[i]] := by
  rw [List.take_add_one, List.getElem?_eq_getElem h]; rfl
def incr : List Int → Bool
  | [] => true
  | [c] => decide (0 ≤ c ∧ c < 192)
  | c :: d :: r => decide (0 ≤ c ∧ c < 192) && decide (c < d) && incr (d :: r)
def okAt (l : List Int) (j : Nat) : Prop := ∀ c, l[j]? = some c → (0 ≤ c ∧ c < 192) ∧ (∀ d, 0 < j → l[j - 1]? = some d → d < c)
theorem incr_iff : ∀ l : List Int, incr l = true ↔ ∀ j, okAt l j
  | [] => by simp [incr, okAt]
  | [c] => by
    simp only [incr, decide_eq_true_eq]
    refine ⟨fun h j x hx => ?_, fun h => (h 0 c rfl).1⟩
    cases j with
    | zero => simp at hx; subst hx; exact ⟨h, fun d hd => absurd hd (by omega)⟩
    | succ j => simp at hx
  | c :: d :: r => by
    simp only [incr, Bool.and_eq_true, decide_eq_true_eq]
    rw [incr_iff (d :: r)]
    constructor
    · rintro ⟨⟨h1, h2⟩, h3⟩ j x hx
      cases j with
      | zero => simp at hx; subst hx; exact ⟨h1, fun d hd => absurd hd (by omega)⟩
      | succ j =>
        have := h3 j x (by simpa using hx)
        refine ⟨this.1, fun y _ hy => ?_⟩
        cases j with
        | zero => simp at hx hy; subst hx hy; exact h2
        | succ j => exact this.2 y (by omega) (by simpa using hy)
    · intro h
      refine ⟨⟨(h 0 c rfl).1, ?_⟩, fun j x hx => ⟨(h (j + 1) x (by simpa using hx)).1, fun y hj hy => ?_⟩⟩
      · exact (h 1 d rfl).2 c (by omega) rfl
      · refine (h (j + 1) x (by simpa using hx)).2 y (by omega) ?_
        cases j with
        | zero => omega
        | succ j => simpa using hy
def fieldOk (l : List Int) (least : Nat) : Bool := incr l && decide (least ≤ l.length) && decide (l.length ≤ 24)

structure FarOk (l : List Int) where
  i : Nat
  le : i ≤ l.length
  ok : ∀ j, j < i → okAt l j
def FarOk.zero (l : List Int) : FarOk l := ⟨0, Nat.zero_le _, fun j h => absurd h (Nat.not_lt_zero j)⟩
def FarOk.next {l : List Int} (s : FarOk l) (h : s.i < l.length) (hp : okAt l s.i) : FarOk l :=
  ⟨s.i + 1, h, fun j hj => by
    by_cases e : j = s.i
    · subst e; exact hp
    · exact s.ok j (by omega)⟩
theorem FarOk.all {l : List Int} (s : FarOk l) (h : ¬ s.i < l.length) : incr l = true := (incr_iff l).2 fun j => by
  by_cases hj : j < s.i
  · exact s.ok j hj
  · intro c hc; have := lt_of_get hc; omega
theorem okAt_no {l : List Int} {j : Nat} (h : ¬ okAt l j) : incr l = false := by
  cases e : incr l with
  | false => rfl
  | true => exact absurd ((incr_iff l).1 e j) h

theorem fieldOk_no {l : List Int} {j least : Nat} (h : ¬ okAt l j) : false = fieldOk l least := by simp [fieldOk, okAt_no h]
theorem okAt_at {l : List Int} {j : Nat} (hj : j < l.length) : okAt l j ↔ (0 ≤ l[j] ∧ l[j] < 192) ∧ ∀ h : 0 < j, l[j - 1]'(by omega) < l[j] := by
  refine ⟨fun h => ⟨(h _ (List.getElem?_eq_getElem hj)).1, fun h0 => (h _ (List.getElem?_eq_getElem hj)).2 _ h0 (List.getElem?_eq_getElem (by omega))⟩, fun h c hc => ?_⟩
  rw [List.getElem?_eq_getElem hj] at hc
  cases hc
  refine ⟨h.1, fun d h0 hd => ?_⟩
  rw [List.getElem?_eq_getElem (by omega)] at hd
  cases hd
  exact h.2 h0
theorem incr_lt : ∀ {l : List Int}, incr l = true → l.Pairwise (· < ·)
  | [], _ => .nil
  | [c], _ => by simp
  | c :: d :: r, h => by
    simp only [incr, Bool.and_eq_true, decide_eq_true_eq] at h
    have ih := incr_lt h.2
    refine List.pairwise_cons.2 ⟨fun x hx => ?_, ih⟩
    rcases List.mem_cons.1 hx with rfl | hx
    · exact h.1.2
    · exact Int.lt_trans h.1.2 ((List.pairwise_cons.1 ih).1 x hx)
theorem incr_nodup {l : List Int} (h : incr l = true) : l.Nodup := (incr_lt h).imp (fun h e => by omega)
theorem contains_dec (l : List Int) (n : Int) : l.contains n = decide (n ∈ l) := by
  rw [Bool.eq_iff_iff]; simp
end Go.Proofs.Ytjknhbfcdjjbhaa
