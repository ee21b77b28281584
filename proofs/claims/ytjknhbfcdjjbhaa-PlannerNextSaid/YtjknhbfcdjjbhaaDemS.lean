/-
  demands: the examples of the chapter.
-/
import Derived.Test.YtjknhbfcdjjbhaaDemR
namespace Go.Proofs.Ytjknhbfcdjjbhaa
open Go.Tidy
set_option maxRecDepth 100000
set_option maxHeartbeats 0
set_option linter.unusedSimpArgs false
set_option linter.unusedVariables false
variable {L : List Blk} {k : V → List Blk → Prop}
def p0 : Pl := ⟨[1, 2, 3], false, [⟨1, 1, 0, 0, 0, []⟩]⟩
def x0 : Pl := ⟨[], false, []⟩
def d0 : Dm := ⟨0, 0, 0, 0, 0, []⟩
def l2 : List (List Mt) := [[⟨2, 1⟩]]
def l3 : List (List Mt) := [[⟨1, 2⟩]]
def l4 : List (List Mt) := [[⟨2, 3⟩], [⟨1, 2⟩], [⟨3, 1⟩]]
theorem sm0 : Small [] p0 := ⟨by decide, by decide, by decide, by decide, by decide⟩
theorem sm1 : Small [[]] p0 := ⟨by decide, by decide, by decide, by decide, by decide⟩
theorem sm2 : Small l2 p0 := ⟨by decide, by decide, by decide, by decide, by decide⟩
theorem sm3 : Small l3 p0 := ⟨by decide, by decide, by decide, by decide, by decide⟩
theorem sm4 : Small l4 p0 := ⟨by decide, by decide, by decide, by decide, by decide⟩
theorem ev1 : dmA [] p0 = -1 ∧ dmE [] p0 = 0 := by decide +kernel
theorem ev2 : dmE [[]] p0 = 300 := by decide +kernel
theorem ev3 : brkE [] p0 = 300 ∧ brkL [] p0 = [] := by decide +kernel
theorem ev4 : dmA l2 p0 = 0 ∧ dmE l2 p0 = 0 := by decide +kernel
theorem ev5 : dmA l3 p0 = -1 ∧ dmE l3 p0 = 0 := by decide +kernel
theorem ev6 : brkE l4 p0 = 0 ∧ brkL l4 p0 = [0] := by decide +kernel
theorem ev7 : checkP x0 = 1 ∧ checkP p0 = 0 := by decide +kernel
theorem ev8 : holdsF [] d0 = false ∧ holdsF l3 ⟨1, 1, 0, 0, 0, []⟩ = true := by decide +kernel
theorem dmd_e {l : List (List Mt)} {p : Pl} {a e : Int} (hs : Small l p) (ha : dmA l p = a) (he : dmE l p = e) (h : k (.tup [I a, I e]) L) : CallP C 26 [lisV l, plV p] L k := dmd_c l p hs (by rw [← ha, ← he] at h; exact h)
theorem brk_e {l : List (List Mt)} {p : Pl} {r : List Int} {e : Int} (hs : Small l p) (hr : brkL l p = r) (he : brkE l p = e) (h : k (.tup [.d (ints r), I e]) L) : CallP C 24 [lisV l, plV p] L k := brk_c l p hs (by rw [← hr, ← he] at h; exact h)
theorem ev2a : dmA [[]] p0 = 0 := by decide +kernel
theorem check_x0 (h : k (I 1) L) : CallP C 21 [plV x0] L k := check_c x0 (by decide) (by decide) (by decide) (by rw [ev7.1]; exact h)
theorem check_p0 (h : k (I 0) L) : CallP C 21 [plV p0] L k := check_c p0 (by decide) (by decide) (by decide) (by rw [ev7.2]; exact h)
theorem holds_x0 (h : k (B false) L) : CallP C 25 [lisV [], dmV d0] L k := holds_c [] d0 (by decide) (by decide) (by decide) (by rw [ev8.1]; exact h)
theorem holds_l3 (h : k (B true) L) : CallP C 25 [lisV l3, dmV ⟨1, 1, 0, 0, 0, []⟩] L k := holds_c l3 _ (by decide) (by decide) (by decide) (by rw [ev8.2]; exact h)
theorem len1 {l : List (List D)} (h : l.all (fun e => decide (e.length = 1)) = true) : ∀ e ∈ l, e.length = 1 := fun e he => by simpa using List.all_eq_true.1 h e he
theorem len2 {l : List (List D)} (h : l.all (fun e => decide (e.length = 2)) = true) : ∀ e ∈ l, e.length = 2 := fun e he => by simpa using List.all_eq_true.1 h e he
end Go.Proofs.Ytjknhbfcdjjbhaa
