/-
  typing: Rules; whether a condition holds.
-/
import Derived.Test.YtddolfgmkpfmcaaDoorTypG
namespace Go.Proofs.YtddolfgmkpfmcaaDoor
open Go.Tidy
set_option maxRecDepth 100000
set_option maxHeartbeats 0
set_option linter.unusedSimpArgs false
set_option linter.unusedVariables false
variable {L : List Blk} {k : V → List Blk → Prop}
structure Zn where
  (name : ByteArray) (from_ to_ : Int)
def Zn.cells (z : Zn) : List D := [.str z.name, DI z.from_, DI z.to_]
structure Ru where
  (name : ByteArray) (win draw loss : Int) (order : List Sp) (zones : List Zn)
def zns (l : List Zn) : D := .sl (l.map Zn.cells)
def Ru.cells (r : Ru) : List D := [.str r.name, DI r.win, DI r.draw, DI r.loss, sps r.order, zns r.zones]
def badN (n : Int) : Prop := n = 0 ∨ 24 < n ∨ n < -24
def badZ (z : Zn) : Prop := badN z.from_ ∨ badN z.to_ ∨ nameF z.name = false
def headBad (r : Ru) : Prop := nameF r.name = false ∨ 99 < r.win ∨ r.win < r.draw ∨ r.draw < r.loss ∨ r.loss < -99
open Classical in
noncomputable def rulesF (r : Ru) : Int := if headBad r then 140 else if orderF r.order ≠ 0 then orderF r.order else if 16 < r.zones.length then 2 else if ∃ z ∈ r.zones, badZ z then 140 else 0
structure LRu (r : Ru) : Prop where
  name : r.name.size ≤ 4611686018427387904
  order : LSs r.order
  zones : r.zones.length ≤ 4611686018427387904
  zname : ∀ z ∈ r.zones, z.name.size ≤ 4611686018427387904
/-! ### Whether a condition holds -/
mutual
def hoF (x : En) : Co → Bool
  | .mk k v n ps => if k = 1 then decide (n ≤ valF v x) else if k = 4 then !hoHead x ps else if k = 3 then hoAny x ps else hoAll x ps
def hoHead (x : En) : List Co → Bool
  | [] => false
  | c :: _ => hoF x c
def hoAny (x : En) : List Co → Bool
  | [] => false
  | c :: cs => hoF x c || hoAny x cs
def hoAll (x : En) : List Co → Bool
  | [] => true
  | c :: cs => hoF x c && hoAll x cs
end
theorem hoAny_any (x : En) : ∀ l, hoAny x l = l.any (hoF x)
  | [] => rfl
  | c :: cs => by rw [hoAny, hoAny_any x cs]; rfl
theorem hoAll_all (x : En) : ∀ l, hoAll x l = l.all (hoF x)
  | [] => rfl
  | c :: cs => by rw [hoAll, hoAll_all x cs]; rfl
theorem hoHead_at (x : En) : ∀ {l : List Co} (h : 0 < l.length), hoHead x l = hoF x l[0]
  | [], h => absurd h (by simp)
  | c :: cs, _ => by rw [hoHead]; rfl
/-- What holds needs of a condition: a negation has something to negate. -/
inductive HCo : Co → Prop
  | mk {c : Co} (h4 : c.kind = 4 → 0 < c.parts.length) (hl : c.parts.length ≤ 4611686018427387904) (hs : ∀ p ∈ c.parts, HCo p) : HCo c
def HCall (x : En) (c : Co) : Prop := ∀ (L : List Blk) (k : V → List Blk → Prop), k (B (hoF x c)) L → CallP C 49 [.agg (c.cells.map .d), enV x] L k
theorem part_sizeC {c p : Co} (h : p ∈ c.parts) : SizeOf.sizeOf p < SizeOf.sizeOf c := by
  cases c with | mk k v n ps =>
  have h1 : SizeOf.sizeOf p < SizeOf.sizeOf ps := List.sizeOf_lt_of_mem h
  simp only [Co.mk.sizeOf_spec]; omega
theorem holds1_c (c : Co) (x : En) (hc : HCall x c) (h : k (B (hoF x c)) L) : CallP C 57 [.agg (c.cells.map .d), .d (.rptr x.cells)] L k := by
  have hh := hc
  unfold HCall at hh
  rw [Co.cells_eq] at hh ⊢
  refine CallP.pure ?_ rfl (fun _ => rfl) h
  clear h
  refine callP_of C_ok Tryd.func57 rfl rfl (n := _) rfl (Nat.le_of_ble_eq_true rfl) (rs := _) rfl ?_
  repeat' (conv => whnf
           first | refine Br.tt ?_ | refine Br.ff ?_ | refine Br.dec (fun h => ?_) (fun h => ?_) | refine Br.not ?_ | refine Br.intro (fun h => ?_) (fun h => ?_) | refine GetE.intro _ rfl ?_ | refine Need.intro rfl ?_ | refine DrawP.go mixed rfl ?_ | refine hh _ _ ?_)
  conv => whnf
  exact FinP.drop (n := 0) rfl (Nat.le_refl 0) rfl rfl ⟨rfl, rfl⟩
theorem holds2_c (c : Co) (x : En) (hc : HCall x c) (h : k (B (!hoF x c)) L) : CallP C 59 [.agg (c.cells.map .d), .d (.rptr [.fn 57 [.rptr x.cells]])] L k := by
  have hh : ∀ (L : List Blk) (k : V → List Blk → Prop), k (B (hoF x c)) L → CallP C 57 [.agg (c.cells.map .d), .d (.rptr x.cells)] L k := fun L k h => holds1_c c x hc h
  rw [Co.cells_eq] at hh ⊢
  refine CallP.pure ?_ rfl (fun _ => rfl) h
  clear h
  refine callP_of C_ok Tryd.func59 rfl rfl (n := _) rfl (Nat.le_of_ble_eq_true rfl) (rs := _) rfl ?_
  repeat' (conv => whnf
           first | refine Br.tt ?_ | refine Br.ff ?_ | refine Br.dec (fun h => ?_) (fun h => ?_) | refine Br.not ?_ | refine Br.intro (fun h => ?_) (fun h => ?_) | refine GetE.intro _ rfl ?_ | refine Need.intro rfl ?_ | refine DrawP.go mixed rfl ?_ | refine hh _ _ ?_)
  conv => whnf
  exact FinP.drop (n := 0) rfl (Nat.le_refl 0) rfl rfl ⟨rfl, rfl⟩
theorem cindex_c (l : List Co) (hl : l.length ≤ 4611686018427387904) (f : FuncId) (caps : List D) (p : Co → Bool) (hp : ∀ c ∈ l, ∀ (L : List Blk) (k : V → List Blk → Prop), k (B (p c)) L → CallP C f ([.agg (c.cells.map .d)] ++ caps.map .d) L k) (h : k (I (findI p l)) L) :
    CallP C 66 [.d (cos l), .d (.fn f caps)] L k := by
  refine CallP.pure ?_ rfl (fun _ => rfl) h
  clear h
  refine callP_of C_ok Tryd.func66 rfl rfl (n := _) rfl (Nat.le_of_ble_eq_true rfl) (rs := _) rfl ?_
  conv => whnf
  refine LoopP.inv (fun i => i ≤ l.length ∧ ∀ (j : Nat) (hj : j < l.length), j < i → p l[j] = false) (fun i => ⟨[(0, .d (cos l)), (1, .d (.fn f caps)), (7, I l.length), (8, I i)], Tryd.f66.ntmps, [], [], none⟩) (fun i => l.length - i) 0 ⟨Nat.zero_le _, fun j _ h => absurd h (Nat.not_lt_zero j)⟩ ?_ ?_
  · exact Weak.by ⟨rfl, rfl, congrArg I (by simp), rfl, trivial⟩
  rintro i ⟨hi, hno⟩
  by_cases hi' : i < l.length
  · have hlt : (i : Int) < (l.length : Int) := by omega
    have hw : IntKind.i64.wrap ((i : Int) + 1) = ((i + 1 : Nat) : Int) := by rw [wrap_in (by omega)]; omega
    have r1 : (l.map Co.cells)[i]? = some [DI l[i].kind, DI l[i].var, DI l[i].n, cos l[i].parts] := by rw [List.getElem?_map, List.getElem?_eq_getElem hi', ← Co.cells_eq]; rfl
    have hpi := hp _ (List.getElem_mem hi')
    rw [Co.cells_eq] at hpi
    by_cases hq : p l[i] = true
    · repeat' (conv => whnf
               first | refine Br.yes (decide_eq_true hlt) ?_ | refine Br.yes hq ?_ | refine Br.tt ?_ | refine Br.ff ?_ | refine Br.dec (fun h => ?_) (fun h => ?_) | refine Br.not ?_ | refine Br.intro (fun h => ?_) (fun h => ?_) | refine GetE.intro _ rfl ?_ | refine Need.intro rfl ?_ | refine DrawP.go mixed rfl ?_ | refine Idx.intro i _ rfl r1 ?_ | refine hpi _ _ ?_)
      conv => whnf
      exact FinP.drop (n := 0) rfl (Nat.le_refl 0) rfl rfl ⟨rfl, congrArg I (findI_hit hi' hq hno).symm⟩
    · have hq' : p l[i] = false := by simpa using hq
      repeat' (conv => whnf
               first | refine Br.yes (decide_eq_true hlt) ?_ | refine Br.no hq' ?_ | refine Br.tt ?_ | refine Br.ff ?_ | refine Br.dec (fun h => ?_) (fun h => ?_) | refine Br.not ?_ | refine Br.intro (fun h => ?_) (fun h => ?_) | refine GetE.intro _ rfl ?_ | refine Need.intro rfl ?_ | refine DrawP.go mixed rfl ?_ | refine Idx.intro i _ rfl r1 ?_ | refine hpi _ _ ?_)
      conv => whnf
      exact ⟨i + 1, ⟨hi', fun j hj hji => by
        by_cases e : j = i
        · subst e; exact hq'
        · exact hno j hj (by omega)⟩, by omega, Weak.by ⟨rfl, rfl, rfl, congrArg I hw, trivial⟩⟩
  · have hlt : ¬ (i : Int) < (l.length : Int) := by omega
    repeat' (conv => whnf
             first | refine Br.no (decide_eq_false hlt) ?_ | refine Br.tt ?_ | refine Br.ff ?_ | refine Br.dec (fun h => ?_) (fun h => ?_) | refine Br.not ?_ | refine Br.intro (fun h => ?_) (fun h => ?_) | refine GetE.intro _ rfl ?_ | refine Need.intro rfl ?_ | refine DrawP.go mixed rfl ?_)
    conv => whnf
    exact FinP.drop (n := 0) rfl (Nat.le_refl 0) rfl rfl ⟨rfl, congrArg I (findI_miss fun j hj => hno j hj (by omega)).symm⟩
theorem ccontains_c (l : List Co) (hl : l.length ≤ 4611686018427387904) (f : FuncId) (caps : List D) (p : Co → Bool) (hp : ∀ c ∈ l, ∀ (L : List Blk) (k : V → List Blk → Prop), k (B (p c)) L → CallP C f ([.agg (c.cells.map .d)] ++ caps.map .d) L k) (h : k (B (l.any p)) L) :
    CallP C 58 [.d (cos l), .d (.fn f caps)] L k := by
  refine CallP.pure ?_ rfl (fun _ => rfl) h
  clear h
  refine callP_of C_ok Tryd.func58 rfl rfl (n := _) rfl (Nat.le_of_ble_eq_true rfl) (rs := _) rfl ?_
  conv => whnf
  refine cindex_c l hl f caps p hp ?_
  repeat' (conv => whnf
           first | refine Br.tt ?_ | refine Br.ff ?_ | refine Br.dec (fun h => ?_) (fun h => ?_) | refine Br.not ?_ | refine Br.intro (fun h => ?_) (fun h => ?_) | refine GetE.intro _ rfl ?_ | refine Need.intro rfl ?_ | refine DrawP.go mixed rfl ?_)
  conv => whnf
  exact FinP.drop (n := 0) rfl (Nat.le_refl 0) rfl rfl ⟨rfl, congrArg B (findI_any p l)⟩
theorem holds_s (x : En) : ∀ (n : Nat) (c : Co), SizeOf.sizeOf c ≤ n → HCo c → HCall x c
  | 0, c, h, _ => absurd h (by cases c; simp)
  | n + 1, c, hsz, hc => by
    obtain ⟨h4, hlen, hsub⟩ := hc
    have ih := holds_s x n
    have hp1 : ∀ p ∈ c.parts, ∀ (L : List Blk) (k : V → List Blk → Prop), k (B (hoF x p)) L → CallP C 57 ([.agg (p.cells.map .d)] ++ [D.rptr x.cells].map .d) L k := fun p hp L k h =>
      holds1_c p x (ih p (by have := part_sizeC hp; omega) (hsub p hp)) h
    have hp2 : ∀ p ∈ c.parts, ∀ (L : List Blk) (k : V → List Blk → Prop), k (B (!hoF x p)) L → CallP C 59 ([.agg (p.cells.map .d)] ++ [D.rptr [.fn 57 [.rptr x.cells]]].map .d) L k := fun p hp L k h =>
      holds2_c p x (ih p (by have := part_sizeC hp; omega) (hsub p hp)) h
    have ha1 := ccontains_c (L := []) (k := fun X L => L = [] ∧ X = B (c.parts.any (hoF x))) c.parts hlen _ _ _ hp1 ⟨rfl, rfl⟩
    have ha2 := ccontains_c (L := []) (k := fun X L => L = [] ∧ X = B (c.parts.any fun p => !hoF x p)) c.parts hlen _ _ _ hp2 ⟨rfl, rfl⟩
    have hall : (!c.parts.any fun p => !hoF x p) = hoAll x c.parts := by rw [any_not, hoAll_all]
    intro L k h
    have hv : hoF x c = (if c.kind = 1 then decide (c.n ≤ valF c.var x) else if c.kind = 4 then !hoHead x c.parts else if c.kind = 3 then hoAny x c.parts else hoAll x c.parts) := by cases c; rw [hoF]; rfl
    rw [hv, hoAny_any, ← hall] at h
    generalize c.parts.any (hoF x) = q1 at *
    generalize (c.parts.any fun p => !hoF x p) = q2 at *
    rw [Co.cells_eq]
    refine CallP.pure ?_ rfl (fun _ => rfl) h
    clear h
    refine callP_of C_ok Tryd.func49 rfl rfl (n := _) rfl (Nat.le_of_ble_eq_true rfl) (rs := _) rfl ?_
    by_cases k1 : c.kind = 1
    · repeat' (conv => whnf
               first | refine Br.yes (decide_eq_true k1) ?_ | refine Br.tt ?_ | refine Br.ff ?_ | refine Br.dec (fun h => ?_) (fun h => ?_) | refine Br.not ?_ | refine Br.intro (fun h => ?_) (fun h => ?_) | refine GetE.intro _ rfl ?_ | refine Need.intro rfl ?_ | refine DrawP.go mixed rfl ?_ | refine QCall.intro _ (value_c c.var x ⟨rfl, rfl⟩) ?_ | refine value_c c.var x ?_)
      conv => whnf
      exact FinP.drop (n := 0) rfl (Nat.le_refl 0) rfl rfl ⟨rfl, Eq.trans (b := B (decide (c.n ≤ valF c.var x))) rfl (by rw [if_pos k1])⟩
    by_cases k4 : c.kind = 4
    · have hpos := h4 k4
      obtain ⟨p, hp⟩ : ∃ p, p = c.parts[0] := ⟨_, rfl⟩
      have hpm : p ∈ c.parts := hp ▸ List.getElem_mem hpos
      have hhd : hoHead x c.parts = hoF x p := by rw [hp]; exact hoHead_at x hpos
      have r1 : (c.parts.map Co.cells)[0]? = some [DI p.kind, DI p.var, DI p.n, cos p.parts] := by rw [List.getElem?_map, List.getElem?_eq_getElem hpos, ← Co.cells_eq, hp]; rfl
      have hcl : ∀ {L : List Blk} {k : V → List Blk → Prop}, L[1]? = some (.cells (x.cells.map .d)) → k (B (hoF x p)) L → CallP C 57 [.agg [I p.kind, I p.var, I p.n, .d (cos p.parts)], .ptr 1 0] L k := fun hL h => by
        have := hp1 p hpm [] (fun X L => L = [] ∧ X = B (hoF x p)) ⟨rfl, rfl⟩
        rw [Co.cells_eq] at this
        exact CallP.lent this (.keep (.cv (.d (.ptrL trivial hL (.data x.cells))) .nil)) rfl rfl h
      repeat' (conv => whnf
               first | refine Br.no (decide_eq_false k1) ?_ | refine Br.yes (decide_eq_true k4) ?_ | refine Br.tt ?_ | refine Br.ff ?_ | refine Br.dec (fun h => ?_) (fun h => ?_) | refine Br.not ?_ | refine Br.intro (fun h => ?_) (fun h => ?_) | refine GetE.intro _ rfl ?_ | refine Need.intro rfl ?_ | refine DrawP.go mixed rfl ?_ | refine Idx.intro 0 _ rfl r1 ?_ | refine QCall.intro _ (hcl rfl ⟨rfl, rfl⟩) ?_ | refine hcl rfl ?_)
      conv => whnf
      exact FinP.drop (n := 0) rfl (Nat.le_refl 0) rfl rfl ⟨rfl, Eq.trans (b := B (!hoF x p)) rfl (by rw [if_neg k1, if_pos k4, hhd])⟩
    by_cases k3 : c.kind = 3
    · repeat' (conv => whnf
               first | refine Br.no (decide_eq_false k1) ?_ | refine Br.no (decide_eq_false k4) ?_ | refine Br.yes (decide_eq_true k3) ?_ | refine Br.tt ?_ | refine Br.ff ?_ | refine Br.dec (fun h => ?_) (fun h => ?_) | refine Br.not ?_ | refine Br.intro (fun h => ?_) (fun h => ?_) | refine GetE.intro _ rfl ?_ | refine Need.intro rfl ?_ | refine DrawP.go mixed rfl ?_ | refine CallP.lent ha1 (.keep (.cv (.d (.fnL (.cons (.ptrL trivial rfl (.data x.cells)) .nil))) .nil)) rfl rfl ?_)
      conv => whnf
      exact FinP.drop (n := 0) rfl (Nat.le_refl 0) rfl rfl ⟨rfl, Eq.trans (b := B q1) rfl (by rw [if_neg k1, if_neg k4, if_pos k3])⟩
    · repeat' (conv => whnf
               first | refine Br.no (decide_eq_false k1) ?_ | refine Br.no (decide_eq_false k4) ?_ | refine Br.no (decide_eq_false k3) ?_ | refine Br.tt ?_ | refine Br.ff ?_ | refine Br.dec (fun h => ?_) (fun h => ?_) | refine Br.not ?_ | refine Br.intro (fun h => ?_) (fun h => ?_) | refine GetE.intro _ rfl ?_ | refine Need.intro rfl ?_ | refine DrawP.go mixed rfl ?_ | refine CallP.lent ha2 (.keep (.cv (.d (.fnL (.cons (.ptrL trivial rfl (.cons (.fnL (.cons (.ptrL trivial rfl (.data x.cells)) .nil)) .nil)) .nil))) .nil)) rfl rfl ?_)
      conv => whnf
      exact FinP.drop (n := 0) rfl (Nat.le_refl 0) rfl rfl ⟨rfl, Eq.trans (b := B (!q2)) rfl (by rw [if_neg k1, if_neg k4, if_neg k3])⟩
theorem holds_c (x : En) (c : Co) (hc : HCo c) : HCall x c := holds_s x _ c (Nat.le_refl _) hc
end Go.Proofs.YtddolfgmkpfmcaaDoor
