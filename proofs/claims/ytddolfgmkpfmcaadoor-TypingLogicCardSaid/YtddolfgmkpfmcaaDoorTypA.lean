/-
  typing: conditions and steps as data; the forms that they are.
-/
import Derived.Test.YtddolfgmkpfmcaaDoorTab
import Derived.Test.YtddolfgmkpfmcaaDoorBaseI
namespace Go.Proofs.YtddolfgmkpfmcaaDoor
open Go.Tidy
set_option maxRecDepth 100000
set_option maxHeartbeats 0
set_option linter.unusedSimpArgs false
set_option linter.unusedVariables false
theorem wrap_in {n : Int} (h : -9223372036854775808 ≤ n ∧ n ≤ 9223372036854775807) : IntKind.i64.wrap n = n := wrap_id h.1 h.2
theorem take_next {α : Type} {l : List α} {i : Nat} (h : i < l.length) : l.take (i + 1) = l.take i ++ [l[i]] := by
  rw [List.take_add_one, List.getElem?_eq_getElem h]; rfl
theorem findI_spec {α : Type} (p : α → Bool) (l : List α) : (findI p l = -1 ∧ ∀ (j : Nat) (hj : j < l.length), p l[j] = false) ∨ ∃ (i : Nat) (hi : i < l.length), findI p l = (i : Int) ∧ p l[i] = true ∧ ∀ (j : Nat) (hj : j < l.length), j < i → p l[j] = false := by
  unfold findI
  cases h : l.findIdx? p with
  | none => exact .inl ⟨rfl, fun j hj => by simpa using List.findIdx?_eq_none_iff.1 h _ (List.getElem_mem hj)⟩
  | some i =>
    obtain ⟨h1, h2, h3⟩ := List.findIdx?_eq_some_iff_getElem.1 h
    exact .inr ⟨i, h1, rfl, h2, fun j hj hji => by simpa using h3 j hji⟩
/-- What a call comes to may be turned to what it reads as. -/
theorem callP_fin {C : Ctx} {f : FuncId} {args : List V} {L : List Blk} {q k : V → List Blk → Prop} (h : CallP C f args L q) (hk : ∀ X L', q X L' → L.length ≤ L'.length ∧ FinP L.length X L' k) : CallP C f args L k := by
  unfold CallP at h ⊢
  refine ⟨h.1, fun g w vs hg hv => (h.2 g w vs hg hv).mono ?_⟩
  rintro e w' ⟨v, X, L1, g1, he, hX, hr, hgood, hp⟩
  obtain ⟨hlen, hF⟩ := hk X L1 hX
  unfold FinP at hF
  obtain ⟨X', L', hcv, hk'⟩ := hF
  obtain ⟨g2, h1, h2, h3⟩ := hcv g1 w' v hgood hlen hr
  exact ⟨v, X', L', g2, he, hk', h2, h1, hp.trans h3⟩
/-! ### Conditions -/
inductive Co where
  | mk (kind var n : Int) (parts : List Co)
  deriving Inhabited
def Co.kind : Co → Int | .mk k _ _ _ => k
def Co.var : Co → Int | .mk _ v _ _ => v
def Co.n : Co → Int | .mk _ _ n _ => n
def Co.parts : Co → List Co | .mk _ _ _ ps => ps
mutual
def Co.cells : Co → List D
  | .mk k v n ps => [DI k, DI v, DI n, .sl (cosL ps)]
def cosL : List Co → List (List D)
  | [] => []
  | c :: cs => c.cells :: cosL cs
end
theorem cosL_map : ∀ l : List Co, cosL l = l.map Co.cells
  | [] => rfl
  | c :: cs => by rw [cosL, cosL_map cs]; rfl
def cos (l : List Co) : D := .sl (l.map Co.cells)
theorem Co.cells_eq (c : Co) : c.cells = [DI c.kind, DI c.var, DI c.n, cos c.parts] := by
  cases c with | mk k v n ps => rw [Co.cells, cosL_map]; rfl
/-! ### Steps -/
inductive Sp where
  | mk (kind by_ : Int) (cond : Co) (thn els : List Sp)
  deriving Inhabited
def Sp.kind : Sp → Int | .mk k _ _ _ _ => k
def Sp.by_ : Sp → Int | .mk _ b _ _ _ => b
def Sp.cond : Sp → Co | .mk _ _ c _ _ => c
def Sp.thn : Sp → List Sp | .mk _ _ _ t _ => t
def Sp.els : Sp → List Sp | .mk _ _ _ _ e => e
mutual
def Sp.cells : Sp → List D
  | .mk k b c t e => [DI k, DI b, DI c.kind, DI c.var, DI c.n, cos c.parts, .sl (spsL t), .sl (spsL e)]
def spsL : List Sp → List (List D)
  | [] => []
  | c :: cs => c.cells :: spsL cs
end
theorem spsL_map : ∀ l : List Sp, spsL l = l.map Sp.cells
  | [] => rfl
  | c :: cs => by rw [spsL, spsL_map cs]; rfl
def sps (l : List Sp) : D := .sl (l.map Sp.cells)
theorem Sp.cells_eq (s : Sp) : s.cells = [DI s.kind, DI s.by_, DI s.cond.kind, DI s.cond.var, DI s.cond.n, cos s.cond.parts, sps s.thn, sps s.els] := by
  cases s with | mk k b c t e => rw [Sp.cells, spsL_map, spsL_map]; rfl
/-! ### Forms -/
inductive Fm where
  | c (x : Co)
  | s (x : Sp)
  deriving Inhabited
def Fm.d : Fm → D
  | .c x => .iface 75 true x.cells
  | .s x => .iface 94 true x.cells
def Fm.parts : Fm → List Fm
  | .c x => x.parts.map .c
  | .s x => (x.thn ++ x.els).map .s
def fms (l : List Fm) : D := .sl (l.map fun f => [f.d])
def rdF (l : List Fm) : List (List V) := l.map fun f => [.d f.d]
theorem rdF_bel (n : Nat) : ∀ x : List Fm, belR n (rdF x) = true
  | [] => rfl
  | _ :: x => by simp only [rdF, List.map_cons, belR, V.belL, V.bel, Bool.true_and]; exact rdF_bel n x
theorem rdF_rn (ρ : Nat → Nat) : ∀ x : List Fm, rnR ρ (rdF x) = rdF x
  | [] => rfl
  | v :: x => by
    have := rdF_rn ρ x
    unfold rdF at this ⊢
    rw [List.map_cons, rnR, this]; rfl
theorem rdF_rnB (ρ : Nat → Nat) (n : Nat) (x : List Fm) : (Blk.row n 1 (rdF x)).rn ρ = .row n 1 (rdF x) := by rw [Blk.rn, rdF_rn]
theorem rdF_sh (m : Nat) : ∀ x : List Fm, shR m (rdF x) = rdF x
  | [] => rfl
  | v :: x => by
    have := rdF_sh m x
    unfold rdF at this ⊢
    rw [List.map_cons, shR, this]; rfl
theorem rdF_shB (m n : Nat) (x : List Fm) : (Blk.row n 1 (rdF x)).sh m = .row n 1 (rdF x) := by rw [Blk.sh, rdF_sh]
theorem rdF_rows {S : Nat → Prop} {L : List Blk} : ∀ x : List Fm, CvLL S L (rdF x) (x.map fun f => [f.d])
  | [] => .nil
  | _ :: x => .cons (.cons (.d _) .nil) (rdF_rows x)
theorem rdF_rows' {S : Nat → Prop} {L : List Blk} (x : List Fm) : CvLL S L (((rdF x).drop 0).take x.length) (x.map fun f => [f.d]) := by
  rw [List.drop_zero, List.take_of_length_le (by simp [rdF])]; exact rdF_rows x
theorem rdF_e (x : List Fm) : ∀ e ∈ x.map (fun f => [f.d]), e.length = 1 := by
  intro e he; obtain ⟨v, _, rfl⟩ := List.mem_map.1 he; rfl
end Go.Proofs.YtddolfgmkpfmcaaDoor
