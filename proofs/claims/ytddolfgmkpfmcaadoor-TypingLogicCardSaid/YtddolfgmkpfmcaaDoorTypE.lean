/-
  typing: which forms are valid; Cond and Order.
-/
import Derived.Test.YtddolfgmkpfmcaaDoorTypD
namespace Go.Proofs.YtddolfgmkpfmcaaDoor
open Go.Tidy
set_option maxRecDepth 100000
set_option maxHeartbeats 0
set_option linter.unusedSimpArgs false
set_option linter.unusedVariables false
variable {L : List Blk} {k : V → List Blk → Prop}
mutual
def vCo : Co → Bool
  | .mk k v n ps => if k = 1 then decide (1 ≤ v) && decide (v ≤ 4) && decide (0 ≤ n) && decide (n ≤ 64) && decide ((ps.length : Int) = 0)
    else if k = 4 then decide (v = 0) && decide (n = 0) && decide ((ps.length : Int) = 1) && vCos ps
    else if k = 2 ∨ k = 3 then decide (v = 0) && decide (n = 0) && decide (0 < (ps.length : Int)) && decide ((ps.length : Int) ≤ 16) && vCos ps
    else false
def vCos : List Co → Bool
  | [] => true
  | c :: cs => vCo c && vCos cs
end
theorem vCos_all : ∀ l : List Co, vCos l = l.all vCo
  | [] => rfl
  | c :: cs => by rw [vCos, vCos_all cs]; rfl
mutual
def vSp : Sp → Bool
  | .mk k b c t e => if k = 1 then decide (1 ≤ b) && decide (b ≤ 12) && isZ c && decide ((t.length : Int) + e.length = 0)
    else if k = 2 then decide (b = 0) && vCo c && decide (0 < (t.length : Int)) && vSps t && vSps e
    else false
def vSps : List Sp → Bool
  | [] => true
  | c :: cs => vSp c && vSps cs
end
theorem vSps_all : ∀ l : List Sp, vSps l = l.all vSp
  | [] => rfl
  | c :: cs => by rw [vSps, vSps_all cs]; rfl
def vFm : Fm → Bool
  | .c x => vCo x
  | .s x => vSp x
theorem parts_size {f g : Fm} (h : g ∈ f.parts) : SizeOf.sizeOf g < SizeOf.sizeOf f := by
  cases f with
  | c x =>
    obtain ⟨y, hy, rfl⟩ := List.mem_map.1 h
    have h1 := List.sizeOf_lt_of_mem hy
    cases x with | mk k v n ps =>
    have h1 : SizeOf.sizeOf y < SizeOf.sizeOf ps := h1
    simp only [Fm.c.sizeOf_spec, Co.mk.sizeOf_spec]; omega
  | s x =>
    obtain ⟨y, hy, rfl⟩ := List.mem_map.1 h
    cases x with | mk k b c t e =>
    rcases List.mem_append.1 hy with hy | hy
    · have h1 : SizeOf.sizeOf y < SizeOf.sizeOf t := List.sizeOf_lt_of_mem hy
      simp only [Fm.s.sizeOf_spec, Sp.mk.sizeOf_spec]; omega
    · have h1 : SizeOf.sizeOf y < SizeOf.sizeOf e := List.sizeOf_lt_of_mem hy
      simp only [Fm.s.sizeOf_spec, Sp.mk.sizeOf_spec]; omega
theorem cond_size (x : Sp) : SizeOf.sizeOf (Fm.c x.cond) < SizeOf.sizeOf (Fm.s x) := by
  cases x with | mk k b c t e =>
  have : Sp.cond (.mk k b c t e) = c := rfl
  rw [this]
  simp only [Fm.s.sizeOf_spec, Fm.c.sizeOf_spec, Sp.mk.sizeOf_spec]; omega
theorem findex_c (l : List Fm) (hl : l.length ≤ 4611686018427387904) (p : Fm → Bool) (hp : ∀ f ∈ l, ∀ (L : List Blk) (k : V → List Blk → Prop), k (B (p f)) L → CallP C 56 [.d f.d] L k) (h : k (I (findI p l)) L) :
    CallP C 64 [.d (fms l), .fn 56 []] L k := by
  refine CallP.pure ?_ rfl (fun _ => rfl) h
  clear h
  refine callP_of C_ok Tryd.func64 rfl rfl (n := _) rfl (Nat.le_of_ble_eq_true rfl) (rs := _) rfl ?_
  conv => whnf
  refine LoopP.inv (fun i => i ≤ l.length ∧ ∀ (j : Nat) (hj : j < l.length), j < i → p l[j] = false) (fun i => ⟨[(0, .d (fms l)), (1, .fn 56 []), (7, I l.length), (8, I i)], Tryd.f64.ntmps, [], [], none⟩) (fun i => l.length - i) 0 ⟨Nat.zero_le _, fun j _ h => absurd h (Nat.not_lt_zero j)⟩ ?_ ?_
  · exact Weak.by ⟨rfl, rfl, congrArg I (by simp), rfl, trivial⟩
  rintro i ⟨hi, hno⟩
  by_cases hi' : i < l.length
  · have hlt : (i : Int) < (l.length : Int) := by omega
    have hw : IntKind.i64.wrap ((i : Int) + 1) = ((i + 1 : Nat) : Int) := by rw [wrap_in (by omega)]; omega
    have r1 : (l.map fun f => [f.d])[i]? = some [l[i].d] := by rw [List.getElem?_map, List.getElem?_eq_getElem hi']; rfl
    have hpi := hp _ (List.getElem_mem hi')
    by_cases hq : p l[i] = true
    · repeat' (conv => whnf
               first | refine Br.yes (decide_eq_true hlt) ?_ | refine Br.yes hq ?_ | refine Br.tt ?_ | refine Br.ff ?_ | refine Br.dec (fun h => ?_) (fun h => ?_) | refine Br.not ?_ | refine Br.intro (fun h => ?_) (fun h => ?_) | refine GetE.intro _ rfl ?_ | refine Need.intro rfl ?_ | refine DrawP.go mixed rfl ?_ | refine Idx.intro i _ rfl r1 ?_ | refine hpi _ _ ?_)
      conv => whnf
      exact FinP.drop (n := 0) rfl (Nat.le_refl 0) rfl rfl ⟨rfl, congrArg I (findI_hit hi' hq hno).symm⟩
    · have hq' : p l[i] = false := by simpa using hq
      repeat' (conv => whnf
               first | refine Br.yes (decide_eq_true hlt) ?_ | refine Br.no hq' ?_ | refine Br.tt ?_ | refine Br.ff ?_ | refine Br.dec (fun h => ?_) (fun h => ?_) | refine Br.not ?_ | refine Br.intro (fun h => ?_) (fun h => ?_) | refine GetE.intro _ rfl ?_ | refine Need.intro rfl ?_ | refine DrawP.go mixed rfl ?_ | refine Idx.intro i _ rfl r1 ?_ | refine hpi _ _ ?_)
      conv => whnf
      exact ⟨i + 1, ⟨hi', fun j hj hji => by
        by_cases e : j = i
        · subst e; exact hq'
        · exact hno j hj (by omega)⟩, by omega, Weak.by ⟨rfl, rfl, rfl, congrArg I hw, trivial⟩⟩
  · have hlt : ¬ (i : Int) < (l.length : Int) := by omega
    repeat' (conv => whnf
             first | refine Br.no (decide_eq_false hlt) ?_ | refine Br.tt ?_ | refine Br.ff ?_ | refine Br.dec (fun h => ?_) (fun h => ?_) | refine Br.not ?_ | refine Br.intro (fun h => ?_) (fun h => ?_) | refine GetE.intro _ rfl ?_ | refine Need.intro rfl ?_ | refine DrawP.go mixed rfl ?_)
    conv => whnf
    exact FinP.drop (n := 0) rfl (Nat.le_refl 0) rfl rfl ⟨rfl, congrArg I (findI_miss fun j hj => hno j hj (by omega)).symm⟩
theorem fcontains_c (l : List Fm) (hl : l.length ≤ 4611686018427387904) (p : Fm → Bool) (hp : ∀ f ∈ l, ∀ (L : List Blk) (k : V → List Blk → Prop), k (B (p f)) L → CallP C 56 [.d f.d] L k) (h : k (B (l.any p)) L) :
    CallP C 55 [.d (fms l), .fn 56 []] L k := by
  refine CallP.pure ?_ rfl (fun _ => rfl) h
  clear h
  refine callP_of C_ok Tryd.func55 rfl rfl (n := _) rfl (Nat.le_of_ble_eq_true rfl) (rs := _) rfl ?_
  conv => whnf
  refine findex_c l hl p hp ?_
  repeat' (conv => whnf
           first | refine Br.tt ?_ | refine Br.ff ?_ | refine Br.dec (fun h => ?_) (fun h => ?_) | refine Br.not ?_ | refine Br.intro (fun h => ?_) (fun h => ?_) | refine GetE.intro _ rfl ?_ | refine Need.intro rfl ?_ | refine DrawP.go mixed rfl ?_)
  conv => whnf
  exact FinP.drop (n := 0) rfl (Nat.le_refl 0) rfl rfl ⟨rfl, congrArg B (findI_any p l)⟩
def VCall (f : Fm) : Prop := ∀ (L : List Blk) (k : V → List Blk → Prop), k (B (vFm f)) L → CallP C 65 [.d f.d] L k
theorem invalid_c (f : Fm) (hv : VCall f) (h : k (B (!vFm f)) L) : CallP C 56 [.d f.d] L k := by
  refine CallP.pure ?_ rfl (fun _ => rfl) h
  clear h
  refine callP_of C_ok Tryd.func56 rfl rfl (n := _) rfl (Nat.le_of_ble_eq_true rfl) (rs := _) rfl ?_
  conv => whnf
  refine hv _ _ ?_
  repeat' (conv => whnf
           first | refine Br.tt ?_ | refine Br.ff ?_ | refine Br.dec (fun h => ?_) (fun h => ?_) | refine Br.not ?_ | refine Br.intro (fun h => ?_) (fun h => ?_) | refine GetE.intro _ rfl ?_ | refine Need.intro rfl ?_ | refine DrawP.go mixed rfl ?_)
  conv => whnf
  exact FinP.drop (n := 0) rfl (Nat.le_refl 0) rfl rfl ⟨rfl, rfl⟩
theorem any_not {α : Type} (p : α → Bool) : ∀ l : List α, (!l.any fun x => !p x) = l.all p
  | [] => rfl
  | x :: l => by
    have := any_not p l
    simp only [List.any_cons, List.all_cons, ← this]
    cases p x <;> simp
theorem vparts_c (f : Fm) : f.parts.all vFm = match f with | .c x => vCos x.parts | .s x => vSps x.thn && vSps x.els := by
  cases f with
  | c x => show (x.parts.map Fm.c).all vFm = vCos x.parts; rw [List.all_map, vCos_all]; rfl
  | s x => show ((x.thn ++ x.els).map Fm.s).all vFm = (vSps x.thn && vSps x.els); rw [List.all_map, List.all_append, vSps_all, vSps_all]; rfl
theorem valid_s : ∀ (n : Nat) (f : Fm), SizeOf.sizeOf f ≤ n → LFm f → VCall f
  | 0, f, h, _ => absurd h (by cases f <;> simp)
  | n + 1, f, hsz, hF => by
    have ih := valid_s n
    intro L k h
    have hpa : ∀ g ∈ f.parts, ∀ (L : List Blk) (k : V → List Blk → Prop), k (B (!vFm g)) L → CallP C 56 [.d g.d] L k := fun g hg L k h' =>
      invalid_c g (ih g (by have := parts_size hg; omega) (hF.parts.all g hg)) h'
    have hlen := hF.parts.len
    have hany : ∀ {L : List Blk} {k : V → List Blk → Prop}, k (B (f.parts.any fun g => !vFm g)) L → CallP C 55 [.d (fms f.parts), .fn 56 []] L k := fun h' => fcontains_c f.parts (by omega) _ hpa h'
    have hall := any_not vFm f.parts
    rw [vparts_c] at hall
    cases f with
    | c x =>
      have hx : LCo x := hF
      rw [Fm.c_d]
      have hpar : ∀ {L : List Blk} {k : V → List Blk → Prop}, k (.d (fms (Fm.c x).parts)) L → CallP C 67 [.agg [I x.kind, I x.var, I x.n, .d (cos x.parts)]] L k := fun h => by
        have := cparts_c x hx.len h
        rw [Co.cells_eq] at this; exact this
      have h : k (B (vCo x)) L := h
      cases x with | mk kd v nn ps =>
      simp only [Co.kind, Co.var, Co.n, Co.parts] at *
      rw [vCo] at h
      generalize hany' : (List.any (Fm.c (Co.mk kd v nn ps)).parts fun g => !vFm g) = q at *
      refine CallP.pure ?_ rfl (fun _ => rfl) h
      clear h
      refine callP_of C_ok Tryd.func65 rfl rfl (n := _) rfl (Nat.le_of_ble_eq_true rfl) (rs := _) rfl ?_
      repeat' (conv => whnf
               first | refine Br.tt ?_ | refine Br.ff ?_ | refine Br.dec (fun h => ?_) (fun h => ?_) | refine Br.not ?_ | refine Br.intro (fun h => ?_) (fun h => ?_) | refine GetE.intro _ rfl ?_ | refine Need.intro rfl ?_ | refine DrawP.go mixed rfl ?_ | refine hpar ?_ | refine hany ?_)
      all_goals conv => whnf
      all_goals refine FinP.drop (n := 0) rfl (Nat.le_refl 0) rfl rfl ⟨rfl, congrArg B ?_⟩
      all_goals clear hpa hany hpar hx hF ih hany' hsz hlen
      all_goals (try simp only [List.length_map] at *)
      all_goals rw [← hall]
      all_goals first
        | (exfalso; omega)
        | (simp_all; done)
        | (rw [Bool.eq_iff_iff]; simp_all; done)
        | (rw [Bool.eq_iff_iff]; simp_all; omega)
    | s x =>
      have hx : LSp x := hF
      rw [Fm.s_d]
      have hpar : ∀ {L : List Blk} {k : V → List Blk → Prop}, k (.d (fms (Fm.s x).parts)) L → CallP C 68 [.agg [I x.kind, I x.by_, I x.cond.kind, I x.cond.var, I x.cond.n, .d (cos x.cond.parts), .d (sps x.thn), .d (sps x.els)]] L k := fun h => by
        have := sparts_c x hx.len1 hx.len2 h
        rw [Sp.cells_eq] at this; exact this
      have hzr : ∀ {L : List Blk} {k : V → List Blk → Prop}, k (B (isZ x.cond)) L → CallP C 63 [.agg [I x.cond.kind, I x.cond.var, I x.cond.n, .d (cos x.cond.parts)]] L k := fun h => by
        have := isZero_c x.cond h
        rw [Co.cells_eq] at this; exact this
      have hvc : ∀ {L : List Blk} {k : V → List Blk → Prop}, k (B (vCo x.cond)) L → CallP C 65 [.d (.iface 75 true [DI x.cond.kind, DI x.cond.var, DI x.cond.n, cos x.cond.parts])] L k := fun {L k} h => by
        have := ih (.c x.cond) (by have := cond_size x; omega) hx.cond L k h
        rw [Fm.c_d] at this; exact this
      have hpl : (((Fm.s x).parts.map fun f => [f.d]).length : Int) = (x.thn.length : Int) + x.els.length := by
        show ((((x.thn ++ x.els).map Fm.s).map fun f => [f.d]).length : Int) = _
        simp
      have h : k (B (vSp x)) L := h
      have hv : vSp x = (if x.kind = 1 then decide (1 ≤ x.by_) && decide (x.by_ ≤ 12) && isZ x.cond && decide ((x.thn.length : Int) + x.els.length = 0)
        else if x.kind = 2 then decide (x.by_ = 0) && vCo x.cond && decide (0 < (x.thn.length : Int)) && vSps x.thn && vSps x.els else false) := by cases x; rw [vSp]; rfl
      rw [hv] at h
      generalize hany' : (List.any (Fm.s x).parts fun g => !vFm g) = q at *
      refine CallP.pure ?_ rfl (fun _ => rfl) h
      clear h
      refine callP_of C_ok Tryd.func65 rfl rfl (n := _) rfl (Nat.le_of_ble_eq_true rfl) (rs := _) rfl ?_
      repeat' (conv => whnf
               first | refine Br.tt ?_ | refine Br.ff ?_ | refine Br.dec (fun h => ?_) (fun h => ?_) | refine Br.not ?_ | refine Br.intro (fun h => ?_) (fun h => ?_) | refine GetE.intro _ rfl ?_ | refine Need.intro rfl ?_ | refine DrawP.go mixed rfl ?_ | refine hpar ?_ | refine hzr ?_ | refine hvc ?_ | refine hany ?_)
      all_goals conv => whnf
      all_goals refine FinP.drop (n := 0) rfl (Nat.le_refl 0) rfl rfl ⟨rfl, congrArg B ?_⟩
      all_goals clear hpa hany hpar hzr hvc hx hF ih hany' hsz hlen hv
      all_goals (try simp only [hpl] at *)
      all_goals (try simp only [List.length_map] at *)
      all_goals first
        | (exfalso; omega)
        | (simp_all; done)
        | (rw [Bool.eq_iff_iff]; simp_all; done)
        | (rw [Bool.eq_iff_iff]; simp_all; omega)
end Go.Proofs.YtddolfgmkpfmcaaDoor
