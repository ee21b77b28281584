/-
  typing: the reference's applied, Applied and Direct.
-/
import Derived.Test.YtddolfgmkpfmcaaDoorTypW
namespace Go.Proofs.YtddolfgmkpfmcaaDoor
open Go.Tidy
set_option maxRecDepth 100000
set_option maxHeartbeats 0
set_option linter.unusedSimpArgs false
set_option linter.unusedVariables false
variable {L : List Blk} {k : V → List Blk → Prop}
/-- A step of an order that the reference finds valid. -/
inductive RSp : Sp → Prop
  | mk {s : Sp} (hk : s.kind = 1 ∨ s.kind = 2) (hb : s.kind = 1 → 1 ≤ s.by_ ∧ s.by_ ≤ 12) (hv : s.kind = 2 → vCo s.cond = true) (hc : LCo s.cond) (l1 : s.thn.length ≤ 4398046511104) (l2 : s.els.length ≤ 4398046511104) (ht : ∀ p ∈ s.thn, RSp p) (he : ∀ p ∈ s.els, RSp p) : RSp s
theorem rsp_of : ∀ (n : Nat) (s : Sp), SizeOf.sizeOf s ≤ n → vSp s = true → LSp s → RSp s
  | 0, s, h, _, _ => absurd h (by cases s; simp)
  | n + 1, s, hsz, hv, hl => by
    obtain ⟨h1, h2, hc, ht, he⟩ := hl
    cases s with | mk kd b c t e =>
    simp only [Sp.mk.sizeOf_spec] at hsz
    simp only [Sp.thn, Sp.els, Sp.cond] at h1 h2 hc ht he
    rw [vSp] at hv
    have hz : ∀ {l : List Sp} {p : Sp}, p ∈ l → SizeOf.sizeOf p < SizeOf.sizeOf l := fun h => List.sizeOf_lt_of_mem h
    split at hv
    · rename_i k1
      simp only [Bool.and_eq_true, decide_eq_true_eq] at hv
      have t0 : t.length = 0 := by omega
      have e0 : e.length = 0 := by omega
      refine .mk (.inl k1) (fun _ => hv.1.1) (fun h => by simp only [Sp.kind] at h; omega) hc h1 h2 (fun p hp => ?_) (fun p hp => ?_)
      · simp only [Sp.thn] at hp; rw [List.length_eq_zero_iff.1 t0] at hp; cases hp
      · simp only [Sp.els] at hp; rw [List.length_eq_zero_iff.1 e0] at hp; cases hp
    · split at hv
      · rename_i k2
        simp only [Bool.and_eq_true, decide_eq_true_eq] at hv
        refine .mk (.inr k2) (fun h => by simp only [Sp.kind] at h; omega) (fun _ => hv.1.1.1.2) hc h1 h2 (fun p hp => ?_) (fun p hp => ?_)
        · simp only [Sp.thn] at hp; exact rsp_of n p (by have := hz hp; omega) (vSps_mem hv.1.2 p hp) (ht p hp)
        · simp only [Sp.els] at hp; exact rsp_of n p (by have := hz hp; omega) (vSps_mem hv.2 p hp) (he p hp)
      · cases hv
def ACall (x : En) (l : List Sp) : Prop := ∀ b, ByOk b → ByOk (dSs x b l) ∧ ∀ (L : List Blk) (k : V → List Blk → Prop), k (.d (ins (dSs x b l))) L → CallP C 61 [.d (sps l), enV x, .d (ins b)] L k
theorem any_swap (b : List Int) (n : Int) : (b.any fun v => decide (v = n)) = b.any fun v => decide (n = v) := by
  congr 1; funext v; exact decide_eq_decide.2 ⟨Eq.symm, Eq.symm⟩
theorem ap_len (b : List Int) : (((b.map fun v => [DI v]).map fun x => x.map V.d)).length = b.length := by simp
theorem ap_cv {S : Nat → Prop} {L : List Blk} (b : List Int) (v : Int) : CvLL S L (((((([] : List (List V)).take 0) ++ ((b.map fun v => [DI v]).map fun x => x.map V.d)).take (0 + ((b.map fun v => [DI v]).map fun x => x.map V.d).length) ++ [[I v]]).drop 0).take (0 + ((b.map fun v => [DI v]).map fun x => x.map V.d).length + 1)) ((b ++ [v]).map fun v => [DI v]) := by
  have e : ((((([] : List (List V)).take 0) ++ ((b.map fun v => [DI v]).map fun x => x.map V.d)).take (0 + ((b.map fun v => [DI v]).map fun x => x.map V.d).length) ++ [[I v]]).drop 0).take (0 + ((b.map fun v => [DI v]).map fun x => x.map V.d).length + 1) = rdI (b ++ [v]) := by
    have hb : ((b.map fun v => [DI v]).map fun x => x.map V.d) = rdI b := by unfold rdI; rw [List.map_map]; rfl
    have hs : rdI (b ++ [v]) = rdI b ++ [[I v]] := by unfold rdI; rw [List.map_append]; rfl
    rw [hb, hs]
    generalize rdI b = r
    simp only [List.take_nil, List.nil_append, Nat.zero_add, List.take_length, List.drop_zero]
    exact List.take_of_length_le (by simp)
  rw [e]; exact rdI_rows _
theorem ap_ds (b : List Int) (v : Int) : 0 + ((b.map fun v => [DI v]).map fun x => x.map V.d).length + 1 = ((b ++ [v]).map fun v => [DI v]).length := by simp
theorem applied_s (x : En) : ∀ (n : Nat) (l : List Sp), SizeOf.sizeOf l ≤ n → l.length ≤ 4398046511104 → (∀ s ∈ l, RSp s) → ACall x l
  | 0, l, h, _, _ => absurd h (by cases l <;> simp)
  | n + 1, l, hsz, hlen, hl => by
    have ih := applied_s x n
    intro b0 hb0
    have hby : ∀ i, i ≤ l.length → ByOk (dSs x b0 (l.take i)) := by
      intro i
      induction i with
      | zero => intro _; simpa [dSs] using hb0
      | succ i hi =>
        intro hlt
        have hb := hi (by omega)
        rw [dSs_take x b0 l (by omega)]
        have hm : l[i] ∈ l := List.getElem_mem (by omega)
        have hs := hl _ hm
        have hz : SizeOf.sizeOf l[i] < SizeOf.sizeOf l := List.sizeOf_lt_of_mem hm
        generalize l[i] = s at hs hz
        generalize dSs x b0 (l.take i) = b at hb
        obtain ⟨hk, hbn, hv, hc, l1, l2, ht, he⟩ := hs
        cases s with | mk kd bb c t e =>
        simp only [Sp.mk.sizeOf_spec] at hz
        simp only [Sp.kind, Sp.by_, Sp.cond, Sp.thn, Sp.els] at hk hbn hv l1 l2 ht he
        rw [dS]
        split
        · split
          · exact (ih t (by omega) l1 ht b hb).1
          · exact (ih e (by omega) l2 he b hb).1
        · rename_i h2
          split
          · exact hb
          · rename_i h3; exact hb.snoc (hbn (hk.resolve_right h2)) h3
    refine ⟨by simpa using hby l.length (Nat.le_refl _), ?_⟩
    intro L k h
    refine CallP.pure ?_ rfl (fun _ => rfl) h
    clear h
    refine callP_of C_ok Tryd.func61 rfl rfl (n := _) rfl (Nat.le_of_ble_eq_true rfl) (rs := _) rfl ?_
    conv => whnf
    refine LoopP.inv (fun i => i ≤ l.length) (fun i => ⟨[(0, .d (sps l)), (2, .d (ins (dSs x b0 (l.take i)))), (4, .ptr 0 0), (7, I i)], Tryd.f61.ntmps, [.cells (x.cells.map .d)], [], none⟩) (fun i => l.length - i) 0 (Nat.zero_le _) ?_ ?_
    · exact Weak.by ⟨rfl, rfl, rfl, rfl, trivial⟩
    intro i hi
    by_cases hlt : (i : Int) < ((l.map Sp.cells).length : Int)
    rotate_left
    · repeat' (conv => whnf
               first | refine Br.no (decide_eq_false hlt) ?_ | refine Br.tt ?_ | refine Br.ff ?_ | refine Br.dec (fun h => ?_) (fun h => ?_) | refine Br.not ?_ | refine Br.intro (fun h => ?_) (fun h => ?_) | refine GetE.intro _ rfl ?_ | refine Need.intro rfl ?_ | refine DrawP.go mixed rfl ?_)
      conv => whnf
      exact FinP.drop (n := 0) rfl (Nat.zero_le _) rfl rfl ⟨rfl, Eq.trans (b := V.d (ins (dSs x b0 (l.take i)))) rfl (by rw [List.take_of_length_le (by rw [List.length_map] at hlt; omega)])⟩
    have hi' : i < l.length := by rw [List.length_map] at hlt; omega
    have hw : IntKind.i64.wrap ((i : Int) + 1) = ((i + 1 : Nat) : Int) := by rw [wrap_in (by omega)]; omega
    have hb := hby i hi
    have hbx := dSs_take x b0 l hi'
    have hm : l[i] ∈ l := List.getElem_mem hi'
    have hs := hl _ hm
    have hz : SizeOf.sizeOf l[i] < SizeOf.sizeOf l := List.sizeOf_lt_of_mem hm
    obtain ⟨s, hs0⟩ : ∃ s, s = l[i] := ⟨_, rfl⟩
    rw [← hs0] at hs hz hbx
    have r1 : (l.map Sp.cells)[i]? = some [DI s.kind, DI s.by_, DI s.cond.kind, DI s.cond.var, DI s.cond.n, cos s.cond.parts, sps s.thn, sps s.els] := by rw [List.getElem?_map, List.getElem?_eq_getElem hi', ← hs0, ← Sp.cells_eq]; rfl
    obtain ⟨hk, hbn, hv, hc, l1, l2, ht, he⟩ := hs
    have hdS : ∀ b, dS x b s = if s.kind = 2 then (if hoF x s.cond = true then dSs x b s.thn else dSs x b s.els) else if (b.any fun v => decide (s.by_ = v)) = true then b else b ++ [s.by_] := fun b => by cases s; rw [dS]; rfl
    have z1 : SizeOf.sizeOf s.thn < SizeOf.sizeOf s := by cases s; simp only [Sp.mk.sizeOf_spec, Sp.thn]; omega
    have z2 : SizeOf.sizeOf s.els < SizeOf.sizeOf s := by cases s; simp only [Sp.mk.sizeOf_spec, Sp.els]; omega
    have i1 := ih s.thn (by omega) l1 ht
    have i2 := ih s.els (by omega) l2 he
    rw [hdS] at hbx
    generalize dSs x b0 (l.take i) = b at hb hbx ⊢
    have hbl := hb.len
    by_cases c1 : s.kind = 1
    · have hin : ∀ {L : List Blk} {k : V → List Blk → Prop}, k (B (b.any fun v => decide (v = s.by_))) L → CallP C 25 [.d (ins b), I s.by_] L k := fun h => in_c b (by omega) s.by_ h
      rw [any_swap] at hin
      rw [if_neg (by omega)] at hbx
      cases c3 : b.any fun v => decide (s.by_ = v) with
      | true =>
        rw [if_pos c3] at hbx
        rw [c3] at hin
        repeat' (conv => whnf
                 first | refine Br.yes (decide_eq_true hlt) ?_ | refine Br.yes (decide_eq_true c1) ?_ | refine Br.tt ?_ | refine Br.ff ?_ | refine Br.dec (fun h => ?_) (fun h => ?_) | refine Br.not ?_ | refine Br.intro (fun h => ?_) (fun h => ?_) | refine GetE.intro _ rfl ?_ | refine Need.intro rfl ?_ | refine DrawP.go mixed rfl ?_ | refine Idx.intro i _ rfl r1 ?_ | refine hin ?_)
        conv => whnf
        exact ⟨i + 1, hi', by omega, Weak.to 1 rfl (Nat.zero_le _) (Nat.le_of_ble_eq_true rfl) ⟨rfl, congrArg (fun b => V.d (ins b)) hbx.symm, rfl, congrArg I hw, trivial⟩⟩
      | false =>
        rw [if_neg (by rw [c3]; decide)] at hbx
        rw [c3] at hin
        repeat' (conv => whnf
                 first | refine Br.yes (decide_eq_true hlt) ?_ | refine Br.yes (decide_eq_true c1) ?_ | refine Br.tt ?_ | refine Br.ff ?_ | refine Br.dec (fun h => ?_) (fun h => ?_) | refine Br.not ?_ | refine Br.intro (fun h => ?_) (fun h => ?_) | refine GetE.intro _ rfl ?_ | refine Need.intro rfl ?_ | refine DrawP.go mixed rfl ?_ | refine Idx.intro i _ rfl r1 ?_ | refine hin ?_)
        conv => whnf
        have n1 : 0 + (((b.map fun v => [DI v]).map fun x => x.map V.d)).length ≤ 4294967296 := by rw [ap_len]; omega
        have n2 : 0 + (((b.map fun v => [DI v]).map fun x => x.map V.d)).length + 1 ≤ 4294967296 := by rw [ap_len]; omega
        refine DrawP.por mixed [] [[(1, 0), (3, 0), (4, 4), (0, 0), (2, 0), (5, 0), (6, 0), (7, 0)], [(1, 0), (3, 0), (4, 4), (0, 0), (5, 0), (2, 0), (6, 0), (7, 0)], [(1, 0), (3, 0), (4, 4), (5, 0), (0, 0), (2, 0), (6, 0), (7, 0)]] (by kernel_rfl) ?_
        conv => whnf
        refine And.intro ?_ ?_
        rotate_left 1
        conv => whnf
        refine And.intro ?_ ?_
        all_goals
          repeat' (conv => whnf
                   first | refine Br.tt ?_ | refine Br.ff ?_ | refine Br.dec (fun h => ?_) (fun h => ?_) | refine Br.not ?_ | refine Br.intro (fun h => ?_) (fun h => ?_) | refine GetE.intro _ rfl ?_ | refine Need.intro rfl ?_ | refine DrawP.go mixed rfl ?_ | refine Need.intro (rdI_e b) ?_ | refine Need.intro n1 ?_ | refine Need.intro n2 ?_)
          conv => whnf
          refine ⟨i + 1, hi', by omega, Weak.thaw 1 (Nat.zero_le _) (Nat.le_of_ble_eq_true rfl) rfl ⟨.inl ⟨rfl, rfl⟩, .inr ?_, .inl ⟨rfl, rfl⟩, .inl ⟨congrArg I hw, rfl⟩, trivial⟩ ?_⟩
          · rw [hbx]
            exact .d (.rowL (ds := (b ++ [s.by_]).map fun v => [DI v]) (Nat.le_of_ble_eq_true rfl) rfl (ap_cv b s.by_) (ap_ds b s.by_) (rdI_e _))
          · intro b x y hx hy
            match b, hx, hy with
            | 0, hx, hy => cases hx; cases hy; exact .inl ⟨rfl, rfl⟩
    have c2 : s.kind = 2 := hk.resolve_left c1
    have hh : ∀ {L : List Blk} {k : V → List Blk → Prop}, k (B (hoF x s.cond)) L → CallP C 52 [.agg [I s.cond.kind, I s.cond.var, I s.cond.n, .d (cos s.cond.parts)], enV x] L k := fun h => by
      have := rholds_c x s.cond (hv c2) hc h
      rw [Co.cells_eq] at this; exact this
    rw [if_pos c2] at hbx
    cases c3 : hoF x s.cond with
    | true =>
      rw [if_pos c3] at hbx
      rw [c3] at hh
      have i1' := (i1 b hb).2
      repeat' (conv => whnf
               first | refine Br.yes (decide_eq_true hlt) ?_ | refine Br.no (decide_eq_false c1) ?_ | refine Br.tt ?_ | refine Br.ff ?_ | refine Br.dec (fun h => ?_) (fun h => ?_) | refine Br.not ?_ | refine Br.intro (fun h => ?_) (fun h => ?_) | refine GetE.intro _ rfl ?_ | refine Need.intro rfl ?_ | refine DrawP.go mixed rfl ?_ | refine Idx.intro i _ rfl r1 ?_ | refine hh ?_ | refine i1' _ _ ?_)
      conv => whnf
      exact ⟨i + 1, hi', by omega, Weak.to 1 rfl (Nat.zero_le _) (Nat.le_of_ble_eq_true rfl) ⟨rfl, congrArg (fun b => V.d (ins b)) hbx.symm, rfl, congrArg I hw, trivial⟩⟩
    | false =>
      rw [if_neg (by rw [c3]; decide)] at hbx
      rw [c3] at hh
      have i2' := (i2 b hb).2
      repeat' (conv => whnf
               first | refine Br.yes (decide_eq_true hlt) ?_ | refine Br.no (decide_eq_false c1) ?_ | refine Br.tt ?_ | refine Br.ff ?_ | refine Br.dec (fun h => ?_) (fun h => ?_) | refine Br.not ?_ | refine Br.intro (fun h => ?_) (fun h => ?_) | refine GetE.intro _ rfl ?_ | refine Need.intro rfl ?_ | refine DrawP.go mixed rfl ?_ | refine Idx.intro i _ rfl r1 ?_ | refine hh ?_ | refine i2' _ _ ?_)
      conv => whnf
      exact ⟨i + 1, hi', by omega, Weak.to 1 rfl (Nat.zero_le _) (Nat.le_of_ble_eq_true rfl) ⟨rfl, congrArg (fun b => V.d (ins b)) hbx.symm, rfl, congrArg I hw, trivial⟩⟩
theorem noE : ∀ e ∈ ([] : List (List D)), e.length = 1 := fun e h => by cases h
theorem byok0 : ByOk [] := ⟨List.nodup_nil, fun b h => by cases h⟩
theorem applied_c (x : En) (l : List Sp) (hlen : l.length ≤ 4398046511104) (hl : ∀ s ∈ l, RSp s) (h : k (.d (ins (dSs x [] l))) L) : CallP C 51 [.d (sps l), enV x] L k := by
  have ha : ∀ {L : List Blk} {k : V → List Blk → Prop}, k (.d (ins (dSs x [] l))) L → CallP C 61 [.d (sps l), enV x, .d (ins [])] L k := fun h => (applied_s x _ l (Nat.le_refl _) hlen hl [] byok0).2 _ _ h
  refine CallP.pure ?_ rfl (fun _ => rfl) h
  clear h
  refine callP_of C_ok Tryd.func51 rfl rfl (n := _) rfl (Nat.le_of_ble_eq_true rfl) (rs := _) rfl ?_
  repeat' (conv => whnf
           first | refine Br.tt ?_ | refine Br.ff ?_ | refine Br.dec (fun h => ?_) (fun h => ?_) | refine Br.not ?_ | refine Br.intro (fun h => ?_) (fun h => ?_) | refine GetE.intro _ rfl ?_ | refine Need.intro rfl ?_ | refine DrawP.go mixed rfl ?_ | refine CallP.freeze [1] rfl rfl (.keep (.keep (.cv (y := .d (ins [])) (.d (.rowL (ds := []) (List.mem_singleton.2 rfl) rfl .nil rfl noE)) .nil))) (ha ?_))
  conv => whnf
  exact FinP.drop (n := 0) rfl (Nat.le_refl 0) rfl rfl ⟨rfl, rfl⟩
open Classical in
noncomputable def rdirectB (l : List Sp) (x : En) : List Int := if rorderF l = 0 ∧ envE x = 0 then dSs x [] l else []
noncomputable def rdirectE (l : List Sp) (x : En) : Int := if rorderF l ≠ 0 then rorderF l else envE x
theorem rdirect_c (l : List Sp) (x : En) (hl : LSs l) (hr : rorderF l = 0 → ∀ s ∈ l, RSp s) (h : k (.tup [.d (ins (rdirectB l x)), I (rdirectE l x)]) L) : CallP C 27 [.d (sps l), enV x] L k := by
  have h1 : ∀ {L : List Blk} {k : V → List Blk → Prop}, k (I (rorderF l)) L → CallP C 16 [.d (sps l)] L k := fun h => rorder_c l hl h
  have h2 : rorderF l = 0 → ∀ {L : List Blk} {k : V → List Blk → Prop}, k (.d (ins (dSs x [] l))) L → CallP C 51 [.d (sps l), enV x] L k := fun e _ _ h => applied_c x l hl.len (hr e) h
  have e1 : rorderF l = 0 → envE x = 0 → V.tup [.d (ins (rdirectB l x)), I (rdirectE l x)] = V.tup [.d (ins (dSs x [] l)), I 0] := fun h h' => by
    unfold rdirectB rdirectE; rw [if_pos ⟨h, h'⟩, if_neg (fun hn => hn h), h']
  have e2 : rorderF l = 0 → envE x ≠ 0 → V.tup [.d (ins (rdirectB l x)), I (rdirectE l x)] = V.tup [.d (ins []), I (envE x)] := fun h h' => by
    unfold rdirectB rdirectE; rw [if_neg (fun hn => h' hn.2), if_neg (fun hn => hn h)]
  have e3 : rorderF l ≠ 0 → V.tup [.d (ins (rdirectB l x)), I (rdirectE l x)] = V.tup [.d (ins []), I (rorderF l)] := fun h => by
    unfold rdirectB rdirectE; rw [if_neg (fun hn => h hn.1), if_pos h]
  generalize rdirectB l x = bb at *
  generalize rdirectE l x = ee at *
  generalize rorderF l = q at *
  refine CallP.pure ?_ rfl (fun _ => rfl) h
  clear h
  refine callP_of C_ok Tryd.func27 rfl rfl (n := _) rfl (Nat.le_of_ble_eq_true rfl) (rs := _) rfl ?_
  by_cases c1 : q = 0
  rotate_left
  · repeat' (conv => whnf
             first | refine Br.no (decide_eq_false c1) ?_ | refine Br.tt ?_ | refine Br.ff ?_ | refine Br.dec (fun h => ?_) (fun h => ?_) | refine Br.not ?_ | refine Br.intro (fun h => ?_) (fun h => ?_) | refine GetE.intro _ rfl ?_ | refine Need.intro rfl ?_ | refine DrawP.go mixed rfl ?_ | refine h1 ?_)
    conv => whnf
    exact FinP.data (.pair (.d .nil) (.d (.d _))) rfl rfl ⟨rfl, (e3 c1).symm⟩
  by_cases c2 : envE x = 0
  rotate_left
  · repeat' (conv => whnf
             first | refine Br.yes (decide_eq_true c1) ?_ | refine Br.no (decide_eq_false c2) ?_ | refine Br.tt ?_ | refine Br.ff ?_ | refine Br.dec (fun h => ?_) (fun h => ?_) | refine Br.not ?_ | refine Br.intro (fun h => ?_) (fun h => ?_) | refine GetE.intro _ rfl ?_ | refine Need.intro rfl ?_ | refine DrawP.go mixed rfl ?_ | refine h1 ?_ | refine refenv_c x ?_)
    conv => whnf
    exact FinP.data (.pair (.d .nil) (.d (.d _))) rfl rfl ⟨rfl, (e2 c1 c2).symm⟩
  repeat' (conv => whnf
           first | refine Br.yes (decide_eq_true c1) ?_ | refine Br.yes (decide_eq_true c2) ?_ | refine Br.tt ?_ | refine Br.ff ?_ | refine Br.dec (fun h => ?_) (fun h => ?_) | refine Br.not ?_ | refine Br.intro (fun h => ?_) (fun h => ?_) | refine GetE.intro _ rfl ?_ | refine Need.intro rfl ?_ | refine DrawP.go mixed rfl ?_ | refine h1 ?_ | refine refenv_c x ?_ | refine h2 c1 ?_)
  conv => whnf
  exact FinP.drop (n := 0) rfl (Nat.le_refl 0) rfl rfl ⟨rfl, Eq.trans (b := V.tup [.d (ins (dSs x [] l)), I 0]) rfl (e1 c1 c2).symm⟩
end Go.Proofs.YtddolfgmkpfmcaaDoor
