/-
  typing: Direct.
-/
import Derived.Test.YtddolfgmkpfmcaaDoorTypK
namespace Go.Proofs.YtddolfgmkpfmcaaDoor
open Go.Tidy
set_option maxRecDepth 100000
set_option maxHeartbeats 0
set_option linter.unusedSimpArgs false
set_option linter.unusedVariables false
variable {L : List Blk} {k : V → List Blk → Prop}
theorem bifP {c : Bool} {X : Prop} (h : c = true) (hx : X) : cond c X False := by subst h; exact hx
def dL (x : En) (b : List Int) : List Blk := [.cells (x.cells.map .d), .cells [.own 3 b.length 0 b.length], .cells [.fn 48 [.ptr 0 0, .ptr 2 0, .ptr 1 0]], .row b.length 1 (rdI b)]
theorem dL_bel (x : En) (b : List Int) : belB 4 (dL x b) = true := by
  have := rdI_bel 4 b
  unfold dL
  simp only [belB, Blk.bel, this, Bool.and_true]
  rfl
def DCall (x : En) (l : List Sp) : Prop := ∀ b, ByOk b → ByOk (dSs x b l) ∧ CallP C 48 [.d (sps l), .ptr 0 0, .ptr 2 0, .ptr 1 0] (dL x b) fun X L' => X = .tup [] ∧ L' = dL x (dSs x b l)
theorem DCall.sub {x : En} {l : List Sp} (h : DCall x l) {b : List Int} (hb : ByOk b) {E : List Blk} {k : V → List Blk → Prop} (hk : k (.tup []) (dL x (dSs x b l) ++ E)) :
    CallP C 48 [.d (sps l), .ptr 0 0, .ptr 2 0, .ptr 1 0] (dL x b ++ E) k :=
  CallP.pre (h b hb).2 (dL_bel x b) rfl rfl fun X L1 hX => by
    obtain ⟨rfl, rfl⟩ := hX
    exact ⟨rfl, dL_bel x _, rfl, hk⟩
theorem direct1_s (x : En) : ∀ (n : Nat) (l : List Sp), SizeOf.sizeOf l ≤ n → l.length ≤ 4398046511104 → (∀ s ∈ l, DSp s) → DCall x l
  | 0, l, h, _, _ => absurd h (by cases l <;> simp)
  | n + 1, l, hsz, hlen, hl => by
    have ih := direct1_s x n
    intro b0 hb0
    have hby : ∀ i, i ≤ l.length → ByOk (dSs x b0 (l.take i)) := by
      intro i
      induction i with
      | zero => intro _; simpa [dSs] using hb0
      | succ i hi =>
        intro hlt
        have hb := hi (by omega)
        rw [dSs_take x b0 l (by omega)]
        have hm : l[i] ∈ l := List.getElem_mem (by omega)
        have hs := hl _ hm
        have hz : SizeOf.sizeOf l[i] < SizeOf.sizeOf l := List.sizeOf_lt_of_mem hm
        generalize l[i] = s at hs hz
        generalize dSs x b0 (l.take i) = b at hb
        obtain ⟨hc, hbn, l1, l2, ht, he⟩ := hs
        cases s with | mk kd bb c t e =>
        simp only [Sp.mk.sizeOf_spec] at hz
        simp only [Sp.kind, Sp.by_, Sp.cond, Sp.thn, Sp.els] at hc hbn l1 l2 ht he
        rw [dS]
        split
        · split
          · exact (ih t (by omega) l1 ht b hb).1
          · exact (ih e (by omega) l2 he b hb).1
        · rename_i h2
          split
          · exact hb
          · rename_i h3; exact hb.snoc (hbn h2) h3
    refine ⟨by simpa using hby l.length (Nat.le_refl _), ?_⟩
    refine callP_of C_ok Tryd.func48 rfl rfl (n := _) rfl (Nat.le_of_ble_eq_true rfl) (rs := _) rfl ?_
    conv => whnf
    refine LoopP.inv (fun i => i ≤ l.length) (fun i => ⟨[(1, .ptr 0 0), (2, .ptr 2 0), (3, .ptr 1 0), (7, .d (sps l)), (8, I l.length), (9, I i)], Tryd.f48.ntmps, dL x (dSs x b0 (l.take i)), [], none⟩) (fun i => l.length - i) 0 (Nat.zero_le _) ?_ ?_
    · exact Weak.by ⟨rfl, rfl, rfl, rfl, congrArg I (by simp), rfl, trivial⟩
    intro i hi
    by_cases hi' : i < l.length
    · have hlt : (i : Int) < (l.length : Int) := by omega
      have hw : IntKind.i64.wrap ((i : Int) + 1) = ((i + 1 : Nat) : Int) := by rw [wrap_in (by omega)]; omega
      have hb := hby i hi
      have hbx := dSs_take x b0 l hi'
      have hm : l[i] ∈ l := List.getElem_mem hi'
      have hs := hl _ hm
      have hz : SizeOf.sizeOf l[i] < SizeOf.sizeOf l := List.sizeOf_lt_of_mem hm
      obtain ⟨s, hs0⟩ : ∃ s, s = l[i] := ⟨_, rfl⟩
      rw [← hs0] at hs hz hbx
      have r1 : (l.map Sp.cells)[i]? = some [DI s.kind, DI s.by_, DI s.cond.kind, DI s.cond.var, DI s.cond.n, cos s.cond.parts, sps s.thn, sps s.els] := by rw [List.getElem?_map, List.getElem?_eq_getElem hi', ← hs0, ← Sp.cells_eq]; rfl
      obtain ⟨hc, hbn, l1, l2, ht, he⟩ := hs
      have hdS : ∀ b, dS x b s = if s.kind = 2 then (if hoF x s.cond = true then dSs x b s.thn else dSs x b s.els) else if (b.any fun v => decide (s.by_ = v)) = true then b else b ++ [s.by_] := fun b => by cases s; rw [dS]; rfl
      have z1 : SizeOf.sizeOf s.thn < SizeOf.sizeOf s := by cases s; simp only [Sp.mk.sizeOf_spec, Sp.thn]; omega
      have z2 : SizeOf.sizeOf s.els < SizeOf.sizeOf s := by cases s; simp only [Sp.mk.sizeOf_spec, Sp.els]; omega
      have i1 := ih s.thn (by omega) l1 ht
      have i2 := ih s.els (by omega) l2 he
      rw [hdS] at hbx
      generalize dSs x b0 (l.take i) = b at hb hbx ⊢
      have hbl := hb.len
      by_cases c1 : s.kind = 2
      · have hh := holds_c x s.cond (hc c1)
        unfold HCall at hh
        rw [Co.cells_eq] at hh
        rw [if_pos c1] at hbx
        by_cases c2 : hoF x s.cond = true
        · rw [if_pos c2] at hbx
          repeat' (conv => whnf
                   first | refine Br.yes (decide_eq_true hlt) ?_ | refine Br.yes (decide_eq_true c1) ?_ | refine Br.yes c2 ?_ | refine Br.tt ?_ | refine Br.ff ?_ | refine Br.dec (fun h => ?_) (fun h => ?_) | refine Br.not ?_ | refine Br.intro (fun h => ?_) (fun h => ?_) | refine GetE.intro _ rfl ?_ | refine Need.intro rfl ?_ | refine DrawP.go mixed rfl ?_ | refine Idx.intro i _ rfl r1 ?_ | refine hh _ _ ?_ | refine i1.sub hb ?_)
          conv => whnf
          exact ⟨i + 1, hi', by omega, Weak.to 4 (Eq.trans (b := dL x (dSs x b s.thn)) rfl (congrArg (dL x) hbx.symm)) (Nat.le_refl 4) (Nat.le_of_ble_eq_true rfl) ⟨rfl, rfl, rfl, rfl, rfl, congrArg I hw, trivial⟩ (hB := dL_bel x _)⟩
        · have c2' : hoF x s.cond = false := by simpa using c2
          rw [if_neg c2] at hbx
          repeat' (conv => whnf
                   first | refine Br.yes (decide_eq_true hlt) ?_ | refine Br.yes (decide_eq_true c1) ?_ | refine Br.no c2' ?_ | refine Br.tt ?_ | refine Br.ff ?_ | refine Br.dec (fun h => ?_) (fun h => ?_) | refine Br.not ?_ | refine Br.intro (fun h => ?_) (fun h => ?_) | refine GetE.intro _ rfl ?_ | refine Need.intro rfl ?_ | refine DrawP.go mixed rfl ?_ | refine Idx.intro i _ rfl r1 ?_ | refine hh _ _ ?_ | refine i2.sub hb ?_)
          conv => whnf
          exact ⟨i + 1, hi', by omega, Weak.to 4 (Eq.trans (b := dL x (dSs x b s.els)) rfl (congrArg (dL x) hbx.symm)) (Nat.le_refl 4) (Nat.le_of_ble_eq_true rfl) ⟨rfl, rfl, rfl, rfl, rfl, congrArg I hw, trivial⟩ (hB := dL_bel x _)⟩
      · rw [if_neg c1] at hbx
        by_cases c3 : (b.any fun v => decide (s.by_ = v)) = true
        · rw [if_pos c3] at hbx
          repeat' (conv => whnf
                   first | refine Br.yes (decide_eq_true hlt) ?_ | refine Br.no (decide_eq_false c1) ?_ | refine Br.yes c3 ?_ | refine Br.tt ?_ | refine Br.ff ?_ | refine Br.dec (fun h => ?_) (fun h => ?_) | refine Br.not ?_ | refine Br.intro (fun h => ?_) (fun h => ?_) | refine GetE.intro _ rfl ?_ | refine Need.intro rfl ?_ | refine DrawP.go mixed rfl ?_ | refine Idx.intro i _ rfl r1 ?_ | refine CallP.lent (icontains_c b (by omega) s.by_ ⟨rfl, rfl⟩) (.cv (.d (.rowL trivial rfl (rdI_rows' b) (by simp) (rdI_e b))) (.keep .nil)) rfl rfl ?_)
          conv => whnf
          exact ⟨i + 1, hi', by omega, Weak.to 4 (Eq.trans (b := dL x b) rfl (congrArg (dL x) hbx.symm)) (Nat.le_refl 4) (Nat.le_of_ble_eq_true rfl) ⟨rfl, rfl, rfl, rfl, rfl, congrArg I hw, trivial⟩ (hB := dL_bel x _)⟩
        · have c3' : (b.any fun v => decide (s.by_ = v)) = false := eq_false_of_ne_true c3
          rw [if_neg c3] at hbx
          repeat' (conv => whnf
                   first | refine Br.yes (decide_eq_true hlt) ?_ | refine Br.no (decide_eq_false c1) ?_ | refine Br.no c3' ?_ | refine Br.tt ?_ | refine Br.ff ?_ | refine Br.dec (fun h => ?_) (fun h => ?_) | refine Br.not ?_ | refine Br.intro (fun h => ?_) (fun h => ?_) | refine GetE.intro _ rfl ?_ | refine Need.intro rfl ?_ | refine DrawP.go mixed rfl ?_ | refine Idx.intro i _ rfl r1 ?_ | refine CallP.lent (icontains_c b (by omega) s.by_ ⟨rfl, rfl⟩) (.cv (.d (.rowL trivial rfl (rdI_rows' b) (by simp) (rdI_e b))) (.keep .nil)) rfl rfl ?_)
          conv => whnf
          refine bifP (show (Nat.beq b.length b.length && true) = true by rw [Nat.beq_refl]; rfl) ?_
          repeat' (conv => whnf
                   first | refine Br.tt ?_ | refine Br.ff ?_ | refine Br.dec (fun h => ?_) (fun h => ?_) | refine Br.not ?_ | refine Br.intro (fun h => ?_) (fun h => ?_) | refine GetE.intro _ rfl ?_ | refine Need.intro rfl ?_ | refine DrawP.go mixed rfl ?_ | refine Need.intro (show b.length + 1 ≤ 4294967296 by omega) ?_)
          conv => whnf
          have e : [Blk.cells (x.cells.map .d), .cells [.own 3 (b.length + 1) 0 (b.length + 1)], .cells [.fn 48 [.ptr 0 0, .ptr 2 0, .ptr 1 0]], .row (b.length + 1) 1 ((rdI b).take b.length ++ [[I s.by_]])] = dL x (dSs x b0 (l.take (i + 1))) := by
            rw [hbx]; unfold dL
            rw [List.length_append, List.length_singleton, List.take_of_length_le (by simp [rdI])]
            unfold rdI; rw [List.map_append]; rfl
          exact ⟨i + 1, hi', by omega, Weak.to 4 (Eq.trans (b := [Blk.cells (x.cells.map .d), .cells [.own 3 (b.length + 1) 0 (b.length + 1)], .cells [.fn 48 [.ptr 0 0, .ptr 2 0, .ptr 1 0]], .row (b.length + 1) 1 ((rdI b).take b.length ++ [[I s.by_]])]) rfl e) (Nat.le_refl 4) (Nat.le_of_ble_eq_true rfl) ⟨rfl, rfl, rfl, rfl, rfl, congrArg I hw, trivial⟩ (hB := dL_bel x _)⟩
    · have hlt : ¬ (i : Int) < (l.length : Int) := by omega
      repeat' (conv => whnf
               first | refine Br.no (decide_eq_false hlt) ?_ | refine Br.tt ?_ | refine Br.ff ?_ | refine Br.dec (fun h => ?_) (fun h => ?_) | refine Br.not ?_ | refine Br.intro (fun h => ?_) (fun h => ?_) | refine GetE.intro _ rfl ?_ | refine Need.intro rfl ?_ | refine DrawP.go mixed rfl ?_)
      conv => whnf
      exact FinP.same ⟨rfl, Eq.trans (b := dL x (dSs x b0 (l.take i))) rfl (by rw [List.take_of_length_le (by omega)])⟩
def directB (l : List Sp) (x : En) : List Int := if orderF l = 0 ∧ envE x = 0 then dSs x [] l else []
def directE (l : List Sp) (x : En) : Int := if orderF l ≠ 0 then orderF l else envE x
theorem Direct_c (l : List Sp) (x : En) (hl : LSs l) (hd : orderF l = 0 → ∀ s ∈ l, DSp s) (h : k (.tup [.d (ins (directB l x)), I (directE l x)]) L) : CallP C 24 [.d (sps l), enV x] L k := by
  have e1 : orderF l = 0 → envE x = 0 → V.tup [.d (ins (directB l x)), I (directE l x)] = V.tup [.d (ins (dSs x [] l)), I 0] := fun h h' => by
    unfold directB directE; rw [if_pos ⟨h, h'⟩, if_neg (fun hn => hn h), h']
  have e2 : orderF l = 0 → envE x ≠ 0 → V.tup [.d (ins (directB l x)), I (directE l x)] = V.tup [.d (.sl []), I (envE x)] := fun h h' => by
    unfold directB directE; rw [if_neg (fun hn => h' hn.2), if_neg (fun hn => hn h)]; rfl
  have e3 : orderF l ≠ 0 → V.tup [.d (ins (directB l x)), I (directE l x)] = V.tup [.d (.sl []), I (orderF l)] := fun h => by
    unfold directB directE; rw [if_neg (fun hn => h hn.1), if_pos h]; rfl
  have ho : ∀ {L : List Blk} {k : V → List Blk → Prop}, k (I (orderF l)) L → CallP C 15 [.d (sps l)] L k := fun h => order_c l hl h
  generalize directB l x = db at *
  generalize directE l x = de at *
  by_cases c1 : orderF l = 0
  rotate_left
  · refine CallP.pure ?_ rfl (fun _ => rfl) h
    clear h
    refine callP_of C_ok Tryd.func24 rfl rfl (n := _) rfl (Nat.le_of_ble_eq_true rfl) (rs := _) rfl ?_
    repeat' (conv => whnf
             first | refine Br.no (decide_eq_false c1) ?_ | refine Br.tt ?_ | refine Br.ff ?_ | refine Br.dec (fun h => ?_) (fun h => ?_) | refine Br.not ?_ | refine Br.intro (fun h => ?_) (fun h => ?_) | refine GetE.intro _ rfl ?_ | refine Need.intro rfl ?_ | refine DrawP.go mixed rfl ?_ | refine ho ?_)
    conv => whnf
    exact FinP.data (L' := []) (.pair (.d .nil) (.d (.d _))) rfl rfl ⟨rfl, (e3 c1).symm⟩
  by_cases c2 : envE x = 0
  rotate_left
  · refine CallP.pure ?_ rfl (fun _ => rfl) h
    clear h
    refine callP_of C_ok Tryd.func24 rfl rfl (n := _) rfl (Nat.le_of_ble_eq_true rfl) (rs := _) rfl ?_
    repeat' (conv => whnf
             first | refine Br.yes (decide_eq_true c1) ?_ | refine Br.no (decide_eq_false c2) ?_ | refine Br.tt ?_ | refine Br.ff ?_ | refine Br.dec (fun h => ?_) (fun h => ?_) | refine Br.not ?_ | refine Br.intro (fun h => ?_) (fun h => ?_) | refine GetE.intro _ rfl ?_ | refine Need.intro rfl ?_ | refine DrawP.go mixed rfl ?_ | refine ho ?_ | refine env_c x ?_)
    conv => whnf
    exact FinP.data (L' := []) (.pair (.d .nil) (.d (.d _))) rfl rfl ⟨rfl, (e2 c1 c2).symm⟩
  have hdc := direct1_s x _ l (Nat.le_refl _) hl.len (hd c1)
  have hok : ByOk [] := ⟨List.nodup_nil, fun b hb => by cases hb⟩
  refine CallP.pure ?_ rfl (fun _ => rfl) h
  clear h
  refine callP_of C_ok Tryd.func24 rfl rfl (n := _) rfl (Nat.le_of_ble_eq_true rfl) (rs := _) rfl ?_
  repeat' (conv => whnf
           first | refine Br.yes (decide_eq_true c1) ?_ | refine Br.yes (decide_eq_true c2) ?_ | refine Br.tt ?_ | refine Br.ff ?_ | refine Br.dec (fun h => ?_) (fun h => ?_) | refine Br.not ?_ | refine Br.intro (fun h => ?_) (fun h => ?_) | refine GetE.intro _ rfl ?_ | refine Need.intro rfl ?_ | refine DrawP.go mixed rfl ?_ | refine ho ?_ | refine env_c x ?_ | refine CallP.nilCell 1 0 1 [.nil] rfl rfl (by decide) (hdc.sub (b := []) (E := []) hok ?_))
  conv => whnf
  exact FinP.data (L' := []) (.pair (.d (.rowL (Nat.zero_le _) rfl (rdI_rows' _) (by simp) (rdI_e _))) (.d (.d _))) rfl rfl ⟨rfl, (e1 c1 c2).symm⟩
end Go.Proofs.YtddolfgmkpfmcaaDoor
