/-
  planner: the search's inner function.
-/
import Derived.Test.YtjknhbfcdjjbhaaPlaF
namespace Go.Proofs.Ytjknhbfcdjjbhaa
open Go.Tidy
set_option maxRecDepth 100000
set_option maxHeartbeats 0
set_option linter.unusedSimpArgs false
set_option linter.unusedVariables false
variable {L : List Blk} {k : V → List Blk → Prop}
def pre5 (p : Pl) (bud : Nat) (fd : FuncId) (caps : List V) (sp : Nat) : List Blk := [.cells [.d (.rptr (planD p))], .cells [I bud], .cells [.fn fd caps], .cells [I sp], .cells [I 0]]
def capE (N : Nat) : List V := [.ptr N 0, .ptr (N + 2) 0, .ptr (N + 3) 0, .ptr (N + 1) 0, .ptr (N + 5) 0]
def pre6 (p : Pl) (bud : Nat) (fd : FuncId) (caps : List V) (N sp : Nat) : List Blk := pre5 p bud fd caps sp ++ [.cells [.fn 59 (capE N)]]
theorem pre6_len (p : Pl) (bud : Nat) (fd : FuncId) (caps : List V) (N sp : Nat) : (pre6 p bud fd caps N sp).length = 6 := rfl
def notD : Blk → Bool
  | .defr => false
  | _ => true
structure Hand (N : Nat) (U : List Lst → List Blk) (fd : FuncId) (caps : List V) (all : Bool) : Prop where
  len : ∀ fs, (U fs).length = N
  bel : ∀ fs, belB N (U fs) = true
  nol : ∀ fs, noLoop (U fs) = true
  nod : ∀ fs, (U fs).all notD = true
  cap : V.belL N caps = true
  found : ∀ (pn : Nat) (pan : V → List Blk → Prop) (X : List Blk) (fs : List Lst) (l : Lst) (k : V → List Blk → Prop), pn = N + 5 → 5 ≤ X.length → belB (N + X.length) X = true → belB (N + 5) (X.take 5) = true → (X.take 5).all notD = true → fs.length ≤ 1073741824 →
    (all = true → k (.tup []) (U (fs ++ [l]) ++ X)) → (all = false → pan (.d (enoughD 0)) (U (fs ++ [l]) ++ X.take 5)) → CallP (C.wp pn pan) fd (lisV l :: caps) (U fs ++ X) k
theorem capE_bel (N n : Nat) (h : N + 6 ≤ n) : V.belL n (capE N) = true := by simp [capE, V.belL, V.bel]; omega
theorem pre5_bel {p : Pl} {bud : Nat} {fd : FuncId} {caps : List V} {N sp n : Nat} (hc : V.belL N caps = true) (h : N ≤ n) : belB n (pre5 p bud fd caps sp) = true := by
  simp [pre5, belB, Blk.bel, V.belL, V.bel, V.belL_le h _ hc]
theorem pre6_bel {p : Pl} {bud : Nat} {fd : FuncId} {caps : List V} {N sp n : Nat} (hc : V.belL N caps = true) (h : N + 6 ≤ n) : belB n (pre6 p bud fd caps N sp) = true := by
  refine belB_append (pre5_bel hc (by omega)) ?_
  simp [belB, Blk.bel, V.belL, V.bel, capE_bel N n h]
theorem CallP.cnv {X : Ctx} {f : FuncId} {args args' : List V} {L L' : List Blk} {k : V → List Blk → Prop} (ha : args = args') (hL : L = L') (h : CallP X f args' L' k) : CallP X f args L k := by subst ha hL; exact h
theorem dfB_of {A : List Blk} (h : ∀ (b : Nat) (l : LoopR), A[b]? = some (Blk.loop l) → A[l.df]? = some Blk.defr) : dfB A = true := by
  unfold dfB
  refine List.all_eq_true.2 fun x hx => ?_
  obtain ⟨b, hb⟩ := List.mem_iff_getElem?.1 hx
  split
  · rename_i l; rw [h b l hb]
  · rfl
theorem enough_end {N pn : Nat} {S Y P5 : List Blk} {e : Int} {pan : V → List Blk → Prop} (hS : S.length = N) (hpn : pn = N + 5) (hY : Y.take 5 = P5) (h5 : 5 ≤ Y.length) (hb : belB (N + 5) (S ++ P5) = true) (hd : (S ++ P5).all notD = true) (h : pan (.d (enoughD e)) (S ++ P5)) :
    Need (pn ≤ N + Y.length ∧ belB pn ((S ++ Y).take pn) = true ∧ noDefr pn (S ++ Y) = true) (pan (.d (enoughD e)) ((S ++ Y).take pn)) := by
  subst hpn hY
  have ht := pre_take S Y hS 5
  refine Need.intro ⟨by omega, by rw [ht]; exact hb, ?_⟩ (by rw [ht]; exact h)
  unfold noDefr
  rw [ht]
  exact hd
theorem CellEq.app (L X : List Blk) : CellEq L (L ++ X) := fun b cs h => by rw [List.getElem?_append_left (lt_of_get h)]; exact h
theorem rows_snoc {S : Nat → Prop} {L : List Blk} {x : V} {r : List Mt} (h : Cv S L x (mts r)) : ∀ bf : Lst, CvLL S L (rdR bf ++ [[x]]) ((bf ++ [r]).map fun r => [mts r])
  | [] => .cons (.cons h .nil) .nil
  | _ :: bf => .cons (.cons (.d _) .nil) (rows_snoc h bf)
theorem ext_cw {S : Nat → Prop} {L : List Blk} {bi bo : Nat} {bf : Lst} {rd : List Mt} {m : Mt} (hSi : S bi) (hSo : S bo) (hi : L[bi]? = some (.row 2 2 (mR (rd ++ [m])))) (ho : L[bo]? = some (.row 2 1 (rdR bf ++ [[.own bi 2 0 (rd.length + 1)]]))) :
    Cw S L (.agg [.own bo 2 0 (bf.length + 1)]) (lisV (bf ++ [rd ++ [m]])) := by
  refine .aggL (.cons (.rowL (ds := (bf ++ [rd ++ [m]]).map fun r => [mts r]) hSo ho ?_ (by simp) (lisE _)) .nil)
  rw [List.drop_zero, List.take_of_length_le (by simp [rdR])]
  refine rows_snoc (.rowL (ds := (rd ++ [m]).map Mt.cells) hSi hi ?_ (by simp) (mtsE _)) bf
  rw [List.drop_zero, List.take_of_length_le (by simp [mR])]
  exact mR_rows _
theorem YieldP.roundE {C' : Ctx} (hC : C'.OK) (cut : Code → Bool) {b : Nat} {args : List V} {L : List Blk} {k : V → List Blk → Prop} {lr : LoopR} {fr : List (Nat × V)} {n : Nat} {ps : List Tmp} {assign body : Code} {df : Nat} (hlr : LoopR.mk .ready none fr n ps assign body df = lr) (hL : L[b]? = some (.loop lr))
    (hb : (Nat.beq ps.length args.length && ps.all (fun p => Nat.blt p n)) = true)
    (h : vc C' cut L.length assign ⟨zipF ps args fr, n, L, [], some b⟩ fun e σ => match e with
      | .normal => match σ.L[b]? with
        | some (.loop r1) => match r1.st with
          | .ready => setB σ.L b (.loop { r1 with st := .busy }) fun L1 => vc C' cut L.length body { σ with L := L1 } (vRoundEnd b L.length k)
          | _ => False
        | _ => False
      | _ => False) (hpn : C'.pn ≤ L.length) : YieldP C' b args L k := by
  refine YieldP.round hC cut ?_ hpn
  subst hlr
  unfold vRound
  rw [hL]
  simp only [hb, cond_true]
  exact h
theorem dfB_noLoop {A : List Blk} (h : noLoop A = true) : dfB A = true := dfB_of fun b l hb => by
  have := List.all_eq_true.1 h _ (List.mem_of_getElem? hb)
  simp at this
def memS (U : List Lst → List Blk) (E : Nat → List Blk) : Sr → List Blk
  | .go a b => U b ++ E a
  | .stop _ a b => U b ++ E a
def examP (p : Pl) (bud : Nat) (all : Bool) : Nat → Lst → Nat → List Lst → Sr := exam (fun l => chs l p) (fun x => decide (dmA x p < 0)) p bud all
theorem examine_c (p : Pl) (bud : Nat) (all : Bool) (fd : FuncId) (caps : List V) (N : Nat) (U : List Lst → List Blk) (hH : Hand N U fd caps all) (h0 : checkP p = 0) (hs0 : Small [] p) (hbud : bud ≤ 1073741824) (pn : Nat) (pan : V → List Blk → Prop) (hpnE : pn = N + 5) :
    ∀ (n : Nat) (l : Lst) (sp : Nat) (fs : List Lst), PartP l p → roundsN p * halfN p < l.flatten.length + n → sp ≤ bud → (fullC l p = true → fs.length + 1 ≤ sp) → fs.length ≤ sp →
      (∀ e sp' fs', examP p bud all n l sp fs = .stop e sp' fs' → pan (.d (enoughD e)) (U fs' ++ pre5 p bud fd caps sp')) →
      CallP (C.wp pn pan) 59 (lisV l :: capE N) (U fs ++ pre6 p bud fd caps N sp) fun X L' => X = .tup [] ∧ ∃ sp' fs', examP p bud all n l sp fs = .go sp' fs' ∧ L' = U fs' ++ pre6 p bud fd caps N sp'
  | 0, l, sp, fs, hP, hfu, _, _, _, _ => by have := part_total hP; omega
  | n + 1, l, sp, fs, hP, hfu, hsp, hf1, hf2, hst => by
    have hlen : 1 ≤ p.clubs.length ∧ p.clubs.length ≤ 1000 := by
      have hf := checkP_field h0
      simp only [fieldOk, Bool.and_eq_true, decide_eq_true_eq] at hf; omega
    have hS := hH.len
    have a0 : ∀ fs X, (U fs ++ X).length = N + X.length := fun fs X => pre_len _ _ (hS fs)
    have a1 : ∀ fs X i, (U fs ++ X)[N + i]? = X[i]? := fun fs X i => pre_get _ _ (hS fs) i
    have a2 : ∀ fs X, (U fs ++ X)[N]? = X[0]? := fun fs X => pre_get0 _ _ (hS fs)
    have a3 : ∀ fs X i y, (U fs ++ X).set (N + i) y = U fs ++ X.set i y := fun fs X i y => pre_set _ _ (hS fs) i y
    have a4 : ∀ fs X y, (U fs ++ X).set N y = U fs ++ X.set 0 y := fun fs X y => pre_set0 _ _ (hS fs) y
    have a5 : ∀ fs X i, (U fs ++ X)[N + i + 1]? = X[i + 1]? := fun fs X i => a1 fs X (i + 1)
    have a6 : ∀ fs X i y, (U fs ++ X).set (N + i + 1) y = U fs ++ X.set (i + 1) y := fun fs X i y => a3 fs X (i + 1) y
    have hp5 : ∀ a b, belB (N + 5) (U b ++ pre5 p bud fd caps a) = true := fun a b => belB_append (belB_le (Nat.le_add_right N 5) (hH.bel b)) (pre5_bel hH.cap (Nat.le_add_right N 5))
    have hd5 : ∀ a b, (U b ++ pre5 p bud fd caps a).all notD = true := fun a b => by rw [List.all_append, hH.nod b]; rfl
    obtain ⟨hsl, hsx⟩ := part_small hs0 hlen.2 hP ⟨0, 0⟩
    have hpn : (C.wp pn pan).pn ≤ (U fs ++ pre6 p bud fd caps N sp).length := by rw [a0]; show pn ≤ _; rw [hpnE]; exact Nat.le_succ _
    have hx : (0 : Int) < ((l.map fun r => [mts r]).length : Int) → IntKind.i64.wrap (((l.map fun r => [mts r]).length : Int) - 1) = ((l.length - 1 : Nat) : Int) := fun h => by
      have := hsl.hl
      rw [List.length_map] at h ⊢; rw [wrap_in (by omega)]; omega
    have hn : (0 : Int) < ((l.map fun r => [mts r]).length : Int) → l.length - 1 < l.length := fun h => by
      rw [List.length_map] at h; omega
    have hl1 : l.length = roundsN p → IntKind.i64.wrap (((l.map fun r => [mts r]).length : Int) - 1) = ((l.length - 1 : Nat) : Int) := fun h => by
      have := roundsN_pos p
      have := hsl.hl
      rw [List.length_map, wrap_in (by omega)]; omega
    have hl2 : l.length = roundsN p → l.length - 1 < l.length := fun h => by have := roundsN_pos p; omega
    have hq : ((l.map fun r => [mts r]).length : Int) = (roundsN p : Int) → l.length = roundsN p := fun h => by rw [List.length_map] at h; omega
    by_cases hfull : fullC l p = true
    · have hfull' : l.length = roundsN p ∧ ∃ h : l.length - 1 < l.length, l[l.length - 1].length = halfN p := by
        unfold fullC at hfull
        rw [Bool.and_eq_true] at hfull
        obtain ⟨f1, f2⟩ := hfull
        have f1 := of_decide_eq_true f1
        have := roundsN_pos p
        rw [last_of (by omega)] at f2
        exact ⟨f1, by omega, of_decide_eq_true f2⟩
      obtain ⟨f1, f2, f3⟩ := hfull'
      have hA : ((l.map fun r => [mts r]).length : Int) = (roundsN p : Int) := by rw [List.length_map, f1]
      have hB : ((l[l.length - 1].map Mt.cells).length : Int) = (halfN p : Int) := by rw [List.length_map, f3]
      refine callP_of (C := C.wp pn pan) (C_ok.wp pn pan) Try.func59 rfl rfl (n := _) rfl (Nat.le_of_ble_eq_true rfl) (rs := _) rfl ?_ hpn
      repeat' (conv => whnf
               first | refine Br.yes (decide_eq_true hA) ?_ | refine Br.yes (decide_eq_true hB) ?_ | refine Idx.map (l.length - 1) (hl1 f1) f2 ?_ | simp only [a0, a1, a2, a3, a4, List.append_assoc, forceL_eq] | refine Br.tt ?_ | refine Br.ff ?_ | refine Br.dec (fun h => ?_) (fun h => ?_) | refine Br.not ?_ | refine Br.intro (fun h => ?_) (fun h => ?_) | refine GetE.intro _ rfl ?_ | refine Need.intro rfl ?_ | refine DrawP.go mixed rfl ?_)
      conv => whnf
      refine hH.found pn pan _ fs l _ hpnE (Nat.le_of_ble_eq_true rfl) ?_ (pre5_bel hH.cap (Nat.le_add_right N 5)) rfl (by have := hf1 hfull; omega) (fun hall => ?_) (fun hall => ?_)
      · exact belB_append (pre6_bel hH.cap (Nat.le_of_lt (Nat.lt_succ_self _))) rfl
      · repeat' (conv => whnf
                 first | refine Br.tt ?_ | refine Br.ff ?_ | refine Br.dec (fun h => ?_) (fun h => ?_) | refine Br.not ?_ | refine Br.intro (fun h => ?_) (fun h => ?_) | refine GetE.intro _ rfl ?_ | refine Need.intro rfl ?_ | refine DrawP.go mixed rfl ?_ | simp only [a0, a1, a2, a3, a4, List.append_assoc])
        conv => whnf
        refine FinP.drop (n := N + 6) (L' := U (fs ++ [l]) ++ pre6 p bud fd caps N sp) (pre_take _ _ (hS _) 6) (Nat.le_refl _) rfl (belB_append (belB_le (Nat.le_add_right N 6) (hH.bel _)) (pre6_bel hH.cap (Nat.le_refl _))) ⟨rfl, sp, fs ++ [l], ?_, rfl⟩
        show exam _ _ _ _ _ (n + 1) l sp fs = _
        rw [exam, if_pos hfull, if_pos hall]
      · refine hst 0 sp (fs ++ [l]) ?_
        show exam _ _ _ _ _ (n + 1) l sp fs = _
        rw [exam, if_pos hfull, if_neg (by rw [hall]; decide)]
    obtain ⟨rd, hrd⟩ : ∃ rd, rd = (openR l p).1 := ⟨_, rfl⟩
    obtain ⟨fresh, hfresh⟩ : ∃ b, b = (openR l p).2.1 := ⟨_, rfl⟩
    have hdl : List.take (l.length - 1 - 0) (List.drop 0 (l.map fun r => [mts r])) = l.dropLast.map fun r => [mts r] := by
      rw [List.drop_zero, ← List.map_take, Nat.sub_zero, ← List.dropLast_eq_take]
    have hne : fresh = false → 0 < l.length := fun h => by
      rw [hfresh] at h
      rcases openR_spec l p with ⟨h1, _⟩ | ⟨_, r, h1, _⟩
      · rw [h1] at h; cases h
      · cases l with
        | nil => cases h1
        | cons => simp
    have hwn : fresh = false → IntKind.i64.wrap (((l.map fun r => [mts r]).length : Int) - 1) = ((l.length - 1 : Nat) : Int) := fun h => by
      have := hsl.hl
      have := hne h
      rw [List.length_map, wrap_in (by omega)]; omega
    obtain ⟨bf, hbf⟩ : ∃ bf, bf = if (openR l p).2.1 = true then l else l.dropLast := ⟨_, rfl⟩
    have hext : ∀ m, extL l p m = bf ++ [(openR l p).1 ++ [m]] := fun m => by rw [hbf]; rfl
    have hroot : examP p bud all (n + 1) l sp fs = exLoop (examP p bud all n) (extL l p) (fun x => decide (dmA x p < 0)) bud (chs l p) sp fs := by
      show exam _ _ _ _ _ (n + 1) l sp fs = _
      rw [exam, if_neg hfull]; rfl
    have hrdl : (openR l p).1.length ≤ 500 ∧ bf.length ≤ 2002 := by
      have b1 := halfN_le hlen.2
      have b2 := roundsN_le hlen.2
      have b3 := hP.1
      refine ⟨?_, ?_⟩
      · rcases openR_spec l p with ⟨_, h2⟩ | ⟨_, r, _, h3, h4, _⟩
        · rw [h2]; simp
        · rw [h3]; omega
      · rw [hbf]; split
        · omega
        · rw [List.length_dropLast]; omega
    refine callP_cut (C := C.wp pn pan) (fun c => match c with | .seq (.region 6 _ _) _ => true | _ => false) (C_ok.wp pn pan) Try.func59 rfl rfl (n := _) rfl (Nat.le_of_ble_eq_true rfl) (rs := _) rfl ?_ hpn
    repeat' (conv => whnf
             first | refine Br.tt ?_ | refine Br.ff ?_ | refine Br.dec (fun h => ?_) (fun h => ?_) | refine Br.not ?_ | refine Br.intro (fun h => ?_) (fun h => ?_) | refine GetE.intro _ rfl ?_ | refine Need.intro rfl ?_ | refine DrawP.go mixed rfl ?_ | refine Idx.map (l.length - 1) (hl1 (hq ‹_›)) (hl2 (hq ‹_›)) ?_ | refine CallP.up (open_c l p hsl.hl ?_) | simp only [a0, a1, a2, a3, a4, List.append_assoc])
    · exfalso
      rename_i h1
      refine hfull ?_
      have hll := hq h1
      have hp1 := roundsN_pos p
      unfold fullC
      rw [last_of (by omega), decide_eq_true hll]
      simp only [Bool.true_and, decide_eq_true_eq]
      rw [List.length_map] at h; omega
    all_goals
      conv => whnf
      refine CutP.intro (ι := Unit) (fun _ => ⟨[(1, .ptr N 0), (2, .ptr (N + 2) 0), (3, .ptr (N + 3) 0), (4, .ptr (N + 1) 0), (5, .ptr (N + 5) 0), (6, .ptr (N + 6) 0), (8, .ptr (N + 7) 0), (11, .ptr (N + 8) 0)], Try.f59.ntmps, U fs ++ (pre6 p bud fd caps N sp ++ [.cells [.d (lisD l)], .cells [.d (mts (openR l p).1)], .cells [.d (lisD bf)]]), [], none⟩) ?_ (fun _ => ?_)
      · repeat' (conv => whnf
                 first | refine Br.tt ?_ | refine Br.ff ?_ | refine Br.dec (fun h => ?_) (fun h => ?_) | refine Br.not ?_ | refine Br.intro (fun h => ?_) (fun h => ?_) | refine GetE.intro _ rfl ?_ | refine Need.intro rfl ?_ | refine DrawP.go mixed rfl ?_ | refine Need.intro (lisE l) ?_ | refine SliceP.intro 0 (l.length - 1) rfl (hwn (hfresh.trans ‹_›)) (Nat.zero_le _) (by rw [List.length_map]; exact Nat.sub_le _ _) ?_ | simp only [hdl] | simp only [a0, a1, a2, a3, a4, List.append_assoc])
        all_goals conv => whnf
        · have e : l = bf := by rw [hbf, if_pos ‹_›]
          exact ⟨(), Weak.by ⟨rfl, rfl, rfl, rfl, rfl, rfl, rfl, rfl, trivial⟩ (hL := Eq.trans (b := U fs ++ (pre6 p bud fd caps N sp ++ [.cells [.d (lisD l)], .cells [.d (mts (openR l p).1)], .cells [.d (lisD l)]])) rfl (congrArg (fun x => U fs ++ (pre6 p bud fd caps N sp ++ [.cells [.d (lisD l)], .cells [.d (mts (openR l p).1)], .cells [.d (lisD x)]])) e))⟩
        · have e : l.dropLast = bf := by rw [hbf, if_neg (by simp [*])]
          exact ⟨(), Weak.by ⟨rfl, rfl, rfl, rfl, rfl, rfl, rfl, rfl, trivial⟩ (hL := Eq.trans (b := U fs ++ (pre6 p bud fd caps N sp ++ [.cells [.d (lisD l)], .cells [.d (mts (openR l p).1)], .cells [.d (lisD l.dropLast)]])) rfl (congrArg (fun x => U fs ++ (pre6 p bud fd caps N sp ++ [.cells [.d (lisD l)], .cells [.d (mts (openR l p).1)], .cells [.d (lisD x)]])) e))⟩
      repeat' (conv => whnf
               first | refine Br.tt ?_ | refine Br.ff ?_ | refine Br.dec (fun h => ?_) (fun h => ?_) | refine Br.not ?_ | refine Br.intro (fun h => ?_) (fun h => ?_) | refine GetE.intro _ rfl ?_ | refine Need.intro rfl ?_ | refine DrawP.go mixed rfl ?_ | refine CallP.up (choices_c l p ?_) | simp only [a0, a1, a2, a3, a4, List.append_assoc])
      conv => whnf
      refine CallP.cnv (args' := .yld (N + 10) :: [D.rptr [.rptr (planD p)], .rptr [lisD l]].map .d) (L' := U fs ++ (pre6 p bud fd caps N sp ++ [.cells [.d (lisD l)], .cells [.d (mts (openR l p).1)], .cells [.d (lisD bf)], .defr, .loop _])) rfl rfl ?_
      generalize hlr : LoopR.mk _ _ _ _ _ _ _ _ = lr
      obtain ⟨E, hE⟩ : ∃ E : Nat → List Blk, E = fun a => pre6 p bud fd caps N a ++ [.cells [.d (lisD l)], .cells [.d (mts (openR l p).1)], .cells [.d (lisD bf)], .defr, .loop lr] := ⟨_, rfl⟩
      have hlrd : lr.df = N + 9 := by rw [← hlr]; rfl
      have hlrs : lr.st = .ready := by rw [← hlr]
      have hlrp : lr.pend = none := by rw [← hlr]
      have hback : (⟨.ready, none, lr.fr, lr.n, lr.ps, lr.assign, lr.body, lr.df⟩ : LoopR) = lr := by rw [← hlr]
      have hblkb : (Blk.loop lr).bel (N + 11) = true := by rw [← hlr]; simp [Blk.bel, belF, V.bel, V.belL, pre6_len]
      have hEl : ∀ a, (E a).length = 11 := fun a => by rw [hE]; rfl
      have hEb : ∀ a, belB (N + 11) (E a) = true := fun a => by
        rw [hE]; exact belB_append (pre6_bel hH.cap (by omega)) (by show (V.belL _ _ && (V.belL _ _ && (V.belL _ _ && (true && ((Blk.loop lr).bel _ && true))))) = true; rw [hblkb]; rfl)
      have hMl : ∀ o, (memS U E o).length = N + 11 := fun o => by cases o <;> (simp only [memS]; rw [a0, hEl])
      have hMb : ∀ o, belB (N + 11) (memS U E o) = true := fun o => by cases o <;> exact belB_append (belB_le (Nat.le_add_right N 11) (hH.bel _)) (hEb _)
      have hMd : ∀ o, dfB (memS U E o) = true := fun o => by
        have key : ∀ a b, dfB (U b ++ E a) = true := fun a b => by
          refine dfB_of fun c l' hc => ?_
          by_cases hcN : c < N
          · rw [List.getElem?_append_left (by rw [hS]; exact hcN)] at hc
            have := List.all_eq_true.1 (hH.nol b) _ (List.mem_of_getElem? hc)
            simp at this
          · obtain ⟨j, rfl⟩ : ∃ j, c = N + j := ⟨c - N, by omega⟩
            rw [a1, hE] at hc
            match j, hc with
            | 0, hc | 1, hc | 2, hc | 3, hc | 4, hc | 5, hc | 6, hc | 7, hc | 8, hc | 9, hc => cases hc
            | 10, hc =>
              have : lr = l' := by cases hc; rfl
              rw [← this, hlrd, a1, hE]; rfl
            | j + 11, hc => simp [pre6, pre5] at hc
        cases o <;> exact key _ _
      have hroot' := hroot
      generalize hf0 : examP p bud all n = f0 at hroot'
      refine CallP.cnv (L' := memS U E (exLoop f0 (extL l p) (fun x => decide (dmA x p < 0)) bud ((chs l p).take 0) sp fs)) rfl (by rw [hE]; rfl) ?_
      refine choices1_it pn pan l p hsl.hl hsl.hr hlen.2 (N + 10) (N + 11) (fun i => ∃ a b, exLoop f0 (extL l p) (fun x => decide (dmA x p < 0)) bud ((chs l p).take i) sp fs = .go a b) (fun i => memS U E (exLoop f0 (extL l p) (fun x => decide (dmA x p < 0)) bud ((chs l p).take i) sp fs)) _ (show pn ≤ N + 11 by omega) (fun i => hMl _) (fun i => hMb _) (fun i => hMd _) (by omega) ?_ ?_ ⟨sp, fs, rfl⟩
      · rintro i hi ⟨a, b, hab⟩
        rw [List.length_map] at hi
        rw [List.getElem_map]
        obtain ⟨m, hm⟩ : ∃ m, m = (chs l p)[i] := ⟨_, rfl⟩
        have hnext := exLoop_next f0 (extL l p) (fun x => decide (dmA x p < 0)) bud hi hab
        rw [← hm] at hnext ⊢
        obtain ⟨k1, k2, k3⟩ := exLoop_keep _ _ p bud all n (extL l p) _ sp fs hsp hf2 a b (by rw [← hf0] at hab; exact hab)
        refine YieldP.conv (show _ = U b ++ E a by rw [hab]; rfl) ?_
        have hpn2 : (C.wp pn pan).pn ≤ (U b ++ E a).length := by rw [a0, hEl]; show pn ≤ _; rw [hpnE]; omega
        have hL10 : (U b ++ E a)[N + 10]? = some (.loop lr) := by rw [a1, hE]; rfl
        obtain ⟨x, hx⟩ : ∃ x, x = extL l p m := ⟨_, rfl⟩
        have hxe : x = bf ++ [(openR l p).1 ++ [m]] := hx.trans (hext m)
        have hsx : Small x p := hx ▸ (part_small hs0 hlen.2 hP m).2
        refine YieldP.roundE (C_ok.wp pn pan) (fun c => match c with | .region 12 _ _ => true | .region 13 _ _ => true | .region 14 _ _ => true | _ => false) hlr hL10 rfl ?_ hpn2
        subst hE
        by_cases hsb : a = bud
        · have hstop : exLoop f0 (extL l p) (fun x => decide (dmA x p < 0)) bud (chs l p) sp fs = .stop 3 a b := by
            refine exLoop_stop _ _ _ _ (i := i + 1) ?_
            rw [hnext, exLoop, if_pos hsb]
          repeat' (conv => whnf
                   first | refine Br.yes (decide_eq_true (show (a : Int) = (bud : Int) by omega)) ?_ | simp only [hlrs, setB_eq, a0, a1, a2, a3, a4, List.append_assoc] | refine Br.tt ?_ | refine Br.ff ?_ | refine Br.dec (fun h => ?_) (fun h => ?_) | refine Br.not ?_ | refine Br.intro (fun h => ?_) (fun h => ?_) | refine GetE.intro _ rfl ?_ | refine Need.intro rfl ?_ | refine DrawP.go mixed rfl ?_)
          conv => whnf
          exact enough_end (hS b) hpnE rfl (Nat.le_of_ble_eq_true rfl) (hp5 a b) (hd5 a b) (hst 3 a b (hroot.trans (by rw [hf0]; exact hstop)))
        · have hi64 : IntKind.i64.wrap ((a : Int) + 1) = ((a + 1 : Nat) : Int) := by rw [wrap_in (by omega)]; omega
          obtain ⟨E2, hE2⟩ : ∃ E2 : List Blk, E2 = pre6 p bud fd caps N (a + 1) ++ [.cells [.d (lisD l)], .cells [.d (mts (openR l p).1)], .cells [.d (lisD bf)], .defr, .loop { lr with st := .busy }, .cells (m.cells.map .d)] := ⟨_, rfl⟩
          repeat' (conv => whnf
                   first | refine Br.no (decide_eq_false (show ¬ (a : Int) = (bud : Int) by omega)) ?_ | simp only [hlrs, setB_eq, a0, a1, a2, a3, a4, List.append_assoc] | refine Br.tt ?_ | refine Br.ff ?_ | refine Br.dec (fun h => ?_) (fun h => ?_) | refine Br.not ?_ | refine Br.intro (fun h => ?_) (fun h => ?_) | refine GetE.intro _ rfl ?_ | refine Need.intro rfl ?_ | refine DrawP.go mixed rfl ?_)
          conv => whnf
          refine CutP.intro (ι := Unit) (fun _ => ⟨[(1, .ptr N 0), (5, .ptr (N + 5) 0), (8, .ptr (N + 7) 0), (11, .ptr (N + 8) 0), (12, .ptr (N + 11) 0)], Try.f59.ntmps, U b ++ E2, [], some (N + 10)⟩) ?_ (fun _ => ?_)
          · repeat' (conv => whnf
                     first | refine Br.tt ?_ | refine Br.ff ?_ | refine Br.dec (fun h => ?_) (fun h => ?_) | refine Br.not ?_ | refine Br.intro (fun h => ?_) (fun h => ?_) | refine GetE.intro _ rfl ?_ | refine Need.intro rfl ?_ | refine DrawP.go mixed rfl ?_ | simp only [hlrs, setB_eq, a0, a1, a2, a3, a4, List.append_assoc])
            conv => whnf
            refine ⟨(), Weak.by ⟨rfl, rfl, rfl, rfl, rfl, trivial⟩ (hL := ?_)⟩
            rw [hE2]
            exact congrArg (fun z : Int => U b ++ [.cells [.d (.rptr (planD p))], .cells [I bud], .cells [.fn fd caps], .cells [I z], .cells [I 0], .cells [.fn 59 (capE N)], .cells [.d (lisD l)], .cells [.d (mts (openR l p).1)], .cells [.d (lisD bf)], .defr, .loop { lr with st := .busy }, .cells (m.cells.map .d)]) hi64
          subst hE2
          have hR : (mR (openR l p).1).take (openR l p).1.length ++ [m.cells.map .d] = mR ((openR l p).1 ++ [m]) := by rw [mR_snoc, List.take_of_length_le (by rw [mR_len]; exact Nat.le_refl _)]
          conv => whnf
          refine CutP.intro (ι := Bool) (fun q => ⟨[(1, .ptr N 0), (5, .ptr (N + 5) 0), (11, .ptr (N + 8) 0), (13, .own (N + cond q 12 13) 2 0 ((openR l p).1.length + 1))], Try.f59.ntmps, U b ++ (pre6 p bud fd caps N (a + 1) ++ [.cells [.d (lisD l)], .cells [.d (mts (openR l p).1)], .cells [.d (lisD bf)], .defr, .loop { lr with st := .busy }, .cells (m.cells.map .d), cond q (.row 2 2 (mR ((openR l p).1 ++ [m]))) (.row 0 2 [m.cells.map .d]), cond q (.row 0 2 [m.cells.map .d]) (.row 2 2 (mR ((openR l p).1 ++ [m])))]), [], some (N + 10)⟩) ?_ (fun q => ?_)
          · conv => whnf
            refine DrawP.por mixed [1001] [[(0, 3), (2, 4), (1, 5), (3, 0), (4, 0), (5, 0)], [(0, 3), (2, 4), (3, 0), (1, 5), (4, 0), (5, 0)]] (by kernel_rfl) ?_
            conv => whnf
            refine And.intro ?_ ?_
            all_goals
              repeat' (conv => whnf
                       first | refine Br.tt ?_ | refine Br.ff ?_ | refine Br.dec (fun h => ?_) (fun h => ?_) | refine Br.not ?_ | refine Br.intro (fun h => ?_) (fun h => ?_) | refine GetE.intro _ rfl ?_ | refine Need.intro rfl ?_ | refine DrawP.go mixed rfl ?_ | simp only [setB_eq, a0, a1, a2, a3, a4, List.append_assoc] | refine QCallK.intro _ _ (CallP.up (mclone_c (openR l p).1 (by omega) ⟨rfl, rfl⟩)) (CellEq.app _ _) ?_ | refine Need.intro (Nat.le_trans (m := 4294967296) (show (openR l p).1.length + 1 ≤ 4294967296 by omega) (apLim_ge _)) ?_)
            all_goals conv => whnf
            all_goals first
              | exact ⟨true, Weak.by ⟨rfl, rfl, rfl, rfl, trivial⟩ (hL := congrArg (fun z => U b ++ [.cells [.d (.rptr (planD p))], .cells [I bud], .cells [.fn fd caps], .cells [I (a + 1 : Nat)], .cells [I 0], .cells [.fn 59 (capE N)], .cells [.d (lisD l)], .cells [.d (mts (openR l p).1)], .cells [.d (lisD bf)], .defr, .loop { lr with st := .busy }, .cells (m.cells.map .d), .row 2 2 z, .row 0 2 [m.cells.map .d]]) hR)⟩
              | exact ⟨false, Weak.by ⟨rfl, rfl, rfl, rfl, trivial⟩ (hL := congrArg (fun z => U b ++ [.cells [.d (.rptr (planD p))], .cells [I bud], .cells [.fn fd caps], .cells [I (a + 1 : Nat)], .cells [I 0], .cells [.fn 59 (capE N)], .cells [.d (lisD l)], .cells [.d (mts (openR l p).1)], .cells [.d (lisD bf)], .defr, .loop { lr with st := .busy }, .cells (m.cells.map .d), .row 0 2 [m.cells.map .d], .row 2 2 z]) hR)⟩
          have hR2 : (rdR bf).take bf.length ++ [[V.own (N + cond q 12 13) 2 0 ((openR l p).1.length + 1)]] = rdR bf ++ [[V.own (N + cond q 12 13) 2 0 ((openR l p).1.length + 1)]] := by rw [List.take_of_length_le (by simp [rdR])]
          conv => whnf
          refine CutP.intro (ι := Unit) (fun _ => ⟨[(1, .ptr N 0), (5, .ptr (N + 5) 0), (14, .ptr (N + 16) 0)], Try.f59.ntmps, U b ++ (pre6 p bud fd caps N (a + 1) ++ [.cells [.d (lisD l)], .cells [.d (mts (openR l p).1)], .cells [.d (lisD bf)], .defr, .loop { lr with st := .busy }, .cells (m.cells.map .d), cond q (.row 2 2 (mR ((openR l p).1 ++ [m]))) (.row 0 2 [m.cells.map .d]), cond q (.row 0 2 [m.cells.map .d]) (.row 2 2 (mR ((openR l p).1 ++ [m]))),
            .row 2 1 (rdR bf ++ [[.own (N + cond q 12 13) 2 0 ((openR l p).1.length + 1)]]), .row 0 1 [[.own (N + cond q 12 13) 2 0 ((openR l p).1.length + 1)]], .cells [.own (N + 14) 2 0 (bf.length + 1)]]), [], some (N + 10)⟩) ?_ (fun _ => ?_)
          · repeat' (conv => whnf
                     first | refine Br.tt ?_ | refine Br.ff ?_ | refine Br.dec (fun h => ?_) (fun h => ?_) | refine Br.not ?_ | refine Br.intro (fun h => ?_) (fun h => ?_) | refine GetE.intro _ rfl ?_ | refine Need.intro rfl ?_ | refine DrawP.go mixed rfl ?_ | simp only [setB_eq, a0, a1, a2, a3, a4, List.append_assoc] | refine CallP.up (rclone_c bf (by omega) ?_) | refine Need.intro (Nat.le_trans (m := 4294967296) (show bf.length + 1 ≤ 4294967296 by omega) (apLim_ge _)) ?_)
            conv => whnf
            exact ⟨(), Weak.by ⟨rfl, rfl, rfl, trivial⟩ (hL := congrArg (fun z => U b ++ [.cells [.d (.rptr (planD p))], .cells [I bud], .cells [.fn fd caps], .cells [I (a + 1 : Nat)], .cells [I 0], .cells [.fn 59 (capE N)], .cells [.d (lisD l)], .cells [.d (mts (openR l p).1)], .cells [.d (lisD bf)], .defr, .loop { lr with st := .busy }, .cells (m.cells.map .d),
              cond q (.row 2 2 (mR ((openR l p).1 ++ [m]))) (.row 0 2 [m.cells.map .d]), cond q (.row 0 2 [m.cells.map .d]) (.row 2 2 (mR ((openR l p).1 ++ [m]))), .row 2 1 z, .row 0 1 [[.own (N + cond q 12 13) 2 0 ((openR l p).1.length + 1)]], .cells [.own (N + 14) 2 0 (bf.length + 1)]]) hR2)⟩
          have hcw : ∀ (S : Nat → Prop) (L : List Blk), S (N + cond q 12 13) → S (N + 14) → L[N + cond q 12 13]? = some (.row 2 2 (mR ((openR l p).1 ++ [m]))) → L[N + 14]? = some (.row 2 1 (rdR bf ++ [[.own (N + cond q 12 13) 2 0 ((openR l p).1.length + 1)]])) → Cw S L (.agg [.own (N + 14) 2 0 (bf.length + 1)]) (lisV x) := fun S L h1 h2 h3 h4 => by
            rw [hxe]; exact ext_cw h1 h2 h3 h4
          repeat' (conv => whnf
                   first | refine Br.tt ?_ | refine Br.ff ?_ | refine Br.dec (fun h => ?_) (fun h => ?_) | refine Br.not ?_ | refine Br.intro (fun h => ?_) (fun h => ?_) | refine GetE.intro _ rfl ?_ | refine Need.intro rfl ?_ | refine DrawP.go mixed rfl ?_ | refine QCall.intro _ (CallP.up (CallP.lent (dmd_c (L := []) x p hsx ⟨rfl, rfl⟩) (.cv (hcw _ _ trivial trivial ((a1 _ _ _).trans (by cases q <;> rfl)) ((a1 _ _ _).trans rfl)) (.keep .nil)) rfl rfl ⟨rfl, rfl⟩)) ?_ | simp only [setB_eq, a0, a1, a2, a3, a4, List.append_assoc])
          all_goals conv => whnf
          · have hneg : dmA x p < 0 := ‹_›
            obtain ⟨-, hPx⟩ := dmA_part hneg
            have hok : decide (dmA (extL l p m) p < 0) = true := by rw [← hx]; exact decide_eq_true hneg
            have hfx : roundsN p * halfN p < x.flatten.length + n := by rw [hx, extL_flat, List.length_append]; simp only [List.length_singleton]; omega
            have hih := examine_c p bud all fd caps N U hH h0 hs0 hbud pn pan hpnE n x (a + 1) b hPx hfx (by omega) (fun _ => by omega) (by omega) fun e sp' fs' hse => hst e sp' fs' (hroot.trans (by
              rw [hf0]
              refine exLoop_stop _ _ _ _ (i := i + 1) ?_
              rw [hnext, exLoop, if_neg hsb]
              simp only [hok, if_true]
              rw [← hx, ← hf0, hse]))
            refine CallP.freezeP (args := .agg [.own (N + 14) 2 0 (bf.length + 1)] :: capE N) (dargs := lisV x :: capE N) [N + cond q 12 13, N + 14] (L' := (U b ++ pre6 p bud fd caps N (a + 1)) ++ [.cells [.d (lisD l)], .cells [.d (mts (openR l p).1)], .cells [.d (lisD bf)], .defr, .loop { lr with st := .busy }, .cells (m.cells.map .d), cond q .dead (.row 0 2 [m.cells.map .d]), cond q (.row 0 2 [m.cells.map .d]) .dead, .dead, .row 0 1 [[.own (N + cond q 12 13) 2 0 ((openR l p).1.length + 1)]], .cells [.own (N + 14) 2 0 (bf.length + 1)]]) ?_ ?_ ?_ ?_
            · rw [List.append_assoc]; cases q <;> (simp only [killB, cond_true, cond_false, a3]; rfl)
            · cases q <;> (simp only [plainBlk, List.all_cons, List.all_nil, cond_true, cond_false, a1]; rfl)
            · exact .cv (hcw _ _ (by simp) (by simp) ((a1 _ _ _).trans (by cases q <;> rfl)) ((a1 _ _ _).trans rfl)) (.keep (.keep (.keep (.keep (.keep .nil)))))
            refine CallP.frameP (by rw [a0]; show pn ≤ _; rw [hpnE]; exact Nat.le_succ _) hih ?_ ?_ ?_ ?_
            · rw [a0]; exact belB_append (belB_le (Nat.le_add_right N 6) (hH.bel b)) (pre6_bel hH.cap (Nat.le_refl _))
            · refine dfB_noLoop ?_
              have := hH.nol b
              unfold noLoop at this ⊢
              rw [List.all_append, this]; rfl
            · rw [a0]; show (true && V.belL (N + 6) (capE N)) = true; rw [capE_bel N (N + 6) (Nat.le_refl _)]; rfl
            rintro X L1 ⟨rfl, a', b', hgo, rfl⟩
            refine ⟨by rw [a0, a0]; rfl, by rw [a0]; exact belB_append (belB_le (Nat.le_add_right N 6) (hH.bel b')) (pre6_bel hH.cap (Nat.le_refl _)), rfl, ?_⟩
            have hF1 : exLoop f0 (extL l p) (fun x => decide (dmA x p < 0)) bud ((chs l p).take (i + 1)) sp fs = .go a' b' := by
              rw [hnext, exLoop, if_neg hsb]
              simp only [hok, if_true]
              rw [← hx, ← hf0, hgo]; rfl
            rw [hF1]
            repeat' (conv => whnf
                     first | refine Br.tt ?_ | refine Br.ff ?_ | refine Br.dec (fun h => ?_) (fun h => ?_) | refine Br.not ?_ | refine Br.intro (fun h => ?_) (fun h => ?_) | refine GetE.intro _ rfl ?_ | refine Need.intro rfl ?_ | refine DrawP.go mixed rfl ?_ | simp only [setB_eq, a0, a1, a2, a3, a4, List.append_assoc])
            conv => whnf
            refine FinP.drop (n := N + 11) (L' := U b' ++ (pre6 p bud fd caps N a' ++ [.cells [.d (lisD l)], .cells [.d (mts (openR l p).1)], .cells [.d (lisD bf)], .defr, .loop lr])) ?_ (Nat.le_refl _) rfl (hMb (.go a' b')) (.inl ⟨rfl, rfl, a', b', rfl⟩)
            exact (pre_take _ _ (hS b') 11).trans (congrArg (fun z => U b' ++ (pre6 p bud fd caps N a' ++ [.cells [.d (lisD l)], .cells [.d (mts (openR l p).1)], .cells [.d (lisD bf)], .defr, .loop z])) hback)
          · have hneg : ¬ dmA x p < 0 := ‹_›
            have hok : decide (dmA (extL l p m) p < 0) = false := by rw [← hx]; exact decide_eq_false hneg
            have hF1 : exLoop f0 (extL l p) (fun x => decide (dmA x p < 0)) bud ((chs l p).take (i + 1)) sp fs = .go (a + 1) b := by
              rw [hnext, exLoop, if_neg hsb]
              simp only [hok]
              rfl
            rw [hF1]
            refine FinP.drop (n := N + 11) (L' := U b ++ (pre6 p bud fd caps N (a + 1) ++ [.cells [.d (lisD l)], .cells [.d (mts (openR l p).1)], .cells [.d (lisD bf)], .defr, .loop lr])) ?_ (Nat.le_refl _) rfl (hMb (.go (a + 1) b)) (.inl ⟨rfl, rfl, a + 1, b, rfl⟩)
            exact (pre_take _ _ (hS b) 11).trans (congrArg (fun z => U b ++ (pre6 p bud fd caps N (a + 1) ++ [.cells [.d (lisD l)], .cells [.d (mts (openR l p).1)], .cells [.d (lisD bf)], .defr, .loop z])) hback)
      · rintro ⟨a, b, hab⟩
        have hgo : memS U E (exLoop f0 (extL l p) (fun x => decide (dmA x p < 0)) bud ((chs l p).take ((chs l p).map fun m => [mtV m]).length) sp fs) = U b ++ E a := by rw [hab]; rfl
        rw [List.length_map, List.take_length] at hab
        generalize memS U E (exLoop f0 (extL l p) (fun x => decide (dmA x p < 0)) bud ((chs l p).take ((chs l p).map fun m => [mtV m]).length) sp fs) = M at hgo ⊢
        subst hgo
        subst hE
        repeat' (conv => whnf
                 first | refine Br.tt ?_ | refine Br.ff ?_ | refine Br.dec (fun h => ?_) (fun h => ?_) | refine Br.not ?_ | refine Br.intro (fun h => ?_) (fun h => ?_) | refine GetE.intro _ rfl ?_ | refine Need.intro rfl ?_ | refine DrawP.go mixed rfl ?_ | simp only [hlrs, hlrp, setB_eq, a0, a1, a2, a3, a4, a5, a6, List.append_assoc])
        conv => whnf
        generalize hX : (noLoop _ && List.all _ _ && _) = X
        have hXt : X = true := by
          rw [← hX]
          have := hH.nol b
          unfold noLoop at this ⊢
          rw [List.all_append, this]
          simp [pre6, pre5]
        subst hXt
        conv => whnf
        refine FinP.drop (n := N + 6) (L' := U b ++ pre6 p bud fd caps N a) ?_ (Nat.le_refl _) rfl (belB_append (belB_le (Nat.le_add_right N 6) (hH.bel b)) (pre6_bel hH.cap (Nat.le_refl _))) ⟨rfl, a, b, hroot.trans (by rw [hf0]; exact hab), rfl⟩
        show ((U b ++ _).set (N + _) Blk.dead).take (N + 6) = _
        rw [a3]
        exact pre_take _ _ (hS b) 6
end Go.Proofs.Ytjknhbfcdjjbhaa
